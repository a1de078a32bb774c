/-
  Several texts in one: what functions that the law reaches compute. No conditions but those named in each line.
-/
import Derived.Test.YtbohejffelipoaaGreatDoorFnsA
import Derived.Test.YtbohejffelipoaaGreatDoorAbsE
namespace Go.Proofs.YtbohejffelipoaaGreatDoor
open Go Go.Abs Go.Abs.F
set_option linter.unusedVariables false
noncomputable section
def G0 (aa:ak) (N:Nat) (v:List T) (s:St):Option (JO×St) :=
 bd (af .geq (v.getD 0 .any) (I .u64 128)) fun t5 =>
 br t5 (jn (bd (aF .u8 (v.getD 0 .any)) fun t8 =>
 bd (af .or t8 (I .u8 128)) fun t9 =>
 ay (aK s (aR 1 (aE [.int .u8 0] [(0,1,t9)]))) fun t10 s1 =>
 ay (aH 1 1 (v.getD 1 .any) t10 s1) fun t11 s2 =>
 bd (af .shr (v.getD 0 .any) (I .u64 7)) fun t13 =>
 some (.normal [t13,t11],s2))
 (fun v3 s4=>some (.normal [(v3.getD 0 .any),(v3.getD 1 .any)],s4))
 (fun i5 v3 s4=>some (.exit i5 v3,s4))
 (fun r6 s4=>some (.ret r6,s4)))
 (some (.exit 0 [(v.getD 0 .any),(v.getD 1 .any)],s))
def f71 (aa:ak) (N:Nat) (a0:T) (s:St):Option (T×St) :=
 jn (jn (loops (G0 aa N) N [a0,(Z .az)] s)
 (fun v7 s8=>some (.normal [.any,.any],s8))
 (fun i9 v7 s8=>if i9=0 then some (.normal v7,s8) else some (.exit i9 v7,s8))
 (fun pH s8=>some (.ret pH,s8)))
 (fun v11 cd=>bd (aF .u8 (v11.getD 0 .any)) fun t16 =>
 ay (aK cd (aR 1 (aE [.int .u8 0] [(0,1,t16)]))) fun t17 gH =>
 ay (aH 1 1 (v11.getD 1 .any) t17 gH) fun t18 gC =>
 bd (bX t18 gC.get) fun t19 =>
 some (t19,gC))
 (fun i13 v11 cd=>none)
 (fun xo cd=>some (xo,cd))
theorem O4 (aa:ak) (N:Nat) (a0:T) (s:St):aS Tryz.prog aa N Tryz.f71 [a0] s=f71 aa N a0 s:=by kernel_rfl
theorem LC (d:Nat) (a0:T) (s:St):R (d+1) 71 [a0] s=f71 (R d) 8192 a0 s:=(au rfl Tryz.func71 (by kernel_rfl)).trans (O4 ..)
def f115 (aa:ak) (N:Nat) (a0:T) (s:St):Option (T×St) :=
 bd (af .geq a0 (I .i64 0)) fun t4 =>
 br t4 (bd (aF .u64 a0) fun t6 =>
 bd (af .mul t6 (I .u64 2)) fun t7 =>
 some (t7,s))
 (bd (af .add a0 (I .i64 1)) fun t9 =>
 bd (jO .neg t9) fun t10 =>
 bd (aF .u64 t10) fun t11 =>
 bd (af .mul t11 (I .u64 2)) fun t12 =>
 bd (af .add t12 (I .u64 1)) fun t13 =>
 some (t13,s))
theorem Kh (aa:ak) (N:Nat) (a0:T) (s:St):aS Tryz.prog aa N Tryz.f115 [a0] s=f115 aa N a0 s:=by kernel_rfl
theorem Gb (d:Nat) (a0:T) (s:St):R (d+1) 115 [a0] s=f115 (R d) 8192 a0 s:=(au rfl Tryz.func115 (by kernel_rfl)).trans (Kh ..)
def qR (aa:ak) (N:Nat) (v:List T) (s:St):Option (JO×St) :=
 bd (aA (v.getD 0 .any)) fun t6 =>
 bd (af .lss (v.getD 1 .any) t6) fun t7 =>
 br t7 (jn (bd (av 2 (v.getD 0 .any) (v.getD 1 .any)) fun t12 =>
 bd (ae 0 t12) fun t13 =>
 bd (ab t13 s.get) fun t14 =>
 bd (af .lss t14 (I .i64 0)) fun t15 =>
 bd (gT (gd t15 false) (some (v.getD 0 .any))) fun t17 =>
 bd (gT (gd t15 false) (some (v.getD 1 .any))) fun t18 =>
 bd (gT (gd t15 false) (av 2 t17 t18)) fun t19 =>
 bd (gT (gd t15 false) (ae 0 t19)) fun t20 =>
 bd (gT (gd t15 false) (ab t20 s.get)) fun t21 =>
 bd (gT (gd t15 false) (af .gtr t21 (I .i64 1099511627776))) fun t22 =>
 bd (aC t15 (B true) t22) fun t23 =>
 bd (gT (gd t23 false) (some (v.getD 1 .any))) fun t25 =>
 bd (gT (gd t23 false) (af .gtr t25 (I .i64 0))) fun t26 =>
 bd (gT (gd t23 false) (some t26)) fun t27 =>
 bd (gT (gd t27 true) (some (v.getD 0 .any))) fun t28 =>
 bd (gT (gd t27 true) (some (v.getD 1 .any))) fun t29 =>
 bd (gT (gd t27 true) (av 2 t28 t29)) fun t30 =>
 bd (gT (gd t27 true) (ae 0 t30)) fun t31 =>
 bd (gT (gd t27 true) (ab t31 s.get)) fun t32 =>
 bd (gT (gd t27 true) (some (v.getD 0 .any))) fun t33 =>
 bd (gT (gd t27 true) (some (v.getD 1 .any))) fun t34 =>
 bd (gT (gd t27 true) (af .sub t34 (I .i64 1))) fun t35 =>
 bd (gT (gd t27 true) (av 2 t33 t35)) fun t36 =>
 bd (gT (gd t27 true) (ae 0 t36)) fun t37 =>
 bd (gT (gd t27 true) (ab t37 s.get)) fun t38 =>
 bd (gT (gd t27 true) (af .leq t32 t38)) fun t39 =>
 bd (gT (gd t23 false) (aC t27 t39 (B false))) fun t40 =>
 bd (aC t23 (B true) t40) fun t41 =>
 br t41 (some (.ret (B false),s))
 (some (.normal [(v.getD 0 .any),(v.getD 1 .any)],s)))
 (fun v1 s2=>bd (af .add (v1.getD 1 .any) (I .i64 1)) fun t9 =>
 some (.normal [(v1.getD 0 .any),t9],s2))
 (fun i3 v1 s2=>some (.exit i3 v1,s2))
 (fun r4 s2=>some (.ret r4,s2)))
 (some (.exit 0 [],s))
def f112 (aa:ak) (N:Nat) (a0:T) (s:St):Option (T×St) :=
 jn (jn (loops (qR aa N) N [a0,(I .i64 0)] s)
 (fun v5 s6=>some (.normal [],s6))
 (fun i7 v5 s6=>if i7=0 then some (.normal v5,s6) else some (.exit i7 v5,s6))
 (fun r8 s6=>some (.ret r8,s6)))
 (fun v9 bV=>some ((B true),bV))
 (fun i11 v9 bV=>none)
 (fun Eo bV=>some (Eo,bV))
theorem Kg (aa:ak) (N:Nat) (a0:T) (s:St):aS Tryz.prog aa N Tryz.f112 [a0] s=f112 aa N a0 s:=by kernel_rfl
theorem Ga (d:Nat) (a0:T) (s:St):R (d+1) 112 [a0] s=f112 (R d) 8192 a0 s:=(au rfl Tryz.func112 (by kernel_rfl)).trans (Kg ..)
def f75 (aa:ak) (N:Nat) (a0:T) (s:St):Option (T×St) :=
 ay (aa 117 [(I .u32 1),a0] s) fun t4 s1 =>
 some (t4,s1)
theorem O7 (aa:ak) (N:Nat) (a0:T) (s:St):aS Tryz.prog aa N Tryz.f75 [a0] s=f75 aa N a0 s:=by kernel_rfl
theorem LG (d:Nat) (a0:T) (s:St):R (d+1) 75 [a0] s=f75 (R d) 8192 a0 s:=(au rfl Tryz.func75 (by kernel_rfl)).trans (O7 ..)
def qS (aa:ak) (N:Nat) (v:List T) (s:St):Option (JO×St) :=
 bd (cj (v.getD 0 .any)) fun t12 =>
 bd (af .lss (v.getD 2 .any) t12) fun t13 =>
 br t13 (jn (bd (af .mul (v.getD 1 .any) (I .u64 257)) fun t17 =>
 bd (dM (v.getD 0 .any) (v.getD 2 .any)) fun t20 =>
 bd (aF .u64 t20) fun t21 =>
 bd (af .add t17 t21) fun t22 =>
 bd (af .add t22 (I .u64 1)) fun t23 =>
 bd (af .rem t23 (I .u64 4294967291)) fun t24 =>
 some (.normal [(v.getD 0 .any),t24,(v.getD 2 .any)],s))
 (fun v1 s2=>bd (af .add (v1.getD 2 .any) (I .i64 1)) fun t15 =>
 some (.normal [(v1.getD 0 .any),(v1.getD 1 .any),t15],s2))
 (fun i3 v1 s2=>some (.exit i3 v1,s2))
 (fun r4 s2=>some (.ret r4,s2)))
 (some (.exit 0 [(v.getD 1 .any)],s))
def f117 (aa:ak) (N:Nat) (a0:T) (a1:T) (s:St):Option (T×St) :=
 bd (aF .u64 a0) fun t8 =>
 bd (af .rem t8 (I .u64 4294967291)) fun t9 =>
 jn (jn (loops (qS aa N) N [a1,t9,(I .i64 0)] s)
 (fun v5 s6=>some (.normal [.any],s6))
 (fun i7 v5 s6=>if i7=0 then some (.normal v5,s6) else some (.exit i7 v5,s6))
 (fun r8 s6=>some (.ret r8,s6)))
 (fun v9 bV=>bd (aF .u32 (v9.getD 0 .any)) fun t26 =>
 some (t26,bV))
 (fun i11 v9 bV=>none)
 (fun Eo bV=>some (Eo,bV))
theorem Ki (aa:ak) (N:Nat) (a0:T) (a1:T) (s:St):aS Tryz.prog aa N Tryz.f117 [a0,a1] s=f117 aa N a0 a1 s:=by kernel_rfl
theorem Gc (d:Nat) (a0:T) (a1:T) (s:St):R (d+1) 117 [a0,a1] s=f117 (R d) 8192 a0 a1 s:=(au rfl Tryz.func117 (by kernel_rfl)).trans (Ki ..)
def f74 (aa:ak) (N:Nat) (a0:T) (s:St):Option (T×St) :=
 bd (aF .u8 a0) fun t4 =>
 bd (af .shr a0 (I .u64 8)) fun t6 =>
 bd (aF .u8 t6) fun t7 =>
 bd (af .shr a0 (I .u64 16)) fun t9 =>
 bd (aF .u8 t9) fun t10 =>
 bd (af .shr a0 (I .u64 24)) fun t12 =>
 bd (aF .u8 t12) fun t13 =>
 ay (aK s (aR 4 (aE [.int .u8 0,.int .u8 0,.int .u8 0,.int .u8 0] [(0,1,t4),(1,1,t7),(2,1,t10),(3,1,t13)]))) fun t14 s1 =>
 bd (bX t14 s1.get) fun t15 =>
 some (t15,s1)
theorem O6 (aa:ak) (N:Nat) (a0:T) (s:St):aS Tryz.prog aa N Tryz.f74 [a0] s=f74 aa N a0 s:=by kernel_rfl
theorem LF (d:Nat) (a0:T) (s:St):R (d+1) 74 [a0] s=f74 (R d) 8192 a0 s:=(au rfl Tryz.func74 (by kernel_rfl)).trans (O6 ..)
def f70 (aa:ak) (N:Nat) (a0:T) (s:St):Option (T×St) :=
 ay (aK s (ct a0)) fun t1 s1 =>
 bd (ae 0 t1) fun t5 =>
 bd (ab t5 s1.get) fun t6 =>
 bd (af .lss t6 (I .i64 1)) fun t7 =>
 bd (gT (gd t7 false) (ae 0 t1)) fun t9 =>
 bd (gT (gd t7 false) (ab t9 s1.get)) fun t10 =>
 bd (gT (gd t7 false) (af .gtr t10 (I .i64 1073741824))) fun t11 =>
 bd (aC t7 (B true) t11) fun t12 =>
 bd (gT (gd t12 false) (ae 1 t1)) fun t14 =>
 bd (gT (gd t12 false) (ab t14 s1.get)) fun t15 =>
 bd (gT (gd t12 false) (af .lss t15 (I .i64 0))) fun t16 =>
 bd (aC t12 (B true) t16) fun t17 =>
 bd (gT (gd t17 false) (ae 1 t1)) fun t19 =>
 bd (gT (gd t17 false) (ab t19 s1.get)) fun t20 =>
 bd (gT (gd t17 false) (af .gtr t20 (I .i64 3))) fun t21 =>
 bd (aC t17 (B true) t21) fun t22 =>
 bd (gT (gd t22 false) (ae 2 t1)) fun t24 =>
 bd (gT (gd t22 false) (ab t24 s1.get)) fun t25 =>
 bd (gT (gd t22 false) (af .lss t25 (I .i64 0))) fun t26 =>
 bd (aC t22 (B true) t26) fun t27 =>
 bd (gT (gd t27 false) (ae 2 t1)) fun t29 =>
 bd (gT (gd t27 false) (ab t29 s1.get)) fun t30 =>
 bd (gT (gd t27 false) (ae 3 t1)) fun t31 =>
 bd (gT (gd t27 false) (ab t31 s1.get)) fun t32 =>
 bd (gT (gd t27 false) (af .geq t30 t32)) fun t33 =>
 bd (aC t27 (B true) t33) fun t34 =>
 bd (gT (gd t34 false) (ae 3 t1)) fun t36 =>
 bd (gT (gd t34 false) (ab t36 s1.get)) fun t37 =>
 bd (gT (gd t34 false) (af .gtr t37 (I .i64 1099511627776))) fun t38 =>
 bd (aC t34 (B true) t38) fun t39 =>
 br t39 (some ((B false),s1))
 (bd (ae 1 t1) fun t40 =>
 bd (ab t40 s1.get) fun t41 =>
 bd (af .eql t41 (I .i64 0)) fun t42 =>
 br t42 (bd (ae 4 t1) fun t43 =>
 bd (ab t43 s1.get) fun t44 =>
 bd (aA t44) fun t45 =>
 bd (ae 5 t1) fun t46 =>
 bd (ab t46 s1.get) fun t47 =>
 bd (aA t47) fun t48 =>
 bd (af .eql t48 (I .i64 0)) fun t49 =>
 bd (gT (gd t49 true) (some t45)) fun t51 =>
 bd (gT (gd t49 true) (af .geq t51 (I .i64 1))) fun t52 =>
 bd (aC t49 t52 (B false)) fun t53 =>
 bd (gT (gd t53 true) (some t45)) fun t55 =>
 bd (gT (gd t53 true) (af .leq t55 (I .i64 64))) fun t56 =>
 bd (aC t53 t56 (B false)) fun t57 =>
 bd (gT (gd t57 true) (ae 4 t1)) fun t59 =>
 bd (gT (gd t57 true) (ab t59 s1.get)) fun t60 =>
 ay (gS (gd t57 true) s1 (aa 112 [t60] s1)) fun t61 s2 =>
 bd (aC t57 t61 (B false)) fun t62 =>
 bd (gT (gd t62 true) (ae 4 t1)) fun t64 =>
 bd (gT (gd t62 true) (ab t64 s2.get)) fun t65 =>
 bd (gT (gd t62 true) (av 2 t65 (I .i64 0))) fun t66 =>
 bd (gT (gd t62 true) (ae 0 t66)) fun t67 =>
 bd (gT (gd t62 true) (ab t67 s2.get)) fun t68 =>
 bd (gT (gd t62 true) (ae 2 t1)) fun t69 =>
 bd (gT (gd t62 true) (ab t69 s2.get)) fun t70 =>
 bd (gT (gd t62 true) (af .geq t68 t70)) fun t71 =>
 bd (aC t62 t71 (B false)) fun t72 =>
 bd (gT (gd t72 true) (ae 4 t1)) fun t74 =>
 bd (gT (gd t72 true) (ab t74 s2.get)) fun t75 =>
 bd (gT (gd t72 true) (some t45)) fun t76 =>
 bd (gT (gd t72 true) (af .sub t76 (I .i64 1))) fun t77 =>
 bd (gT (gd t72 true) (av 2 t75 t77)) fun t78 =>
 bd (gT (gd t72 true) (ae 0 t78)) fun t79 =>
 bd (gT (gd t72 true) (ab t79 s2.get)) fun t80 =>
 bd (gT (gd t72 true) (ae 3 t1)) fun t81 =>
 bd (gT (gd t72 true) (ab t81 s2.get)) fun t82 =>
 bd (gT (gd t72 true) (af .lss t80 t82)) fun t83 =>
 bd (aC t72 t83 (B false)) fun t84 =>
 some (t84,s2))
 (bd (ae 5 t1) fun t85 =>
 bd (ab t85 s1.get) fun t86 =>
 bd (aA t86) fun t87 =>
 bd (ae 4 t1) fun t88 =>
 bd (ab t88 s1.get) fun t89 =>
 bd (aA t89) fun t90 =>
 bd (af .eql t90 (I .i64 0)) fun t91 =>
 bd (gT (gd t91 true) (some t87)) fun t93 =>
 bd (gT (gd t91 true) (af .geq t93 (I .i64 1))) fun t94 =>
 bd (aC t91 t94 (B false)) fun t95 =>
 bd (gT (gd t95 true) (some t87)) fun t97 =>
 bd (gT (gd t95 true) (af .leq t97 (I .i64 64))) fun t98 =>
 bd (aC t95 t98 (B false)) fun t99 =>
 bd (gT (gd t99 true) (ae 5 t1)) fun t101 =>
 bd (gT (gd t99 true) (ab t101 s1.get)) fun t102 =>
 bd (gT (gd t99 true) (ae 1 t1)) fun t103 =>
 bd (gT (gd t99 true) (ab t103 s1.get)) fun t104 =>
 ay (gS (gd t99 true) s1 (aa 113 [t102,t104] s1)) fun t105 s3 =>
 bd (aC t99 t105 (B false)) fun t106 =>
 bd (gT (gd t106 true) (ae 5 t1)) fun t108 =>
 bd (gT (gd t106 true) (ab t108 s3.get)) fun t109 =>
 bd (gT (gd t106 true) (av 7 t109 (I .i64 0))) fun t110 =>
 bd (gT (gd t106 true) (ae 0 t110)) fun t111 =>
 bd (gT (gd t106 true) (ab t111 s3.get)) fun t112 =>
 bd (gT (gd t106 true) (ae 2 t1)) fun t113 =>
 bd (gT (gd t106 true) (ab t113 s3.get)) fun t114 =>
 bd (gT (gd t106 true) (ae 1 t1)) fun t115 =>
 bd (gT (gd t106 true) (ab t115 s3.get)) fun t116 =>
 ay (gS (gd t106 true) s3 (aa 114 [t114,t116] s3)) fun t117 s4 =>
 bd (gT (gd t106 true) (af .geq t112 t117)) fun t118 =>
 bd (aC t106 t118 (B false)) fun t119 =>
 bd (gT (gd t119 true) (ae 5 t1)) fun t121 =>
 bd (gT (gd t119 true) (ab t121 s4.get)) fun t122 =>
 bd (gT (gd t119 true) (some t87)) fun t123 =>
 bd (gT (gd t119 true) (af .sub t123 (I .i64 1))) fun t124 =>
 bd (gT (gd t119 true) (av 7 t122 t124)) fun t125 =>
 bd (gT (gd t119 true) (ae 0 t125)) fun t126 =>
 bd (gT (gd t119 true) (ab t126 s4.get)) fun t127 =>
 bd (gT (gd t119 true) (ae 3 t1)) fun t128 =>
 bd (gT (gd t119 true) (ab t128 s4.get)) fun t129 =>
 bd (gT (gd t119 true) (af .lss t127 t129)) fun t130 =>
 bd (aC t119 t130 (B false)) fun t131 =>
 ck ((wq (gd t106 true) (decide (ab t108 s4.get=ab t108 s3.get))&&true)&&((wq (gd t106 true) (decide (ab t111 s4.get=ab t111 s3.get))&&true)&&true)) (some (t131,s4))))
theorem O3 (aa:ak) (N:Nat) (a0:T) (s:St):aS Tryz.prog aa N Tryz.f70 [a0] s=f70 aa N a0 s:=by kernel_rfl
theorem LB (d:Nat) (a0:T) (s:St):R (d+1) 70 [a0] s=f70 (R d) 8192 a0 s:=(au rfl Tryz.func70 (by kernel_rfl)).trans (O3 ..)
def f20 (aa:ak) (N:Nat) (a0:T) (s:St):Option (T×St) :=
 ay (aK s (ct a0)) fun t1 s1 =>
 bd (aG 6 t1 s1.get) fun t6 =>
 ay (aa 70 [t6] s1) fun t7 s2 =>
 bd (jO .not t7) fun t8 =>
 br t8 (bd (aQ [(Z (.str [])),(I .i64 1)]) fun r3 =>
 some (r3,s2))
 (bd (ae 0 t1) fun t9 =>
 bd (ab t9 s2.get) fun t10 =>
 bd (aF .u64 t10) fun t11 =>
 ay (aa 71 [t11] s2) fun t12 s4 =>
 bd (af .add (Z (.str [84,75])) t12) fun t13 =>
 bd (ae 1 t1) fun t14 =>
 bd (ab t14 s4.get) fun t15 =>
 bd (aF .u64 t15) fun t16 =>
 ay (aa 71 [t16] s4) fun t17 s5 =>
 bd (af .add t13 t17) fun t18 =>
 bd (ae 2 t1) fun t19 =>
 bd (ab t19 s5.get) fun t20 =>
 bd (aF .u64 t20) fun t21 =>
 ay (aa 71 [t21] s5) fun t22 s6 =>
 bd (af .add t18 t22) fun t23 =>
 bd (ae 3 t1) fun t24 =>
 bd (ab t24 s6.get) fun t25 =>
 bd (ae 2 t1) fun t26 =>
 bd (ab t26 s6.get) fun t27 =>
 bd (af .sub t25 t27) fun t28 =>
 bd (aF .u64 t28) fun t29 =>
 ay (aa 71 [t29] s6) fun t30 s7 =>
 bd (af .add t23 t30) fun t31 =>
 ck ((decide (ab t14 s2.get=ab t14 s4.get)&&true)&&((decide (ab t19 s2.get=ab t19 s5.get)&&(decide (ab t19 s4.get=ab t19 s5.get)&&true))&&((decide (ab t24 s2.get=ab t24 s6.get)&&(decide (ab t24 s4.get=ab t24 s6.get)&&(decide (ab t24 s5.get=ab t24 s6.get)&&true)))&&((decide (ab t26 s2.get=ab t26 s6.get)&&(decide (ab t26 s4.get=ab t26 s6.get)&&(decide (ab t26 s5.get=ab t26 s6.get)&&true)))&&true)))) (bd (ae 1 t1) fun t32 =>
 bd (ab t32 s7.get) fun t33 =>
 bd (af .eql t33 (I .i64 0)) fun t34 =>
 jn (br t34 (bd (ae 4 t1) fun t36 =>
 bd (ab t36 s7.get) fun t37 =>
 ay (aa 72 [t37] s7) fun t38 s8 =>
 bd (ah t38 0) fun t39 =>
 bd (ah t38 1) fun t40 =>
 some (.normal [t31,t39],s8))
 (bd (ae 5 t1) fun t42 =>
 bd (ab t42 s7.get) fun t43 =>
 bd (ae 1 t1) fun t44 =>
 bd (ab t44 s7.get) fun t45 =>
 ay (aa 73 [t43,t45] s7) fun t46 s9 =>
 bd (ah t46 0) fun t47 =>
 bd (ah t46 1) fun t48 =>
 some (.normal [t31,t47],s9)))
 (fun v10 bK=>bd (af .add (v10.getD 0 .any) (v10.getD 1 .any)) fun t51 =>
 ay (aa 75 [t51] bK) fun t54 gB =>
 ay (aa 74 [t54] gB) fun t55 gH =>
 bd (af .add t51 t55) fun t56 =>
 bd (cj t56) fun t58 =>
 bd (af .gtr t58 (I .i64 4000)) fun t59 =>
 br t59 (bd (aQ [(Z (.str [])),(I .i64 8)]) fun r16 =>
 some (r16,gH))
 (bd (aQ [t56,(I .i64 0)]) fun Ep =>
 some (Ep,gH)))
 (fun i12 v10 bK=>none)
 (fun qK bK=>some (qK,bK))))
theorem OC (aa:ak) (N:Nat) (a0:T) (s:St):aS Tryz.prog aa N Tryz.f20 [a0] s=f20 aa N a0 s:=by kernel_rfl
theorem La (d:Nat) (a0:T) (s:St):R (d+1) 20 [a0] s=f20 (R d) 8192 a0 s:=(au rfl Tryz.func20 (by kernel_rfl)).trans (OC ..)
def oS (aa:ak) (N:Nat) (v:List T) (s:St):Option (JO×St) :=
 bd (aA (v.getD 0 .any)) fun t23 =>
 bd (af .lss (v.getD 3 .any) t23) fun t24 =>
 br t24 (jn (bd (af .eql (v.getD 3 .any) (I .i64 0)) fun t28 =>
 br t28 (bd (av 2 (v.getD 0 .any) (I .i64 0)) fun t31 =>
 bd (ae 0 t31) fun t32 =>
 bd (ab t32 s.get) fun t33 =>
 bd (aF .u64 t33) fun t34 =>
 ay (aa 71 [t34] s) fun t35 s4 =>
 bd (af .add (v.getD 1 .any) t35) fun t36 =>
 bd (av 2 (v.getD 0 .any) (I .i64 0)) fun t38 =>
 bd (ae 1 t38) fun t39 =>
 bd (ab t39 s4.get) fun t40 =>
 ay (aa 115 [t40] s4) fun t41 s5 =>
 ay (aa 71 [t41] s5) fun t42 s6 =>
 bd (af .add t36 t42) fun t43 =>
 ck ((decide (ab t39 s.get=ab t39 s4.get)&&true)&&true) (some (.normal [(v.getD 0 .any),t43,(v.getD 2 .any),(v.getD 3 .any)],s6)))
 (bd (av 2 (v.getD 0 .any) (v.getD 3 .any)) fun t46 =>
 bd (ae 0 t46) fun t47 =>
 bd (ab t47 s.get) fun t48 =>
 bd (af .sub (v.getD 3 .any) (I .i64 1)) fun t51 =>
 bd (av 2 (v.getD 0 .any) t51) fun t52 =>
 bd (ae 0 t52) fun t53 =>
 bd (ab t53 s.get) fun t54 =>
 bd (af .sub t48 t54) fun t55 =>
 bd (av 2 (v.getD 0 .any) (v.getD 3 .any)) fun t58 =>
 bd (ae 1 t58) fun t59 =>
 bd (ab t59 s.get) fun t60 =>
 bd (aF .u64 t60) fun t61 =>
 bd (af .sub (v.getD 3 .any) (I .i64 1)) fun t64 =>
 bd (av 2 (v.getD 0 .any) t64) fun t65 =>
 bd (ae 1 t65) fun t66 =>
 bd (ab t66 s.get) fun t67 =>
 bd (aF .u64 t67) fun t68 =>
 bd (af .sub t61 t68) fun t69 =>
 bd (aF .i64 t69) fun t70 =>
 bd (af .sub t55 (v.getD 2 .any)) fun t74 =>
 ay (aa 115 [t74] s) fun t75 s7 =>
 ay (aa 71 [t75] s7) fun t76 s8 =>
 bd (af .add (v.getD 1 .any) t76) fun t77 =>
 ay (aa 115 [t70] s8) fun t79 s9 =>
 ay (aa 71 [t79] s9) fun t80 bV =>
 bd (af .add t77 t80) fun t81 =>
 some (.normal [(v.getD 0 .any),t81,t55,(v.getD 3 .any)],bV)))
 (fun v11 cd=>bd (af .add (v11.getD 3 .any) (I .i64 1)) fun t26 =>
 some (.normal [(v11.getD 0 .any),(v11.getD 1 .any),(v11.getD 2 .any),t26],cd))
 (fun i13 v11 cd=>some (.exit i13 v11,cd))
 (fun xo cd=>some (.ret xo,cd)))
 (some (.exit 0 [(v.getD 1 .any)],s))
def f72 (aa:ak) (N:Nat) (a0:T) (s:St):Option (T×St) :=
 ay (aa 112 [a0] s) fun t10 s1 =>
 bd (jO .not t10) fun t11 =>
 bd (gT (gd t11 false) (some a0)) fun t13 =>
 bd (gT (gd t11 false) (aA t13)) fun t14 =>
 bd (gT (gd t11 false) (af .gtr t14 (I .i64 64))) fun t15 =>
 bd (aC t11 (B true) t15) fun t16 =>
 br t16 (bd (aQ [(Z (.str [])),(I .i64 1)]) fun r2 =>
 some (r2,s1))
 (bd (aA a0) fun t18 =>
 bd (aF .u64 t18) fun t19 =>
 ay (aa 71 [t19] s1) fun t20 s3 =>
 jn (jn (loops (oS aa N) N [a0,t20,(I .i64 0),(I .i64 0)] s3)
 (fun ox gC=>some (.normal [.any],gC))
 (fun i17 ox gC=>if i17=0 then some (.normal ox,gC) else some (.exit i17 ox,gC))
 (fun Er gC=>some (.ret Er,gC)))
 (fun xG oF=>bd (aQ [(xG.getD 0 .any),(I .i64 0)]) fun Ql =>
 some (Ql,oF))
 (fun i21 xG oF=>none)
 (fun Xm oF=>some (Xm,oF)))
theorem O5 (aa:ak) (N:Nat) (a0:T) (s:St):aS Tryz.prog aa N Tryz.f72 [a0] s=f72 aa N a0 s:=by kernel_rfl
theorem LD (d:Nat) (a0:T) (s:St):R (d+1) 72 [a0] s=f72 (R d) 8192 a0 s:=(au rfl Tryz.func72 (by kernel_rfl)).trans (O5 ..)
def sA (aa:ak) (N:Nat) (v:List T) (s:St):Option (JO×St) :=
 bd (aA (v.getD 3 .any)) fun t19 =>
 bd (af .lss (v.getD 4 .any) t19) fun t20 =>
 br t20 (jn (bd (av 2 (v.getD 3 .any) (v.getD 4 .any)) fun t27 =>
 bd (ae 0 t27) fun t28 =>
 bd (ab t28 s.get) fun t29 =>
 bd (af .add t29 (v.getD 1 .any)) fun t31 =>
 bd (av 2 (v.getD 3 .any) (v.getD 4 .any)) fun t32 =>
 bd (ae 0 t32) fun t33 =>
 ay (aw 1 t33 t31 s) fun _ s5 =>
 bd (av 2 (v.getD 3 .any) (v.getD 4 .any)) fun t38 =>
 bd (ae 1 t38) fun t39 =>
 bd (ab t39 s5.get) fun t40 =>
 bd (af .rem t40 (I .i64 1000000000)) fun t41 =>
 bd (av 2 (v.getD 3 .any) (v.getD 4 .any)) fun t42 =>
 bd (ae 1 t42) fun t43 =>
 ay (aw 1 t43 t41 s5) fun _ s6 =>
 some (.normal [(v.getD 0 .any),(v.getD 1 .any),(v.getD 2 .any),(v.getD 3 .any),(v.getD 4 .any)],s6))
 (fun v7 s8=>bd (af .add (v7.getD 4 .any) (I .i64 1)) fun t22 =>
 some (.normal [(v7.getD 0 .any),(v7.getD 1 .any),(v7.getD 2 .any),(v7.getD 3 .any),t22],s8))
 (fun i9 v7 s8=>some (.exit i9 v7,s8))
 (fun pH s8=>some (.ret pH,s8)))
 (some (.exit 0 [(v.getD 0 .any),(v.getD 1 .any),(v.getD 2 .any),(v.getD 3 .any)],s))
def f21 (aa:ak) (N:Nat) (a0:T) (a1:T) (a2:T) (a3:T) (s:St):Option (T×St) :=
 ay (aK s (ba [.int .i64 0,.int .i64 0,.int .i64 0,.int .i64 0,.az,.az])) fun t8 s1 =>
 ay (aK s1 (aR 1 (aE [.int .i64 0] [(0,1,a0)]))) fun t12 s2 =>
 ay (aH 1 8 t12 a2 s2) fun t14 s3 =>
 ay (aa 76 [t14,a3,(I .i64 40)] s3) fun t16 s4 =>
 jn (jn (loops (sA aa N) N [a0,a1,t8,t16,(I .i64 0)] s4)
 (fun v11 cd=>some (.normal [.any,.any,.any,.any],cd))
 (fun i13 v11 cd=>if i13=0 then some (.normal v11,cd) else some (.exit i13 v11,cd))
 (fun xo cd=>some (.ret xo,cd)))
 (fun ox gC=>bd (aF .u64 (ox.getD 0 .any)) fun t45 =>
 bd (af .rem t45 (I .u64 1000)) fun t46 =>
 bd (aF .i64 t46) fun t47 =>
 bd (af .add (I .i64 1) t47) fun t48 =>
 bd (aA (ox.getD 3 .any)) fun t52 =>
 bd (af .sub t52 (I .i64 1)) fun t53 =>
 bd (av 2 (ox.getD 3 .any) t53) fun t54 =>
 bd (ae 0 t54) fun t55 =>
 bd (ab t55 gC.get) fun t56 =>
 bd (af .add t56 (I .i64 1)) fun t57 =>
 bd (aF .u64 (ox.getD 0 .any)) fun t59 =>
 bd (af .rem t59 (I .u64 7)) fun t60 =>
 bd (aF .i64 t60) fun t61 =>
 bd (af .add t57 t61) fun t62 =>
 bd (aU (aE [.int .i64 0,.int .i64 0,.int .i64 0,.int .i64 0,.az,.az] [(0,1,t48),(2,1,(ox.getD 1 .any)),(3,1,t62),(4,1,(ox.getD 3 .any))])) fun t64 =>
 ay (aw 6 (ox.getD 2 .any) t64 gC) fun _ lF =>
 bd (rC (aG 6 (ox.getD 2 .any) lF.get) (some [])) fun l20=>bd (aQ l20) fun IJ =>
 some (IJ,lF))
 (fun i17 ox gC=>none)
 (fun Er gC=>some (Er,gC))
theorem OD (aa:ak) (N:Nat) (a0:T) (a1:T) (a2:T) (a3:T) (s:St):aS Tryz.prog aa N Tryz.f21 [a0,a1,a2,a3] s=f21 aa N a0 a1 a2 a3 s:=by kernel_rfl
theorem Lf (d:Nat) (a0:T) (a1:T) (a2:T) (a3:T) (s:St):R (d+1) 21 [a0,a1,a2,a3] s=f21 (R d) 8192 a0 a1 a2 a3 s:=(au rfl Tryz.func21 (by kernel_rfl)).trans (OD ..)
def sC (aa:ak) (N:Nat) (v:List T) (s:St):Option (JO×St) :=
 bd (aA (v.getD 0 .any)) fun t13 =>
 bd (af .lss (v.getD 5 .any) t13) fun t14 =>
 bd (gT (gd t14 true) (some (v.getD 5 .any))) fun t16 =>
 bd (gT (gd t14 true) (some (v.getD 2 .any))) fun t17 =>
 bd (gT (gd t14 true) (af .lss t16 t17)) fun t18 =>
 bd (aC t14 t18 (B false)) fun t19 =>
 br t19 (jn (bd (af .add (v.getD 4 .any) (I .i64 1)) fun t23 =>
 bd (av 1 (v.getD 0 .any) (v.getD 5 .any)) fun t26 =>
 bd (ab t26 s.get) fun t27 =>
 bd (aF .u64 t27) fun t28 =>
 bd (af .rem t28 (I .u64 40)) fun t29 =>
 bd (aF .i64 t29) fun t30 =>
 bd (af .add t23 t30) fun t31 =>
 bd (aA (v.getD 1 .any)) fun t35 =>
 bd (af .lss (v.getD 5 .any) t35) fun t36 =>
 jn (br t36 (bd (av 1 (v.getD 1 .any) (v.getD 5 .any)) fun t39 =>
 bd (ab t39 s.get) fun t40 =>
 some (.normal [(v.getD 0 .any),(v.getD 1 .any),(v.getD 2 .any),(v.getD 3 .any),t31,(v.getD 5 .any),t40],s))
 (some (.normal [(v.getD 0 .any),(v.getD 1 .any),(v.getD 2 .any),(v.getD 3 .any),t31,(v.getD 5 .any),(v.getD 5 .any)],s)))
 (fun v1 s2=>bd (aU (aE [.int .i64 0,.int .i64 0] [(0,1,(v1.getD 4 .any)),(1,1,(v1.getD 6 .any))])) fun t44 =>
 ay (aK s2 (aR 1 (aE [.int .i64 0,.int .i64 0] [(0,2,t44)]))) fun t45 s5 =>
 ay (aH 2 16 (v1.getD 3 .any) t45 s5) fun t46 s6 =>
 some (.normal [(v1.getD 0 .any),(v1.getD 1 .any),(v1.getD 2 .any),t46,(v1.getD 4 .any),(v1.getD 5 .any)],s6))
 (fun i3 v1 s2=>if i3=1 then some (.normal v1,s2) else some (.exit i3 v1,s2))
 (fun r4 s2=>some (.ret r4,s2)))
 (fun v7 s8=>bd (af .add (v7.getD 5 .any) (I .i64 1)) fun t21 =>
 some (.normal [(v7.getD 0 .any),(v7.getD 1 .any),(v7.getD 2 .any),(v7.getD 3 .any),(v7.getD 4 .any),t21],s8))
 (fun i9 v7 s8=>some (.exit i9 v7,s8))
 (fun pH s8=>some (.ret pH,s8)))
 (some (.exit 0 [(v.getD 3 .any)],s))
def f76 (aa:ak) (N:Nat) (a0:T) (a1:T) (a2:T) (s:St):Option (T×St) :=
 jn (jn (loops (sC aa N) N [a0,a1,a2,(Z .az),(I .i64 0),(I .i64 0)] s)
 (fun v11 cd=>some (.normal [.any],cd))
 (fun i13 v11 cd=>if i13=0 then some (.normal v11,cd) else some (.exit i13 v11,cd))
 (fun xo cd=>some (.ret xo,cd)))
 (fun ox gC=>some ((ox.getD 0 .any),gC))
 (fun i17 ox gC=>none)
 (fun Er gC=>some (Er,gC))
theorem O8 (aa:ak) (N:Nat) (a0:T) (a1:T) (a2:T) (s:St):aS Tryz.prog aa N Tryz.f76 [a0,a1,a2] s=f76 aa N a0 a1 a2 s:=by kernel_rfl
theorem LI (d:Nat) (a0:T) (a1:T) (a2:T) (s:St):R (d+1) 76 [a0,a1,a2] s=f76 (R d) 8192 a0 a1 a2 s:=(au rfl Tryz.func76 (by kernel_rfl)).trans (O8 ..)
end
noncomputable section
def RH (aa:ak) (N:Nat) (v:List T) (s:St):Option (JO×St) :=
 bd (aA (v.getD 0 .any)) fun t48 =>
 bd (af .lss (v.getD 4 .any) t48) fun t49 =>
 br t49 (jn (bd (av 14 (v.getD 0 .any) (v.getD 4 .any)) fun t54 =>
 bd (ae 4 t54) fun t55 =>
 bd (ab t55 s.get) fun t56 =>
 bd (aA t56) fun t57 =>
 bd (af .gtr t57 (I .i64 20)) fun t58 =>
 br t58 (ay (aa 7 [] s) fun t59 s4 =>
 some (.ret t59,s4))
 (bd (av 14 (v.getD 0 .any) (v.getD 4 .any)) fun t62 =>
 bd (ae 1 t62) fun t63 =>
 bd (ab t63 s.get) fun t64 =>
 bd (aF .u64 t64) fun t65 =>
 bd (af .rem t65 (I .u64 12)) fun t66 =>
 bd (aF .i64 t66) fun t67 =>
 bd (av 14 (v.getD 0 .any) (v.getD 4 .any)) fun t70 =>
 bd (ae 0 t70) fun t71 =>
 bd (ab t71 s.get) fun t72 =>
 bd (af .and t72 (I .i64 7)) fun t73 =>
 jn (bd (af .eql t73 (I .i64 3)) fun t91 =>
 jn (br t91 (ay (aa 17 [(v.getD 3 .any),t67,(I .i64 0)] s) fun t94 s5 =>
 some (.normal [(v.getD 0 .any),(v.getD 1 .any),(v.getD 2 .any),(v.getD 3 .any),(v.getD 4 .any)],s5))
 (bd (af .eql t73 (I .i64 4)) fun t96 =>
 jn (br t96 (bd (aU (aE [.int .i64 0,.int .i64 0,.int .i64 0,.int .i64 0,.int .i64 0,.int .i64 0,.int .u32 0,.str []] [(0,1,(I .i64 4)),(7,1,(Z (.str [115,101,97,108,32,53])))])) fun t98 =>
 ay (aa 18 [(v.getD 3 .any),t98] s) fun t99 s6 =>
 some (.normal [(v.getD 0 .any),(v.getD 1 .any),(v.getD 2 .any),(v.getD 3 .any),(v.getD 4 .any)],s6))
 (bd (af .eql t73 (I .i64 5)) fun t101 =>
 jn (br t101 (ay (aa 19 [(v.getD 3 .any)] s) fun t103 s7 =>
 some (.normal [(v.getD 0 .any),(v.getD 1 .any),(v.getD 2 .any),(v.getD 3 .any),(v.getD 4 .any)],s7))
 (bd (av 14 (v.getD 0 .any) (v.getD 4 .any)) fun t79 =>
 bd (ae 4 t79) fun t80 =>
 bd (ab t80 s.get) fun t81 =>
 ay (aa 21 [t67,(v.getD 4 .any),t81,(Z .az)] s) fun t82 s8 =>
 ay (aa 20 [t82] s8) fun t83 s9 =>
 bd (ah t83 0) fun t84 =>
 bd (ah t83 1) fun t85 =>
 ay (aK s9 (td t84)) fun t88 bV =>
 ay (aa 22 [(v.getD 3 .any),t88,(I .i64 0)] bV) fun t89 bK =>
 some (.normal [(v.getD 0 .any),(v.getD 1 .any),(v.getD 2 .any),(v.getD 3 .any),(v.getD 4 .any)],bK)))
 (fun v12 ey=>some (.normal [(v12.getD 0 .any),(v12.getD 1 .any),(v12.getD 2 .any),(v12.getD 3 .any),(v12.getD 4 .any)],ey))
 (fun i14 v12 ey=>some (.exit i14 v12,ey))
 (fun II ey=>some (.ret II,ey))))
 (fun gO jd=>some (.normal [(gO.getD 0 .any),(gO.getD 1 .any),(gO.getD 2 .any),(gO.getD 3 .any),(gO.getD 4 .any)],jd))
 (fun i18 gO jd=>some (.exit i18 gO,jd))
 (fun xp jd=>some (.ret xp,jd))))
 (fun v20 kK=>some (.normal [(v20.getD 0 .any),(v20.getD 1 .any),(v20.getD 2 .any),(v20.getD 3 .any),(v20.getD 4 .any)],kK))
 (fun i22 v20 kK=>if i22=2 then some (.normal v20,kK) else some (.exit i22 v20,kK))
 (fun Ql kK=>some (.ret Ql,kK)))
 (fun v24 kB=>some (.normal [(v24.getD 0 .any),(v24.getD 1 .any),(v24.getD 2 .any),(v24.getD 3 .any),(v24.getD 4 .any)],kB))
 (fun i26 v24 kB=>if i26=1 then some (.normal v24,kB) else some (.exit i26 v24,kB))
 (fun To kB=>some (.ret To,kB))))
 (fun v28 m6=>bd (af .add (v28.getD 4 .any) (I .i64 1)) fun t51 =>
 some (.normal [(v28.getD 0 .any),(v28.getD 1 .any),(v28.getD 2 .any),(v28.getD 3 .any),t51],m6))
 (fun i30 v28 m6=>some (.exit i30 v28,m6))
 (fun IL m6=>some (.ret IL,m6)))
 (some (.exit 0 [(v.getD 1 .any),(v.getD 2 .any),(v.getD 3 .any)],s))
def RI (aa:ak) (N:Nat) (v:List T) (s:St):Option (JO×St) :=
 bd (aA (v.getD 4 .any)) fun t145 =>
 bd (af .lss (v.getD 5 .any) t145) fun t146 =>
 br t146 (jn (bd (av 5 (v.getD 4 .any) (v.getD 5 .any)) fun t153 =>
 bd (ae 0 t153) fun t154 =>
 bd (ab t154 s.get) fun t155 =>
 ay (aa 28 [(v.getD 2 .any),t155] s) fun t156 E5 =>
 bd (ah t156 0) fun t157 =>
 bd (ah t156 1) fun t158 =>
 ay (aK E5 (ba [.int .i64 0,.int .i64 0,.int .i64 0,.int .i64 0,.az,.az])) fun t19 s49 =>
 ay (aw 6 t19 t157 s49) fun _ Ni =>
 bd (af .neq t158 (I .i64 0)) fun t160 =>
 bd (gT (gd t160 false) (ae 2 t19)) fun t162 =>
 bd (gT (gd t160 false) (ab t162 Ni.get)) fun t163 =>
 bd (gT (gd t160 false) (some (v.getD 4 .any))) fun t164 =>
 bd (gT (gd t160 false) (some (v.getD 5 .any))) fun t165 =>
 bd (gT (gd t160 false) (av 5 t164 t165)) fun t166 =>
 bd (gT (gd t160 false) (ae 2 t166)) fun t167 =>
 bd (gT (gd t160 false) (ab t167 Ni.get)) fun t168 =>
 bd (gT (gd t160 false) (af .neq t163 t168)) fun t169 =>
 bd (aC t160 (B true) t169) fun t170 =>
 bd (gT (gd t170 false) (ae 3 t19)) fun t172 =>
 bd (gT (gd t170 false) (ab t172 Ni.get)) fun t173 =>
 bd (gT (gd t170 false) (some (v.getD 4 .any))) fun t174 =>
 bd (gT (gd t170 false) (some (v.getD 5 .any))) fun t175 =>
 bd (gT (gd t170 false) (av 5 t174 t175)) fun t176 =>
 bd (gT (gd t170 false) (ae 3 t176)) fun t177 =>
 bd (gT (gd t170 false) (ab t177 Ni.get)) fun t178 =>
 bd (gT (gd t170 false) (af .neq t173 t178)) fun t179 =>
 bd (aC t170 (B true) t179) fun t180 =>
 br t180 (some (.ret (B false),Ni))
 (some (.normal [(v.getD 0 .any),(v.getD 1 .any),(v.getD 2 .any),(v.getD 3 .any),(v.getD 4 .any),(v.getD 5 .any)],Ni)))
 (fun v51 N3=>bd (af .add (v51.getD 5 .any) (I .i64 1)) fun t148 =>
 some (.normal [(v51.getD 0 .any),(v51.getD 1 .any),(v51.getD 2 .any),(v51.getD 3 .any),(v51.getD 4 .any),t148],N3))
 (fun i53 v51 N3=>some (.exit i53 v51,N3))
 (fun r54 N3=>some (.ret r54,N3)))
 (some (.exit 3 [(v.getD 0 .any),(v.getD 1 .any),(v.getD 3 .any)],s))
def f4 (aa:ak) (N:Nat) (a0:T) (a1:T) (s:St):Option (T×St) :=
 bd (aA a0) fun t26 =>
 bd (af .gtr t26 (I .i64 30)) fun t27 =>
 bd (gT (gd t27 false) (some a1)) fun t29 =>
 bd (gT (gd t27 false) (aA t29)) fun t30 =>
 bd (gT (gd t27 false) (af .gtr t30 (I .i64 30))) fun t31 =>
 bd (aC t27 (B true) t31) fun t32 =>
 br t32 (ay (aa 7 [] s) fun t33 s1 =>
 some (t33,s1))
 (ay (aa 10 [(I .i64 100000)] s) fun t34 s2 =>
 ay (aa 14 [t34] s2) fun t37 s3 =>
 bd (ah t37 0) fun t38 =>
 bd (ah t37 1) fun t39 =>
 bd (af .neq t39 (I .i64 0)) fun t41 =>
 bd (gT (gd t41 false) (some t38)) fun t43 =>
 bd (gT (gd t41 false) (iC .p t43 (Z .bU))) fun t44 =>
 bd (aC t41 (B true) t44) fun t45 =>
 br t45 (some ((B false),s3))
 (jn (jn (loops (RH aa N) N [a0,a1,t34,t38,(I .i64 0)] s3)
 (fun v32 rA=>some (.normal [.any,.any,.any],rA))
 (fun i34 v32 rA=>if i34=0 then some (.normal v32,rA) else some (.exit i34 v32,rA))
 (fun Xq rA=>some (.ret Xq,rA)))
 (fun v36 JI=>ay (aa 23 [(v36.getD 2 .any)] JI) fun t105 Ad =>
 ay (aa 24 [(v36.getD 2 .any)] Ad) fun t107 s41 =>
 ay (aa 25 [(v36.getD 1 .any),(v36.getD 0 .any)] s41) fun t110 s42 =>
 ay (aa 14 [(v36.getD 1 .any)] s42) fun t113 zC =>
 bd (ah t113 0) fun t114 =>
 bd (ah t113 1) fun t115 =>
 bd (af .neq t115 (I .i64 0)) fun t117 =>
 bd (gT (gd t117 false) (some t114)) fun t119 =>
 bd (gT (gd t117 false) (iC .p t119 (Z .bU))) fun t120 =>
 bd (aC t117 (B true) t120) fun t121 =>
 br t121 (some ((B false),zC))
 (ay (aa 23 [t114] zC) fun t123 CZ =>
 bd (aA t123) fun t125 =>
 bd (af .lss t125 t107) fun t127 =>
 bd (gT (gd t127 false) (some t123)) fun t129 =>
 bd (gT (gd t127 false) (some t105)) fun t130 =>
 ay (gS (gd t127 false) CZ (aa 26 [t129,t130] CZ)) fun t131 Zj =>
 bd (gT (gd t127 false) (jO .not t131)) fun t132 =>
 bd (aC t127 (B true) t132) fun t133 =>
 bd (gT (gd t133 false) (some t114)) fun t135 =>
 ay (gS (gd t133 false) Zj (aa 24 [t135] Zj)) fun t136 Ae =>
 bd (gT (gd t133 false) (some t123)) fun t137 =>
 bd (gT (gd t133 false) (aA t137)) fun t138 =>
 bd (gT (gd t133 false) (af .neq t136 t138)) fun t139 =>
 bd (aC t133 (B true) t139) fun t140 =>
 br t140 (some ((B false),Ae))
 (ay (aa 27 [t114] Ae) fun t142 E4 =>
 jn (jn (loops (RI aa N) N [(v36.getD 0 .any),(v36.getD 1 .any),t114,t123,t142,(I .i64 0)] E4)
 (fun XG Rk=>some (.normal [.any,.any,.any],Rk))
 (fun i57 XG Rk=>if i57=3 then some (.normal XG,Rk) else some (.exit i57 XG,Rk))
 (fun r58 Rk=>some (.ret r58,Rk)))
 (fun v59 UR=>ay (aa 29 [(v59.getD 1 .any)] UR) fun t182 s63 =>
 bd (aA t182) fun t183 =>
 ay (aa 30 [(v59.getD 1 .any)] s63) fun t185 s64 =>
 ay (aa 25 [(v59.getD 1 .any),(v59.getD 0 .any)] s64) fun t188 s65 =>
 ay (aa 14 [(v59.getD 1 .any)] s65) fun t191 s66 =>
 bd (ah t191 0) fun t192 =>
 bd (ah t191 1) fun t193 =>
 ay (aa 7 [] s66) fun t194 Zl =>
 bd (gT (gd t194 true) (some t193)) fun t196 =>
 bd (gT (gd t194 true) (af .eql t196 (I .i64 0))) fun t197 =>
 bd (aC t194 t197 (B false)) fun t198 =>
 bd (gT (gd t198 true) (some t192)) fun t200 =>
 bd (gT (gd t198 true) (Eh .p t200 (Z .bU))) fun t201 =>
 bd (aC t198 t201 (B false)) fun t202 =>
 bd (gT (gd t202 true) (some t192)) fun t204 =>
 ay (gS (gd t202 true) Zl (aa 23 [t204] Zl)) fun t205 N4 =>
 bd (gT (gd t202 true) (some (v59.getD 2 .any))) fun t206 =>
 ay (gS (gd t202 true) N4 (aa 31 [t205,t206] N4)) fun t207 Zm =>
 bd (aC t202 t207 (B false)) fun t208 =>
 bd (gT (gd t208 true) (some (v59.getD 1 .any))) fun t210 =>
 ay (gS (gd t208 true) Zm (aa 29 [t210] Zm)) fun t211 Zn =>
 bd (gT (gd t208 true) (aA t211)) fun t212 =>
 bd (gT (gd t208 true) (some t183)) fun t213 =>
 bd (gT (gd t208 true) (af .eql t212 t213)) fun t214 =>
 bd (aC t208 t214 (B false)) fun t215 =>
 bd (gT (gd t215 true) (some (v59.getD 1 .any))) fun t217 =>
 ay (gS (gd t215 true) Zn (aa 30 [t217] Zn)) fun t218 s71 =>
 bd (gT (gd t215 true) (some t185)) fun t219 =>
 bd (gT (gd t215 true) (af .eql t218 t219)) fun t220 =>
 bd (aC t215 t220 (B false)) fun t221 =>
 some (t221,s71))
 (fun i61 v59 UR=>none)
 (fun r62 UR=>some (r62,UR)))))
 (fun i38 v36 JI=>none)
 (fun Xs JI=>some (Xs,JI))))
def f26 (aa:ak) (N:Nat) (a0:T) (a1:T) (s:St):Option (T×St) :=
 ay (aa 79 [a0,a1] s) fun t7 s1 =>
 bd (aA a0) fun t9 =>
 bd (af .eql t7 t9) fun t10 =>
 some (t10,s1)
def f31 (aa:ak) (N:Nat) (a0:T) (a1:T) (s:St):Option (T×St) :=
 bd (aA a0) fun t6 =>
 bd (aA a1) fun t8 =>
 bd (af .eql t6 t8) fun t9 =>
 bd (gT (gd t9 true) (some a0)) fun t11 =>
 bd (gT (gd t9 true) (some a1)) fun t12 =>
 ay (gS (gd t9 true) s (aa 26 [t11,t12] s)) fun t13 s1 =>
 bd (aC t9 t13 (B false)) fun t14 =>
 some (t14,s1)
end
end Go.Proofs.YtbohejffelipoaaGreatDoor
namespace Go.Proofs.YtbohejffelipoaaGreatDoor
end Go.Proofs.YtbohejffelipoaaGreatDoor
namespace Go.Proofs.YtbohejffelipoaaGreatDoor
open Go Go.Abs Go.Abs.F
set_option linter.unusedVariables false
abbrev xK (s:St) (x:S) (l:List S):Prop:=Rd 1 s x l.length l
def BS (s:St) (x:S) (l:List S):Prop :=
 (x = .az/\l=[])\/(∃ c rows,x = .emp c 1/\l=[]/\s.get c=some (.cells true rows))\/∃ c rows,x = .sl c 0 l.length (.grown 1)/\s.get c=some (.cells true rows)/\l.length<=rows.length/\rows.take l.length=l
theorem BS.rd {s:St} {x:S} {l:List S} (h:BS s x l):xK s x l:=by
 rcases h with ⟨rfl,rfl⟩ | ⟨c,rows,rfl,rfl,_⟩ | ⟨c,rows,rfl,h1,h2,h3⟩
 · exact Rd.nil 1 s
 · exact ⟨rfl,.inl ⟨rfl,.inr (.inl ⟨c,1,rfl⟩)⟩,rfl⟩
 · exact ⟨by simp,.inr ⟨c,0,_,_,rows,rfl,h1,by omega,by simpa using h3⟩,rfl⟩
theorem BS.keep {s t:St} {x:S} {l:List S} (h:BS s x l) (hk:∀ c,own x=some c->t.get c=s.get c):BS t x l:=by
 rcases h with h | ⟨c,rows,rfl,rfl,h1⟩ | ⟨c,rows,rfl,h1,h2,h3⟩
 · exact .inl h
 · exact .inr (.inl ⟨c,rows,rfl,rfl,by rw [hk c rfl];exact h1⟩)
 · exact .inr (.inr ⟨c,rows,rfl,by rw [hk c rfl];exact h1,h2,h3⟩)
theorem BS.lt {s:St} {x:S} {l:List S} (h:BS s x l) (wf:s.wf) {c:Nat} (hc:own x=some c):c<s.size:=by
 rcases h with ⟨rfl,rfl⟩ | ⟨c',rows,rfl,rfl,h1⟩ | ⟨c',rows,rfl,h1,h2,h3⟩
 · cases hc
 · cases hc;exact wf.lt h1
 · cases hc;exact wf.lt h1
theorem uN {s:St} {x y:S} {l xs:List S} (hb:BS s x l) (wf:s.wf) (hs:xK s y xs) (hl:l.length+xs.length<=100000) :
 ∃ x' t,aH 1 1 (Z x) (Z y) s=some (Z x',t)/\t.wf/\s.size<=t.size/\BS t x' (l++xs)/\(∀ b,b<s.size->own x≠some b->t.get b=s.get b)/\(own x'=none\/own x'=own x\/∃ c,own x'=some c/\s.size<=c):=by
 have hsrc:=hs.src
 have hB:(l.length+xs.length)*1<=140737488355328:=by omega
 rcases hb with ⟨rfl,rfl⟩ | ⟨c,rows,rfl,rfl,h1⟩ | ⟨c,rows,rfl,h1,h2,h3⟩
 · by_cases hz:xs.length=0
   · have:xs=[]:=List.eq_nil_of_length_eq_zero hz
     subst this
     exact ⟨.az,s,by simp [aH,hsrc],wf,Nat.le_refl _,.inl ⟨rfl,rfl⟩,fun _ _ _=>rfl,.inl rfl⟩
   · have Pr:xs.length*1<=140737488355328:=by omega
     refine ⟨.sl s.size 0 xs.length (.grown 1),s.push (.cells true xs),?_,St.bn wf _,by simp,.inr (.inr ⟨s.size,xs,by simp,St.aq _ _,by simp,by simp⟩),fun b hb _=>St.aI _ _ (by omega),.inr (.inr ⟨_,rfl,Nat.le_refl _⟩)⟩
     simp only [aH,hsrc,if_neg hz,if_pos Pr]
     rfl
 · have mv:=wf.lt h1
   by_cases hz:xs.length=0
   · have:xs=[]:=List.eq_nil_of_length_eq_zero hz
     subst this
     exact ⟨.emp c 1,s,by simp [aH,hsrc],wf,Nat.le_refl _,.inr (.inl ⟨c,rows,rfl,rfl,h1⟩),fun _ _ _=>rfl,.inr (.inl rfl)⟩
   · have Pr:1=1/\xs.length*1<=140737488355328:=⟨rfl,by omega⟩
     have hg:((s.set c .dead).push (.cells true xs)).get s.size=some (.cells true xs):=by
      have:=St.aq (s.set c .dead) (.cells true xs)
      rwa [St.size_set] at this
     refine ⟨.sl s.size 0 xs.length (.grown 1),(s.set c .dead).push (.cells true xs),?_,St.bn (St.wf_set wf mv _) _,by simp,.inr (.inr ⟨s.size,xs,by simp,hg,by simp,by simp⟩),fun b hb hbc => ?_,.inr (.inr ⟨_,rfl,Nat.le_refl _⟩)⟩
     · unfold aH
       rw [hsrc]
       dsimp only
       rw [if_neg (by decide),if_pos Pr,if_neg hz,h1]
     · have:b≠c:=fun e=>hbc (by rw [e];rfl)
       rw [St.aI _ _ (by rw [St.size_set];omega),St.aj _ _ this]
 · have mv:=wf.lt h1
   have Pr:1=1/\(l.length+xs.length)*1<=140737488355328:=⟨rfl,hB⟩
   by_cases hz:xs.length=0
   · have:xs=[]:=List.eq_nil_of_length_eq_zero hz
     subst this
     refine ⟨.sl c 0 l.length (.grown 1),s,?_,wf,Nat.le_refl _,.inr (.inr ⟨c,rows,by simp,h1,by simpa using h2,by simpa using h3⟩),fun _ _ _=>rfl,.inr (.inl rfl)⟩
     unfold aH
     rw [hsrc]
     dsimp only
     rw [if_neg (by decide),if_pos Pr,if_pos hz]
   · by_cases hf:l.length+xs.length<=rows.length
     · have o7:0+(l.length+xs.length)*1<=rows.length:=by omega
       refine ⟨.sl c 0 (l.length+xs.length) (.grown 1),s.set c (.cells true (aO rows (0+l.length*1) xs)),?_,St.wf_set wf mv _,by simp,.inr (.inr ⟨c,_,by simp,St.ar _ _ _,by simpa using hf,?_⟩),fun b hb hbc => ?_,.inr (.inl rfl)⟩
       · unfold aH
         rw [hsrc]
         dsimp only
         rw [if_neg (by decide),if_pos Pr,if_neg hz,h1]
         dsimp only
         rw [if_pos o7]
       · rw [bS _ _ _ (by omega),List.length_append,show 0+l.length*1=l.length by omega,h3]
         rw [List.take_append_of_le_length (by simp)]
         exact List.take_of_length_le (by simp)
       · have:b≠c:=fun e=>hbc (by rw [e];rfl)
         exact St.aj _ _ this
     · have o7:¬ 0+(l.length+xs.length)*1<=rows.length:=by omega
       have VD:0+l.length*1<=rows.length:=by omega
       have hg:((s.set c .dead).push (.cells true (l++xs))).get s.size=some (.cells true (l++xs)):=by
        have:=St.aq (s.set c .dead) (.cells true (l++xs))
        rwa [St.size_set] at this
       refine ⟨.sl s.size 0 (l.length+xs.length) (.grown 1),(s.set c .dead).push (.cells true (l++xs)),?_,St.bn (St.wf_set wf mv _) _,by simp,.inr (.inr ⟨s.size,l++xs,by simp,hg,by simp,by rw [List.take_length]⟩),fun b hb hbc => ?_,.inr (.inr ⟨_,rfl,Nat.le_refl _⟩)⟩
       · unfold aH
         rw [hsrc]
         dsimp only
         rw [if_neg (by decide),if_pos Pr,if_neg hz,h1]
         dsimp only
         rw [if_neg o7,if_pos VD,List.drop_zero,Nat.mul_one,h3]
       · have:b≠c:=fun e=>hbc (by rw [e];rfl)
         rw [St.aI _ _ (by rw [St.size_set];omega),St.aj _ _ this]
theorem FK {s:St} {x:S} {l:List S} (hb:BS s x l) {k:Nat} (hk:k<=l.length) :
 ∃ x',ax 1 (Z x) none (some (I .i64 k)) none=some (Z x')/\BS s x' (l.take k)/\(own x'=none\/own x'=own x):=by
 rcases hb with ⟨rfl,rfl⟩ | ⟨c,rows,rfl,rfl,h1⟩ | ⟨c,rows,rfl,h1,h2,h3⟩
 · have:k=0:=by simpa using hk
   subst this
   exact ⟨.az,rfl,.inl ⟨rfl,rfl⟩,.inl rfl⟩
 · have:k=0:=by simpa using hk
   subst this
   exact ⟨.emp c 1,rfl,.inr (.inl ⟨c,rows,rfl,rfl,h1⟩),.inr rfl⟩
 · by_cases hz:l.length=0
   · have hl:l=[]:=List.eq_nil_of_length_eq_zero hz
     subst hl
     have:k=0:=by simpa using hk
     subst this
     exact ⟨.emp c 1,rfl,.inr (.inl ⟨c,rows,rfl,rfl,h1⟩),.inr rfl⟩
   · have hk':(k:Int)<=(l.length:Int):=by omega
     have hpos:0<l.length:=by omega
     refine ⟨.sl c 0 k (.grown 1),?_,.inr (.inr ⟨c,rows,by rw [List.length_take,Nat.min_eq_left hk],h1,by rw [List.length_take];omega,?_⟩),.inr rfl⟩
     · unfold ax
       dsimp only
       rw [if_pos rfl,dS hk]
       dsimp only
       rw [if_pos hpos]
       simp
     · rw [List.length_take,Nat.min_eq_left hk]
       have:=congrArg (List.take k) h3
       rwa [List.take_take,Nat.min_eq_left hk] at this
structure Fl where
 nm:List UInt8
 fb:Nat
 x:S
 l:List S
 sure:Nat
def fR (fs:List Fl):List (S×V):=fs.map fun f=>(S.str f.nm,V.s (.ptr f.fb 0))
structure Dk (s:St) (i m:Nat) (room:Int) (fs:List Fl):Prop where
 wf:s.wf
 ri:s.get i=some (.cells true [.int .i64 room,.map m])
 mp:s.get m=some (.map (fR fs))
 fl:∀ (k:Nat) (f:Fl),fs[k]? = some f->s.get f.fb=some (.cells true [f.x,.int .i64 f.sure])/\BS s f.x f.l/\f.sure<=f.l.length/\f.l.length<=50000/\f.fb≠i/\f.fb≠m/\∀ c,own f.x=some c->c≠i/\c≠m
 ap:∀ (k k':Nat) (f f':Fl),fs[k]? = some f->fs[k']? = some f'->(k≠k'->f.fb≠f'.fb)/\∀ c,own f.x=some c->c≠f'.fb/\(k≠k'->own f'.x≠some c)
 nm:(fs.map (·.nm)).Nodup
section
variable {s t:St} {i m:Nat} {room:Int} {fs:List Fl}
theorem Dk.gr (h:Dk s i m room fs) (g:Gr s t):Dk t i m room fs:=by
 obtain ⟨g1,g2,g3⟩:=g
 refine ⟨g1,by rw [g3 i (h.wf.lt h.ri)];exact h.ri,by rw [g3 m (h.wf.lt h.mp)];exact h.mp,fun k f hf => ?_,h.ap,h.nm⟩
 obtain ⟨a1,a2,a3⟩:=h.fl k f hf
 exact ⟨by rw [g3 _ (h.wf.lt a1)];exact a1,a2.keep fun c hc=>g3 c (a2.lt h.wf hc),a3⟩
theorem Dk.qL (h:Dk s i m room fs) {k:Nat} {f:Fl} (hk:fs[k]? = some f) {x':S} {l':List S} {sure':Nat} (wf:t.wf) (hsz:s.size<=t.size) (hF:∀ b,b<s.size->b≠f.fb->own f.x≠some b->t.get b=s.get b)
 (PE:t.get f.fb=some (.cells true [x',.int .i64 sure'])) (JA:BS t x' l') (Hp:sure'<=l'.length) (hl:l'.length<=50000) (hx:own x'=none\/own x'=own f.x\/∃ c,own x'=some c/\s.size<=c) :
 Dk t i m room (fs.set k { f with x:=x',l:=l',sure:=sure' }):=by
 obtain ⟨a1,a2,a3,a4,a5,a6,a7⟩:=h.fl k f hk
 have hi:=h.wf.lt h.ri
 have hm:=h.wf.lt h.mp
 obtain ⟨eU,Uj⟩:=List.getElem?_eq_some_iff.1 hk
 have R4:fR (fs.set k { f with x:=x',l:=l',sure:=sure' })=fR fs:=by
  unfold fR
  rw [List.map_set]
  apply List.ext_getElem?
  intro j
  rw [List.getElem?_set]
  by_cases hj:k=j
  · subst hj
    simp [eU,Uj]
  · simp [hj]
 have yK:∀ c,own x'=some c->own f.x=some c\/s.size<=c:=fun c hc=>by
  rcases hx with e | e | ⟨c',e,gY⟩
  · rw [e] at hc;cases hc
  · exact .inl (e ▸ hc)
  · rw [e] at hc;cases hc;exact .inr gY
 have cg:∀ j g,(fs.set k { f with x:=x',l:=l',sure:=sure' })[j]? = some g->(j=k/\g={ f with x:=x',l:=l',sure:=sure' })\/(j≠k/\fs[j]? = some g):=fun j g hg=>by
  rw [List.getElem?_set] at hg
  by_cases hj:k=j
  · subst hj
    simp [eU] at hg
    exact .inl ⟨rfl,hg.symm⟩
  · rw [if_neg hj] at hg
    exact .inr ⟨fun e=>hj e.symm,hg⟩
 refine ⟨wf,by rw [hF i hi (Ne.symm a5) (fun e=>(a7 i e).1 rfl)];exact h.ri,by rw [hF m hm (Ne.symm a6) (fun e=>(a7 m e).2 rfl),R4];exact h.mp,fun j g hg => ?_,fun j j' g g' hg uW => ?_,?_⟩
 · rcases cg j g hg with ⟨rfl,rfl⟩ | ⟨hj,ho⟩
   · refine ⟨PE,JA,Hp,hl,a5,a6,fun c hc => ?_⟩
     rcases yK c hc with e | e
     · exact a7 c e
     · exact ⟨by omega,by omega⟩
   · obtain ⟨b1,b2,b3⟩:=h.fl j g ho
     have p1:=(h.ap j k g f ho hk).1 hj
     refine ⟨by rw [hF _ (h.wf.lt b1) p1 (fun e=>((h.ap k j f g hk ho).2 _ e).1 rfl)];exact b1,b2.keep fun c hc=>hF c (b2.lt h.wf hc) ((h.ap j k g f ho hk).2 c hc).1 (fun e=>((h.ap k j f g hk ho).2 c e).2 (Ne.symm hj) hc),b3⟩
 · rcases cg j g hg with ⟨rfl,rfl⟩ | ⟨hj,ho⟩
   · rcases cg j' g' uW with ⟨rfl,rfl⟩ | ⟨hj',tS⟩
     · refine ⟨fun e=>absurd rfl e,fun c hc=>⟨?_,fun e=>absurd rfl e⟩⟩
       rcases yK c hc with e | e
       · exact ((h.ap _ _ f f hk hk).2 c e).1
       · have:=h.wf.lt a1
         show c≠f.fb
         omega
     · obtain ⟨b1,b2,_⟩:=h.fl j' g' tS
       refine ⟨fun e=>(h.ap _ j' f g' hk tS).1 e,fun c hc => ?_⟩
       rcases yK c hc with e | e
       · exact (h.ap _ j' f g' hk tS).2 c e
       · have:=h.wf.lt b1
         exact ⟨by omega,fun _ e'=>by have:=b2.lt h.wf e';omega⟩
   · rcases cg j' g' uW with ⟨rfl,rfl⟩ | ⟨hj',tS⟩
     · obtain ⟨b1,b2,_⟩:=h.fl j g ho
       refine ⟨fun e=>(h.ap j _ g f ho hk).1 e,fun c hc=>⟨((h.ap j _ g f ho hk).2 c hc).1,fun hne e => ?_⟩⟩
       rcases yK c e with e' | e'
       · exact ((h.ap j _ g f ho hk).2 c hc).2 hne e'
       · have:=b2.lt h.wf hc
         omega
     · exact h.ap j j' g g' ho tS
 · have:(fs.set k { f with x:=x',l:=l',sure:=sure' }).map (·.nm)=fs.map (·.nm):=by
    rw [List.map_set]
    apply List.ext_getElem?
    intro j
    rw [List.getElem?_set]
    by_cases hj:k=j
    · subst hj
      simp [eU,Uj]
    · simp [hj]
   rw [this]
   exact h.nm
theorem yq:∀ (fs:List Fl) (k k0:Nat) (f:Fl),(fs.map (·.nm)).Nodup->fs[k]? = some f->eX (.str f.nm) (fR fs) k0=some (some (k0+k,V.s (.ptr f.fb 0))):=by
 intro fs
 induction fs with
 | nil=>intro k k0 f _ h;simp at h
 | cons a r ih =>
   intro k k0 f hn hk
   rw [List.map_cons,List.nodup_cons] at hn
   cases k with
   | zero =>
     simp at hk
     subst hk
     simp [fR,eX,iX]
   | succ k =>
     simp at hk
     have hne:f.nm≠a.nm:=fun e=>hn.1 (by rw [← e];exact List.mem_map_of_mem (f:=Fl.nm) (List.mem_of_getElem? hk))
     have:=ih k (k0+1) f hn.2 hk
     have e1:eX (.str f.nm) (fR (a::r)) k0=eX (.str f.nm) (fR r) (k0+1):=by simp [fR,eX,iX,hne]
     rw [e1,this,show k0+1+k=k0+(k+1) by omega]
theorem yu:∀ (fs:List Fl) (k0:Nat) (n:List UInt8),(∀ f∈fs,f.nm≠n)->eX (.str n) (fR fs) k0=some none:=by
 intro fs
 induction fs with
 | nil=>intro k0 n _;rfl
 | cons a r ih =>
   intro k0 n h
   have hne:n≠a.nm:=fun e=>h a List.mem_cons_self e.symm
   have:=ih (k0+1) n fun f hf=>h f (List.mem_cons_of_mem _ hf)
   simpa [fR,eX,iX,hne] using this
theorem Dk.vk (h:Dk s i m room fs):ab (Z (.ptr i 0)) s.get=some (I .i64 room):=ai h.ri rfl
theorem Dk.nR (h:Dk s i m room fs):ab (Z (.ptr i 1)) s.get=some (Z (.map m)):=ai h.ri rfl
theorem Dk.look (h:Dk s i m room fs) {k:Nat} {f:Fl} (hk:fs[k]? = some f):Go.Abs.F.look .s false (.s (.bU)) (Z (.map m)) (Z (.str f.nm)) s.get=some (Z (.ptr f.fb 0)):=by
 simp [Go.Abs.F.look,isKey,gf,h.mp,yq fs k 0 f h.nm hk]
theorem Dk.Qa (h:Dk s i m room fs) {n:List UInt8} (hn:∀ f∈fs,f.nm≠n):Go.Abs.F.look .s false (.s (.bU)) (Z (.map m)) (Z (.str n)) s.get=some (Z .bU):=by
 simp [Go.Abs.F.look,isKey,gf,h.mp,yu fs 0 n hn]
def tX (n:List UInt8):Prop:=∀ (d:Nat) s,R (d+1) 90 [Z (.str n)] s=some (B true,s)
theorem il (d:Nat) (h:Dk s i m room fs) {k:Nat} {f:Fl} (hk:fs[k]? = some f) (hm:tX f.nm):R (d+2) 36 [Z (.ptr i 0),Z (.str f.nm)] s=some (.eD [.s (.ptr f.fb 0),.s (.int .i64 0)],s):=by
 have l1:=h.nR
 have lk:=h.look hk
 rw [Ch]
 unfold f36
 have e':R (d+1) 90 [Z (.str f.nm)] s=some (B true,s):=hm d s
 generalize R (d+1)=r at e' ⊢
 simp [e',l1,lk,aQ,bI]
theorem fQ (d:Nat) (h:Dk s i m room fs) {n:List UInt8} (hn:∀ f∈fs,f.nm≠n) (hm:tX n):R (d+2) 36 [Z (.ptr i 0),Z (.str n)] s=some (.eD [.s .bU,.s (.int .i64 9)],s):=by
 have l1:=h.nR
 have lk:=h.Qa hn
 rw [Ch]
 unfold f36
 have e':R (d+1) 90 [Z (.str n)] s=some (B true,s):=hm d s
 generalize R (d+1)=r at e' ⊢
 simp [e',l1,lk,aQ,bI]
theorem Bo (d:Nat) (s:St) {a:List T} {r:T×St} (h:eV 29 a s=some r):R (d+1) 29 a s=some r:=dK ((bD rfl).trans (ed h))
theorem xc:∀ (fs:List Fl),(fs.map (·.nm)).Nodup->(∀ f∈fs,f.nm.length<=1000)->ic (fR fs)=some (fs.map (·.nm)):=by
 intro fs
 induction fs with
 | nil=>intro _ _;rfl
 | cons a r ih =>
   intro hn hl
   rw [List.map_cons,List.nodup_cons] at hn
   have h1:=ih hn.2 fun f hf=>hl f (List.mem_cons_of_mem _ hf)
   have h2:Nat.ble a.nm.length 1000=true:=Nat.ble_eq_true_of_le (hl a List.mem_cons_self)
   have h3:(r.map (·.nm)).contains a.nm=false:=by simpa using hn.1
   show ic ((S.str a.nm,V.s (.ptr a.fb 0))::fR r)=_
   unfold ic
   simp only [h1,h2,h3]
   rfl
theorem mS (d:Nat) (h:Dk s i m room fs) (hl:∀ f∈fs,f.nm.length<=1000) (hf:fs.length<=1000) :
 (fs=[]/\R (d+1) 29 [Z (.ptr i 0)] s=some (Z .az,s))\/(fs≠[]/\R (d+1) 29 [Z (.ptr i 0)] s=some (Z (.sl s.size 0 fs.length (.grown 1)),s.push (.cells false ((cA (fs.map (·.nm))).map S.str)))):=by
 have hk:=xc fs h.nm hl
 have hb:Nat.ble (fR fs).length 1000=true:=Nat.ble_eq_true_of_le (by simpa [fR] using hf)
 have hp:∀ r,eV 29 [Z (.ptr i 0)] s=some r->R (d+1) 29 [Z (.ptr i 0)] s=some r:=fun r hr=>Bo d s hr
 cases fs with
 | nil =>
   refine .inl ⟨rfl,hp _ ?_⟩
   have h1:=h.ri
   have h2:=h.mp
   unfold eV
   simp only [h1,List.getElem?_cons_succ,List.getElem?_cons_zero,h2,hb,hk,List.map_nil,Nat.zero_add]
 | cons a r =>
   refine .inr ⟨by simp,hp _ ?_⟩
   have h1:=h.ri
   have h2:=h.mp
   unfold eV
   simp only [h1,List.getElem?_cons_succ,List.getElem?_cons_zero,h2,hb,hk,List.map_cons,Nat.zero_add]
   simp
end
theorem pq:∀ a b:List UInt8,p9 a b=true↔a<=b
 | [],b=>by simp [p9]
 | x::r,[]=>by simp [p9]
 | x::r,y::t=>by
   rw [List.cons_le_cons_iff,← pq r t]
   have hb:∀ a b:Nat,Nat.blt a b=decide (a<b):=fun a b=>by
    by_cases h:a<b
    · rw [decide_eq_true h];simpa using h
    · rw [decide_eq_false h,← Bool.not_eq_true];simpa using h
   have he:∀ a b:Nat,Nat.beq a b=decide (a=b):=fun a b=>by
    by_cases h:a=b
    · rw [decide_eq_true h];subst h;exact Nat.beq_refl a
    · rw [decide_eq_false h,← Bool.not_eq_true];exact fun e=>h (Nat.eq_of_beq_eq_true e)
   rw [p9,hb,he]
   by_cases h:x.toNat<y.toNat
   · simp only [decide_eq_true h,true_iff]
     exact .inl (UInt8.lt_iff_toNat_lt.2 h)
   · have h2:¬ x<y:=fun e=>h (UInt8.lt_iff_toNat_lt.1 e)
     simp only [decide_eq_false h]
     by_cases e:x.toNat=y.toNat
     · have h4:x=y:=UInt8.toNat.inj e
       simp [h2,h4]
     · have h4:x≠y:=fun e'=>e (by rw [e'])
       simp [e,h2,h4]
theorem uy:∀ {es:List (S×V)} {ks:List (List UInt8)},ic es=some ks->es.map (·.1)=ks.map S.str/\ks.Nodup/\∀ n∈ks,n.length<=1000:=by
 intro es
 induction es with
 | nil=>intro ks h;cases h;exact ⟨rfl,.nil,fun n hn=>by cases hn⟩
 | cons p r ih =>
   intro ks h
   obtain ⟨k,v⟩:=p
   unfold ic at h
   split at h
   · rename_i heq;cases heq
   · rename_i n v' r' heq
     cases heq
     split at h
     · rename_i l hl
       split at h
       · rename_i hw
         cases h
         obtain ⟨h1,h2,h3⟩:=ih hl
         rw [Bool.and_eq_true] at hw
         have hn:n∉l:=by simpa using hw.2
         refine ⟨by simp [h1],List.nodup_cons.2 ⟨hn,h2⟩,fun m hm => ?_⟩
         rcases List.mem_cons.1 hm with rfl | hm
         · exact Nat.le_of_ble_eq_true hw.1
         · exact h3 m hm
       · cases h
     · cases h
   · cases h
theorem pG (n:List UInt8):∀ l:List (List UInt8),(Ei n l).Perm (n::l)
 | [] => .refl _
 | m::r=>by
   unfold Ei
   cases p9 n m with
   | true=>exact .refl _
   | false=>exact ((pG n r).cons m).trans (.swap n m r)
theorem qh (n:List UInt8):∀ l:List (List UInt8),l.Pairwise (· ≤ ·)->(Ei n l).Pairwise (· ≤ ·)
 | [],_=>List.pairwise_singleton _ _
 | m::r,h=>by
   unfold Ei
   cases hd:p9 n m with
   | true =>
     have jV:=(pq n m).1 hd
     refine List.pairwise_cons.2 ⟨fun x hx => ?_,h⟩
     rcases List.mem_cons.1 hx with rfl | hx
     · exact jV
     · exact List.le_trans jV ((List.pairwise_cons.1 h).1 x hx)
   | false =>
     have jV:m<=n:=by
      rcases List.le_total m n with h | h
      · exact h
      · rw [(pq n m).2 h] at hd;cases hd
     refine List.pairwise_cons.2 ⟨fun x hx => ?_,qh n r (List.pairwise_cons.1 h).2⟩
     rcases List.mem_cons.1 ((pG n r).mem_iff.1 hx) with rfl | hx
     · exact jV
     · exact (List.pairwise_cons.1 h).1 x hx
theorem bw:∀ l:List (List UInt8),(cA l).Perm l
 | [] => .refl _
 | n::r=>(pG n _).trans ((bw r).cons n)
theorem lB:∀ l:List (List UInt8),(cA l).Pairwise (· ≤ ·)
 | [] => .nil
 | n::r=>qh n _ (lB r)
theorem uz (l:List (List UInt8)):l.mergeSort (fun x y=>decide (x<=y))=cA l:=by
 have h1:(l.mergeSort (fun x y=>decide (x<=y))).Perm (cA l):=(List.mergeSort_perm _ _).trans (bw l).symm
 have h2:(l.mergeSort (fun x y=>decide (x<=y))).Pairwise (· ≤ ·):=by
  have:=List.pairwise_mergeSort (le:=fun x y:List UInt8=>decide (x<=y)) (by intro a b c;simp only [decide_eq_true_eq];exact List.le_trans) (by intro a b;simp only [Bool.or_eq_true,decide_eq_true_eq];exact List.le_total a b) l
  exact this.imp fun h=>by simpa using h
 exact h1.eq_of_pairwise (fun a b _ _ h h'=>List.le_antisymm h h') h2 (lB l)
def tot (fs:List Fl):Nat:=(fs.map (·.l.length)).sum
def lenOf:List Fl->List UInt8->Nat
 | [],_=>0
 | f::r,n=>if f.nm=n then f.l.length else lenOf r n
theorem yW:∀ (fs:List Fl) (k:Nat) (f:Fl),(fs.map (·.nm)).Nodup->fs[k]? = some f->lenOf fs f.nm=f.l.length:=by
 intro fs
 induction fs with
 | nil=>intro k f _ h;simp at h
 | cons a r ih =>
   intro k f hn hk
   rw [List.map_cons,List.nodup_cons] at hn
   cases k with
   | zero=>simp at hk;subst hk;simp [lenOf]
   | succ k =>
     simp at hk
     have hne:a.nm≠f.nm:=fun e=>hn.1 (by rw [e];exact List.mem_map_of_mem (f:=Fl.nm) (List.mem_of_getElem? hk))
     simp only [lenOf,if_neg hne]
     exact ih k f hn.2 hk
theorem Jf {l r:List Nat} (h:l.Perm r):l.sum=r.sum:=by
 induction h with
 | nil=>rfl
 | cons a _ ih=>simp [ih]
 | swap a b l=>simp;omega
 | trans _ _ ih1 ih2=>exact ih1.trans ih2
theorem B0 {fs:List Fl} (hn:(fs.map (·.nm)).Nodup):((cA (fs.map (·.nm))).map (lenOf fs)).sum=tot fs:=by
 rw [Jf ((bw _).map (lenOf fs)),List.map_map]
 unfold tot
 congr 1
 apply List.map_congr_left
 intro f hf
 obtain ⟨k,hk⟩:=List.getElem?_of_mem hf
 exact yW fs k f hn hk
section
variable {s t:St} {i m:Nat} {room:Int} {fs:List Fl}
theorem xE:∀ (fs:List Fl),(∀ f∈fs,f.l.length<=50000)->tot fs<=50000*fs.length:=by
 intro fs
 induction fs with
 | nil=>intro _;simp [tot]
 | cons a r ih =>
   intro h
   have h1:=ih fun f hf=>h f (List.mem_cons_of_mem _ hf)
   have h2:=h a List.mem_cons_self
   simp only [tot,List.map_cons,List.sum_cons,List.length_cons] at h1 ⊢
   omega
theorem M5 {ks:List (List UInt8)} {fs:List Fl} (j:Nat):((ks.take j).map (lenOf fs)).sum<=(ks.map (lenOf fs)).sum:=by
 have:ks.map (lenOf fs)=(ks.take j).map (lenOf fs)++(ks.drop j).map (lenOf fs):=by rw [← List.map_append,List.take_append_drop]
 rw [this,List.sum_append]
 omega
theorem lP (d:Nat) (h:Dk s i m room fs) (hl:∀ f∈fs,f.nm.length<=1000) (hf:fs.length<=500):∃ t,R (d+2) 30 [Z (.ptr i 0)] s=some (I .i64 (tot fs),t)/\Gr s t:=by
 rw [Lp]
 unfold f30
 rcases mS d h hl (by omega) with ⟨rfl,e⟩ | ⟨hne,e⟩
 · refine ⟨s,?_,Gr.refl h.wf⟩
   generalize R (d+1)=r at e ⊢
   have lp:loops (mU r 8192) 8192 [Z (.ptr i 0),I .i64 0,Z .az,I .i64 0,I .i64 0] s=some (.exit 0 [I .i64 0],s):=by
    rw [show (8192:Nat)=8191+1 from rfl,loops]
    have:mU r 8192 [Z (.ptr i 0),I .i64 0,Z .az,I .i64 0,I .i64 0] s=some (.exit 0 [I .i64 0],s):=by
     unfold mU
     simp
    rw [this]
   simp [e,lp,tot]
 · obtain ⟨ks,hks⟩:∃ ks,ks=cA (fs.map (·.nm)):=⟨_,rfl⟩
   rw [← hks] at e
   obtain ⟨t,ht⟩:∃ t,t=s.push (.cells false (ks.map S.str)):=⟨_,rfl⟩
   rw [← ht] at e
   have g:Gr s t:=by rw [ht];exact Gr.push h.wf _
   have hg:=h.gr g
   have eU:ks.length=fs.length:=by rw [hks,(bw _).length_eq,List.length_map]
   have hts:=B0 h.nm
   rw [← hks] at hts
   have SG:=xE fs fun f hf=>by
    obtain ⟨k,hk⟩:=List.getElem?_of_mem hf
    exact (h.fl k f hk).2.2.2.1
   have hblk:t.get s.size=some (.cells false (ks.map S.str)):=by rw [ht];exact St.aq _ _
   refine ⟨t,?_,g⟩
   generalize R (d+1)=r at e ⊢
   obtain ⟨j,τ,hlp,hj,pW⟩:=aW (f:=mU r 8192) (fun k v u=>∃ j:Nat,k+j=fs.length/\v=[Z (.ptr i 0),I .i64 (((ks.take j).map (lenOf fs)).sum:Nat),Z (.sl s.size 0 fs.length (.grown 1)),I .i64 fs.length,I .i64 j]/\u=t) (fun j u=>j = .exit 0 [I .i64 (tot fs)]/\u=t) (by
    rintro k v u ⟨j,hk,rfl,rfl⟩
    by_cases hj:j<fs.length
    · left
      obtain ⟨nm,hnm⟩:∃ nm,ks[j]? = some nm:=⟨_,List.getElem?_eq_getElem (by omega)⟩
      have gy:nm∈fs.map (·.nm):=(bw _).mem_iff.1 (by rw [← hks];exact List.mem_of_getElem? hnm)
      obtain ⟨f,qE,rfl⟩:=List.mem_map.1 gy
      obtain ⟨q,hq⟩:=List.getElem?_of_mem qE
      have ix:av 1 (Z (.sl s.size 0 fs.length (.grown 1))) (I .i64 j)=some (Z (.ptr s.size j)):=by rw [cZ rfl hj];simp
      have ld:ab (Z (.ptr s.size j)) u.get=some (Z (.str f.nm)):=ai hblk (by rw [List.getElem?_map,hnm];rfl)
      have lk:=hg.look hq
      obtain ⟨a1,a2,_⟩:=hg.fl q f hq
      have lf:ab (Z (.ptr f.fb 0)) u.get=some (Z f.x):=ai a1 rfl
      have ll:=a2.rd.lens
      have YM:=M5 (ks:=ks) (fs:=fs) (j+1)
      have hsum:((ks.take (j+1)).map (lenOf fs)).sum=((ks.take j).map (lenOf fs)).sum+f.l.length:=by
       rw [List.take_add_one,hnm,List.map_append,List.sum_append]
       simp [yW fs q f h.nm hq]
      have w1:IntKind.i64.wrap ((((ks.take j).map (lenOf fs)).sum:Nat)+f.l.length:Int)=(((ks.take (j+1)).map (lenOf fs)).sum:Nat):=by
       rw [aB _ (by omega) (by omega),hsum]
       omega
      have w2:IntKind.i64.wrap ((j:Int)+1)=(j:Int)+1:=aB _ (by omega) (by omega)
      have hlt:(j:Int)<(fs.length:Int):=by omega
      have l1:=hg.nR
      refine ⟨[Z (.ptr i 0),I .i64 (((ks.take (j+1)).map (lenOf fs)).sum:Nat),Z (.sl s.size 0 fs.length (.grown 1)),I .i64 fs.length,I .i64 ((j:Int)+1)],u,k-1,?_,by omega,j+1,by omega,by simp,rfl⟩
      generalize ((ks.take j).map (lenOf fs)).sum=A at w1 ⊢
      generalize ((ks.take (j+1)).map (lenOf fs)).sum=A' at w1 ⊢
      unfold mU
      simp [hlt,ix,ld,l1,lk,lf,ll,w1,w2]
    · right
      have hlt:¬ (j:Int)<(fs.length:Int):=by omega
      have hj':j=fs.length:=by omega
      have kZ:ks.take j=ks:=List.take_of_length_le (by omega)
      refine ⟨_,u,?_,(fun v hv=>by cases hv),rfl,rfl⟩
      rw [kZ,hts]
      unfold mU
      simp [hlt]) 8192 fs.length [Z (.ptr i 0),I .i64 0,Z (.sl s.size 0 fs.length (.grown 1)),I .i64 fs.length,I .i64 0] t ⟨0,by omega,by simp,rfl⟩ (by omega)
   subst hj;subst pW
   simp [e,hlp]
def tY (fs:List Fl):Prop:=(∀ f∈fs,f.nm.length<=1000)/\fs.length<=100
theorem ym (d:Nat) (h:Dk s i m room fs) (hn:tY fs) {k:Nat} {f:Fl} (hk:fs[k]? = some f) (hm:tX f.nm) {y:S} {xs:List S} (hy:xK s y xs) (Mo:∀ c,own y=some c->c<s.size)
 (hroom:(tot fs:Int)+xs.length<=room) (hlen:xs.length<=40000) (hfl:f.l.length+xs.length<=50000) :
 ∃ x' t,R (d+3) 12 [Z (.ptr i 0),Z (.str f.nm),Z y] s=some (I .i64 0,t)/\Dk t i m room (fs.set k { f with x:=x',l:=f.l++xs,sure:=f.sure })/\s.size<=t.size ∧
   (∀ b,b<s.size->b≠f.fb->own f.x≠some b->t.get b=s.get b)/\(own x'=none\/own x'=own f.x\/∃ c,own x'=some c/\s.size<=c):=by
 rw [wK]
 unfold f12
 have e1:=il d h hk hm
 obtain ⟨s1,e2,g⟩:=lP d h hn.1 (by have:=hn.2;omega)
 have h1:=h.gr g
 obtain ⟨a1,a2,a3,a4,a5,a6,a7⟩:=h1.fl k f hk
 have hy1:xK s1 y xs:=hy.keep fun c hc=>g.2.2 c (Mo c hc)
 obtain ⟨x',t,ap,q1,q2,q3,q4,q5⟩:=uN a2 h1.wf hy1 (by omega)
 have l0:=h.vk
 have NX:=h1.vk
 have lf:ab (Z (.ptr f.fb 0)) s1.get=some (Z f.x):=ai a1 rfl
 have SG:=xE fs fun f hf=>by
  obtain ⟨k,hk⟩:=List.getElem?_of_mem hf
  exact (h.fl k f hk).2.2.2.1
 have QY:=hn.2
 have w1:IntKind.i64.wrap ((tot fs:Int)+xs.length)=(tot fs:Int)+xs.length:=aB _ (by omega) (by omega)
 have hr:¬ room<(tot fs:Int)+xs.length:=by omega
 have eC:=hy.lens
 have hft:t.get f.fb=some (.cells true [f.x,.int .i64 f.sure]):=by
  rw [q4 f.fb (h1.wf.lt a1) (fun e=>((h1.ap k k f f hk hk).2 _ e).1 rfl)]
  exact a1
 have st:aw 1 (Z (.ptr f.fb 0)) (Z x') t=some (tt,t.set f.fb (.cells true [x',.int .i64 f.sure])):=aT hft (by simp)
 have hs1:=g.2.1
 refine ⟨x',t.set f.fb (.cells true [x',.int .i64 f.sure]),?_,?_,by simp;omega,fun b hb uh iu => ?_,?_⟩
 · generalize R (d+2)=r at e1 e2 ⊢
   simp [e1,ah,e2,eC,l0,NX,w1,hr,lf,ap,st,wq]
 · refine h1.qL hk (St.wf_set q1 (by have:=h1.wf.lt a1;omega) _) (by simpa using q2) (fun b hb uh iu => ?_) (St.ar _ _ _) (q3.keep fun c hc => ?_) (by simp;omega) (by simp;omega) q5
   · rw [St.aj _ _ uh]
     exact q4 b hb iu
   · refine St.aj _ _ fun e => ?_
     have hlt:=h1.wf.lt a1
     rcases q5 with e' | e' | ⟨c',e',gY⟩
     · rw [e'] at hc;cases hc
     · rw [e'] at hc
       exact ((h1.ap k k f f hk hk).2 c hc).1 e
     · rw [e'] at hc
       cases hc
       omega
 · rw [St.aj _ _ uh,q4 b (by omega) iu]
   exact g.2.2 b hb
 · rcases q5 with e | e | ⟨c,e,hc⟩
   · exact .inl e
   · exact .inr (.inl e)
   · exact .inr (.inr ⟨c,e,by omega⟩)
theorem yy (fs:List Fl) (f:Fl):fR (fs++[f])=fR fs++[(S.str f.nm,V.s (.ptr f.fb 0))]:=by simp [fR]
theorem Dk.more (h:Dk s i m room fs) {f:Fl} (hno:∀ g∈fs,g.nm≠f.nm) (wf:t.wf) (hsz:s.size<=t.size) (hF:∀ b,b<s.size->b≠m->t.get b=s.get b) (hm:t.get m=some (.map (fR (fs++[f]))))
 (PE:t.get f.fb=some (.cells true [f.x,.int .i64 f.sure])) (hb:s.size<=f.fb) (JA:BS t f.x f.l) (Hp:f.sure<=f.l.length) (hl:f.l.length<=50000) (hx:∀ c,own f.x=some c->s.size<=c/\c≠f.fb) :
 Dk t i m room (fs++[f]):=by
 have hi:=h.wf.lt h.ri
 have Hj:=h.wf.lt h.mp
 have hmi:m≠i:=fun e=>by
  have h1:=h.mp
  rw [e,h.ri] at h1
  cases h1
 have cg:∀ j g,(fs++[f])[j]? = some g->(j<fs.length/\fs[j]? = some g)\/(j=fs.length/\g=f):=fun j g hg=>by
  by_cases hj:j<fs.length
  · rw [List.getElem?_append_left hj] at hg
    exact .inl ⟨hj,hg⟩
  · rw [List.getElem?_append_right (by omega)] at hg
    have:j-fs.length=0:=by
     have:=(List.getElem?_eq_some_iff.1 hg).1
     simp at this
     omega
    rw [this] at hg
    simp at hg
    exact .inr ⟨by omega,hg.symm⟩
 refine ⟨wf,by rw [hF i hi (Ne.symm hmi)];exact h.ri,hm,fun j g hg => ?_,fun j j' g g' hg uW => ?_,?_⟩
 · rcases cg j g hg with ⟨hj,ho⟩ | ⟨rfl,rfl⟩
   · obtain ⟨b1,b2,b3,b4,b5,b6,b7⟩:=h.fl j g ho
     exact ⟨by rw [hF _ (h.wf.lt b1) b6];exact b1,b2.keep fun c hc=>hF c (b2.lt h.wf hc) (b7 c hc).2,b3,b4,b5,b6,b7⟩
   · exact ⟨PE,JA,Hp,hl,by omega,by omega,fun c hc=>by have:=(hx c hc).1;exact ⟨by omega,by omega⟩⟩
 · rcases cg j g hg with ⟨hj,ho⟩ | ⟨rfl,rfl⟩
   · obtain ⟨b1,b2,_⟩:=h.fl j g ho
     rcases cg j' g' uW with ⟨hj',tS⟩ | ⟨rfl,rfl⟩
     · exact h.ap j j' g g' ho tS
     · have:=h.wf.lt b1
       exact ⟨fun _=>by omega,fun c hc=>by
        have:=b2.lt h.wf hc
        exact ⟨by omega,fun _ e=>by have:=(hx c e).1;omega⟩⟩
   · rcases cg j' g' uW with ⟨hj',tS⟩ | ⟨rfl,rfl⟩
     · obtain ⟨b1,b2,_⟩:=h.fl j' g' tS
       have:=h.wf.lt b1
       exact ⟨fun _=>by omega,fun c hc=>by
        have:=(hx c hc).1
        exact ⟨by omega,fun _ e=>by have:=b2.lt h.wf e;omega⟩⟩
     · exact ⟨fun e=>absurd rfl e,fun c hc=>⟨(hx c hc).2,fun e=>absurd rfl e⟩⟩
 · rw [List.map_append,List.nodup_append]
   refine ⟨h.nm,by simp,fun a ha b hb' => ?_⟩
   obtain ⟨g,hg,rfl⟩:=List.mem_map.1 ha
   simp at hb'
   subst hb'
   exact hno g hg
theorem pS (d:Nat) (h:Dk s i m room fs) (hn:tY fs) {nm:List UInt8} (hno:∀ g∈fs,g.nm≠nm) (hm:tX nm) {y:S} {xs:List S} (hy:xK s y xs) (Mo:∀ c,own y=some c->c<s.size)
 (hym:own y≠some m) (hroom:(tot fs:Int)+xs.length<=room) (hlen:xs.length<=40000) :
 ∃ x' fb t,R (d+3) 12 [Z (.ptr i 0),Z (.str nm),Z y] s=some (I .i64 0,t)/\Dk t i m room (fs++[⟨nm,fb,x',xs,0⟩])/\s.size<=t.size/\(∀ b,b<s.size->b≠m->t.get b=s.get b)/\s.size<=fb/\(∀ c,own x'=some c->s.size<=c):=by
 rw [wK]
 unfold f12
 have e1:=fQ d h hno hm
 obtain ⟨s1,e2,g⟩:=lP d h hn.1 (by have:=hn.2;omega)
 have h1:=h.gr g
 have QY:=hn.2
 have l0:=h.vk
 have NX:=h1.vk
 have l1:=h.nR
 have eC:=hy.lens
 have SG:=xE fs fun f hf=>by
  obtain ⟨k,hk⟩:=List.getElem?_of_mem hf
  exact (h.fl k f hk).2.2.2.1
 have w1:IntKind.i64.wrap ((tot fs:Int)+xs.length)=(tot fs:Int)+xs.length:=aB _ (by omega) (by omega)
 have hr:¬ room<(tot fs:Int)+xs.length:=by omega
 have VO:ga (Z (.map m)) s.get=some (I .i64 fs.length):=by simp [ga,h.mp,fR]
 have hfl:¬ (fs.length:Int)=200:=by omega
 obtain ⟨s2,pd⟩:∃ s2,s2=s1.push (.cells true [.az,.int .i64 0]):=⟨_,rfl⟩
 have g2:Gr s1 s2:=by rw [pd];exact Gr.push h1.wf _
 have VF:s2.get s1.size=some (.cells true [.az,.int .i64 0]):=by rw [pd];exact St.aq _ _
 have h2:=h1.gr g2
 have l2:=h2.nR
 have nw:aK s1 (ct (.v (.agg [.az,.int .i64 0])))=some (Z (.ptr s1.size 0),s2):=by simp [aK,ct,V.cells,pd]
 obtain ⟨s3,mw⟩:∃ s3,s3=s2.set m (.map (fR fs++[(S.str nm,V.s (.ptr s1.size 0))])):=⟨_,rfl⟩
 have ms:Ee .s (Z (.map m)) (Z (.str nm)) (Z (.ptr s1.size 0)) s2=some (tt,s3):=by
  simp [Ee,isKey,gV,h2.mp,yu fs 0 nm hno,mw]
 have Hj:=h2.wf.lt h2.mp
 have f3:s3.wf:=by rw [mw];exact St.wf_set h2.wf Hj _
 have z3:s3.size=s2.size:=by rw [mw];rfl
 have k3:∀ b,b≠m->s3.get b=s2.get b:=fun b hb=>by rw [mw,St.aj _ _ hb]
 have Md:=h.wf.lt h.mp
 have hs1:=g.2.1
 have sP:s2.size=s1.size+1:=by rw [pd];rfl
 have R6:s3.get s1.size=some (.cells true [.az,.int .i64 0]):=by rw [k3 _ (by omega)];exact VF
 have lf:ab (Z (.ptr s1.size 0)) s3.get=some (Z .az):=ai R6 rfl
 have Uu:xK s3 y xs:=hy.keep fun c hc=>by
  have:=Mo c hc
  rw [k3 c (fun e=>hym (by rw [← e];exact hc)),g2.2.2 c (by omega),g.2.2 c this]
 obtain ⟨x',t,ap,q1,q2,q3,q4,q5⟩:=uN (l:=[]) (.inl ⟨rfl,rfl⟩:BS s3 .az []) f3 Uu (by simp;omega)
 have hft:t.get s1.size=some (.cells true [.az,.int .i64 0]):=by rw [q4 s1.size (by omega) (by simp [own])];exact R6
 have st:aw 1 (Z (.ptr s1.size 0)) (Z x') t=some (tt,t.set s1.size (.cells true [x',.int .i64 0])):=aT hft (by simp)
 have hown:∀ c,own x'=some c->s3.size<=c:=fun c hc=>by
  rcases q5 with e | e | ⟨c',e,gY⟩
  · rw [e] at hc;cases hc
  · rw [e] at hc;cases hc
  · rw [e] at hc;cases hc;exact gY
 refine ⟨x',s1.size,t.set s1.size (.cells true [x',.int .i64 0]),?_,?_,by simp;omega,fun b hb uh => ?_,hs1,fun c hc=>by have:=hown c hc;omega⟩
 · generalize R (d+2)=r at e1 e2 ⊢
   have ag:aU (aE [.az,.int .i64 0] [])=some (.v (.agg [.az,.int .i64 0])):=rfl
   simp [e1,ah,e2,eC,l0,NX,l1,VO,hfl,w1,hr,ag,nw,l2,ms,lf,ap,st,wq]
 · have ht:∀ b,b<s.size->b≠m->(t.set s1.size (.cells true [x',.int .i64 0])).get b=s.get b:=fun b hb uh=>by
    rw [St.aj _ _ (by omega),q4 b (by omega) (by simp [own]),k3 b uh,g2.2.2 b (by omega),g.2.2 b hb]
   refine h.more (f:=⟨nm,s1.size,x',xs,0⟩) hno (St.wf_set q1 (by omega) _) (by simp;omega) ht ?_ (St.ar _ _ _) hs1 (q3.keep fun c hc=>St.aj _ _ (by have:=hown c hc;omega)) (by simp) (by simp;omega) fun c hc=>by have:=hown c hc;exact ⟨by omega,by show c≠s1.size;omega⟩
   rw [St.aj _ _ (by omega),q4 m (by omega) (by simp [own]),yy,mw,St.ar]
 · rw [St.aj _ _ (by omega),q4 b (by omega) (by simp [own]),k3 b uh,g2.2.2 b (by omega),g.2.2 b hb]
theorem wC (d:Nat) (h:Dk s i m room fs) (hn:tY fs) {nm:List UInt8} (hm:tX nm) {y:S} {xs:List S} (hy:xK s y xs) (Mo:∀ c,own y=some c->c<s.size) (hlen:xs.length<=40000) (hroom:room<(tot fs:Int)+xs.length)
 (hk:(∃ (k:Nat) (f:Fl),fs[k]? = some f/\f.nm=nm)\/∀ g∈fs,g.nm≠nm):∃ t,R (d+3) 12 [Z (.ptr i 0),Z (.str nm),Z y] s=some (I .i64 8,t)/\Gr s t:=by
 rw [wK]
 unfold f12
 obtain ⟨s1,e2,g⟩:=lP d h hn.1 (by have:=hn.2;omega)
 have h1:=h.gr g
 have QY:=hn.2
 have NX:=h1.vk
 have l0:=h.vk
 have l1:=h.nR
 have eC:=hy.lens
 have SG:=xE fs fun f hf=>by
  obtain ⟨k,hk⟩:=List.getElem?_of_mem hf
  exact (h.fl k f hk).2.2.2.1
 have w1:IntKind.i64.wrap ((tot fs:Int)+xs.length)=(tot fs:Int)+xs.length:=aB _ (by omega) (by omega)
 have VO:ga (Z (.map m)) s.get=some (I .i64 fs.length):=by simp [ga,h.mp,fR]
 have hfl:¬ (fs.length:Int)=200:=by omega
 refine ⟨s1,?_,g⟩
 rcases hk with ⟨k,f,hk,rfl⟩ | hno
 · have e1:=il d h hk hm
   generalize R (d+2)=r at e1 e2 ⊢
   simp [e1,ah,e2,eC,NX,l0,w1,hroom,wq]
 · have e1:=fQ d h hno hm
   generalize R (d+2)=r at e1 e2 ⊢
   simp [e1,ah,e2,eC,NX,l0,l1,VO,hfl,w1,hroom,wq]
theorem uQ (d:Nat) (h:Dk s i m room fs) {k:Nat} {f:Fl} (hk:fs[k]? = some f) (hm:tX f.nm) :
 ∃ t,R (d+3) 47 [Z (.ptr i 0),Z (.str f.nm)] s=some (I .i64 0,t)/\Dk t i m room (fs.set k { f with x:=f.x,l:=f.l,sure:=f.l.length })/\s.size<=t.size/\∀ b,b≠f.fb->t.get b=s.get b:=by
 rw [Ck]
 unfold f47
 have e1:=il d h hk hm
 obtain ⟨a1,a2,a3,a4,a5,a6,a7⟩:=h.fl k f hk
 have lf:ab (Z (.ptr f.fb 0)) s.get=some (Z f.x):=ai a1 rfl
 have ll:=a2.rd.lens
 have st:aw 1 (Z (.ptr f.fb 1)) (I .i64 f.l.length) s=some (tt,s.set f.fb (.cells true [f.x,.int .i64 f.l.length])):=aT a1 (by simp)
 have hfl:=h.wf.lt a1
 refine ⟨s.set f.fb (.cells true [f.x,.int .i64 f.l.length]),?_,?_,by simp,fun b hb=>St.aj _ _ hb⟩
 · generalize R (d+2)=r at e1 ⊢
   simp [e1,ah,lf,ll,st]
 · refine h.qL hk (St.wf_set h.wf hfl _) (by simp) (fun b _ hb _=>St.aj _ _ hb) (St.ar _ _ _) (a2.keep fun c hc=>St.aj _ _ ((h.ap k k f f hk hk).2 c hc).1) (Nat.le_refl _) a4 (.inr (.inl rfl))
theorem FQ (d:Nat) (h:Dk s i m room fs) {k:Nat} {f:Fl} (hk:fs[k]? = some f) (hm:tX f.nm) {n:Nat} (hn:n<=f.l.length) :
 ∃ x' t,R (d+3) 45 [Z (.ptr i 0),Z (.str f.nm),I .i64 n] s=some (I .i64 0,t)/\Dk t i m room (fs.set k { f with x:=x',l:=f.l.take n,sure:=min f.sure n })/\s.size<=t.size/\(∀ b,b≠f.fb->t.get b=s.get b)/\(own x'=none\/own x'=own f.x):=by
 rw [Cj]
 unfold f45
 have e1:=il d h hk hm
 obtain ⟨a1,a2,a3,a4,a5,a6,a7⟩:=h.fl k f hk
 obtain ⟨x',pc,b1,b2⟩:=FK a2 hn
 have lf:ab (Z (.ptr f.fb 0)) s.get=some (Z f.x):=ai a1 rfl
 have UE:ab (Z (.ptr f.fb 1)) s.get=some (I .i64 f.sure):=ai a1 rfl
 have ll:=a2.rd.lens
 have hfl:=h.wf.lt a1
 have c0:¬ (n:Int)<0:=by omega
 have c1:¬ (f.l.length:Int)<(n:Int):=by omega
 have st:aw 1 (Z (.ptr f.fb 0)) (Z x') s=some (tt,s.set f.fb (.cells true [x',.int .i64 f.sure])):=aT a1 (by simp)
 have xV:aw 1 (Z (.ptr f.fb 1)) (I .i64 (min (f.sure:Int) n)) (s.set f.fb (.cells true [x',.int .i64 f.sure]))=some (tt,(s.set f.fb (.cells true [x',.int .i64 f.sure])).set f.fb (.cells true [x',.int .i64 (min (f.sure:Int) n)])):=aT (St.ar _ _ _) (by simp)
 have hF:∀ b,b≠f.fb->((s.set f.fb (.cells true [x',.int .i64 f.sure])).set f.fb (.cells true [x',.int .i64 (min (f.sure:Int) n)])).get b=s.get b:=fun b hb=>by rw [St.aj _ _ hb,St.aj _ _ hb]
 have pb:(min (f.sure:Int) n)=((min f.sure n:Nat):Int):=by omega
 refine ⟨x',_,?_,?_,by simp,hF,b2⟩
 · generalize R (d+2)=r at e1 ⊢
   simp [e1,ah,lf,UE,ll,c0,c1,pc,st,xV]
 · refine h.qL hk (St.wf_set (St.wf_set h.wf hfl _) hfl _) (by simp) (fun b _ hb _=>hF b hb) (by rw [St.ar,pb]) (b1.keep fun c hc=>hF c ?_) (by rw [List.length_take];omega) (by rw [List.length_take];omega) (by rcases b2 with e | e;exact .inl e;exact .inr (.inl e))
   rcases b2 with e | e
   · rw [e] at hc;cases hc
   · rw [e] at hc
     exact ((h.ap k k f f hk hk).2 c hc).1
end
section
variable {s t:St} {i m:Nat} {room:Int} {fs:List Fl}
theorem FU (d:Nat) (wf:s.wf) (h0:0<=room) (h1:room<=1048576):∃ t,R (d+1) 10 [I .i64 room] s=some (Z (.ptr (s.size+1) 0),t)/\Dk t (s.size+1) s.size room []/\Gr s t:=by
 have c0:¬ room<0:=by omega
 have c1:¬ 1048576<room:=by omega
 obtain ⟨t,ht⟩:∃ t,t=(s.push (.map [])).push (.cells true [.int .i64 room,.map s.size]):=⟨_,rfl⟩
 have f:t.wf:=by rw [ht];exact St.bn (St.bn wf _) _
 refine ⟨t,?_,⟨f,?_,?_,fun k f hf=>by simp at hf,fun k k' f f' hf=>by simp at hf,List.nodup_nil⟩,f,by rw [ht];simp;omega,fun b hb=>by rw [ht,St.aI _ _ (by rw [St.size_push];omega),St.aI _ _ (by omega)]⟩
 · rw [Ke]
   unfold f10
   simp [c0,c1,aK,MJ,ct,aE,V.cells,aO,aU,ht]
 · have:=St.aq (s.push (.map [])) (.cells true [.int .i64 room,.map s.size])
   rwa [St.size_push,← ht] at this
 · rw [ht,St.aI _ _ (by rw [St.size_push];omega),St.aq]
   rfl
theorem Ar (d:Nat) (wf:s.wf) {x:S} {l:List S} (hb:BS s x l) (hl:l.length<=50000):∃ y t,R (d+1) 92 [Z x] s=some (Z y,t)/\Gr s t/\xK t y l/\∀ c,own y=some c->s.size<=c/\c<t.size:=by
 rw [LR]
 unfold f92
 have go:iC .l (Z x) (Z .az)=some (B false)->∃ y t,(bd (iC .l (Z x) (Z .az)) fun t4=>br t4 (some ((Z .az),s)) (ay (aK s (aR 0 (aE [] []))) fun t5 s1=>ay (aH 1 1 t5 (Z x) s1) fun t7 s2=>some (t7,s2)))=some (Z y,t)/\Gr s t/\xK t y l/\∀ c,own y=some c->s.size<=c/\c<t.size:=by
  intro e
  have L:=Fr.lit 1 wf (n:=0) (vs:=[]) rfl
  have nw:aK s (aR 0 (aE [] []))=some (Z (.sl s.size 0 0 (.known 0)),s.push (.cells true [])):=by simp [aK,aR,aE]
  obtain ⟨y,t,ap,F,_,_⟩:=L.append (by_:=1) (by omega) ((hb.keep (t:=s.push (.cells true [])) fun c hc=>L.gr.2.2 c (hb.lt wf hc)).rd.src) (by simp) (by omega)
  refine ⟨y,t,?_,F.gr,by simpa using F.rd,F.new⟩
  simp [e,nw,ap]
 rcases hb with ⟨rfl,rfl⟩ | ⟨c,rows,rfl,rfl,h1⟩ | ⟨c,rows,rfl,h1,h2,h3⟩
 · have e:iC .l (Z .az) (Z .az)=some (B true):=rfl
   exact ⟨.az,s,by simp [e],Gr.refl wf,Rd.nil 1 s,fun c hc=>by cases hc⟩
 · exact go rfl
 · exact go rfl
theorem uP (d:Nat) (h:Dk s i m room fs) {k:Nat} {f:Fl} (hk:fs[k]? = some f) (hm:tX f.nm) :
 ∃ y t,R (d+3) 42 [Z (.ptr i 0),Z (.str f.nm)] s=some (.eD [.s y,.s (.int .i64 0)],t)/\Gr s t/\xK t y f.l/\∀ c,own y=some c->s.size<=c/\c<t.size:=by
 rw [Ci]
 unfold f42
 have e1:=il d h hk hm
 obtain ⟨a1,a2,a3,a4,_⟩:=h.fl k f hk
 have lf:ab (Z (.ptr f.fb 0)) s.get=some (Z f.x):=ai a1 rfl
 obtain ⟨y,t,e2,g,hr,ho⟩:=Ar (d+1) h.wf a2 a4
 refine ⟨y,t,?_,g,hr,ho⟩
 have Jx:R (d+2) 92 [Z f.x] s=some (Z y,t):=e2
 generalize R (d+2)=r at e1 Jx ⊢
 simp [e1,ah,lf,Jx,aQ,bI]
theorem AA (d:Nat) (h:Dk s i m room fs) {nm:List UInt8} (hno:∀ g∈fs,g.nm≠nm) (hm:tX nm):R (d+3) 42 [Z (.ptr i 0),Z (.str nm)] s=some (.eD [.s .az,.s (.int .i64 9)],s):=by
 rw [Ci]
 unfold f42
 have e1:=fQ d h hno hm
 generalize R (d+2)=r at e1 ⊢
 simp [e1,ah,aQ,bI]
end
section
variable {s t:St} {i m:Nat} {room:Int} {fs fs':List Fl}
theorem Dk.rem (h:Dk s i m room fs) {k:Nat} {f:Fl} (hk:fs[k]? = some f) (wf:t.wf) (hsz:s.size<=t.size) (hF:∀ b,b<s.size->b≠m->t.get b=s.get b) (hm:t.get m=some (.map (fR (fs.eraseIdx k)))):Dk t i m room (fs.eraseIdx k):=by
 have hi:=h.wf.lt h.ri
 have Me:=h.wf.lt h.mp
 have him:i≠m:=fun e=>by
  have h1:=h.ri
  have h2:=h.mp
  rw [e,h2] at h1;cases h1
 have back:∀ (j:Nat) (g:Fl),(fs.eraseIdx k)[j]? = some g->∃ j',fs[j']? = some g/\j'=(if j<k then j else j+1):=fun j g hg=>by
  rw [List.getElem?_eraseIdx] at hg
  by_cases hj:j<k
  · rw [if_pos hj] at hg;exact ⟨j,hg,by rw [if_pos hj]⟩
  · rw [if_neg hj] at hg;exact ⟨j+1,hg,by rw [if_neg hj]⟩
 refine ⟨wf,by rw [hF i hi him];exact h.ri,hm,fun j g hg => ?_,fun j j' g g' hg uW => ?_,?_⟩
 · obtain ⟨q,hq,_⟩:=back j g hg
   obtain ⟨a1,a2,a3,a4,a5,a6,a7⟩:=h.fl q g hq
   exact ⟨by rw [hF _ (h.wf.lt a1) a6];exact a1,a2.keep fun c hc=>hF c (a2.lt h.wf hc) (a7 c hc).2,a3,a4,a5,a6,a7⟩
 · obtain ⟨q,hq,eq⟩:=back j g hg
   obtain ⟨q',pV,ZR⟩:=back j' g' uW
   obtain ⟨b1,b2⟩:=h.ap q q' g g' hq pV
   have hne:j≠j'->q≠q':=fun hne=>by
    rw [eq,ZR]
    split<;>split<;>omega
   exact ⟨fun e=>b1 (hne e),fun c hc=>⟨(b2 c hc).1,fun e=>(b2 c hc).2 (hne e)⟩⟩
 · have:(fs.eraseIdx k).map (·.nm)=(fs.map (·.nm)).eraseIdx k:=by
    apply List.ext_getElem?
    intro j
    rw [List.getElem?_map,List.getElem?_eraseIdx,List.getElem?_eraseIdx]
    split<;>rw [List.getElem?_map]
   rw [this]
   exact h.nm.sublist (List.eraseIdx_sublist _ _)
theorem AF (fs:List Fl) (k:Nat):(fR fs).eraseIdx k=fR (fs.eraseIdx k):=by
 unfold fR
 apply List.ext_getElem?
 intro j
 rw [List.getElem?_map,List.getElem?_eraseIdx,List.getElem?_eraseIdx]
 split<;>rw [List.getElem?_map]
theorem yw (d:Nat) (h:Dk s i m room fs) {k:Nat} {f:Fl} (hk:fs[k]? = some f) (hm:tX f.nm) :
 ∃ t,R (d+3) 54 [Z (.ptr i 0),Z (.str f.nm)] s=some (I .i64 0,t)/\Dk t i m room (fs.eraseIdx k)/\t.size=s.size/\∀ b,b≠m->t.get b=s.get b:=by
 rw [Cl]
 unfold f54
 have e1:=il d h hk hm
 have l1:=h.nR
 obtain ⟨t,ht⟩:∃ t,t=s.set m (.map (fR (fs.eraseIdx k))):=⟨_,rfl⟩
 have de:Qd .s (Z (.map m)) (Z (.str f.nm)) s=some (tt,t):=by
  have h1:=yq fs k 0 f h.nm hk
  rw [Nat.zero_add] at h1
  rw [ht]
  simp [Qd,isKey,jK,h.mp,h1,AF]
 have Me:=h.wf.lt h.mp
 refine ⟨t,?_,h.rem hk (by rw [ht];exact St.wf_set h.wf Me _) (by rw [ht];simp) (fun b _ hb=>by rw [ht];exact St.aj _ _ hb) (by rw [ht];exact St.ar _ _ _),by rw [ht];simp,fun b hb=>by rw [ht];exact St.aj _ _ hb⟩
 generalize R (d+2)=r at *
 simp [e1,ah,l1,de]
theorem nu (d:Nat) (h:Dk s i m room fs) {nm:List UInt8} (hno:∀ g∈fs,g.nm≠nm) (hm:tX nm):R (d+3) 54 [Z (.ptr i 0),Z (.str nm)] s=some (I .i64 9,s):=by
 rw [Cl]
 unfold f54
 have e1:=fQ d h hno hm
 generalize R (d+2)=r at e1 ⊢
 simp [e1,ah]
def kz (kl:List Int) (j:Nat) (f:Fl):Nat:=(min (max (kl.getD j 0) 0) ((f.l.length:Int)-f.sure)).toNat
def uv (fs:List Fl) (n:List UInt8):Nat:=(cA (fs.map (·.nm))).idxOf n
def ep (kl:List Int) (fs:List Fl) (f:Fl):Nat:=f.sure+kz kl (uv fs f.nm) f
structure Cb (kl:List Int) (fs fs':List Fl):Prop where
 len:fs'.length=fs.length
 at_:∀ (k:Nat) (f:Fl),fs[k]? = some f->∃ x',fs'[k]? = some { f with x:=x',l:=f.l.take (ep kl fs f),sure:=ep kl fs f }/\(own x'=none\/own x'=own f.x)
theorem yS (kl:List Int) (j:Nat) {f:Fl} (h:f.sure<=f.l.length):f.sure+kz kl j f<=f.l.length:=by
 unfold kz
 omega
structure XY (kl:List Int) (fs:List Fl) (j:Nat) (cur:List Fl):Prop where
 len:cur.length=fs.length
 at_:∀ (k:Nat) (f:Fl),fs[k]? = some f->if uv fs f.nm<j then ∃ x',cur[k]? = some { f with x:=x',l:=f.l.take (ep kl fs f),sure:=ep kl fs f }/\(own x'=none\/own x'=own f.x) else cur[k]? = some f
theorem MP (h:(fs.map (·.nm)).Nodup) {j:Nat} {n:List UInt8} (hj:(cA (fs.map (·.nm)))[j]? = some n):uv fs n=j:=by
 have hnd:(cA (fs.map (·.nm))).Nodup:=(bw _).nodup_iff.2 h
 obtain ⟨hl,he⟩:=List.getElem?_eq_some_iff.1 hj
 unfold uv
 rw [← he]
 exact hnd.idxOf_getElem j hl
theorem MQ {f:Fl} (hf:f∈fs):uv fs f.nm<fs.length:=by
 unfold uv
 have h1:f.nm∈cA (fs.map (·.nm)):=(bw _).mem_iff.2 (List.mem_map_of_mem hf)
 have h2:=List.idxOf_lt_length_of_mem h1
 rw [(bw _).length_eq,List.length_map] at h2
 exact h2
set_option maxHeartbeats 2000000 in
theorem Ay (d:Nat) (h:Dk s i m room fs) (hnm:∀ f∈fs,f.nm.length<=1000) (hfl:fs.length<=1000) {y:S} {kl:List Int} (hy:Rd 1 s y kl.length (kl.map (S.int .i64))) (JF:∀ c,own y=some c->c<s.size/\∀ f∈fs,c≠f.fb) :
 ∃ fs' t,R (d+2) 25 [Z (.ptr i 0),Z y] s=some (.eD [],t)/\Dk t i m room fs'/\Cb kl fs fs'/\s.size<=t.size/\∀ b,b<s.size->(∀ f∈fs,b≠f.fb)->t.get b=s.get b:=by
 rw [Ln]
 unfold f25
 rcases mS d h hnm hfl with ⟨rfl,e1⟩ | ⟨hne,e1⟩
 · refine ⟨[],s,?_,h,⟨rfl,fun k f hk=>by simp at hk⟩,Nat.le_refl _,fun _ _ _=>rfl⟩
   generalize R (d+1)=r at e1 ⊢
   have lp:loops (mT r 8192) 8192 [Z (.ptr i 0),Z y,Z .az,I .i64 0,I .i64 0] s=some (.exit 0 [],s):=by
    rw [show (8192:Nat)=8191+1 from rfl,loops]
    have:mT r (8191+1) [Z (.ptr i 0),Z y,Z .az,I .i64 0,I .i64 0] s=some (.exit 0 [],s):=by
     unfold mT
     simp
    rw [this]
   simp [e1,lp,aQ,bI]
 obtain ⟨ks,hks⟩:∃ ks,ks=cA (fs.map (·.nm)):=⟨_,rfl⟩
 obtain ⟨s1,hs1⟩:∃ s1,s1=s.push (.cells false (ks.map S.str)):=⟨_,rfl⟩
 rw [← hks,← hs1] at e1
 have g:Gr s s1:=by rw [hs1];exact Gr.push h.wf _
 have h1:=h.gr g
 have eU:ks.length=fs.length:=by rw [hks,(bw _).length_eq,List.length_map]
 have hz:s1.size=s.size+1:=by rw [hs1];simp
 have uh:s1.get s.size=some (.cells false (ks.map S.str)):=by rw [hs1];exact St.aq _ _
 have VG:∀ f∈fs,f.fb<s.size:=fun f hf=>by
  obtain ⟨k,hk⟩:=List.getElem?_of_mem hf
  exact h.wf.lt (h.fl k f hk).1
 obtain ⟨r,hr⟩:∃ r,r=R (d+1):=⟨_,rfl⟩
 rw [← hr] at e1 ⊢
 have lpx:=aW (f:=mT r 8192)
  (fun q v u=>∃ (j:Nat) (cur:List Fl),q+j=fs.length/\v=[Z (.ptr i 0),Z y,Z (.sl s.size 0 fs.length (.grown 1)),I .i64 fs.length,I .i64 (j:Nat)]/\Dk u i m room cur/\XY kl fs j cur/\u.size=s1.size/\∀ b,(∀ f∈fs,b≠f.fb)->u.get b=s1.get b)
  (fun q u=>q = .exit 0 []/\∃ cur,Dk u i m room cur/\XY kl fs fs.length cur/\u.size=s1.size/\∀ b,(∀ f∈fs,b≠f.fb)->u.get b=s1.get b) (by
  rintro q v u ⟨j,cur,hq,rfl,hd,hm,hsz,hk⟩
  by_cases hj:j<fs.length
  · left
    have hjk:j<ks.length:=by omega
    obtain ⟨n,hn⟩:∃ n,n=ks[j]:=⟨_,rfl⟩
    have hnk:ks[j]? = some n:=by rw [List.getElem?_eq_getElem hjk,hn]
    have VY:n∈fs.map (·.nm):=by
     have:n∈ks:=List.mem_of_getElem? hnk
     rw [hks] at this
     exact (bw _).mem_iff.1 this
    obtain ⟨f,hf,hfn⟩:=List.mem_map.1 VY
    obtain ⟨k,Q6⟩:=List.getElem?_of_mem hf
    have VJ:uv fs f.nm=j:=MP h.nm (by rw [hfn,← hks];exact hnk)
    have yI:cur[k]? = some f:=by
     have:=hm.at_ k f Q6
     rwa [if_neg (by omega)] at this
    obtain ⟨a1,a2,a3,a4,a5,a6,a7⟩:=hd.fl k f yI
    have hct:ep kl fs f=f.sure+kz kl j f:=by unfold ep;rw [VJ]
    have hle:=yS kl j a3
    obtain ⟨x',pc,b1,b2⟩:=FK a2 (k:=f.sure+kz kl j f) hle
    have hbu:u.get s.size=some (.cells false (ks.map S.str)):=by rw [hk _ fun g hg=>by have:=VG g hg;omega];exact uh
    have ix:av 1 (Z (.sl s.size 0 fs.length (.grown 1))) (I .i64 (j:Nat))=some (Z (.ptr s.size j)):=by
     have:=cZ (e:=1) (b:=s.size) (o:=0) (c := .grown 1) (k := .i64) (n:=((j:Nat):Int)) rfl hj
     rwa [Nat.zero_add,Nat.mul_one] at this
    have ld:ab (Z (.ptr s.size j)) u.get=some (Z (.str f.nm)):=ai hbu (by rw [List.getElem?_map,hnk,hfn];rfl)
    have l1:=hd.nR
    have lk:=hd.look yI
    have lf:ab (Z (.ptr f.fb 0)) u.get=some (Z f.x):=ai a1 rfl
    have UE:ab (Z (.ptr f.fb 1)) u.get=some (I .i64 f.sure):=ai a1 rfl
    have ll:=a2.rd.lens
    have UG:=b1.rd.lens
    have PE:=hd.wf.lt a1
    have hlt:(f.l.take (f.sure+kz kl j f)).length=f.sure+kz kl j f:=by rw [List.length_take];omega
    rw [hlt] at UG
    obtain ⟨kn,hN⟩:∃ n,n=kz kl j f:=⟨_,rfl⟩
    rw [← hN] at pc b1 UG hlt hle hct
    have w1:IntKind.i64.wrap ((f.sure:Int)+kn)=((f.sure+kn:Nat):Int):=by rw [aB _ (by omega) (by omega)];omega
    have w2:IntKind.i64.wrap ((f.l.length:Int)-f.sure)=(f.l.length:Int)-f.sure:=aB _ (by omega) (by omega)
    have w3:IntKind.i64.wrap ((j:Int)+1)=((j+1:Nat):Int):=by rw [aB _ (by omega) (by omega)];omega
    obtain ⟨u2,yN⟩:∃ u2,u2=u.set f.fb (.cells true [x',.int .i64 f.sure]):=⟨_,rfl⟩
    have st:aw 1 (Z (.ptr f.fb 0)) (Z x') u=some (tt,u2):=by rw [yN];exact aT a1 (by simp)
    have g2:u2.get f.fb=some (.cells true [x',.int .i64 f.sure]):=by rw [yN];exact St.ar _ _ _
    have Y2:ab (Z (.ptr f.fb 0)) u2.get=some (Z x'):=ai g2 rfl
    obtain ⟨u3,Hr⟩:∃ u3,u3=u2.set f.fb (.cells true [x',.int .i64 ((f.sure+kn:Nat):Int)]):=⟨_,rfl⟩
    have xV:aw 1 (Z (.ptr f.fb 1)) (I .i64 ((f.sure+kn:Nat):Int)) u2=some (tt,u3):=by rw [Hr];exact aT g2 (by simp)
    have hF:∀ b,b≠f.fb->u3.get b=u.get b:=fun b hb=>by rw [Hr,yN,St.aj _ _ hb,St.aj _ _ hb]
    have z3:u3.size=u.size:=by rw [Hr,yN];rfl
    have hd3:=hd.qL (t:=u3) yI (x':=x') (l':=f.l.take (f.sure+kn)) (sure':=f.sure+kn) (by rw [Hr];exact St.wf_set (by rw [yN];exact St.wf_set hd.wf PE _) (by rw [yN];exact PE) _) (by omega) (fun b _ hb _=>hF b hb) (by rw [Hr];exact St.ar _ _ _)
     (b1.keep fun c hc=>hF c (by
      rcases b2 with e | e
      · rw [e] at hc;cases hc
      · rw [e] at hc
        exact ((hd.ap k k f f yI yI).2 c hc).1)) (by omega) (by omega) (by rcases b2 with e | e;exact .inl e;exact .inr (.inl e))
    have Uw:Rd 1 u y kl.length (kl.map (S.int .i64)):=hy.keep fun c hc=>by rw [hk c (JF c hc).2,g.2.2 c (JF c hc).1]
    have SO:=Uw.lens
    refine ⟨[Z (.ptr i 0),Z y,Z (.sl s.size 0 fs.length (.grown 1)),I .i64 fs.length,I .i64 ((j+1:Nat):Int)],u3,q-1,?_,by omega,j+1,_,by omega,rfl,hd3,⟨by rw [List.length_set];exact hm.len,fun k' f' hk' => ?_⟩,by omega,fun b hb=>by rw [hF b (hb f hf),hk b hb]⟩
    · have c0:((j:Nat):Int)<((fs.length:Nat):Int):=by omega
      unfold mT
      by_cases hjl:j<kl.length
      · have hv:(kl.map (S.int .i64))[j]? = some (S.int .i64 (kl.getD j 0)):=by rw [List.getElem?_map,List.getElem?_eq_getElem hjl,List.getD_eq_getElem?_getD,List.getElem?_eq_getElem hjl];rfl
        obtain ⟨p,ixy,ldy⟩:=Uw.xL (i:=((j:Nat):Int)) rfl hv
        have c1:((j:Nat):Int)<((kl.length:Nat):Int):=by omega
        have pb:min (max (kl.getD j 0) 0) ((f.l.length:Int)-f.sure)=((kn:Nat):Int):=by rw [hN];unfold kz;omega
        generalize ((f.sure+kn:Nat):Int)=FN at *
        generalize ((kn:Nat):Int)=NN at *
        generalize ((j+1:Nat):Int)=J1 at *
        generalize ((j:Nat):Int)=J0 at *
        generalize ((fs.length:Nat):Int)=LL at *
        generalize ((kl.length:Nat):Int)=KL at *
        generalize kl.getD j 0=K0 at *
        simp [c0,ix,ld,l1,lk,SO,c1,ixy,ldy,lf,UE,ll,w2,pb,w1,pc,st,Y2,UG,xV,w3]
      · have Se:kn=0:=by
         rw [hN]
         unfold kz
         rw [List.getD_eq_getElem?_getD,List.getElem?_eq_none (by omega)]
         simp only [Option.getD_none]
         omega
        have c1:¬ ((j:Nat):Int)<((kl.length:Nat):Int):=by omega
        subst Se
        rw [show ((0:Nat):Int)=0 from rfl,Int.add_zero] at w1
        generalize ((f.sure+0:Nat):Int)=FN at *
        generalize ((j+1:Nat):Int)=J1 at *
        generalize ((j:Nat):Int)=J0 at *
        generalize ((fs.length:Nat):Int)=LL at *
        generalize ((kl.length:Nat):Int)=KL at *
        simp [c0,ix,ld,l1,lk,SO,c1,lf,UE,w1,pc,st,Y2,UG,xV,w3]
    · by_cases hkk:k'=k
      · subst hkk
        have hff:f'=f:=by rw [Q6] at hk';exact (Option.some.inj hk').symm
        subst hff
        rw [if_pos (by omega),hct]
        refine ⟨x',?_,b2⟩
        rw [List.getElem?_set]
        have:=(List.getElem?_eq_some_iff.1 yI).1
        simp [this]
      · have hne:uv fs f'.nm≠j:=fun e=>by
         have h3:f'.nm=n:=by
          have Md:f'.nm∈ks:=by rw [hks];exact (bw _).mem_iff.2 (List.mem_map_of_mem (List.mem_of_getElem? hk'))
          have h5:ks.idxOf f'.nm=j:=by rw [hks];exact e
          have h4:ks[ks.idxOf f'.nm]? = some f'.nm:=by
           rw [List.getElem?_eq_getElem (List.idxOf_lt_length_of_mem Md),List.getElem_idxOf]
          rw [h5,hnk] at h4
          exact (Option.some.inj h4).symm
         have h8:(fs.map (·.nm))[k']? = (fs.map (·.nm))[k]? := by rw [List.getElem?_map,List.getElem?_map,hk',Q6];simp [h3,hfn]
         exact hkk ((List.getElem?_inj (by rw [List.length_map];exact (List.getElem?_eq_some_iff.1 hk').1) h.nm).1 h8)
        have h6:=hm.at_ k' f' hk'
        have h7:(cur.set k { f with x:=x',l:=f.l.take (f.sure+kn),sure:=f.sure+kn })[k']? = cur[k']? := by
         rw [List.getElem?_set,if_neg (fun e=>hkk e.symm)]
        by_cases hlt:uv fs f'.nm<j
        · rw [if_pos (by omega),h7]
          rwa [if_pos hlt] at h6
        · rw [if_neg (by omega),h7]
          rwa [if_neg hlt] at h6
  · right
    have hjj:j=fs.length:=by omega
    subst hjj
    have c0:¬ ((fs.length:Nat):Int)<((fs.length:Nat):Int):=by omega
    refine ⟨.exit 0 [],u,?_,(fun v h=>by cases h),rfl,cur,hd,hm,hsz,hk⟩
    unfold mT
    simp)
  8192 fs.length _ s1 ⟨0,fs,by omega,rfl,h1,⟨rfl,fun k f hk=>by rw [if_neg (by omega)];exact hk⟩,rfl,fun _ _=>rfl⟩ (by omega)
 obtain ⟨jo,u,lp,rfl,cur,hd,hm,hsz,hk⟩:=lpx
 refine ⟨cur,u,?_,hd,⟨hm.len,fun k f hf => ?_⟩,by omega,fun b hb hbf=>by rw [hk b hbf,g.2.2 b hb]⟩
 · have e0:((0:Nat):Int)=0:=rfl
   rw [e0] at lp
   simp [e1,lp,aQ,bI]
 · have:=hm.at_ k f hf
   rwa [if_pos (MQ (List.mem_of_getElem? hf))] at this
end
section
variable {s t:St} {x y:S} {l:Bs} {c:UInt8}
theorem DX (d:Nat):R (d+1) 247 [Z (.str l),Z (.str [c])] s=some (I .i64 (nc c l 0),s):=dK (CT (by decide))
theorem Bd (d:Nat):R (d+1) 248 [Z (.str l),Z (.str [c])] s=some (I .i64 (nc c l 0),s):=dK (CT (by decide))
theorem Du (d:Nat):R (d+1) 246 [Z (.str l),Z (.str [c])] s=some (I .i64 (eG c l:Nat),s):=dK IB
theorem J7 (d:Nat) (hl:l.length<=100000):R (d+3) 180 [Z (.str l),Z (.str [c])] s=some (.eD [.s (.str (l.takeWhile fun b => !Nat.beq b.toNat c.toNat)),.s (.str (match nc c l 0 with | .ofNat m=>l.drop (m+1) | _=>[])),.s (.bool (decide (0<=nc c l 0)))],s):=by
 have key:R (d+2) 219 [Z (.str l),Z (.str [c])] s=some (.eD [.s (.str (l.takeWhile fun b => !Nat.beq b.toNat c.toNat)),.s (.str (match nc c l 0 with | .ofNat m=>l.drop (m+1) | _=>[])),.s (.bool (decide (0<=nc c l 0)))],s):=by
  rw [GU]
  unfold f219
  have e:=Bd (s:=s) (l:=l) (c:=c) d
  rcases Dw c l with ⟨h1,h2⟩ | ⟨m,h0,h1,h2⟩
  · rw [h1] at e ⊢
    have c0:¬ (0:Int) ≤ -1:=by decide
    simp [e,c0,h2,aQ,bI]
  · rw [h1] at e ⊢
    have c0:(0:Int)<=(m:Int):=by omega
    have w1:IntKind.i64.wrap ((m:Int)+1)=((m+1:Nat):Int):=by rw [aB _ (by omega) (by omega)];omega
    have p1:=jL (l:=l) (m:=m) (n:=(m:Int)) rfl (by omega)
    have p2:=jM (l:=l) (m:=m+1) (n:=((m+1:Nat):Int)) rfl (by omega)
    generalize ((m+1:Nat):Int)=M1 at w1 p2
    have hd:(match ((m:Nat):Int) with | .ofNat m=>l.drop (m+1) | _=>[])=l.drop (m+1):=rfl
    rw [hd]
    generalize ((m:Nat):Int)=M at *
    simp [e,c0,h2,p1,w1,p2,aQ,bI]
 rw [GH]
 unfold f180
 simp [key,ah,aQ,bI]
theorem EA (r:ak) (hix:∀ (l:Bs) (u:St),r 247 [Z (.str l),Z (.str [c])] u=some (I .i64 (nc c l 0),u)) (hl:l.length<=8000) (wf:s.wf) :
 ∃ (m:Bs) (done:List Bs) (τ:St),loops (nG r 8192) 8192 [Z (.str l),Z (.str [c]),I .i64 0,I .i64 (eG c l:Nat),Z (.sl s.size 0 (eG c l+1) (.known (eG c l+1))),I .i64 0] (s.push (.cells true (List.replicate (eG c l+1) (.str [])))) =
  some (.exit 0 [Z (.str m),Z (.sl s.size 0 (eG c l+1) (.known (eG c l+1))),I .i64 (eG c l:Nat)],τ)/\τ.wf/\τ.size=s.size+1/\(∀ b,b<s.size->τ.get b=s.get b)/\done++[m]=bH c l/\done.length=eG c l ∧
  τ.get s.size=some (.cells true (bY done++[.str []])):=by
 obtain ⟨n,hn⟩:∃ n,n=eG c l:=⟨_,rfl⟩
 have hnl:=lN c l
 rw [← hn] at hnl
 rw [← hn]
 obtain ⟨j,τ,lp,m,done,rfl,q1,q2,q3,q4,q5,q6⟩:=aW (f:=nG r 8192) (fun q v u=>∃ (m:Bs) (done:List Bs),q+done.length=n/\v=[Z (.str m),Z (.str [c]),I .i64 0,I .i64 (n:Nat),Z (.sl s.size 0 (n+1) (.known (n+1))),I .i64 (done.length:Nat)]/\u.wf/\u.size=s.size+1/\(∀ b,b<s.size->u.get b=s.get b) ∧
  done++bH c m=bH c l/\eG c m=q/\m.length<=l.length/\u.get s.size=some (.cells true (bY done++List.replicate (n+1-done.length) (.str []))))
  (fun j u=>∃ (m:Bs) (done:List Bs),j = .exit 0 [Z (.str m),Z (.sl s.size 0 (n+1) (.known (n+1))),I .i64 (n:Nat)]/\u.wf/\u.size=s.size+1/\(∀ b,b<s.size->u.get b=s.get b)/\done++[m]=bH c l/\done.length=n/\u.get s.size=some (.cells true (bY done++[.str []]))) (by
  rintro q v u ⟨m,done,hq,rfl,h1,h2,h3,h4,h5,h6,h7⟩
  rcases qw c m with ⟨k1,k2,k3⟩ | ⟨i,k0,k1,k2,k3⟩
  · right
    have:q=0:=by omega
    subst this
    have hd:done.length=n:=by omega
    have c0:¬ ((n:Int)<(n:Int)):=by omega
    refine ⟨_,u,?_,(fun v hv=>by cases hv),m,done,rfl,h1,h2,h3,by rw [← h4,k3],hd,?_⟩
    · unfold nG
      rw [hd]
      simp [c0]
    · rw [h7,hd,show n+1-n=1 by omega]
      rfl
  · left
    have hdl:done.length<n:=by omega
    have c0:((done.length:Nat):Int)<(n:Int):=by omega
    have c1:¬ ((i:Nat):Int)<0:=by omega
    have w0:IntKind.i64.wrap ((i:Nat):Int)=((i:Nat):Int):=aB _ (by omega) (by omega)
    have w1:IntKind.i64.wrap ((i:Int)+1)=((i+1:Nat):Int):=by rw [aB _ (by omega) (by omega)];omega
    have w2:IntKind.i64.wrap (((done.length:Nat):Int)+1)=((done.length+1:Nat):Int):=by rw [aB _ (by omega) (by omega)];omega
    have p1:=jL (l:=m) (m:=i) (n:=((i:Nat):Int)) rfl (by omega)
    have p2:=jM (l:=m) (m:=i+1) (n:=((i+1:Nat):Int)) rfl (by omega)
    have ix:av 1 (Z (.sl s.size 0 (n+1) (.known (n+1)))) (I .i64 ((done.length:Nat):Int))=some (Z (.ptr s.size done.length)):=by rw [cZ (j:=done.length) rfl (by omega),Nat.zero_add,Nat.mul_one]
    have hlen:(bY done++List.replicate (n+1-done.length) (S.str [])).length=n+1:=by simp;omega
    have st:=aT (σ:=u) (i:=s.size) (o:=done.length) (x := .str (m.take i)) h7 (by omega)
    have gK:aO (bY done++List.replicate (n+1-done.length) (S.str [])) done.length [.str (m.take i)]=bY (done++[m.take i])++List.replicate (n+1-(done++[m.take i]).length) (.str []):=by
     rw [bS _ _ _ (by simp;omega)]
     have e1:(bY done++List.replicate (n+1-done.length) (S.str [])).take done.length=bY done:=by
      rw [List.take_append_of_le_length (by simp)]
      exact List.take_of_length_le (by simp)
     have e2:(bY done++List.replicate (n+1-done.length) (S.str [])).drop (done.length+[S.str (m.take i)].length)=List.replicate (n+1-(done.length+1)) (S.str []):=by
      rw [List.drop_append,List.drop_eq_nil_of_le (by simp),List.nil_append,List.drop_replicate]
      congr 1
      simp
      omega
     rw [e1,e2,jf,List.length_append]
     simp [bY]
    rw [gK] at st
    have e:=hix m u
    rw [k1] at e
    refine ⟨[Z (.str (m.drop (i+1))),Z (.str [c]),I .i64 0,I .i64 (n:Nat),Z (.sl s.size 0 (n+1) (.known (n+1))),I .i64 ((done.length+1:Nat):Int)],u.set s.size (.cells true (bY (done++[m.take i])++List.replicate (n+1-(done++[m.take i]).length) (.str []))),q-1,?_,by omega,m.drop (i+1),done++[m.take i],by simp;omega,by simp,St.wf_set h1 (by omega) _,by simpa using h2,fun b hb=>by rw [St.aj _ _ (by omega)];exact h3 b hb,by rw [← h4,k2];simp,by omega,by simp;omega,St.ar _ _ _⟩
    unfold nG
    generalize ((i+1:Nat):Int)=I1 at w1 p2
    generalize ((i:Nat):Int)=I0 at c1 w0 w1 p1 e
    generalize ((done.length+1:Nat):Int)=D1 at w2 ⊢
    generalize ((done.length:Nat):Int)=D0 at c0 w2 ix ⊢
    simp [c0,e,c1,w0,w1,p1,ix,st,p2,w2]) 8192 n [Z (.str l),Z (.str [c]),I .i64 0,I .i64 (n:Nat),Z (.sl s.size 0 (n+1) (.known (n+1))),I .i64 0] (s.push (.cells true (List.replicate (n+1) (.str [])))) ⟨l,[],by simp,rfl,St.bn wf _,by simp,fun b hb=>St.aI _ _ (by omega),by simp,hn.symm,Nat.le_refl _,by simp [bY]⟩ (by omega)
 exact ⟨m,done,τ,lp,q1,q2,q3,q4,q5,q6⟩
theorem vJ (d:Nat) (wf:s.wf) (hl:l.length<=8000):∃ x t,R (d+3) 179 [Z (.str l),Z (.str [c])] s=some (Z x,t)/\FT s t x (bH c l):=by
 obtain ⟨m,done,τ,lp,q1,q2,q3,q4,q5,q6⟩:=EA (c:=c) (R (d+1)) (fun l u=>DX d) hl wf
 have hnl:=lN c l
 have R2:=Du (s:=s) (l:=l) (c:=c) d
 have key:R (d+2) 218 [Z (.str l),Z (.str [c]),I .i64 0,I .i64 (-1)] s=some (Z (.sl s.size 0 (eG c l+1) (.known (eG c l+1))),τ.set s.size (.cells true (bY (bH c l)))):=by
  rw [GS]
  unfold f218
  obtain ⟨n,hn⟩:∃ n,n=eG c l:=⟨_,rfl⟩
  rw [← hn] at hnl lp q5 R2 ⊢
  have w1:IntKind.i64.wrap ((n:Int)+1)=((n+1:Nat):Int):=by rw [aB _ (by omega) (by omega)];omega
  have w2:IntKind.i64.wrap ((l.length:Int)+1)=((l.length+1:Nat):Int):=by rw [aB _ (by omega) (by omega)];omega
  have pb:min ((n+1:Nat):Int) ((l.length+1:Nat):Int)=((n+1:Nat):Int):=by omega
  have w3:IntKind.i64.wrap (((n+1:Nat):Int)-1)=(n:Int):=by rw [aB _ (by omega) (by omega)];omega
  have nw:aK s (Ie 1 16 [.str []] (I .i64 ((n+1:Nat):Int)) (I .i64 ((n+1:Nat):Int)))=some (Z (.sl s.size 0 (n+1) (.known (n+1))),s.push (.cells true (List.replicate (n+1) (.str [])))):=by
   have h1:[S.str []].length=1/\(0:Int)<=((n+1:Nat):Int)/\((n+1:Nat):Int)<=((n+1:Nat):Int)/\((n+1:Nat):Int)<=2 ^ 62/\((16:Nat):Int)*((n+1:Nat):Int)<=2 ^ 48:=⟨rfl,by omega,by omega,by omega,by omega⟩
   simp only [aK,Ie,if_pos h1,Int.toNat_natCast]
   have hz:∀ k,dc k [S.str []]=List.replicate k (.str []):=by
    intro k
    simp [dc]
   rw [hz]
  have ix:av 1 (Z (.sl s.size 0 (n+1) (.known (n+1)))) (I .i64 (n:Int))=some (Z (.ptr s.size n)):=by rw [cZ (j:=n) rfl (by omega),Nat.zero_add,Nat.mul_one]
  have st:=aT (σ:=τ) (i:=s.size) (o:=n) (x := .str m) q6 (by simp;omega)
  have gK:aO (bY done++[S.str []]) n [.str m]=bY (bH c l):=by
   rw [bS _ _ _ (by simp;omega),← q4,jf]
   have e1:(bY done++[S.str []]).take n=bY done:=by
    rw [List.take_append_of_le_length (by simp;omega)]
    exact List.take_of_length_le (by simp;omega)
   have e2:(bY done++[S.str []]).drop (n+[S.str m].length)=[]:=List.drop_eq_nil_of_le (by simp;omega)
   rw [e1,e2]
   simp [bY]
  rw [gK] at st
  have pc:ax 1 (Z (.sl s.size 0 (n+1) (.known (n+1)))) none (some (I .i64 ((n+1:Nat):Int))) none=some (Z (.sl s.size 0 (n+1) (.known (n+1)))):=by
   unfold ax
   dsimp only
   rw [dS (Nat.le_refl _)]
   simp
  have cc:¬ [c]=([]:Bs):=by simp
  generalize ((n+1:Nat):Int)=N1 at w1 pb w3 nw pc
  generalize ((l.length+1:Nat):Int)=L1 at w2 pb
  simp [R2,w1,w2,pb,nw,w3,lp,ix,st,pc,cc]
 refine ⟨_,_,?_,⟨⟨St.wf_set q1 (by omega) _,by simp;omega,fun b hb=>by rw [St.aj _ _ (by omega)];exact q3 b hb⟩,⟨by simp,.inr (.inr ⟨s.size,bY (bH c l),.known (eG c l+1),by rw [fY],.inr (by rw [fY]),St.ar _ _ _,by simp,List.take_of_length_le (by simp)⟩)⟩,fun b hb=>by cases hb;exact ⟨Nat.le_refl _,by simp;omega⟩⟩⟩
 rw [GG]
 unfold f179
 simp [key]
def wS (v:Bs):List Bs->Nat->Int
 | [],_ => -1
 | w::r,k=>if v=w then (k:Int) else wS v r (k+1)
theorem nQ (v:Bs):∀ (l:List Bs) (k:Nat),(0<=wS v l k)↔v∈l
 | [],k=>by simp [wS]
 | w::r,k=>by
   unfold wS
   by_cases h:v=w
   · simp [h]
   · rw [if_neg h,nQ v r (k+1)]
     simp [h]
theorem vf (v:Bs):∀ (l:List Bs) (k:Nat),wS v l k = -1\/∃ j,j<l.length/\wS v l k=(k+j:Nat)/\l[j]? = some v
 | [],k => .inl rfl
 | w::r,k=>by
   unfold wS
   by_cases h:v=w
   · exact .inr ⟨0,by simp,by rw [if_pos h];rfl,by simp [h]⟩
   · rw [if_neg h]
     rcases vf v r (k+1) with e | ⟨j,h1,h2,h3⟩
     · exact .inl e
     · exact .inr ⟨j+1,by simp;omega,by rw [h2];omega,by simpa using h3⟩
theorem HR (v:Bs) (l:List Bs) (k:Nat) (hk:k<=l.length) (hn:∀ j w,j<k->l[j]? = some w->v≠w):wS v l 0=wS v (l.drop k) k:=by
 induction k with
 | zero=>rfl
 | succ k ih =>
   rw [ih (by omega) fun j w hj=>hn j w (by omega)]
   have hc:l.drop k=l[k]::l.drop (k+1):=List.drop_eq_getElem_cons (by omega)
   rw [hc]
   show (if v=l[k] then _ else _)=_
   rw [if_neg (hn k l[k] (by omega) (List.getElem?_eq_getElem (by omega)))]
theorem sQ (d:Nat) {ws:List Bs} {v:Bs} (h:RT s x ws) (hl:ws.length<=8000):R (d+1) 224 [Z x,Z (.str v)] s=some (I .i64 (wS v ws 0),s):=by
 rw [GW]
 unfold f224
 have hlen:=h.lens
 obtain ⟨j,τ,lp,hj,pW⟩:=aW (f:=nH (R d) 8192) (fun q w u=>∃ k:Nat,q+k=ws.length/\w=[Z x,Z (.str v),I .i64 ws.length,I .i64 k]/\u=s/\∀ j w,j<k->ws[j]? = some w->v≠w)
  (fun j u=>(j = .exit 0 []/\wS v ws 0 = -1\/j = .ret (I .i64 (wS v ws 0)))/\u=s) (by
  rintro q w u ⟨k,hk,rfl,rfl,hn⟩
  have hd:=HR v ws k (by omega) hn
  by_cases eU:k<ws.length
  · have hc:ws[k]? = some ws[k]:=List.getElem?_eq_getElem eU
    have mE:ws.drop k=ws[k]::ws.drop (k+1):=List.drop_eq_getElem_cons eU
    obtain ⟨p,ix,ld⟩:=RT.TL h (n:=(k:Int)) rfl hc
    have c0:(k:Int)<(ws.length:Int):=by omega
    have w1:IntKind.i64.wrap ((k:Int)+1)=((k+1:Nat):Int):=by rw [aB _ (by omega) (by omega)];omega
    by_cases he:v=ws[k]
    · right
      have hx:wS v ws 0=k:=by rw [hd,mE];show (if v=ws[k] then _ else _)=_;rw [if_pos he]
      refine ⟨.ret (I .i64 (wS v ws 0)),u,?_,(fun v hv=>by cases hv),.inr rfl,rfl⟩
      unfold nH
      rw [hx]
      simp [c0,ix,ld,← he]
    · left
      refine ⟨[Z x,Z (.str v),I .i64 ws.length,I .i64 ((k+1:Nat):Int)],u,q-1,?_,by omega,k+1,by omega,rfl,rfl,fun j w hj hw => ?_⟩
      · unfold nH
        generalize ((k+1:Nat):Int)=K1 at w1 ⊢
        simp [c0,ix,ld,he,w1]
      · by_cases hjk:j=k
        · subst hjk;rw [hc] at hw;cases hw;exact he
        · exact hn j w (by omega) hw
  · right
    have hk':k=ws.length:=by omega
    have c0:¬ (k:Int)<(ws.length:Int):=by omega
    refine ⟨.exit 0 [],u,?_,(fun v hv=>by cases hv),.inl ⟨rfl,?_⟩,rfl⟩
    · unfold nH
      simp [c0]
    · rw [hd,hk',List.drop_length];rfl) 8192 ws.length [Z x,Z (.str v),I .i64 ws.length,I .i64 0] s ⟨0,rfl,rfl,rfl,fun j w hj=>by omega⟩ (by omega)
 subst pW
 rcases hj with ⟨rfl,he⟩ | rfl
 · rw [he]
   simp [hlen,lp]
 · simp [hlen,lp]
theorem ub (d:Nat) {ws:List Bs} {v:Bs} (h:RT s x ws) (hl:ws.length<=8000):R (d+2) 183 [Z x,Z (.str v)] s=some (B (decide (v∈ws)),s):=by
 rw [GJ]
 unfold f183
 have e:=sQ (v:=v) d h hl
 have:decide (0<=wS v ws 0)=decide (v∈ws):=decide_eq_decide.2 (nQ v ws 0)
 simp [e,this]
end
def cJ (b:UInt8):Bool:=Nat.ble 48 b.toNat&&Nat.ble b.toNat 57
def digits:Bs:=[48,49,50,51,52,53,54,55,56,57]
def c7:List S:=(List.range 256).map fun c=>S.bool (Nat.ble 48 c&&Nat.ble c 57)
theorem nt:c7.length=256:=by simp [c7]
theorem wF (b:UInt8):c7[b.toNat]? = some (.bool (cJ b)):=by
 have:=b.toNat_lt
 simp [c7,cJ,this]
theorem ph {b:UInt8}:cJ b=true↔48<=b.toNat/\b.toNat<=57:=by
 simp [cJ,Nat.ble_eq]
def fO (l:Bs):Bs:=(l.reverse.dropWhile cJ).reverse
theorem B3 (l:Bs) (c:UInt8):fO (l++[c])=if cJ c then fO l else l++[c]:=by
 unfold fO
 rw [List.reverse_append,List.reverse_singleton,List.singleton_append,List.dropWhile_cons]
 split<;>simp
theorem EI:fO []=[]:=rfl
theorem dropWhile_nil (p:UInt8->Bool):∀ l:Bs,l.dropWhile p=[]↔∀ x∈l,p x=true
 | []=>by simp
 | a::r=>by
   have ih:=dropWhile_nil p r
   rw [List.dropWhile_cons]
   by_cases h:p a=true
   · rw [if_pos h,ih];simp [h]
   · rw [if_neg h];simp [h]
theorem nv (p:UInt8->Bool):∀ (l:Bs) (a:UInt8) (r:Bs),l.dropWhile p=a::r->p a=false
 | [],a,r,h=>by simp at h
 | b::q,a,r,h=>by
   rw [List.dropWhile_cons] at h
   by_cases hb:p b=true
   · rw [if_pos hb] at h;exact nv p q a r h
   · rw [if_neg hb] at h;cases h;simpa using hb
theorem vP (l:Bs):(fO l).dropWhile cJ=[]↔l.all cJ=true:=by
 unfold fO
 rw [List.all_eq_true]
 constructor
 · intro h
   have h1:=(dropWhile_nil cJ _).1 h
   have h2:l.reverse.dropWhile cJ=[]:=by
    cases hd:l.reverse.dropWhile cJ with
    | nil=>rfl
    | cons a r =>
      exfalso
      have e1:=h1 a (by rw [hd];simp)
      rw [nv cJ _ a r hd] at e1
      cases e1
   intro x hx
   exact (dropWhile_nil cJ _).1 h2 x (by simpa using hx)
 · intro h
   have h2:l.reverse.dropWhile cJ=[]:=(dropWhile_nil cJ _).2 fun x hx=>h x (by simpa using hx)
   rw [h2]
   rfl
def fh (l:Bs):Nat:=l.foldl (fun n b=>n*10+(b.toNat-48)) 0
theorem vQ (l:Bs) (c:UInt8):fh (l++[c])=fh l*10+(c.toNat-48):=by simp [fh]
theorem rG:∀ (n:Nat) (l:Bs),l.length=n->l.all cJ=true->fh l<10 ^ n
 | 0,l,h,_=>by
   have:l=[]:=List.eq_nil_of_length_eq_zero h
   subst this
   decide
 | n+1,l,h,ha=>by
   rcases List.eq_nil_or_concat l with rfl | ⟨r,c,hl⟩
   · simp at h
   · rw [List.concat_eq_append] at hl
     subst hl
     rw [vQ]
     have hr:=rG n r (by simpa using h) (by simp at ha;simpa using ha.1)
     have hc:cJ c=true:=by simp at ha;exact ha.2
     rw [ph] at hc
     rw [Nat.pow_succ]
     omega
def dH (l:Bs):Bool:=Nat.ble 1 l.length&&Nat.ble l.length 13&&l.all cJ
def gL (l:Bs):Nat:=match dH l with
 | true=>fh l
 | false=>0
section
variable {s t:St} {x y:S} {l:Bs} {i:Nat} {w:Bool}
theorem vX (n:Nat) (b:UInt8) (h:b.toNat<n) (i o:Nat):bj n 1 (Z (.ptr i o)) (I .u8 b.toNat)=some (Z (.ptr i (o+b.toNat))):=by
 have h2:nh (I .u8 (b.toNat:Int)) n=some b.toNat:=by simp [nh,h]
 simp [bj,h2]
theorem nr (d:Nat) (h:s.get i=some (.cells w c7)) (b:UInt8):R (d+1) 212 [Z (.ptr i 0),I .u8 b.toNat] s=some (B (cJ b),s):=by
 rw [GQ]
 unfold f212
 have ix:=vX 256 b b.toNat_lt i 0
 have ld:ab (Z (.ptr i (0+b.toNat))) s.get=some (B (cJ b)):=ai h (by rw [Nat.zero_add];exact wF b)
 simp only [Fu,fm,ix,ld]
theorem uC (d:Nat) (h:s.get i=some (.cells w c7)) (hl:l.length<=8000):R (d+2) 169 [Z (.str l),Z (.ptr i 0)] s=some (Z (.str (fO l)),s):=by
 rw [Gz]
 unfold f169
 obtain ⟨j,τ,lp,hj,pW⟩:=aW (f:=nE (R (d+1)) 8192) (fun q v u=>∃ m:Bs,q=m.length/\v=[Z (.str m),Z (.ptr i 0)]/\u=s/\fO m=fO l/\m.length<=l.length)
  (fun j u=>j = .exit 0 [Z (.str (fO l))]/\u=s) (by
  rintro q v u ⟨m,rfl,rfl,rfl,hm,Hj⟩
  rcases List.eq_nil_or_concat m with rfl | ⟨r,c,hmr⟩
  · right
    refine ⟨_,u,?_,(fun v hv=>by cases hv),rfl,rfl⟩
    unfold nE
    rw [← hm]
    simp [EI]
  · rw [List.concat_eq_append] at hmr
    have hlen:m.length=r.length+1:=by rw [hmr];simp
    have c0:0<m.length:=by omega
    have w1:IntKind.i64.wrap ((m.length:Int)-1)=(r.length:Int):=by rw [aB _ (by omega) (by omega)];omega
    have hat:dM (Z (.str m)) (I .i64 (r.length:Int))=some (I .u8 c.toNat):=wg rfl (by rw [hmr];simp)
    have hc:=nr d h c
    have pc:=jL (l:=m) (m:=r.length) (n:=(r.length:Int)) rfl (by omega)
    have kZ:m.take r.length=r:=by rw [hmr];simp
    rw [kZ] at pc
    have hs:=B3 r c
    rw [← hmr,hm] at hs
    cases hd:cJ c with
    | true =>
      left
      rw [hd] at hs hc
      refine ⟨[Z (.str r),Z (.ptr i 0)],u,r.length,?_,by omega,r,rfl,rfl,rfl,by simpa using hs.symm,by omega⟩
      unfold nE
      simp [c0,w1,hat,hc,pc]
    | false =>
      right
      rw [hd] at hs hc
      refine ⟨.exit 0 [Z (.str (fO l))],u,?_,(fun v hv=>by cases hv),rfl,rfl⟩
      unfold nE
      have:fO l=m:=by rw [hs,hmr];simp
      rw [this]
      simp [c0,w1,hat,hc]) 8192 l.length [Z (.str l),Z (.ptr i 0)] s ⟨l,rfl,rfl,rfl,rfl,Nat.le_refl _⟩ (by omega)
 subst pW;subst hj
 simp [lp]
theorem xF (d:Nat) (h:s.get i=some (.cells w c7)) (hl:l.length<=8000):R (d+2) 168 [Z (.str l),Z (.ptr i 0)] s=some (Z (.str (l.dropWhile cJ)),s):=by
 rw [Gy]
 unfold f168
 obtain ⟨j,τ,lp,hj,pW⟩:=aW (f:=nD (R (d+1)) 8192) (fun q v u=>∃ m:Bs,q=m.length/\v=[Z (.str m),Z (.ptr i 0)]/\u=s/\m.dropWhile cJ=l.dropWhile cJ/\m.length<=l.length)
  (fun j u=>j = .exit 0 [Z (.str (l.dropWhile cJ))]/\u=s) (by
  rintro q v u ⟨m,rfl,rfl,rfl,hm,Hj⟩
  cases m with
  | nil =>
    right
    refine ⟨_,u,?_,(fun v hv=>by cases hv),rfl,rfl⟩
    unfold nD
    rw [← hm]
    simp
  | cons c r =>
    have hat:dM (Z (.str (c::r))) (I .i64 0)=some (I .u8 c.toNat):=wg (j:=0) rfl rfl
    have hc:=nr d h c
    have pc:=jM (l:=c::r) (m:=1) (n:=1) rfl (by simp)
    rw [List.dropWhile_cons] at hm
    cases hd:cJ c with
    | true =>
      left
      rw [hd] at hm hc
      refine ⟨[Z (.str r),Z (.ptr i 0)],u,r.length,?_,by simp,r,rfl,rfl,rfl,by simpa using hm,by simp at Hj;omega⟩
      unfold nD
      simp [hat,hc,pc]
    | false =>
      right
      rw [hd] at hm hc
      refine ⟨.exit 0 [Z (.str (l.dropWhile cJ))],u,?_,(fun v hv=>by cases hv),rfl,rfl⟩
      unfold nD
      have:l.dropWhile cJ=c::r:=by rw [← hm];simp
      rw [this]
      simp [hat,hc]) 8192 l.length [Z (.str l),Z (.ptr i 0)] s ⟨l,rfl,rfl,rfl,rfl,Nat.le_refl _⟩ (by omega)
 subst pW;subst hj
 simp [lp]
theorem ez {vs xs:List S} (h:vs.length=xs.length):aO vs 0 xs=xs:=by
 rw [bS _ _ _ (by omega),List.take_zero,List.nil_append,List.drop_eq_nil_of_le (by omega),List.append_nil]
theorem yY (d:Nat):R (d+1) 167 [Z (.str digits)] s=some (.eD [.agg c7,.s (.bool true)],s):=dK (ID _)
set_option maxRecDepth 100000 in
theorem Jn (d:Nat) (wf:s.wf) (h0:l≠[]) (hl:l.length<=8000):∃ t,R (d+4) 129 [Z (.str l),Z (.str digits)] s=some (Z (.str ((fO l).dropWhile cJ)),t)/\Gr s t:=by
 rw [Gi]
 unfold f129
 generalize hq:ba _=q
 obtain ⟨z,rfl,hz⟩:∃ z:List S,q=ba z/\z.length=256:=⟨_,hq.symm,rfl⟩
 clear hq
 have e1:=yY (s:=s) (d+2)
 have nw:aK s (ba z)=some (Z (.ptr s.size 0),s.push (.cells true z)):=rfl
 have hb:(V.agg c7).cells.length=256/\0+256<=z.length:=⟨nt,by omega⟩
 obtain ⟨t,ht⟩:∃ t,t=(s.push (.cells true z)).set s.size (.cells true c7):=⟨_,rfl⟩
 have st:aw 256 (Z (.ptr s.size 0)) (.v (.agg c7)) (s.push (.cells true z))=some (tt,t):=by
  simp only [aw,St.aq,if_pos hb]
  rw [show (V.agg c7).cells=c7 from rfl,ez (by rw [hz,nt]),← ht]
 have g:Gr s t:=by
  rw [ht]
  exact ⟨St.wf_set (St.bn wf _) (by simp) _,by simp,fun b hb=>by rw [St.aj _ _ (by omega),St.aI _ _ (by omega)]⟩
 have gn:t.get s.size=some (.cells true c7):=by rw [ht];exact St.ar _ _ _
 have r1:=uC (l:=l) (d+1) gn hl
 have hl2:(fO l).length<=8000:=by
  have:(fO l).length<=l.length:=by
   unfold fO
   rw [List.length_reverse]
   have:=(List.dropWhile_sublist (p:=cJ) (l:=l.reverse)).length_le
   simpa using this
  omega
 have r2:=xF (l:=fO l) (d+1) gn hl2
 have hd:¬ digits=[]:=by decide
 have hdl:(digits.length:Int)=10:=rfl
 refine ⟨t,?_,g⟩
 simp only [Nat.add_assoc,Nat.reduceAdd] at e1 r1 r2
 generalize R (d+3)=r at *
 generalize digits=dg at *
 simp [h0,hd,hdl,e1,ah,nw,st,r1,r2]
theorem uA (d:Nat) (wf:s.wf) (h0:l≠[]) (hl:l.length<=13) (hd:l.all cJ=true):∃ t,R (d+1) 226 [Z (.str l),I .i64 10,I .i64 64] s=some (.eD [.s (.int .u64 (fh l)),.s .iH],t)/\Gr s t:=by
 rw [GY]
 unfold f226
 obtain ⟨t,ht⟩:∃ t,t=s.push (.cells false (U l)):=⟨_,rfl⟩
 have nw:aK s (td (Z (.str l)))=some (Z (.sl s.size 0 l.length (.grown 1)),t):=by rw [ht];rfl
 have g:Gr s t:=by rw [ht];exact Gr.push wf _
 have rb:RB t (.sl s.size 0 l.length (.grown 1)) l:=⟨by simp,.inr ⟨s.size,0,_,false,U l,rfl,by rw [ht];exact St.aq _ _,by simp,by rw [List.drop_zero];exact List.take_of_length_le (by simp)⟩,rfl⟩
 have hv:=rG
 have hdg:∀ (k:Nat) (b:UInt8),l[k]? = some b->48<=b.toNat/\b.toNat<=57:=fun k b hb=>by
  rw [List.all_eq_true] at hd
  exact ph.1 (hd b (List.mem_of_getElem? hb))
 have YQ:∀ k,k<=13->fh (l.take k)<10000000000000:=fun k hk=>by
  have h1:=rG (l.take k).length (l.take k) rfl (by rw [List.all_eq_true] at hd ⊢;exact fun x hx=>hd x (List.mem_of_mem_take hx))
  have h2:10 ^ (l.take k).length<=10 ^ 13:=Nat.pow_le_pow_right (by omega) (by rw [List.length_take];omega)
  have h3:(10:Nat) ^ 13=10000000000000:=by decide
  omega
 obtain ⟨j,τ,lp,hj,pW⟩:=aW (f:=qV (R d) 8192) (fun q v u=>∃ k:Nat,q+k=l.length/\v=[I .i64 10,B false,Z (.str l),I .u64 1844674407370955162,I .u64 18446744073709551615,B false,I .u64 (fh (l.take k)),Z (.sl s.size 0 l.length (.grown 1)),I .i64 l.length,I .i64 k]/\u=t)
  (fun j u=>j = .exit 3 [Z (.str l),B false,I .u64 (fh l)]/\u=t) (by
  rintro q v u ⟨k,hk,rfl,rfl⟩
  by_cases eU:k<l.length
  · left
    have hc:l[k]? = some l[k]:=List.getElem?_eq_getElem eU
    obtain ⟨p,ix,ld⟩:=RB.Dl rb (n:=(k:Int)) rfl hc
    obtain ⟨d1,d2⟩:=hdg k _ hc
    have c0:(k:Int)<(l.length:Int):=by omega
    have w1:IntKind.i64.wrap ((k:Int)+1)=((k+1:Nat):Int):=by rw [aB _ (by omega) (by omega)];omega
    have Wk:fh (l.take (k+1))=fh (l.take k)*10+(l[k].toNat-48):=by rw [List.take_add_one,hc,Option.toList_some,vQ]
    have hb0:=YQ k (by omega)
    have uh:=YQ (k+1) (by omega)
    have k1:¬ ((l[k].toNat:Int)=95):=by omega
    have k2:(48:Int)<=(l[k].toNat:Int):=by omega
    have k3:(l[k].toNat:Int)<=57:=by omega
    obtain ⟨D,hD⟩:∃ D:Int,D=(l[k].toNat:Int)-48:=⟨_,rfl⟩
    have w8:IntKind.u8.wrap ((l[k].toNat:Int)-48)=D:=by
     have:=fH (l[k].toNat-48)
     rw [show (((l[k].toNat-48:Nat)):Int)=(l[k].toNat:Int)-48 by omega] at this
     rw [this,hD]
     omega
    have w10:IntKind.u8.wrap 10=10:=rfl
    have XI:IntKind.u64.wrap 10=10:=rfl
    have k4:¬ (10:Int)<=D:=by omega
    have k5:¬ (1844674407370955162:Int)<=(fh (l.take k):Int):=by omega
    have wm:IntKind.u64.wrap ((fh (l.take k):Int)*10)=(fh (l.take k):Int)*10:=cf _ (by omega) (by omega)
    have wd:IntKind.u64.wrap D=D:=cf _ (by omega) (by omega)
    have wa:IntKind.u64.wrap ((fh (l.take k):Int)*10+D)=(fh (l.take (k+1)):Int):=by
     rw [cf _ (by omega) (by omega),Wk]
     omega
    have k6:¬ ((fh (l.take (k+1)):Int)<(fh (l.take k):Int)*10):=by omega
    have k7:¬ ((18446744073709551615:Int)<(fh (l.take (k+1)):Int)):=by omega
    refine ⟨[I .i64 10,B false,Z (.str l),I .u64 1844674407370955162,I .u64 18446744073709551615,B false,I .u64 (fh (l.take (k+1))),Z (.sl s.size 0 l.length (.grown 1)),I .i64 l.length,I .i64 ((k+1:Nat):Int)],u,q-1,?_,by omega,k+1,by omega,rfl,rfl⟩
    unfold qV
    generalize ((k+1:Nat):Int)=K1 at w1 ⊢
    generalize (fh (l.take (k+1)):Int)=V1 at wa k6 k7 ⊢
    generalize (fh (l.take k):Int)=V0 at k5 wm wa k6 ⊢
    generalize (l[k].toNat:Int)=C at ld k1 k2 k3 w8
    generalize (k:Int)=K at *
    generalize (l.length:Int)=L at *
    simp [c0,ix,ld,k1,k2,k3,w8,w10,XI,k4,k5,wm,wd,wa,k6,k7,w1]
  · right
    have hk':k=l.length:=by omega
    subst hk'
    refine ⟨.exit 3 [Z (.str l),B false,I .u64 (fh l)],u,?_,(fun v hv=>by cases hv),rfl,rfl⟩
    unfold qV
    rw [List.take_length]
    simp) 8192 l.length [I .i64 10,B false,Z (.str l),I .u64 1844674407370955162,I .u64 18446744073709551615,B false,I .u64 0,Z (.sl s.size 0 l.length (.grown 1)),I .i64 l.length,I .i64 0] t ⟨0,rfl,rfl,rfl⟩ (by omega)
 subst pW;subst hj
 refine ⟨τ,?_,g⟩
 have XK:IntKind.u64.wrap 64=64:=rfl
 have sh:af .shl (I .u64 1) (I .u64 64)=some (I .u64 0):=by rfl
 have sb:IntKind.u64.wrap (-1)=18446744073709551615:=by rfl
 simp [h0,XK,sh,sb,nw,lp,aQ,bI]
theorem xg (d:Nat) (wf:s.wf) (h0:l≠[]) (hl:l.length<=13) (hd:l.all cJ=true):∃ t,R (d+3) 251 [Z (.str l),I .i64 10,I .i64 64] s=some (.eD [.s (.int .i64 (fh l)),.s .iH],t)/\Gr s t:=by
 obtain ⟨t,e,g⟩:=uA d wf h0 hl hd
 have hv:=rG l.length l rfl hd
 have Uf:10 ^ l.length<=10 ^ 13:=Nat.pow_le_pow_right (by omega) hl
 have h3:(10:Nat) ^ 13=10000000000000:=by decide
 have key:R (d+2) 185 [Z (.str l),I .i64 10,I .i64 64] s=some (.eD [.s (.int .i64 (fh l)),.s .iH],t):=by
  rw [GL]
  unfold f185
  obtain ⟨c,r,rfl⟩:∃ c r,l=c::r:=by cases l with
   | nil=>exact absurd rfl h0
   | cons c r=>exact ⟨c,r,rfl⟩
  have hat:dM (Z (.str (c::r))) (I .i64 0)=some (I .u8 c.toNat):=wg (j:=0) rfl rfl
  have hc:48<=c.toNat/\c.toNat<=57:=ph.1 (by simp at hd;exact hd.1)
  have k1:¬ ((c.toNat:Int)=43):=by omega
  have k2:¬ ((c.toNat:Int)=45):=by omega
  have n1:Eh .i (Z .iH) (Z .iH)=some (B false):=rfl
  have w63:IntKind.u64.wrap 63=63:=rfl
  have sh:af .shl (I .u64 1) (I .u64 63)=some (I .u64 9223372036854775808):=by rfl
  have k3:¬ ((9223372036854775808:Int)<=(fh (c::r):Int)):=by omega
  have wv:IntKind.i64.wrap (fh (c::r):Int)=(fh (c::r):Int):=aB _ (by omega) (by omega)
  have XK:IntKind.i64.wrap 63=63:=rfl
  generalize (fh (c::r):Int)=V at *
  generalize (c.toNat:Int)=C at *
  generalize R (d+1)=rr at *
  simp [hat,k1,k2,e,ah,n1,w63,XK,sh,k3,wv,aQ,bI]
 refine ⟨t,?_,g⟩
 rw [GZ]
 unfold f251
 have n1:Eh .i (Z .iH) (Z .iH)=some (B false):=rfl
 simp [key,ah,n1,aQ,bI]
theorem Bq (d:Nat) (wf:s.wf):∃ t,R (d+5) 223 [Z (.str l)] s=some (.eD [.s (.int .i64 (gL l)),.s (.bool (dH l))],t)/\Gr s t:=by
 rw [GV]
 unfold f223
 by_cases h1:1<=l.length
 · by_cases h2:l.length<=13
   · have hne:l≠[]:=fun e=>by rw [e] at h1;simp at h1
     obtain ⟨t,e1,g1⟩:=Jn d wf hne (by omega)
     have c1:¬ ((l.length:Int)<1):=by omega
     have c2:¬ ((13:Int)<(l.length:Int)):=by omega
     have uh:Nat.ble 1 l.length=true:=Nat.ble_eq_true_of_le h1
     have iu:Nat.ble l.length 13=true:=Nat.ble_eq_true_of_le h2
     by_cases hall:l.all cJ=true
     · have qF:=(vP l).2 hall
       rw [qF] at e1
       obtain ⟨t2,e2,g2⟩:=xg (l:=l) (d+1) g1.wf hne h2 hall
       have hok:dH l=true:=by simp [dH,uh,iu,hall]
       have hv:gL l=fh l:=by simp [gL,hok]
       have n1:iC .i (Z .iH) (Z .iH)=some (B true):=rfl
       refine ⟨t2,?_,g1.trans g2⟩
       rw [hok,hv]
       simp only [digits] at e1
       generalize R (d+4)=r at *
       simp [c1,c2,e1,e2,ah,n1,aQ,bI]
     · have V4:¬ ((fO l).dropWhile cJ=[]):=fun e=>hall ((vP l).1 e)
       have hok:dH l=false:=by simp only [dH,uh,iu,Bool.true_and];simpa using hall
       have hv:gL l=0:=by simp [gL,hok]
       refine ⟨t,?_,g1⟩
       rw [hok,hv]
       simp only [digits] at e1
       generalize R (d+4)=r at *
       simp [c1,c2,e1,V4,aQ,bI]
   · have c1:¬ ((l.length:Int)<1):=by omega
     have c2:(13:Int)<(l.length:Int):=by omega
     have hok:dH l=false:=by
      have:Nat.ble l.length 13=false:=by
       rw [Bool.eq_false_iff]
       intro h
       exact h2 (Nat.le_of_ble_eq_true h)
      simp [dH,this]
     have hv:gL l=0:=by simp [gL,hok]
     refine ⟨s,?_,Gr.refl wf⟩
     rw [hok,hv]
     simp [c1,c2,aQ,bI]
 · have c1:((l.length:Int)<1):=by omega
   have hok:dH l=false:=by
    have:Nat.ble 1 l.length=false:=by
     rw [Bool.eq_false_iff]
     intro h
     exact h1 (Nat.le_of_ble_eq_true h)
    simp [dH,this]
   have hv:gL l=0:=by simp [gL,hok]
   refine ⟨s,?_,Gr.refl wf⟩
   rw [hok,hv]
   simp [c1,aQ,bI]
end
structure qN where
 a0:Int
 a1:Int
 a2:Int
 a3:Int
 c:Int
 n:Int
 deriving DecidableEq
def cP (p:qN):List S:=[.int .i64 p.a0,.int .i64 p.a1,.int .i64 p.a2,.int .i64 p.a3,.int .i64 p.c,.int .i64 p.n]
abbrev AP (p:qN):T := .v (.agg (cP p))
def cU:qN:=⟨0,0,0,0,0,0⟩
def kH:qN:=⟨60,600,6000,0,8,30⟩
def ju (n:Int):Bool:=decide (0<=n)&&decide (n<=1099511627776)
def lC (was n:Int):Bool:=decide (n=0)||(decide (was<=n) && !decide (was=0))
def mP (p:qN):Bool:=ju p.a0&&(ju p.a1&&lC p.a0 p.a1)&&(ju p.a2&&lC p.a1 p.a2)&&(ju p.a3&&lC p.a2 p.a3)
def za (p:qN):Bool:=mP p&&decide (p.a3=0)&&decide (1<=p.c)&&decide (p.c<=64)&&decide (1<=p.n)&&decide (p.n<=200)
section
variable {s t:St} {x y:S} {l:Bs} {i:Nat}
theorem lH {i:Nat} {vs:List S} {p:qN} (h:s.get i=some (.cells true vs)) (hv:vs.length=6):aw 6 (Z (.ptr i 0)) (AP p) s=some (tt,s.set i (.cells true (cP p))):=by
 have hb:(V.agg (cP p)).cells.length=6/\0+6<=vs.length:=⟨rfl,by omega⟩
 simp only [aw,h,if_pos hb]
 rw [show (V.agg (cP p)).cells=cP p from rfl,ez (by rw [hv];rfl)]
theorem qd {i:Nat} {w:Bool} {p:qN} {g:Mem} (h:g i=some (.cells w (cP p))):aG 6 (Z (.ptr i 0)) g=some (AP p):=by
 simp [aG,h,cP]
theorem JV:aU (aE [.int .i64 0,.int .i64 0,.int .i64 0,.int .i64 0,.int .i64 0,.int .i64 0] [])=some (AP cU):=rfl
theorem kF (b:Bool):gd tt b=some false:=rfl
theorem pT (d:Nat) (wf:s.wf):∃ t,R (d+1) 91 [] s=some (AP kH,t)/\Gr s t:=by
 rw [LQ]
 unfold f91
 have e1:aU (aE [.int .i64 0,.int .i64 0,.int .i64 0,.int .i64 0] [(0,1,(I .i64 60)),(1,1,(I .i64 600)),(2,1,(I .i64 6000)),(3,1,(I .i64 0))])=some (.v (.agg [.int .i64 60,.int .i64 600,.int .i64 6000,.int .i64 0])):=rfl
 have e2:aU (aE [.int .i64 0,.int .i64 0,.int .i64 0,.int .i64 0,.int .i64 0,.int .i64 0] [(0,4,.v (.agg [.int .i64 60,.int .i64 600,.int .i64 6000,.int .i64 0])),(4,1,(I .i64 8)),(5,1,(I .i64 30))])=some (AP kH):=rfl
 obtain ⟨s1,hs1⟩:∃ s1,s1=s.push (.cells true (cP cU)):=⟨_,rfl⟩
 have nw:aK s (ba [.int .i64 0,.int .i64 0,.int .i64 0,.int .i64 0,.int .i64 0,.int .i64 0])=some (Z (.ptr s.size 0),s1):=by rw [hs1];rfl
 have h1:s1.get s.size=some (.cells true (cP cU)):=by rw [hs1];exact St.aq _ _
 obtain ⟨s2,pd⟩:∃ s2,s2=s1.set s.size (.cells true (cP kH)):=⟨_,rfl⟩
 have st:=lH (p:=kH) h1 rfl
 rw [← pd] at st
 have h2:s2.get s.size=some (.cells true (cP kH)):=by rw [pd];exact St.ar _ _ _
 have ld:=qd (g:=s2.get) h2
 refine ⟨s2,?_,?_⟩
 · simp [nw,e1,e2,st,ld,rC,aQ]
 · rw [pd,hs1]
   exact ⟨St.wf_set (St.bn wf _) (by simp) _,by simp,fun b hb=>by rw [St.aj _ _ (by omega),St.aI _ _ (by omega)]⟩
def iU (p:qN):Nat->Int
 | 0=>p.a0
 | 1=>p.a1
 | 2=>p.a2
 | _=>p.a3
def fU (p:qN):Nat->Bool
 | 0=>ju p.a0
 | 1=>ju p.a1&&lC p.a0 p.a1
 | 2=>ju p.a2&&lC p.a1 p.a2
 | _=>ju p.a3&&lC p.a2 p.a3
theorem rS (p:qN):mP p=true↔∀ j,j<4->fU p j=true:=by
 constructor
 · intro h j hj
   simp only [mP,Bool.and_eq_true] at h
   match j,hj with
   | 0,_=>exact h.1.1.1
   | 1,_=>simp only [fU,Bool.and_eq_true];exact h.1.1.2
   | 2,_=>simp only [fU,Bool.and_eq_true];exact h.1.2
   | 3,_=>simp only [fU,Bool.and_eq_true];exact h.2
 · intro h
   have h0:=h 0 (by omega)
   have h1:=h 1 (by omega)
   have h2:=h 2 (by omega)
   have h3:=h 3 (by omega)
   simp only [fU] at h0 h1 h2 h3
   simp only [mP,h0,h1,h2,h3,Bool.and_self]
theorem MG (d:Nat) (wf:s.wf) (p:qN):∃ t,R (d+1) 184 [AP p] s=some (B (za p),t)/\Gr s t:=by
 rw [GK]
 unfold f184
 obtain ⟨s1,hs1⟩:∃ s1,s1=s.push (.cells true (cP p)):=⟨_,rfl⟩
 have nw:aK s (ct (AP p))=some (Z (.ptr s.size 0),s1):=by rw [hs1];rfl
 have h1:s1.get s.size=some (.cells true (cP p)):=by rw [hs1];exact St.aq _ _
 have g:Gr s s1:=by rw [hs1];exact Gr.push wf _
 have l4:aG 4 (Z (.ptr s.size 0)) s1.get=some (.v (.agg [.int .i64 p.a0,.int .i64 p.a1,.int .i64 p.a2,.int .i64 p.a3])):=by simp [aG,h1,cP]
 have ld:∀ j,j<4->ab (Z (.ptr s.size j)) s1.get=some (I .i64 (iU p j)):=fun j hj=>by
  match j,hj with
  | 0,_=>exact ai h1 rfl
  | 1,_=>exact ai h1 rfl
  | 2,_=>exact ai h1 rfl
  | 3,_=>exact ai h1 rfl
 have UA:ab (Z (.ptr s.size 4)) s1.get=some (I .i64 p.c):=ai h1 rfl
 have UB:ab (Z (.ptr s.size 5)) s1.get=some (I .i64 p.n):=ai h1 rfl
 have ZB:∀ j,j<4->oJ none 4 1 (.v (.agg [.int .i64 p.a0,.int .i64 p.a1,.int .i64 p.a2,.int .i64 p.a3])) (I .i64 (j:Nat))=some (I .i64 (iU p j)):=fun j hj=>by
  match j,hj with
  | 0,_=>rfl
  | 1,_=>rfl
  | 2,_=>rfl
  | 3,_=>rfl
 have ix:∀ j:Nat,j<4->bj 4 1 (Z (.ptr s.size 0)) (I .i64 (j:Nat))=some (Z (.ptr s.size j)):=fun j hj=>by
  match j,hj with
  | 0,_=>rfl
  | 1,_=>rfl
  | 2,_=>rfl
  | 3,_=>rfl
 obtain ⟨j,τ,lp,hj,pW⟩:=aW (f:=gi (R d) 8192) (fun q v u=>∃ k:Nat,q+k=4/\v=[Z (.ptr s.size 0),.v (.agg [.int .i64 p.a0,.int .i64 p.a1,.int .i64 p.a2,.int .i64 p.a3]),I .i64 k]/\u=s1/\∀ j,j<k->fU p j=true)
  (fun j u=>(j = .exit 0 [Z (.ptr s.size 0)]/\mP p=true\/j = .ret (B false)/\mP p=false)/\u=s1) (by
  rintro q v u ⟨k,hk,rfl,rfl,hok⟩
  by_cases Q5:k<4
  · have bad:fU p k=false->mP p=false:=fun h=>by
     rw [Bool.eq_false_iff]
     intro h2
     rw [(rS p).1 h2 k Q5] at h
     cases h
    have next:fU p k=true->∀ j,j<k+1->fU p j=true:=fun h j hj=>by
     by_cases e:j=k
     · subst e;exact h
     · exact hok j (by omega)
    have c0:(k:Int)<4:=by omega
    have w1:IntKind.i64.wrap ((k:Int)+1)=((k+1:Nat):Int):=by rw [aB _ (by omega) (by omega)];omega
    have hat:=ZB k Q5
    obtain ⟨a,ha⟩:∃ a,a=iU p k:=⟨_,rfl⟩
    rw [← ha] at hat
    have yG:fU p k=(ju a&&(decide (k=0)||lC (iU p (k-1)) a)):=by
     rw [ha]
     match k,Q5 with
     | 0,_=>simp [fU,iU]
     | 1,_=>simp [fU,iU]
     | 2,_=>simp [fU,iU]
     | 3,_=>simp [fU,iU]
    by_cases c1:a<0
    · right
      have:fU p k=false:=by
       have:¬ 0<=a:=by omega
       rw [yG];simp [ju,this]
      refine ⟨.ret (B false),u,?_,(fun v hv=>by cases hv),.inr ⟨rfl,bad this⟩,rfl⟩
      unfold gi
      simp [c0,hat,c1]
    · by_cases c2:1099511627776<a
      · right
        have:fU p k=false:=by
         have:¬ a<=1099511627776:=by omega
         rw [yG];simp [ju,this]
        refine ⟨.ret (B false),u,?_,(fun v hv=>by cases hv),.inr ⟨rfl,bad this⟩,rfl⟩
        unfold gi
        simp [c0,hat,c1,c2]
      · have hA:ju a=true:=by
         have h1:0<=a:=by omega
         have h2:a<=1099511627776:=by omega
         simp [ju,h1,h2]
        by_cases k0:k=0
        · left
          have:fU p k=true:=by rw [yG];simp [hA,k0]
          refine ⟨[Z (.ptr s.size 0),.v (.agg [.int .i64 p.a0,.int .i64 p.a1,.int .i64 p.a2,.int .i64 p.a3]),I .i64 ((k+1:Nat):Int)],u,q-1,?_,by omega,k+1,by omega,rfl,rfl,next this⟩
          unfold gi
          subst k0
          have Vp:oJ none 4 1 (.v (.agg [.int .i64 p.a0,.int .i64 p.a1,.int .i64 p.a2,.int .i64 p.a3])) (I .i64 0)=some (I .i64 a):=hat
          have w0:IntKind.i64.wrap 1=1:=rfl
          simp [Vp,c1,c2,w0]
        · obtain ⟨b,hb⟩:∃ b,b=iU p (k-1):=⟨_,rfl⟩
          rw [← hb] at yG
          have Ou:¬ (k:Int)=0:=by omega
          have w2:IntKind.i64.wrap ((k:Int)-1)=((k-1:Nat):Int):=by rw [aB _ (by omega) (by omega)];omega
          have HN:=ix (k-1) (by omega)
          have nR:=ld (k-1) (by omega)
          rw [← hb] at nR
          by_cases c3:a=0
          · left
            have:fU p k=true:=by rw [yG,hA];simp [lC,c3]
            refine ⟨[Z (.ptr s.size 0),.v (.agg [.int .i64 p.a0,.int .i64 p.a1,.int .i64 p.a2,.int .i64 p.a3]),I .i64 ((k+1:Nat):Int)],u,q-1,?_,by omega,k+1,by omega,rfl,rfl,next this⟩
            unfold gi
            subst c3
            generalize ((k+1:Nat):Int)=K1 at w1 ⊢
            generalize ((k-1:Nat):Int)=K0 at w2 HN
            generalize (k:Int)=K at *
            simp [c0,hat,Ou,w2,HN,nR,w1,kF]
          · by_cases c4:a<b
            · right
              have:fU p k=false:=by
               have h1:¬ b<=a:=by omega
               rw [yG];simp [hA,lC,c3,h1,k0]
              refine ⟨.ret (B false),u,?_,(fun v hv=>by cases hv),.inr ⟨rfl,bad this⟩,rfl⟩
              unfold gi
              generalize ((k-1:Nat):Int)=K0 at w2 HN
              generalize (k:Int)=K at *
              simp [c0,hat,c1,c2,Ou,w2,HN,nR,c3,c4]
            · by_cases c5:b=0
              · right
                have:fU p k=false:=by rw [yG];simp [hA,lC,c3,c5,k0]
                refine ⟨.ret (B false),u,?_,(fun v hv=>by cases hv),.inr ⟨rfl,bad this⟩,rfl⟩
                unfold gi
                generalize ((k-1:Nat):Int)=K0 at w2 HN
                generalize (k:Int)=K at *
                simp [c0,hat,c1,c2,Ou,w2,HN,nR,c3,c4,c5]
              · left
                have:fU p k=true:=by
                 have h1:b<=a:=by omega
                 rw [yG];simp [hA,lC,h1,c5]
                refine ⟨[Z (.ptr s.size 0),.v (.agg [.int .i64 p.a0,.int .i64 p.a1,.int .i64 p.a2,.int .i64 p.a3]),I .i64 ((k+1:Nat):Int)],u,q-1,?_,by omega,k+1,by omega,rfl,rfl,next this⟩
                unfold gi
                generalize ((k+1:Nat):Int)=K1 at w1 ⊢
                generalize ((k-1:Nat):Int)=K0 at w2 HN
                generalize (k:Int)=K at *
                simp [c0,hat,c1,c2,Ou,w2,HN,nR,c3,c4,c5,w1]
  · right
    have hk':k=4:=by omega
    subst hk'
    refine ⟨.exit 0 [Z (.ptr s.size 0)],u,?_,(fun v hv=>by cases hv),.inl ⟨rfl,(rS p).2 hok⟩,rfl⟩
    unfold gi
    simp) 8192 4 [Z (.ptr s.size 0),.v (.agg [.int .i64 p.a0,.int .i64 p.a1,.int .i64 p.a2,.int .i64 p.a3]),I .i64 0] s1 ⟨0,rfl,rfl,rfl,fun j hj=>by omega⟩ (by omega)
 subst pW
 refine ⟨τ,?_,g⟩
 have SX:bj 4 1 (Z (.ptr s.size 0)) (I .i64 3)=some (Z (.ptr s.size 3)):=rfl
 have S5:=ld 3 (by omega)
 generalize (T.v (.agg [.int .i64 p.a0,.int .i64 p.a1,.int .i64 p.a2,.int .i64 p.a3]))=L at l4 lp
 rcases hj with ⟨rfl,ha⟩ | ⟨rfl,ha⟩
 · have hm:za p=(decide (p.a3=0)&&decide (1<=p.c)&&decide (p.c<=64)&&decide (1<=p.n)&&decide (p.n<=200)):=by simp [za,ha]
   rw [hm]
   by_cases d1:p.a3=0
   · by_cases d2:1<=p.c
     · by_cases d3:p.c<=64
       · by_cases d4:1<=p.n
         · simp [nw,l4,lp,SX,S5,UA,UB,iU,d1,d2,d3,d4]
         · simp [nw,l4,lp,SX,S5,UA,UB,iU,d1,d2,d3,d4]
       · simp [nw,l4,lp,SX,S5,UA,UB,iU,d1,d2,d3]
     · simp [nw,l4,lp,SX,S5,UA,UB,iU,d1,d2]
   · simp [nw,l4,lp,SX,S5,iU,d1]
 · have hm:za p=false:=by simp [za,ha]
   rw [hm]
   simp [nw,l4,lp]
def lK:List Bs:=[[114,97,119],[53,109],[49,104],[49,100]]
def ku:Bs:=[107,101,101,112]
def kx:Bs:=[115,101,97,108]
def ky:Bs:=[115,112,97,110]
def vh:Bs:=[101,118,101,114]
theorem Eg (d:Nat) (wf:s.wf):∃ x t,R (d+1) 225 [] s=some (Z x,t)/\FT s t x lK:=by
 rw [GX]
 unfold f225
 refine ⟨.sl s.size 0 4 (.known 4),s.push (.cells true (bY lK)),?_,Fr.lit 1 wf rfl⟩
 simp [aK,aR,aE,V.cells,aO,bY,lK]
def xx (p:qN) (k:Int) (n:Int):qN :=
 if k=0 then { p with a0:=n } else if k=1 then { p with a1:=n } else if k=2 then { p with a2:=n } else { p with a3:=n }
def vm (p:qN) (ws:List Bs):Option qN :=
 let last:=ws.getD (ws.length-1) []
 if ws.getD 0 []=ku/\ws.length=3 then
  if wS (ws.getD 1 []) lK 0<0\/(dH last=false/\ws.getD 2 []≠vh) then none else some (xx p (wS (ws.getD 1 []) lK 0) (gL last))
 else if ws.getD 0 []=kx/\ws.length=2/\dH last=true then some { p with c:=gL last }
 else if ws.getD 0 []=ky/\ws.length=2/\dH last=true then some { p with n:=gL last }
 else none
def Fe (i:Nat) (s t:St):Prop:=t.wf/\s.size<=t.size/\∀ b,b<s.size->b≠i->t.get b=s.get b
theorem Gr.but {s t:St} (h:Gr s t) (i:Nat):Fe i s t:=⟨h.1,h.2.1,fun b hb _=>h.2.2 b hb⟩
theorem Fe.trans {i:Nat} {a b c:St} (h:Fe i a b) (k:Fe i b c):Fe i a c:=⟨k.1,Nat.le_trans h.2.1 k.2.1,fun x hx hi=>by rw [k.2.2 x (Nat.lt_of_lt_of_le hx h.2.1) hi,h.2.2 x hx hi]⟩
theorem Fe.set {i:Nat} {s:St} (wf:s.wf) (hi:i<s.size) (b:dO):Fe i s (s.set i b):=⟨St.wf_set wf hi _,by simp,fun c hc hne=>St.aj _ _ hne⟩
theorem Nn {p:qN} {j:Nat} {n:Int} (hj:j<4):aO (cP p) j [.int .i64 n]=cP (xx p (j:Nat) n):=by
 match j,hj with
 | 0,_=>rfl
 | 1,_=>rfl
 | 2,_=>rfl
 | 3,_=>rfl
theorem HY (d:Nat) (wf:s.wf) {p:qN} {ws:List Bs} (hp:s.get i=some (.cells true (cP p))) (hx:RT s x ws) (eH:∀ c,own x=some c->c<s.size/\c≠i) (hne:ws≠[]) (hl:ws.length<=100000) :
 ∃ t,R (d+6) 182 [Z (.ptr i 0),Z x] s=some (B (vm p ws).isSome,t)/\Fe i s t/\t.get i=some (.cells true (cP ((vm p ws).getD p))):=by
 rw [GI]
 unfold f182
 have hi:=wf.lt hp
 have hpos:0<ws.length:=by
  cases ws with
  | nil=>exact absurd rfl hne
  | cons _ _=>simp
 have at_:∀ (u:St),Gr s u->∀ j:Nat,j<ws.length->∃ q,av 1 (Z x) (I .i64 (j:Nat))=some q/\ab q u.get=some (Z (.str (ws.getD j []))):=fun u g j hj=>by
  have hx':RT u x ws:=hx.gr (fun c hc=>(eH c hc).1) g
  exact RT.TL hx' rfl (by simp [List.getD,hj])
 have Vc:∀ (u v:St) j,j<ws.length->∀ q,av 1 (Z x) (I .i64 ((j:Nat):Int))=some q->Gr s u->ab q u.get=some (Z (.str (ws.getD j []))):=fun u v j hj q hq g=>by
  obtain ⟨q',h1,h2⟩:=at_ u g j hj
  rw [hq] at h1
  cases h1
  exact h2
 have hlen:=hx.lens
 have w1:IntKind.i64.wrap ((ws.length:Int)-1)=((ws.length-1:Nat):Int):=by rw [aB _ (by omega) (by omega)];omega
 obtain ⟨ql,EX,D6⟩:=at_ s (Gr.refl wf) (ws.length-1) (by omega)
 obtain ⟨s1,e1,g1⟩:=Bq (l:=ws.getD (ws.length-1) []) d wf
 obtain ⟨last,nN⟩:∃ last,last=ws.getD (ws.length-1) []:=⟨_,rfl⟩
 rw [← nN] at D6 e1
 obtain ⟨q0,EW,vk⟩:=at_ s1 g1 0 hpos
 obtain ⟨w0,JE⟩:∃ w,w=ws.getD 0 []:=⟨_,rfl⟩
 rw [← JE] at vk
 have hp1:s1.get i=some (.cells true (cP p)):=by rw [g1.2.2 i hi];exact hp
 have hi1:i<s1.size:=Nat.lt_of_lt_of_le hi g1.2.1
 have Vz:vm p ws=if w0=ku/\ws.length=3 then
  if wS (ws.getD 1 []) lK 0<0\/(dH last=false/\ws.getD 2 []≠vh) then none else some (xx p (wS (ws.getD 1 []) lK 0) (gL last))
   else if w0=kx/\ws.length=2/\dH last=true then some { p with c:=gL last }
   else if w0=ky/\ws.length=2/\dH last=true then some { p with n:=gL last } else none:=by rw [JE,nN];rfl
 rw [Vz]
 have k1:(Z (.str [107,101,101,112]):T)=Z (.str ku):=rfl
 have k2:(Z (.str [115,101,97,108]):T)=Z (.str kx):=rfl
 have k3:(Z (.str [115,112,97,110]):T)=Z (.str ky):=rfl
 have k4:(Z (.str [101,118,101,114]):T)=Z (.str vh):=rfl
 rw [k1,k2,k3,k4]
 have qH:av 1 (Z x) (I .i64 0)=some q0:=EW
 by_cases hk:w0=ku/\ws.length=3
 · rw [if_pos hk]
   obtain ⟨hk0,hk3⟩:=hk
   obtain ⟨y,s2,e2,f2⟩:=Eg (d+4) g1.wf
   have g2:=g1.trans f2.gr
   obtain ⟨q1,HN,nR⟩:=at_ s2 g2 1 (by omega)
   have D5:=Vc s1 s1 1 (by omega) q1 HN g1
   obtain ⟨q2,ix2,WV⟩:=at_ s2 g2 2 (by omega)
   obtain ⟨Fb,hw1⟩:∃ w,w=ws.getD 1 []:=⟨_,rfl⟩
   obtain ⟨XJ,Ht⟩:∃ w,w=ws.getD 2 []:=⟨_,rfl⟩
   rw [← hw1] at nR D5 ⊢
   rw [← Ht] at WV ⊢
   have e3:=sQ (v:=Fb) (d+4) f2.rd (by decide)
   have Mu:av 1 (Z x) (I .i64 1)=some q1:=HN
   have SW:av 1 (Z x) (I .i64 2)=some q2:=ix2
   have hp2:s2.get i=some (.cells true (cP p)):=by rw [f2.gr.2.2 i hi1];exact hp1
   have c3:(ws.length:Int)=3:=by omega
   have ckk:decide (ab q1 s1.get=ab q1 s2.get)=true:=decide_eq_true (by rw [nR,D5])
   simp only [Nat.add_assoc,Nat.reduceAdd] at e2 e3
   generalize R (d+5)=r at *
   rcases vf Fb lK 0 with hx1 | ⟨j,NG,hj2,_⟩
   · rw [hx1] at e3 ⊢
     refine ⟨s2,?_,Gr.but g2 i,by simp;exact hp2⟩
     generalize ((ws.length-1:Nat):Int)=L1 at *
     have C5:IntKind.i64.wrap 2=L1:=by rw [c3] at w1;exact w1
     simp [hlen,C5,EX,D6,e1,ah,qH,vk,hk0,c3,e2,Mu,nR,D5,e3,kF]
   · rw [hj2] at e3 ⊢
     rw [Nat.zero_add] at e3 ⊢
     have c4:¬ ((j:Nat):Int)<0:=by omega
     have YB:j<4:=NG
     by_cases jB:dH last=false/\XJ≠vh
     · rw [if_pos (.inr jB)]
       refine ⟨s2,?_,Gr.but g2 i,by simp;exact hp2⟩
       generalize ((ws.length-1:Nat):Int)=L1 at *
       generalize ((j:Nat):Int)=J at *
       have C5:IntKind.i64.wrap 2=L1:=by rw [c3] at w1;exact w1
       simp [hlen,C5,EX,D6,e1,ah,qH,vk,hk0,c3,e2,Mu,nR,D5,e3,kF,c4,jB.1,SW,WV,jB.2]
     · have hn:¬ (((j:Nat):Int)<0\/(dH last=false/\XJ≠vh)):=fun h=>h.elim c4 jB
       rw [if_neg hn]
       obtain ⟨s3,mw⟩:∃ s3,s3=s2.set i (.cells true (cP (xx p (j:Nat) (gL last)))):=⟨_,rfl⟩
       have YZ:bj 4 1 (Z (.ptr i 0)) (I .i64 (j:Nat))=some (Z (.ptr i j)):=by
        match j,YB with
        | 0,_=>rfl
        | 1,_=>rfl
        | 2,_=>rfl
        | 3,_=>rfl
       have st:=aT (σ:=s2) (i:=i) (o:=j) (x := .int .i64 (gL last)) hp2 (by simp [cP];omega)
       rw [Nn YB,← mw] at st
       refine ⟨s3,?_,(Gr.but g2 i).trans (by rw [mw];exact Fe.set (Gr.wf g2) (Nat.lt_of_lt_of_le hi g2.2.1) _),by rw [mw];exact St.ar _ _ _⟩
       generalize ((ws.length-1:Nat):Int)=L1 at *
       generalize ((j:Nat):Int)=J at *
       have C5:IntKind.i64.wrap 2=L1:=by rw [c3] at w1;exact w1
       cases hno:dH last with
       | true =>
         rw [hno] at e1
         simp [hlen,C5,EX,D6,e1,ah,qH,vk,hk0,c3,e2,Mu,nR,D5,e3,kF,c4,YZ,st]
       | false =>
         rw [hno] at e1
         have cM:XJ=vh:=by
          apply Classical.byContradiction
          intro h
          exact jB ⟨hno,h⟩
         simp [hlen,C5,EX,D6,e1,ah,qH,vk,hk0,c3,e2,Mu,nR,D5,e3,kF,c4,SW,WV,cM,YZ,st]
 · rw [if_neg hk]
   have hkk:w0=ku->¬ (ws.length:Int)=3:=fun h h2=>hk ⟨h,by omega⟩
   by_cases hs:w0=kx/\ws.length=2/\dH last=true
   · rw [if_pos hs]
     obtain ⟨a1,a2,a3⟩:=hs
     have c2:(ws.length:Int)=2:=by omega
     have n1:¬ kx=ku:=by decide
     have st:=aT (σ:=s1) (i:=i) (o:=4) (x := .int .i64 (gL last)) hp1 (by simp [cP])
     refine ⟨s1.set i (.cells true (cP { p with c:=gL last })),?_,(Gr.but g1 i).trans (Fe.set (Gr.wf g1) hi1 _),by simp⟩
     have gK:aO (cP p) 4 [.int .i64 (gL last)]=cP { p with c:=gL last }:=rfl
     rw [gK] at st
     rw [a3] at e1
     generalize R (d+5)=r at *
     generalize ((ws.length-1:Nat):Int)=L1 at *
     have C5:IntKind.i64.wrap 1=L1:=by rw [c2] at w1;exact w1
     simp [hlen,C5,EX,D6,e1,ah,qH,vk,a1,n1,c2,st]
   · rw [if_neg hs]
     by_cases hq:w0=ky/\ws.length=2/\dH last=true
     · rw [if_pos hq]
       obtain ⟨a1,a2,a3⟩:=hq
       have c2:(ws.length:Int)=2:=by omega
       have n1:¬ ky=ku:=by decide
       have n2:¬ ky=kx:=by decide
       have st:=aT (σ:=s1) (i:=i) (o:=5) (x := .int .i64 (gL last)) hp1 (by simp [cP])
       refine ⟨s1.set i (.cells true (cP { p with n:=gL last })),?_,(Gr.but g1 i).trans (Fe.set (Gr.wf g1) hi1 _),by simp⟩
       have gK:aO (cP p) 5 [.int .i64 (gL last)]=cP { p with n:=gL last }:=rfl
       rw [gK] at st
       rw [a3] at e1
       generalize R (d+5)=r at *
       generalize ((ws.length-1:Nat):Int)=L1 at *
       have C5:IntKind.i64.wrap 1=L1:=by rw [c2] at w1;exact w1
       simp [hlen,C5,EX,D6,e1,ah,qH,vk,a1,n1,n2,c2,st]
     · rw [if_neg hq]
       refine ⟨s1,?_,Gr.but g1 i,by simp;exact hp1⟩
       have Wl:w0=kx->(ws.length:Int)=2->dH last=false:=fun h h2=>by
        cases hn:dH last with
        | false=>rfl
        | true=>exact absurd ⟨h,by omega,hn⟩ hs
       have Wf:w0=ky->(ws.length:Int)=2->dH last=false:=fun h h2=>by
        cases hn:dH last with
        | false=>rfl
        | true=>exact absurd ⟨h,by omega,hn⟩ hq
       generalize R (d+5)=r at *
       generalize ((ws.length-1:Nat):Int)=L1 at *
       have n1:¬ kx=ku:=by decide
       have n2:¬ ky=ku:=by decide
       have n3:¬ ky=kx:=by decide
       have n4:¬ kx=ky:=by decide
       have n5:¬ ku=ky:=by decide
       have n6:¬ ku=kx:=by decide
       by_cases b1:w0=ku
       · have c3:=hkk b1
         simp [hlen,w1,EX,D6,e1,ah,qH,vk,b1,c3,n5,n6]
       · by_cases b2:w0=kx
         · by_cases c2:(ws.length:Int)=2
           · have:=Wl b2 c2
             have C5:IntKind.i64.wrap 1=L1:=by rw [c2] at w1;exact w1
             simp [hlen,C5,EX,D6,e1,ah,qH,vk,b2,n1,n4,c2,this]
           · simp [hlen,w1,EX,D6,e1,ah,qH,vk,b2,n1,n4,c2]
         · by_cases b3:w0=ky
           · by_cases c2:(ws.length:Int)=2
             · have:=Wf b3 c2
               have C5:IntKind.i64.wrap 1=L1:=by rw [c2] at w1;exact w1
               simp [hlen,C5,EX,D6,e1,ah,qH,vk,b3,n2,n3,c2,this]
             · simp [hlen,w1,EX,D6,e1,ah,qH,vk,b3,n2,n3,c2]
           · simp [hlen,w1,EX,D6,e1,ah,qH,vk,b1,b2,b3]
end
def bL (x:Bs):List Bs:=(bH 32 (x.takeWhile fun b => !Nat.beq b.toNat (35:UInt8).toNat)).filter fun w => !decide (w=[])
def gj:qN->List Bs->Nat->List Bs->qN×Int×Int
 | p,_,_,[]=>if za p then (p,0,0) else (cU,5,0)
 | p,seen,k,x::r=>if bL x=[] then gj p seen (k+1) r else
   match vm p (bL x) with
   | none=>(cU,4,k+1)
   | some p'=>if gP [32] (bL x).dropLast∈seen then (cU,4,k+1) else gj p' (seen++[gP [32] (bL x).dropLast]) (k+1) r
def fB (l:Bs):qN×Int×Int:=gj kH [] 0 (bH 10 l)
section
variable {s t:St} {x y:S} {l:Bs} {i:Nat}
theorem zQ (x:Bs):(bL x).length<=x.length+1:=by
 unfold bL
 refine Nat.le_trans (List.length_filter_le _ _) ?_
 rw [fY]
 have h1:=lN 32 (x.takeWhile fun b => !Nat.beq b.toNat (35:UInt8).toNat)
 have h2:=(List.takeWhile_sublist (p:=fun b:UInt8 => !Nat.beq b.toNat (35:UInt8).toNat) (l:=x)).length_le
 omega
theorem mK:∀ {a b:List Bs},a.Sublist b->cO a<=cO b:=by
 intro a b h
 induction h with
 | slnil=>exact Nat.le_refl _
 | cons x _ ih=>simp only [cO];omega
 | cons_cons x _ ih=>simp only [cO];omega
theorem uE (x:Bs):cO (bL x).dropLast<=x.length:=by
 have h1:=mK (List.dropLast_sublist (bL x))
 have h2:=mK (List.filter_sublist (l:=bH 32 (x.takeWhile fun b => !Nat.beq b.toNat (35:UInt8).toNat)) (p:=fun w => !decide (w=[])))
 have h3:cO (bH 32 (x.takeWhile fun b => !Nat.beq b.toNat (35:UInt8).toNat))<=(x.takeWhile fun b => !Nat.beq b.toNat (35:UInt8).toNat).length:=by rw [oo];exact m8 _ _
 have h4:=(List.takeWhile_sublist (p:=fun b:UInt8 => !Nat.beq b.toNat (35:UInt8).toNat) (l:=x)).length_le
 unfold bL at h1 ⊢
 exact Nat.le_trans h1 (Nat.le_trans h2 (Nat.le_trans h3 h4))
theorem B7 (r:ak) (v0 v1 v2 v3 v5 v6 v7:T) {ps:List Bs} (hx:RT s x ps) (eH:∀ c,own x=some c->c<s.size) (wf:s.wf) (hl:ps.length<=8001) :
 ∃ (y:S) (τ:St),loops (lR r 8192) 8192 [v0,v1,v2,v3,Z .az,v5,v6,v7,Z x,I .i64 ps.length,I .i64 0] s=some (.exit 2 [v0,v1,v2,v3,Z y,v5,v6,v7],τ)/\FT s τ y (ps.filter fun w => !decide (w=[])):=by
 obtain ⟨j,τ,lp,y,rfl,hf⟩:=aW (f:=lR r 8192) (fun q v u=>∃ (k:Nat) (y:S),q+k=ps.length/\v=[v0,v1,v2,v3,Z y,v5,v6,v7,Z x,I .i64 ps.length,I .i64 k]/\FT s u y ((ps.take k).filter fun w => !decide (w=[])))
  (fun j u=>∃ y,j = .exit 2 [v0,v1,v2,v3,Z y,v5,v6,v7]/\FT s u y (ps.filter fun w => !decide (w=[]))) (by
  rintro q v u ⟨k,y,hk,rfl,hf⟩
  by_cases eU:k<ps.length
  · left
    have hc:ps[k]? = some ps[k]:=List.getElem?_eq_getElem eU
    have hx':RT u x ps:=hx.gr eH hf.gr
    obtain ⟨p,ix,ld⟩:=RT.TL hx' (n:=(k:Int)) rfl hc
    have c0:(k:Int)<(ps.length:Int):=by omega
    have w1:IntKind.i64.wrap ((k:Int)+1)=((k+1:Nat):Int):=by rw [aB _ (by omega) (by omega)];omega
    have kZ:ps.take (k+1)=ps.take k++[ps[k]]:=by rw [List.take_add_one,hc];rfl
    by_cases he:ps[k]=[]
    · refine ⟨[v0,v1,v2,v3,Z y,v5,v6,v7,Z x,I .i64 ps.length,I .i64 ((k+1:Nat):Int)],u,q-1,?_,by omega,k+1,y,by omega,rfl,?_⟩
      · unfold lR
        rw [he] at ld
        generalize ((k+1:Nat):Int)=K1 at w1 ⊢
        generalize (k:Int)=K at *
        simp [c0,ix,ld,w1]
      · rw [kZ,List.filter_append,he]
        simpa using hf
    · have hlen:((ps.take k).filter fun w => !decide (w=[])).length<=1000000:=by
       refine Nat.le_trans (List.length_filter_le _ _) ?_
       rw [List.length_take]
       omega
      obtain ⟨y',t,⟨s',nw,ap⟩,L7,_⟩:=FT.lit (c:=ps[k]) hf hlen
      refine ⟨[v0,v1,v2,v3,Z y',v5,v6,v7,Z x,I .i64 ps.length,I .i64 ((k+1:Nat):Int)],t,q-1,?_,by omega,k+1,y',by omega,rfl,?_⟩
      · unfold lR
        generalize ((k+1:Nat):Int)=K1 at w1 ⊢
        generalize (k:Int)=K at *
        simp [c0,ix,ld,he,nw,ap,w1]
      · rw [kZ,List.filter_append]
        simpa [he] using L7
  · right
    have hk':k=ps.length:=by omega
    subst hk'
    refine ⟨.exit 2 [v0,v1,v2,v3,Z y,v5,v6,v7],u,?_,(fun v hv=>by cases hv),y,rfl,by rwa [List.take_length] at hf⟩
    unfold lR
    simp) 8192 ps.length [v0,v1,v2,v3,Z .az,v5,v6,v7,Z x,I .i64 ps.length,I .i64 0] s ⟨0,.az,by omega,rfl,by simpa [FT,bY] using Fr.nil 1 wf⟩ (by omega)
 exact ⟨y,τ,lp,hf⟩
theorem vy (d:Nat) (wf:s.wf) (hl:l.length<=8000):∃ t,R (d+7) 137 [Z (.str l)] s=some (.eD [.agg (cP (fB l).1),.s (.int .i64 (fB l).2.1),.s (.int .i64 (fB l).2.2)],t)/\Gr s t:=by
 rw [Gn]
 unfold f137
 obtain ⟨s1,hs1⟩:∃ s1,s1=s.push (.cells true (cP cU)):=⟨_,rfl⟩
 have g1:Gr s s1:=by rw [hs1];exact Gr.push wf _
 have z1:s1.size=s.size+1:=by rw [hs1];rfl
 have hr1:s1.get s.size=some (.cells true (cP cU)):=by rw [hs1];exact St.aq _ _
 have cX:aK s (ba [.int .i64 0,.int .i64 0,.int .i64 0,.int .i64 0,.int .i64 0,.int .i64 0])=some (Z (.ptr s.size 0),s1):=by rw [hs1];rfl
 obtain ⟨s2,e2,g2⟩:=pT (d+5) g1.wf
 obtain ⟨s3,mw⟩:∃ s3,s3=s2.push (.cells true (cP cU)):=⟨_,rfl⟩
 have g3:Gr s2 s3:=by rw [mw];exact Gr.push g2.wf _
 have Br:aK s2 (ba [.int .i64 0,.int .i64 0,.int .i64 0,.int .i64 0,.int .i64 0,.int .i64 0])=some (Z (.ptr s2.size 0),s3):=by rw [mw];rfl
 have Wb:s3.get s2.size=some (.cells true (cP cU)):=by rw [mw];exact St.aq _ _
 have z3:s3.size=s2.size+1:=by rw [mw];rfl
 obtain ⟨s4,hs4⟩:∃ s4,s4=s3.set s2.size (.cells true (cP kH)):=⟨_,rfl⟩
 have JK:=lH (p:=kH) Wb rfl
 rw [← hs4] at JK
 have f4:s4.wf:=by rw [hs4];exact St.wf_set g3.wf (by omega) _
 have z4:s4.size=s2.size+1:=by rw [hs4];simpa using z3
 have YL:s4.get s2.size=some (.cells true (cP kH)):=by rw [hs4];exact St.ar _ _ _
 have Tc:∀ b,b<s2.size->s4.get b=s2.get b:=fun b hb=>by rw [hs4,St.aj _ _ (by omega),g3.2.2 b hb]
 have hle2:s.size+1<=s2.size:=by have:=g2.2.1;omega
 have Us:s4.get s.size=some (.cells true (cP cU)):=by rw [Tc _ (by omega),g2.2.2 _ (by omega)];exact hr1
 have Td:∀ b,b<s.size->s4.get b=s.get b:=fun b hb=>by rw [Tc b (by omega),g2.2.2 b (by omega),g1.2.2 b hb]
 obtain ⟨x,s5,e5,f5⟩:=vJ (l:=l) (c:=10) (d+3) f4 hl
 obtain ⟨ps,hps⟩:∃ ps,ps=bH 10 l:=⟨_,rfl⟩
 rw [← hps] at f5
 have Vw:ps.length<=8001:=by rw [hps,fY];have:=lN 10 l;omega
 have gy:∀ w∈ps,w.length<=8000:=fun w hw=>by have:=BQ 10 l w (by rw [← hps];exact hw);omega
 have Mk:fB l=gj kH [] 0 ps:=by rw [hps];rfl
 rw [Mk]
 obtain ⟨rp,Ut⟩:∃ rp,rp=s.size:=⟨_,rfl⟩
 obtain ⟨pp,hpp⟩:∃ pp,pp=s2.size:=⟨_,rfl⟩
 rw [← Ut] at cX Us
 rw [← hpp] at Br JK YL
 obtain ⟨j,τ,lp,hj⟩:=aW (f:=jR (R (d+6)) 8192)
  (fun q v u=>∃ (k:Nat) (p:qN) (y:S) (seen:List Bs),q+k=ps.length/\v=[Z (.ptr rp 0),Z (.ptr pp 0),Z y,Z x,I .i64 ps.length,I .i64 k]/\u.wf/\s5.size<=u.size/\u.get rp=some (.cells true (cP cU))/\u.get pp=some (.cells true (cP p)) ∧
   (∀ b,b<s5.size->b≠pp->u.get b=s5.get b)/\Ow 1 u y seen.length (bY seen)/\(∀ c,own y=some c->s5.size<=c/\c<u.size)/\seen.length<=k/\gj p seen k (ps.drop k)=gj kH [] 0 ps)
  (fun j u=>u.wf/\s5.size<=u.size/\(∀ b,b<s5.size->b≠pp->b≠rp->u.get b=s5.get b) ∧
   ((∃ p,j = .exit 0 [Z (.ptr rp 0),Z (.ptr pp 0)]/\u.get rp=some (.cells true (cP cU))/\u.get pp=some (.cells true (cP p))/\gj kH [] 0 ps=if za p then (p,0,0) else (cU,5,0)) ∨
    ∃ k:Nat,j = .ret (.eD [.agg (cP cU),.s (.int .i64 4),.s (.int .i64 ((k+1:Nat):Int))])/\gj kH [] 0 ps=(cU,4,(k:Int)+1))) (by
  rintro q v u ⟨k,p,y,seen,hk,rfl,XP,YX,YO,Wd,V8,hy,YU,tT,nM⟩
  have hne:rp≠pp:=by omega
  have Wh:rp<s5.size:=by have:=f5.gr.2.1;omega
  have Wc:pp<s5.size:=by have:=f5.gr.2.1;omega
  by_cases eU:k<ps.length
  · have hc:ps[k]? = some ps[k]:=List.getElem?_eq_getElem eU
    have mE:ps.drop k=ps[k]::ps.drop (k+1):=List.drop_eq_getElem_cons eU
    obtain ⟨w,hw⟩:∃ w,w=ps[k]:=⟨_,rfl⟩
    rw [← hw] at hc mE
    rw [mE] at nM
    have NU:w.length<=8000:=gy w (List.mem_of_getElem? hc)
    have hx':RT u x ps:=f5.rd.keep fun c gY=>V8 c (f5.new c gY).2 (by have:=(f5.new c gY).1;omega)
    obtain ⟨pi,ix,ld⟩:=RT.TL hx' (n:=(k:Int)) rfl hc
    have c0:(k:Int)<(ps.length:Int):=by omega
    have w1:IntKind.i64.wrap ((k:Int)+1)=((k+1:Nat):Int):=by rw [aB _ (by omega) (by omega)];omega
    have ec:=J7 (s:=u) (l:=w) (c:=35) (d+3) (by omega)
    obtain ⟨cw,Vx⟩:∃ cw,cw=w.takeWhile fun b => !Nat.beq b.toNat (35:UInt8).toNat:=⟨_,rfl⟩
    rw [← Vx] at ec
    have mv:cw.length<=w.length:=by rw [Vx];exact (List.takeWhile_sublist _).length_le
    obtain ⟨x2,u2,es,fs⟩:=vJ (l:=cw) (c:=32) (d+3) XP (by omega)
    have hl2:(bH 32 cw).length<=8001:=by rw [fY];have:=lN 32 cw;omega
    have Mb:=fs.rd.lens
    obtain ⟨y3,u3,Qb,f3⟩:=B7 (R (d+6)) (Z (.ptr rp 0)) (Z (.ptr pp 0)) (Z y) (I .i64 k) (Z x) (I .i64 ps.length) (I .i64 k) fs.rd (fun c gY=>(fs.new c gY).2) fs.gr.wf hl2
    have vc:((bH 32 cw).filter fun w => !decide (w=[]))=bL w:=by rw [Vx];rfl
    rw [vc] at f3
    have g23:Gr u u3:=fs.gr.trans f3.gr
    have Sx:u3.get rp=some (.cells true (cP cU)):=by rw [g23.2.2 rp (by omega)];exact YO
    have Ss:u3.get pp=some (.cells true (cP p)):=by rw [g23.2.2 pp (by omega)];exact Wd
    have Sl:∀ b,b<s5.size->b≠pp->u3.get b=s5.get b:=fun b hb iu=>by rw [g23.2.2 b (by omega)];exact V8 b hb iu
    have Uu:Ow 1 u3 y seen.length (bY seen):=hy.gr XP g23
    have Hw:∀ c,own y=some c->s5.size<=c/\c<u3.size:=fun c gY=>⟨(YU c gY).1,Nat.lt_of_lt_of_le (YU c gY).2 g23.2.1⟩
    have Wv:s5.size<=u3.size:=Nat.le_trans YX g23.2.1
    have Q7:=f3.rd.lens
    simp only [Nat.add_assoc,Nat.reduceAdd] at ec es Qb
    by_cases qF:bL w=[]
    · left
      rw [qF] at Q7
      refine ⟨[Z (.ptr rp 0),Z (.ptr pp 0),Z y,Z x,I .i64 ps.length,I .i64 ((k+1:Nat):Int)],u3,q-1,?_,by omega,k+1,p,y,seen,by omega,rfl,g23.wf,Wv,Sx,Ss,Sl,Uu,Hw,by omega,?_⟩
      · unfold jR
        generalize R (d+6)=r at *
        generalize ((k+1:Nat):Int)=K1 at w1 ⊢
        generalize (k:Int)=K at *
        generalize ((bH 32 cw).length:Int)=SL at *
        simp [c0,ix,ld,ec,ah,es,Mb,Qb,Q7,w1]
      · rw [← nM]
        show _=(if bL w=[] then _ else _)
        rw [if_pos qF]
    · -- a line that says Rn
      obtain ⟨n,hn⟩:∃ n,(bL w).length=n+1:=by
       cases hq:bL w with
       | nil=>exact absurd hq qF
       | cons a b=>exact ⟨b.length,rfl⟩
      have CA:(bL w).length<=8001:=Nat.le_trans (zQ w) (by omega)
      rw [hn] at Q7
      have cl:¬ (((n+1:Nat):Int)=0):=by omega
      have wl:IntKind.i64.wrap (((n+1:Nat):Int)-1)=((n:Nat):Int):=by rw [aB _ (by omega) (by omega)];omega
      obtain ⟨y4,pc,Zg,aat⟩:=f3.rd.upto (hi:=n) (by omega)
      have kZ:(bY (bL w)).take (n*1)=bY (bL w).dropLast:=by rw [Nat.mul_one,EE,List.dropLast_eq_take,hn,Nat.add_sub_cancel]
      have hdl:(bL w).dropLast.length=n:=by rw [List.length_dropLast,hn,Nat.add_sub_cancel]
      rw [kZ] at Zg
      have XA:RT u3 y4 (bL w).dropLast:=by unfold RT;rw [hdl];exact Zg
      have ej:R (d+6) 181 [Z y4,Z (.str [32])] u3=some (Z (.str (gP [32] (bL w).dropLast)),u3):=dK (En XA (by have:=uE w;simp;omega) (by omega))
      obtain ⟨said,NR⟩:∃ said,said=gP [32] (bL w).dropLast:=⟨_,rfl⟩
      rw [← NR] at ej
      have Wg:RT u3 y3 (bL w):=f3.rd
      obtain ⟨u4,e4,b4,Sm⟩:=HY (i:=pp) d g23.wf (ws:=bL w) Ss Wg (fun c gY=>⟨(f3.new c gY).2,by have:=(f3.new c gY).1;have:=fs.gr.2.1;omega⟩) qF (by omega)
      have Ww:s5.size<=u4.size:=Nat.le_trans Wv b4.2.1
      have PS:u4.get rp=some (.cells true (cP cU)):=by rw [b4.2.2 rp (by omega) hne];exact Sx
      have PR:∀ b,b<s5.size->b≠pp->u4.get b=s5.get b:=fun b hb iu=>by rw [b4.2.2 b (by omega) iu];exact Sl b hb iu
      have YS:Ow 1 u4 y seen.length (bY seen):=Uu.keep fun c gY=>b4.2.2 c (Hw c gY).2 (by have:=(Hw c gY).1;omega)
      have SP:∀ c,own y=some c->s5.size<=c/\c<u4.size:=fun c gY=>⟨(Hw c gY).1,Nat.lt_of_lt_of_le (Hw c gY).2 b4.2.1⟩
      have F0:=ub (s:=u4) (x:=y) (ws:=seen) (v:=said) (d+4) YS.rd (by omega)
      have A8:(match vm p (bL w) with
       | none=>(cU,4,(k:Int)+1)
       | some p'=>if said∈seen then (cU,4,(k:Int)+1) else gj p' (seen++[said]) (k+1) (ps.drop (k+1)))=gj kH [] 0 ps:=by
       rw [← nM]
       show _=(if bL w=[] then _ else _)
       rw [if_neg qF,NR]
      have C2:∀ u':St,u'.get rp=some (.cells true (cP cU))->aw 6 (Z (.ptr rp 0)) (AP cU) u'=some (tt,u'.set rp (.cells true (cP cU))):=fun u' h=>lH h rfl
      have HZ:∀ u':St,aG 6 (Z (.ptr rp 0)) (u'.set rp (.cells true (cP cU))).get=some (AP cU):=fun u'=>qd (St.ar _ _ _)
      simp only [Nat.add_assoc,Nat.reduceAdd] at e4 F0
      cases hlp:vm p (bL w) with
      | none =>
        right
        rw [hlp] at e4 A8
        simp only [Option.isSome_none] at e4
        refine ⟨.ret (.eD [.agg (cP cU),.s (.int .i64 4),.s (.int .i64 ((k+1:Nat):Int))]),u4.set rp (.cells true (cP cU)),?_,(fun v hv=>by cases hv),St.wf_set b4.1 (by omega) _,by simpa using Ww,fun b hb h1 h2=>by rw [St.aj _ _ h2];exact PR b hb h1,.inr ⟨k,rfl,A8.symm⟩⟩
        unfold jR
        have sr:=C2 u4 PS
        have lr:=HZ u4
        generalize u4.set rp (.cells true (cP cU))=u5 at *
        generalize R (d+6)=r at *
        generalize ((k+1:Nat):Int)=K1 at w1 ⊢
        generalize (k:Int)=K at *
        generalize ((bH 32 cw).length:Int)=SL at *
        generalize ((n+1:Nat):Int)=N1 at *
        generalize ((n:Nat):Int)=N0 at *
        simp [c0,ix,ld,ec,ah,es,Mb,Qb,Q7,cl,wl,pc,ej,e4,kF,JV,sr,lr,w1,rC,rT,aQ,bI]
      | some p' =>
        rw [hlp] at e4 A8 Sm
        simp only [Option.isSome_some] at e4
        by_cases hin:said∈seen
        · right
          simp only [if_pos hin] at A8
          rw [decide_eq_true hin] at F0
          refine ⟨.ret (.eD [.agg (cP cU),.s (.int .i64 4),.s (.int .i64 ((k+1:Nat):Int))]),u4.set rp (.cells true (cP cU)),?_,(fun v hv=>by cases hv),St.wf_set b4.1 (by omega) _,by simpa using Ww,fun b hb h1 h2=>by rw [St.aj _ _ h2];exact PR b hb h1,.inr ⟨k,rfl,A8.symm⟩⟩
          unfold jR
          have sr:=C2 u4 PS
          have lr:=HZ u4
          generalize u4.set rp (.cells true (cP cU))=u5 at *
          generalize R (d+6)=r at *
          generalize ((k+1:Nat):Int)=K1 at w1 ⊢
          generalize (k:Int)=K at *
          generalize ((bH 32 cw).length:Int)=SL at *
          generalize ((n+1:Nat):Int)=N1 at *
          generalize ((n:Nat):Int)=N0 at *
          simp [c0,ix,ld,ec,ah,es,Mb,Qb,Q7,cl,wl,pc,ej,e4,F0,JV,sr,lr,w1,rC,rT,aQ,bI]
        · left
          simp only [if_neg hin] at A8
          rw [decide_eq_false hin] at F0
          have xP:Fr 1 u4 u4 y seen.length (bY seen)->True:=fun _=>trivial
          have L:=Fr.lit 1 b4.1 (n:=1) (vs:=bY [said]) (by simp)
          obtain ⟨y5,u5,ap,Zp,z5,Y6,Xf,Xb⟩:=(YS.gr b4.1 L.gr).append (by_:=16) L.gr.wf (by omega) L.rd.src (by simp) (by omega)
          have nw:aK u4 (aR 1 (aE [.str []] [(0,1,Z (.str said))]))=some (Z (.sl u4.size 0 1 (.known 1)),u4.push (.cells true (bY [said]))):=by simp [aK,aR,aE,V.cells,aO,bY]
          have zl:u4.size<(u4.push (.cells true (bY [said]))).size:=by simp
          have HW:∀ b,b<s5.size->u5.get b=u4.get b:=fun b hb=>by
           rw [Xf b (by omega) (fun e=>by have:=(SP b e).1;omega),L.gr.2.2 b (by omega)]
          refine ⟨[Z (.ptr rp 0),Z (.ptr pp 0),Z y5,Z x,I .i64 ps.length,I .i64 ((k+1:Nat):Int)],u5,q-1,?_,by omega,k+1,p',y5,seen++[said],by omega,rfl,Zp,by omega,by rw [HW rp Wh];exact PS,by rw [HW pp Wc];exact Sm,
           fun b hb h1=>by rw [HW b hb];exact PR b hb h1,by rw [jf,List.length_append];exact Y6,fun c gY => ?_,by simp;omega,by rw [A8]⟩
          · unfold jR
            generalize u4.push (.cells true (bY [said]))=u6 at *
            generalize R (d+6)=r at *
            generalize ((k+1:Nat):Int)=K1 at w1 ⊢
            generalize (k:Int)=K at *
            generalize ((bH 32 cw).length:Int)=SL at *
            generalize ((n+1:Nat):Int)=N1 at *
            generalize ((n:Nat):Int)=N0 at *
            simp [c0,ix,ld,ec,ah,es,Mb,Qb,Q7,cl,wl,pc,ej,e4,F0,nw,ap,w1]
          · have hlt:=Y6.lt Zp gY
            rcases Xb with e | e | ⟨c',e,hc2⟩
            · rw [e] at gY;cases gY
            · rw [e] at gY;exact ⟨(SP c gY).1,hlt⟩
            · rw [e] at gY;cases gY;exact ⟨by omega,hlt⟩
  · right
    have hk':k=ps.length:=by omega
    refine ⟨.exit 0 [Z (.ptr rp 0),Z (.ptr pp 0)],u,?_,(fun v hv=>by cases hv),XP,YX,fun b hb h1 h2=>V8 b hb h1,.inl ⟨p,rfl,YO,Wd,?_⟩⟩
    · have c0:¬ (k:Int)<(ps.length:Int):=by omega
      unfold jR
      simp [c0]
    · rw [← nM,List.drop_eq_nil_of_le (by omega)]
      rfl) 8192 ps.length [Z (.ptr rp 0),Z (.ptr pp 0),Z .az,Z x,I .i64 ps.length,I .i64 0] s5
  ⟨0,kH,.az,[],by omega,rfl,f5.gr.wf,Nat.le_refl _,by rw [f5.gr.2.2 rp (by omega)];exact Us,by rw [f5.gr.2.2 pp (by omega)];exact YL,fun b hb h1=>rfl,by simpa [bY] using Ow.nil 1 s5,(fun c hc=>by cases hc),by simp,rfl⟩ (by omega)
 have Hh:=f5.rd.lens
 simp only [Nat.add_assoc,Nat.reduceAdd] at e2 e5
 obtain ⟨EN,zτ,Te,yH⟩:=hj
 have h45:=f5.gr.2.1
 have Io:∀ b,b<s.size->τ.get b=s.get b:=fun b hb=>by rw [Te b (by omega) (by omega) (by omega),f5.gr.2.2 b (by omega)];exact Td b hb
 rcases yH with ⟨p,rfl,Wi,Su,hres⟩ | ⟨k,rfl,hres⟩
 · have Y3:=qd (g:=τ.get) Su
   obtain ⟨s6,em,g6⟩:=MG (d+5) EN p
   have YN:s6.get rp=some (.cells true (cP cU)):=by rw [g6.2.2 rp (by omega)];exact Wi
   have hp6:s6.get pp=some (.cells true (cP p)):=by rw [g6.2.2 pp (by omega)];exact Su
   have ld6:=qd (g:=s6.get) hp6
   have N2:∀ b,b<s.size->s6.get b=s.get b:=fun b hb=>by rw [g6.2.2 b (by omega)];exact Io b hb
   have hsz:s.size<=s6.size:=by have:=g6.2.1;omega
   have aaq:rp<s6.size:=by have:=g6.2.1;omega
   cases hm:za p with
   | true =>
     rw [hm] at em hres
     rw [hres]
     have zG:=lH (p:=p) YN rfl
     obtain ⟨s7,fI⟩:∃ s7,s7=s6.set rp (.cells true (cP p)):=⟨_,rfl⟩
     rw [← fI] at zG
     have WW:aG 6 (Z (.ptr rp 0)) s7.get=some (AP p):=qd (by rw [fI];exact St.ar _ _ _)
     refine ⟨s7,?_,by rw [fI];exact St.wf_set g6.wf (by omega) _,by rw [fI];simpa using hsz,fun b hb=>by rw [fI,St.aj _ _ (by omega)];exact N2 b hb⟩
     generalize R (d+6)=r at *
     generalize (ps.length:Int)=PL at *
     simp [cX,e2,Br,JK,e5,Hh,lp,Y3,em,ld6,zG,WW,rC,rT,aQ,bI]
   | false =>
     rw [hm] at em hres
     rw [hres]
     have zG:=lH (p:=cU) YN rfl
     obtain ⟨s7,fI⟩:∃ s7,s7=s6.set rp (.cells true (cP cU)):=⟨_,rfl⟩
     rw [← fI] at zG
     have WW:aG 6 (Z (.ptr rp 0)) s7.get=some (AP cU):=qd (by rw [fI];exact St.ar _ _ _)
     refine ⟨s7,?_,by rw [fI];exact St.wf_set g6.wf (by omega) _,by rw [fI];simpa using hsz,fun b hb=>by rw [fI,St.aj _ _ (by omega)];exact N2 b hb⟩
     generalize R (d+6)=r at *
     generalize (ps.length:Int)=PL at *
     simp [cX,e2,Br,JK,e5,Hh,lp,Y3,em,JV,zG,WW,rC,rT,aQ,bI]
 · rw [hres]
   refine ⟨τ,?_,EN,by omega,Io⟩
   generalize R (d+6)=r at *
   generalize (ps.length:Int)=PL at *
   have uj:((k+1:Nat):Int)=(k:Int)+1:=by omega
   rw [uj] at lp
   simp [cX,e2,Br,JK,e5,Hh,lp]
end
section
variable {s t:St} {x y:S} {bs cs:List UInt8}
def US (at_:Nat):Option (Nat×Nat)->JO
 | some (n,e) => .ret (.eD [.s (.int .u64 n),.s (.int .i64 e),.s (.int .i64 0)])
 | none => .exit 0 [I .i64 at_]
theorem G7 (r:ak) (N:Nat) (h:RB s x bs) (hl:bs.length<=100000) {at_:Nat} (ha:at_<=100000) (res:Option (Nat×Nat)) (hres:nJ bs at_ 10 0 0=res) :
 loops (gW r N) 8192 [Z x,I .i64 at_,I .u64 0,I .i64 0] s=some (US at_ res,s):=by
 obtain ⟨j,τ,lp,hj,pW⟩:=aW (f:=gW r N) (fun q v u=>∃ k n:Nat,q+k=10/\v=[Z x,I .i64 at_,I .u64 n,I .i64 k]/\u=s/\n<2 ^ 64/\nJ bs at_ q k n=res)
  (fun j u=>j=US at_ res/\u=s) (by
  rintro q v u ⟨k,n,hk,rfl,rfl,hn,hg⟩
  have eC:=h.sW
  cases q with
  | zero =>
    right
    have hk':k=10:=by omega
    subst hk'
    have:res=none:=by rw [← hg];rfl
    subst this
    refine ⟨.exit 0 [I .i64 at_],u,?_,(fun v hv=>by cases hv),rfl,rfl⟩
    unfold gW
    simp
  | succ q =>
    have c0:(k:Int)<10:=by omega
    have w0:IntKind.i64.wrap ((at_:Int)+k)=((at_+k:Nat):Int):=by rw [aB _ (by omega) (by omega)];omega
    unfold nJ at hg
    cases hc:bs[at_+k]? with
    | none =>
      rw [hc] at hg
      subst hg
      right
      have hle:bs.length<=at_+k:=by simpa using hc
      have c1:(bs.length:Int)<=((at_+k:Nat):Int):=by omega
      refine ⟨.exit 0 [I .i64 at_],u,?_,(fun v hv=>by cases hv),rfl,rfl⟩
      unfold gW
      generalize ((at_+k:Nat):Int)=A at w0 c1 ⊢
      simp [c0,w0,eC,c1]
    | some c =>
      rw [hc] at hg
      simp only at hg
      have hlt:=(List.getElem?_eq_some_iff.1 hc).1
      have c1:¬ (bs.length:Int)<=((at_+k:Nat):Int):=by omega
      obtain ⟨p,ix,ld⟩:=h.Dl (n:=((at_+k:Nat):Int)) rfl hc
      have PC:c.toNat<256:=c.toNat_lt
      have hand:af .and (I .u8 c.toNat) (I .u8 127)=some (I .u8 (c.toNat%128:Nat)):=by
       have:=Of c.toNat 127 PC (by decide)
       rw [show (c.toNat &&& 127:Nat)=c.toNat%128 from Nat.and_two_pow_sub_one_eq_mod c.toNat 7] at this
       exact this
      have jC:IntKind.u64.wrap ((c.toNat%128:Nat):Int)=((c.toNat%128:Nat):Int):=wrap64 _ (by omega)
      have Cx:IntKind.i64.wrap (7*(k:Int))=((7*k:Nat):Int):=by rw [aB _ (by omega) (by omega)];omega
      have EU:IntKind.u64.wrap ((7*k:Nat):Int)=((7*k:Nat):Int):=wrap64 _ (by omega)
      have w1:IntKind.i64.wrap ((k:Int)+1)=((k+1:Nat):Int):=by rw [aB _ (by omega) (by omega)];omega
      have w2:IntKind.i64.wrap (((at_+k:Nat):Int)+1)=((at_+k+1:Nat):Int):=by rw [aB _ (by omega) (by omega)];omega
      by_cases h9:k=9/\1<c.toNat
      · rw [if_pos h9] at hg
        subst hg
        right
        have d9:((k:Int)=9)=True:=eq_true (by omega)
        have d1:((1:Int)<(c.toNat:Int))=True:=eq_true (by omega)
        refine ⟨.exit 0 [I .i64 at_],u,?_,(fun v hv=>by cases hv),rfl,rfl⟩
        unfold gW
        generalize ((at_+k:Nat):Int)=A at w0 c1 ix ⊢
        generalize (k:Int)=K at *
        generalize (c.toNat:Int)=C at *
        simp [c0,w0,eC,c1,ix,ld,d9,d1]
      · rw [if_neg h9] at hg
        have Hn:c.toNat%128*2 ^ (7*k)<2 ^ 64:=by
         by_cases e9:k=9
         · subst e9
           have:c.toNat%128<=1:=by omega
           calc c.toNat%128*2 ^ (7*9)<=1*2 ^ 63:=Nat.mul_le_mul_right _ this
            _<2 ^ 64:=by decide
         · have hk8:7*k<=56:=by omega
           have h128:c.toNat%128<2 ^ 7:=by omega
           calc c.toNat%128*2 ^ (7*k)<=c.toNat%128*2 ^ 56:=Nat.mul_le_mul_left _ (Nat.pow_le_pow_right (by omega) hk8)
            _<2 ^ 64:=by omega
        have kY:=xA (c.toNat%128) (7*k) Hn (by omega)
        have mG:=Iw n (c.toNat%128*2 ^ (7*k)) hn Hn
        have na:(n ||| c.toNat%128*2 ^ (7*k))<2 ^ 64:=Nat.or_lt_two_pow hn Hn
        obtain ⟨M,hM⟩:∃ M,M=(n ||| c.toNat%128*2 ^ (7*k)):=⟨_,rfl⟩
        rw [← hM] at mG na hg
        have yH:((k:Int)=9)=False\/(((k:Int)=9)=True/\((1:Int)<(c.toNat:Int))=False):=by
         by_cases e9:k=9
         · exact .inr ⟨eq_true (by omega),eq_false (fun h=>h9 ⟨e9,by omega⟩)⟩
         · exact .inl (eq_false (by omega))
        by_cases h128:128<=c.toNat
        · rw [if_pos h128] at hg
          left
          have d1:((128:Int)<=(c.toNat:Int))=True:=eq_true (by omega)
          refine ⟨[Z x,I .i64 at_,I .u64 M,I .i64 ((k+1:Nat):Int)],u,q,?_,rfl,k+1,M,by omega,rfl,rfl,na,hg⟩
          generalize ((k+1:Nat):Int)=K1 at w1 ⊢
          unfold gW
          generalize ((c.toNat%128*2 ^ (7*k):Nat):Int)=SH at kY mG
          generalize ((c.toNat%128:Nat):Int)=L at hand jC kY
          generalize ((7*k:Nat):Int)=K7 at Cx EU kY
          generalize ((at_+k:Nat):Int)=A at w0 c1 ix
          generalize (k:Int)=K at *
          generalize (c.toNat:Int)=C at *
          rcases yH with e9 | ⟨e9,e1⟩
          · simp [c0,w0,eC,c1,ix,ld,e9,hand,jC,Cx,EU,kY,mG,d1,w1]
          · simp [c0,w0,eC,c1,ix,ld,e9,e1,hand,jC,Cx,EU,kY,mG,d1,w1]
        · rw [if_neg h128] at hg
          right
          have d1:((128:Int)<=(c.toNat:Int))=False:=eq_false (by omega)
          by_cases hz:0<k/\c.toNat=0
          · rw [if_pos hz] at hg
            subst hg
            have d2:((0:Int)<(k:Int))=True:=eq_true (by omega)
            have d3:((c.toNat:Int)=0)=True:=eq_true (by omega)
            refine ⟨.exit 0 [I .i64 at_],u,?_,(fun v hv=>by cases hv),rfl,rfl⟩
            unfold gW
            generalize ((c.toNat%128*2 ^ (7*k):Nat):Int)=SH at kY mG
            generalize ((c.toNat%128:Nat):Int)=L at hand jC kY
            generalize ((7*k:Nat):Int)=K7 at Cx EU kY
            generalize ((at_+k:Nat):Int)=A at w0 c1 ix
            generalize (k:Int)=K at *
            generalize (c.toNat:Int)=C at *
            rcases yH with e9 | ⟨e9,e1⟩
            · simp [c0,w0,eC,c1,ix,ld,e9,hand,jC,Cx,EU,kY,mG,d1,d2,d3]
            · simp [c0,w0,eC,c1,ix,ld,e9,e1,hand,jC,Cx,EU,kY,mG,d1,d2,d3]
          · rw [if_neg hz] at hg
            subst hg
            refine ⟨.ret (.eD [.s (.int .u64 M),.s (.int .i64 ((at_+k+1:Nat):Int)),.s (.int .i64 0)]),u,?_,(fun v hv=>by cases hv),rfl,rfl⟩
            have PB:((0:Int)<(k:Int))=False\/(((0:Int)<(k:Int))=True/\((c.toNat:Int)=0)=False):=by
             by_cases e0:0<k
             · exact .inr ⟨eq_true (by omega),eq_false (fun h=>hz ⟨e0,by omega⟩)⟩
             · exact .inl (eq_false (by omega))
            unfold gW
            generalize ((c.toNat%128*2 ^ (7*k):Nat):Int)=SH at kY mG
            generalize ((c.toNat%128:Nat):Int)=L at hand jC kY
            generalize ((7*k:Nat):Int)=K7 at Cx EU kY
            generalize ((at_+k+1:Nat):Int)=A1 at w2 ⊢
            generalize ((at_+k:Nat):Int)=A at w0 w2 c1 ix
            generalize (k:Int)=K at *
            generalize (c.toNat:Int)=C at *
            rcases yH with e9 | ⟨e9,e1⟩<;>rcases PB with d2 | ⟨d2,d3⟩
            · simp [c0,w0,eC,c1,ix,ld,e9,hand,jC,Cx,EU,kY,mG,d1,d2,w2,aQ,bI]
            · simp [c0,w0,eC,c1,ix,ld,e9,hand,jC,Cx,EU,kY,mG,d1,d2,d3,w2,aQ,bI]
            · simp [c0,w0,eC,c1,ix,ld,e9,e1,hand,jC,Cx,EU,kY,mG,d1,d2,w2,aQ,bI]
            · simp [c0,w0,eC,c1,ix,ld,e9,e1,hand,jC,Cx,EU,kY,mG,d1,d2,d3,w2,aQ,bI]) 8192 10 [Z x,I .i64 at_,I .u64 0,I .i64 0] s ⟨0,0,rfl,rfl,rfl,by decide,hres⟩ (by omega)
 subst pW
 subst hj
 exact lp
def tP (at_ len:Nat):Option (Nat×Nat)->T
 | some (n,e) => .eD [.s (.int .u64 n),.s (.int .i64 e),.s (.int .i64 0)]
 | none => .eD [.s (.int .u64 0),.s (.int .i64 at_),.s (.int .i64 (if at_<=len then 2 else 1))]
theorem oz (d:Nat) (h:RB s x bs) (hl:bs.length<=100000) {at_:Nat} (ha:at_<=100000):R (d+1) 118 [Z x,I .i64 at_] s=some (tP at_ bs.length (jF bs at_),s):=by
 rw [Gd]
 unfold f118
 have eC:=h.sW
 have c0:¬ (at_:Int)<0:=by omega
 by_cases hle:at_<=bs.length
 · have c1:¬ (bs.length:Int)<(at_:Int):=by omega
   have lp:=G7 (R d) 8192 h hl ha _ rfl
   unfold jF
   rw [if_pos hle]
   cases hg:nJ bs at_ 10 0 0 with
   | none =>
     rw [hg] at lp
     simp [c0,c1,eC,lp,US,tP,hle,aQ,bI]
   | some p =>
     obtain ⟨n,e⟩:=p
     rw [hg] at lp
     simp [c0,c1,eC,lp,US,tP]
 · have c1:(bs.length:Int)<(at_:Int):=by omega
   unfold jF
   rw [if_neg hle]
   simp [c0,c1,eC,tP,hle,aQ,bI]
theorem C3 (d:Nat) (h:RB s x bs) (hl:bs.length<=8000):R (d+2) 161 [Z x] s=some (I .u32 (bN 1 bs),s):=by
 have key:R (d+1) 174 [I .u32 1,Z x] s=some (I .u32 (bN 1 bs),s):=by
  rw [yC]
  unfold f174
  have eC:=h.sW
  obtain ⟨j,τ,lp,hj,pW⟩:=aW (f:=jT (R d) 8192) (fun q v u=>∃ k n:Nat,q+k=bs.length/\v=[I .u64 n,Z x,I .i64 bs.length,I .i64 k]/\u=s/\n<4294967291/\bN n (bs.drop k)=bN 1 bs)
   (fun j u=>j = .exit 0 [I .u64 (bN 1 bs)]/\u=s) (by
   rintro q v u ⟨k,n,hk,rfl,rfl,hn,hg⟩
   by_cases eU:k<bs.length
   · left
     have hc:bs[k]? = some bs[k]:=List.getElem?_eq_getElem eU
     have hd:bs.drop k=bs[k]::bs.drop (k+1):=List.drop_eq_getElem_cons eU
     rw [hd] at hg
     obtain ⟨p,ix,ld⟩:=h.Dl (n:=(k:Int)) rfl hc
     have PC:bs[k].toNat<256:=bs[k].toNat_lt
     obtain ⟨A1,A2,A3,A4,RV,m1,m2,m3,m4⟩:∃ A1 A2 A3 A4:Int,A4=(((n*257+bs[k].toNat+1)%4294967291:Nat):Int)/\af .mul (I .u64 n) (I .u64 257)=some (I .u64 A1)/\af .add (I .u64 A1) (I .u64 bs[k].toNat)=some (I .u64 A2) ∧
      af .add (I .u64 A2) (I .u64 1)=some (I .u64 A3)/\af .rem (I .u64 A3) (I .u64 4294967291)=some (I .u64 A4):=⟨_,_,_,_,rfl,Oa.step n bs[k].toNat hn PC u⟩
     have hw:IntKind.u64.wrap (bs[k].toNat:Int)=(bs[k].toNat:Int):=wrap64 _ (by omega)
     have w1:IntKind.i64.wrap ((k:Int)+1)=((k+1:Nat):Int):=by rw [aB _ (by omega) (by omega)];omega
     have c0:((k:Int)<(bs.length:Int))=True:=eq_true (by omega)
     refine ⟨[I .u64 (((n*257+bs[k].toNat+1)%4294967291:Nat)),Z x,I .i64 bs.length,I .i64 ((k+1:Nat):Int)],u,q-1,?_,by omega,k+1,_,by omega,rfl,rfl,Nat.mod_lt _ (by decide),hg⟩
     unfold jT
     generalize ((k+1:Nat):Int)=K1 at w1 ⊢
     rw [← RV]
     generalize (bs[k].toNat:Int)=C at m2 ld hw
     generalize (k:Int)=K at w1 ix c0 ⊢
     simp only [pj,fm,List.getD_cons_zero,List.getD_cons_succ,wY,iV,decide_true,c0,ix,ld,m1,m2,m3,m4,aV,hw,dm,w1]
   · right
     have hk':k=bs.length:=by omega
     have c0:¬ ((k:Int)<(bs.length:Int)):=by omega
     have uW:n=bN 1 bs:=by
      rw [List.drop_eq_nil_of_le (by omega)] at hg
      exact hg
     refine ⟨.exit 0 [I .u64 (bN 1 bs)],u,?_,(fun v hv=>by cases hv),rfl,rfl⟩
     unfold jT
     rw [uW]
     simp [c0]) 8192 bs.length [I .u64 1,Z x,I .i64 bs.length,I .i64 0] s ⟨0,1,rfl,rfl,rfl,by decide,rfl⟩ (by omega)
  subst hj;subst pW
  have hlt:=j7 bs 1 (by decide)
  have Pp:IntKind.u32.wrap (bN 1 bs:Int)=(bN 1 bs:Int):=by rw [wrap32,Nat.mod_eq_of_lt (by omega)]
  have e1:aF .u64 (I .u32 1)=some (I .u64 1):=rfl
  have e2:af .rem (I .u64 1) (I .u64 4294967291)=some (I .u64 1):=rfl
  simp [e1,e2,eC,lp,Pp]
 rw [Gx]
 unfold f161
 simp [key]
theorem DC (d:Nat) (h:RB s x bs) (k:RB s y cs) (hl:bs.length<=8000):R (d+1) 130 [Z x,Z y] s=some (B (decide (bs=cs)),s):=by
 rw [Gj]
 unfold f130
 have eC:=h.sW
 have WJ:=k.sW
 by_cases hle:bs.length=cs.length
 · have e0:((bs.length:Int)=(cs.length:Int))=True:=eq_true (by omega)
   obtain ⟨j,τ,lp,hj,pW⟩:=aW (f:=nB (R d) 8192) (fun q v u=>∃ i:Nat,q+i=bs.length/\v=[Z x,Z y,I .i64 bs.length,I .i64 i]/\u=s/\bs.take i=cs.take i)
    (fun j u=>(j = .exit 0 []/\bs=cs\/j = .ret (B false)/\bs≠cs)/\u=s) (by
    rintro q v u ⟨i,hi,rfl,rfl,hg⟩
    by_cases hil:i<bs.length
    · have hb:bs[i]? = some bs[i]:=List.getElem?_eq_getElem hil
      have hc:cs[i]? = some (cs[i]'(by omega)):=List.getElem?_eq_getElem (by omega)
      obtain ⟨p,ix,ld⟩:=h.Dl (n:=(i:Int)) rfl hb
      obtain ⟨p',EV,WU⟩:=k.Dl (n:=(i:Int)) rfl hc
      have w1:IntKind.i64.wrap ((i:Int)+1)=((i+1:Nat):Int):=by rw [aB _ (by omega) (by omega)];omega
      have c0:((i:Int)<(bs.length:Int))=True:=eq_true (by omega)
      by_cases he:bs[i]=cs[i]'(by omega)
      · left
        refine ⟨[Z x,Z y,I .i64 bs.length,I .i64 ((i+1:Nat):Int)],u,q-1,?_,by omega,i+1,by omega,rfl,rfl,?_⟩
        · unfold nB
          rw [← he] at WU
          generalize ((i+1:Nat):Int)=K1 at w1 ⊢
          generalize (i:Int)=K at *
          simp [c0,ix,EV,ld,WU,w1]
        · rw [List.take_add_one,List.take_add_one,hg,hb,hc,he]
      · right
        have hne:¬ ((bs[i].toNat:Int)=((cs[i]'(by omega)).toNat:Int)):=fun e=>he (UInt8.toNat.inj (by omega))
        refine ⟨.ret (B false),u,?_,(fun v hv=>by cases hv),.inr ⟨rfl,fun e=>he (by simp [e])⟩,rfl⟩
        unfold nB
        generalize (bs[i].toNat:Int)=X1 at *
        generalize ((cs[i]'(by omega)).toNat:Int)=X2 at *
        generalize (i:Int)=K at *
        simp [c0,ix,EV,ld,WU,hne]
    · right
      have c0:¬ ((i:Int)<(bs.length:Int)):=by omega
      refine ⟨.exit 0 [],u,?_,(fun v hv=>by cases hv),.inl ⟨rfl,?_⟩,rfl⟩
      · unfold nB
        simp [c0]
      · rwa [List.take_of_length_le (by omega),List.take_of_length_le (by omega)] at hg) 8192 bs.length [Z x,Z y,I .i64 bs.length,I .i64 0] s ⟨0,rfl,rfl,rfl,by simp⟩ (by omega)
   subst pW
   rcases hj with ⟨rfl,he⟩ | ⟨rfl,he⟩
   · subst he
     simp [eC,WJ,lp]
   · simp [eC,WJ,e0,lp,he]
 · have e0:¬ ((bs.length:Int)=(cs.length:Int)):=by omega
   have hne:bs≠cs:=fun e=>hle (by rw [e])
   simp [eC,WJ,e0,hne]
theorem vR (r:ak) (wf:s.wf) (n:Nat) (hn:n<2 ^ 64):∃ (m:Nat) (x:S) (acc:List UInt8) (τ:St),loops (nC r 8192) 8192 [I .u64 n,Z .az] s=some (.exit 0 [I .u64 m,Z x],τ)/\FB s τ x acc/\m<128/\acc++[UInt8.ofNat m]=aP n/\acc.length<=10:=by
 obtain ⟨j,τ,lp,m,x,acc,rfl,hF,hm,nK⟩:=aW (f:=nC r 8192) (fun q v u=>∃ (m:Nat) (x:S) (acc:List UInt8),v=[I .u64 m,Z x]/\FB s u x acc/\m<2 ^ (64-7*(10-q))/\q<=10/\acc.length=10-q/\acc++mA q m=aP n)
  (fun j u=>∃ (m:Nat) (x:S) (acc:List UInt8),j = .exit 0 [I .u64 m,Z x]/\FB s u x acc/\m<128/\acc++[UInt8.ofNat m]=aP n/\acc.length<=10) (by
  rintro q v u ⟨m,x,acc,rfl,hF,hm,hq,hal,nK⟩
  have aam:m<2 ^ 64:=Nat.lt_of_lt_of_le hm (Nat.pow_le_pow_right (by omega) (by omega))
  by_cases h128:128<=m
  · cases q with
    | zero =>
      exfalso
      have:64-7*(10-0)=0:=by decide
      rw [this] at hm
      omega
    | succ q =>
      left
      have mG:af .or (I .u8 ((m%256:Nat))) (I .u8 128)=some (I .u8 ((UInt8.ofNat (m%128+128)).toNat)):=by
       have h1:=Tg (m%256) 128 (by omega) (by omega)
       rw [Tf _ (by omega)] at h1
       have e1:(UInt8.ofNat (m%128+128)).toNat=m%256%128+128:=by rw [dU];omega
       rw [e1]
       exact h1
      have hw:=fH m
      have SA:af .shr (I .u64 m) (I .u64 7)=some (I .u64 ((m / 2 ^ 7:Nat))):=eS .u64 m 7 (by decide)
      have c0:((128:Int)<=(m:Int))=True:=eq_true (by omega)
      have nw:=MC u (UInt8.ofNat (m%128+128)).toNat
      obtain ⟨x',t,ap,NB,hz,_⟩:=FB.lit hF (cs:=[UInt8.ofNat (m%128+128)]) (by simp;omega)
      unfold mA at nK
      rw [if_pos h128] at nK
      refine ⟨[I .u64 ((m / 2 ^ 7:Nat)),Z x'],t,q,?_,rfl,m / 2 ^ 7,x',acc++[UInt8.ofNat (m%128+128)],rfl,NB,?_,by omega,by simp;omega,by rw [List.append_assoc];exact nK⟩
      · unfold nC
        simp only [U,List.map_cons,List.map_nil,List.length_cons,List.length_nil,Nat.zero_add] at ap
        generalize ((m / 2 ^ 7:Nat):Int)=M7 at SA ⊢
        generalize ((m%256:Nat):Int)=M8 at hw mG
        generalize ((UInt8.ofNat (m%128+128)).toNat:Int)=B8 at mG nw ap
        generalize (m:Int)=M at *
        simp [c0,hw,mG,nw,ap,SA]
      · have Sv:q≠0:=fun e=>by
         subst e
         have:64-7*(10-(0+1))=1:=by decide
         rw [this] at hm
         omega
        have h2:(2:Nat) ^ (64-7*(10-(q+1)))=2 ^ (64-7*(10-q))*2 ^ 7:=by
         rw [← Nat.pow_add]
         congr 1
         omega
        rw [h2] at hm
        exact Nat.div_lt_of_lt_mul (by rw [Nat.mul_comm];exact hm)
  · right
    have c0:((128:Int)<=(m:Int))=False:=eq_false (by omega)
    refine ⟨.exit 0 [I .u64 m,Z x],u,?_,(fun v hv=>by cases hv),m,x,acc,rfl,hF,by omega,?_,by omega⟩
    · unfold nC
      simp [c0]
    · rw [← nK]
      cases q with
      | zero=>rfl
      | succ q=>unfold mA;rw [if_neg h128]) 8192 10 [I .u64 n,Z .az] s ⟨n,.az,[],rfl,Fr.nil 1 wf,hn,by omega,rfl,rfl⟩ (by omega)
 exact ⟨m,x,acc,τ,lp,hF,hm,nK⟩
theorem fG (d:Nat) (wf:s.wf) (n:Nat) (hn:n<2 ^ 64):∃ x t,R (d+1) 159 [I .u64 n] s=some (Z x,t)/\FB s t x (aP n):=by
 rw [Gv]
 unfold f159
 obtain ⟨m,x,acc,τ,lp,hF,hm,nK⟩:=vR (R d) wf n hn
 have nw:=MC τ m
 have hb:(UInt8.ofNat m).toNat=m:=by rw [dU];omega
 obtain ⟨x',t,ap,NB,_⟩:=FB.lit hF (cs:=[UInt8.ofNat m]) (by simp;omega)
 rw [nK.1] at NB
 refine ⟨x',t,?_,NB⟩
 have hw:IntKind.u8.wrap (m:Int)=(m:Int):=by rw [fH];omega
 simp only [U,List.map_cons,List.map_nil,List.length_cons,List.length_nil,Nat.zero_add,hb] at ap
 simp [lp,hw,nw,ap]
end
structure bA where
 k:Int
 v:Int
 i:Int
 t:Int
 f:Int
 o:Int
 u:Int
 x:Bs
 deriving DecidableEq
def cE (e:bA):List S:=[.int .i64 e.k,.int .i64 e.v,.int .i64 e.i,.int .i64 e.t,.int .i64 e.f,.int .i64 e.o,.int .u32 e.u,.str e.x]
abbrev AE (e:bA):T := .v (.agg (cE e))
def bC:bA:=⟨0,0,0,0,0,0,0,[]⟩
theorem FO (e:bA):(cE e).length=8:=rfl
def my (n:Int):Bool:=decide (1<=n)&&decide (n<=1073741824)
def bT (e:bA):Bool :=
 if e.v<0\/1073741824<e.v then false
 else if e.k=1 then decide (e.x=[])&&my e.i&&decide (0<=e.t)&&decide (e.t<4)&&decide (0<=e.f)&&decide (e.f<e.o)&&decide (e.o<=1099511627776)
 else if e.k=2 then my e.i&&decide (e={ bC with k:=2,v:=e.v,i:=e.i })
 else if e.k=3 then decide (0<e.v)&&decide (e={ bC with k:=3,v:=e.v })
 else if e.k=4 then decide (e.x.length<=300)&&decide (e={ bC with k:=4,v:=e.v,x:=e.x })&&decide ((fB e.x).2.1=0)
 else false
section
variable {s t:St} {x y:S} {l:Bs} {i:Nat}
theorem Yh (a b:bA):zT (.a 8 [(0,.i),(1,.i),(2,.i),(3,.i),(4,.i),(5,.i),(6,.i),(7,.s)]) (AE a) (AE b)=some (decide (a=b)):=by
 obtain ⟨a1,a2,a3,a4,a5,a6,a7,a8⟩:=a
 obtain ⟨b1,b2,b3,b4,b5,b6,b7,b8⟩:=b
 show some (decide (a1=b1)&&(decide (a2=b2)&&(decide (a3=b3)&&(decide (a4=b4)&&(decide (a5=b5)&&(decide (a6=b6)&&(decide (a7=b7)&&(decide (a8=b8)&&true))))))))=some (decide (bA.mk a1 a2 a3 a4 a5 a6 a7 a8=bA.mk b1 b2 b3 b4 b5 b6 b7 b8))
 simp only [bA.mk.injEq,Bool.and_true,Bool.decide_and]
theorem RC (a b:bA):iC (.a 8 [(0,.i),(1,.i),(2,.i),(3,.i),(4,.i),(5,.i),(6,.i),(7,.s)]) (AE a) (AE b)=some (B (decide (a=b))):=by
 simp only [iC,Yh]
theorem W9 (a b:bA):Eh (.a 8 [(0,.i),(1,.i),(2,.i),(3,.i),(4,.i),(5,.i),(6,.i),(7,.s)]) (AE a) (AE b)=some (B (!decide (a=b))):=by
 simp only [Eh,Yh]
theorem dQ {i:Nat} {w:Bool} {e:bA} {g:Mem} (h:g i=some (.cells w (cE e))):aG 8 (Z (.ptr i 0)) g=some (AE e):=by
 simp [aG,h,cE]
theorem j6 {i:Nat} {vs:List S} {e:bA} (h:s.get i=some (.cells true vs)) (hv:vs.length=8):aw 8 (Z (.ptr i 0)) (AE e) s=some (tt,s.set i (.cells true (cE e))):=by
 have hb:(V.agg (cE e)).cells.length=8/\0+8<=vs.length:=⟨rfl,by omega⟩
 simp only [aw,h,if_pos hb]
 rw [show (V.agg (cE e)).cells=cE e from rfl,ez (by rw [hv];rfl)]
theorem An:aU (aE [.int .i64 0,.int .i64 0,.int .i64 0,.int .i64 0,.int .i64 0,.int .i64 0,.int .u32 0,.str []] [])=some (AE bC):=rfl
theorem PZ (d:Nat) (n:Int):R (d+1) 193 [I .i64 n] s=some (B (my n),s):=by
 rw [GM]
 unfold f193
 by_cases h:1<=n
 · simp [my,h]
 · simp [my,h]
theorem sY (d:Nat) (wf:s.wf) (e:bA):∃ t,R (d+8) 149 [AE e] s=some (B (bT e),t)/\Gr s t:=by
 rw [Gp]
 unfold f149
 obtain ⟨s1,hs1⟩:∃ s1,s1=s.push (.cells true (cE e)):=⟨_,rfl⟩
 have cX:aK s (ct (AE e))=some (Z (.ptr s.size 0),s1):=by rw [hs1];rfl
 have g1:Gr s s1:=by rw [hs1];exact Gr.push wf _
 have h1:s1.get s.size=some (.cells true (cE e)):=by rw [hs1];exact St.aq _ _
 have l0:ab (Z (.ptr s.size 0)) s1.get=some (I .i64 e.k):=ai h1 rfl
 have l1:ab (Z (.ptr s.size 1)) s1.get=some (I .i64 e.v):=ai h1 rfl
 have l2:ab (Z (.ptr s.size 2)) s1.get=some (I .i64 e.i):=ai h1 rfl
 have l3:ab (Z (.ptr s.size 3)) s1.get=some (I .i64 e.t):=ai h1 rfl
 have l4:ab (Z (.ptr s.size 4)) s1.get=some (I .i64 e.f):=ai h1 rfl
 have l5:ab (Z (.ptr s.size 5)) s1.get=some (I .i64 e.o):=ai h1 rfl
 have l7:ab (Z (.ptr s.size 7)) s1.get=some (Z (.str e.x)):=ai h1 rfl
 have l8:=dQ (g:=s1.get) h1
 have DA:=PZ (s:=s1) (d+6) e.i
 simp only [Nat.add_assoc,Nat.reduceAdd] at DA
 by_cases c1:e.v<0
 · refine ⟨s1,?_,g1⟩
   have hm:bT e=false:=by simp [bT,c1]
   rw [hm]
   simp [cX,l1,c1]
 · by_cases c2:1073741824<e.v
   · refine ⟨s1,?_,g1⟩
     have hm:bT e=false:=by simp [bT,c2]
     rw [hm]
     simp [cX,l1,c1,c2]
   · have hv:¬ (e.v<0\/1073741824<e.v):=fun h=>h.elim c1 c2
     by_cases k1:e.k=1
     · have hm:bT e=(decide (e.x=[])&&my e.i&&decide (0<=e.t)&&decide (e.t<4)&&decide (0<=e.f)&&decide (e.f<e.o)&&decide (e.o<=1099511627776)):=by
        unfold bT;rw [if_neg hv,if_pos k1]
       rw [hm]
       refine ⟨s1,?_,g1⟩
       by_cases d1:e.x=[]
       · cases d2:my e.i with
         | true =>
           rw [d2] at DA
           by_cases d3:0<=e.t
           · by_cases d4:e.t<4
             · by_cases d5:0<=e.f
               · by_cases d6:e.f<e.o
                 · simp [cX,l0,l1,l2,l3,l4,l5,l7,c1,c2,k1,d1,DA,d3,d4,d5,d6]
                 · simp [cX,l0,l1,l2,l3,l4,l5,l7,c1,c2,k1,d1,DA,d3,d4,d5,d6]
               · simp [cX,l0,l1,l2,l3,l4,l5,l7,c1,c2,k1,d1,DA,d3,d4,d5]
             · simp [cX,l0,l1,l2,l3,l4,l5,l7,c1,c2,k1,d1,DA,d3,d4]
           · simp [cX,l0,l1,l2,l3,l4,l5,l7,c1,c2,k1,d1,DA,d3]
         | false =>
           rw [d2] at DA
           simp [cX,l0,l1,l2,l3,l4,l5,l7,c1,c2,k1,d1,DA]
       · simp [cX,l0,l1,l2,l3,l4,l5,l7,c1,c2,k1,d1]
     · by_cases k2:e.k=2
       · have hm:bT e=(my e.i&&decide (e={ bC with k:=2,v:=e.v,i:=e.i })):=by
          unfold bT;rw [if_neg hv,if_neg k1,if_pos k2]
         rw [hm]
         refine ⟨s1,?_,g1⟩
         have ag:aU (aE [.int .i64 0,.int .i64 0,.int .i64 0,.int .i64 0,.int .i64 0,.int .i64 0,.int .u32 0,.str []] [(0,1,(I .i64 2)),(1,1,I .i64 e.v),(2,1,I .i64 e.i)])=some (AE { bC with k:=2,v:=e.v,i:=e.i }):=rfl
         have eq:=RC e { bC with k:=2,v:=e.v,i:=e.i }
         generalize hD:decide (e={ bC with k:=2,v:=e.v,i:=e.i })=D at *
         generalize ({ bC with k:=2,v:=e.v,i:=e.i }:bA)=e2 at *
         cases d2:my e.i with
         | true =>
           rw [d2] at DA
           simp [cX,l0,l1,l2,l8,c1,c2,k2,DA,ag,eq]
         | false =>
           rw [d2] at DA
           simp [cX,l0,l1,l2,l8,c1,c2,k2,DA]
       · by_cases k3:e.k=3
         · have hm:bT e=(decide (0<e.v)&&decide (e={ bC with k:=3,v:=e.v })):=by
            unfold bT;rw [if_neg hv,if_neg k1,if_neg k2,if_pos k3]
           rw [hm]
           refine ⟨s1,?_,g1⟩
           have ag:aU (aE [.int .i64 0,.int .i64 0,.int .i64 0,.int .i64 0,.int .i64 0,.int .i64 0,.int .u32 0,.str []] [(0,1,(I .i64 3)),(1,1,I .i64 e.v)])=some (AE { bC with k:=3,v:=e.v }):=rfl
           have eq:=RC e { bC with k:=3,v:=e.v }
           generalize hD:decide (e={ bC with k:=3,v:=e.v })=D at *
           generalize ({ bC with k:=3,v:=e.v }:bA)=e2 at *
           by_cases d1:0<e.v
           · simp [cX,l0,l1,l8,c1,c2,k3,d1,ag,eq]
           · simp [cX,l0,l1,l8,c1,c2,k3,d1]
         · by_cases k4:e.k=4
           · have hm:bT e=(decide (e.x.length<=300)&&decide (e={ bC with k:=4,v:=e.v,x:=e.x })&&decide ((fB e.x).2.1=0)):=by
              unfold bT;rw [if_neg hv,if_neg k1,if_neg k2,if_neg k3,if_pos k4]
             rw [hm]
             have ag:aU (aE [.int .i64 0,.int .i64 0,.int .i64 0,.int .i64 0,.int .i64 0,.int .i64 0,.int .u32 0,.str []] [(0,1,(I .i64 4)),(1,1,I .i64 e.v),(7,1,Z (.str e.x))])=some (AE { bC with k:=4,v:=e.v,x:=e.x }):=rfl
             have eq:=W9 e { bC with k:=4,v:=e.v,x:=e.x }
             generalize hD:decide (e={ bC with k:=4,v:=e.v,x:=e.x })=D at *
             generalize ({ bC with k:=4,v:=e.v,x:=e.x }:bA)=e2 at *
             by_cases d1:e.x.length<=300
             · have d1':¬ (300:Int)<(e.x.length:Int):=by omega
               cases D with
               | false =>
                 refine ⟨s1,?_,g1⟩
                 simp [cX,l0,l1,l7,l8,c1,c2,k4,d1',ag,eq]
               | true =>
                 obtain ⟨s2,Jx,g2⟩:=vy (l:=e.x) d g1.wf (by omega)
                 obtain ⟨s3,mw⟩:∃ s3,s3=s2.push (.cells true (cP cU)):=⟨_,rfl⟩
                 have Br:aK s2 (ba [.int .i64 0,.int .i64 0,.int .i64 0,.int .i64 0,.int .i64 0,.int .i64 0])=some (Z (.ptr s2.size 0),s3):=by rw [mw];rfl
                 have g3:Gr s2 s3:=by rw [mw];exact Gr.push g2.wf _
                 have st:=lH (p:=(fB e.x).1) (s:=s3) (i:=s2.size) (vs:=cP cU) (by rw [mw];exact St.aq _ _) rfl
                 refine ⟨s3.set s2.size (.cells true (cP (fB e.x).1)),?_,g1.trans (g2.trans ⟨St.wf_set g3.wf (by rw [mw];simp) _,by simp;exact g3.2.1,fun b hb=>by rw [St.aj _ _ (by omega)];exact g3.2.2 b hb⟩)⟩
                 generalize R (d+7)=r at *
                 simp [cX,l0,l1,l7,l8,c1,c2,k4,d1',d1,ag,eq,Jx,ah,Br,st]
             · have d1':(300:Int)<(e.x.length:Int):=by omega
               refine ⟨s1,?_,g1⟩
               simp [cX,l0,l1,l7,c1,c2,k4,d1',d1]
           · have hm:bT e=false:=by unfold bT;rw [if_neg hv,if_neg k1,if_neg k2,if_neg k3,if_neg k4]
             rw [hm]
             refine ⟨s1,?_,g1⟩
             simp [cX,l0,l1,c1,c2,k1,k2,k3,k4]
def dZ (e:bA):List Nat :=
 if e.k=1 then [e.i.toNat,e.t.toNat,e.f.toNat,e.o.toNat,e.u.toNat] else if e.k=2 then [e.i.toNat] else if e.k=4 then [e.x.length] else []
def dA:List Nat->Bs
 | []=>[]
 | n::r=>aP n++dA r
def bp (e:bA):Bs:=UInt8.ofNat e.k.toNat::(aP e.v.toNat++dA (dZ e)++e.x)
def cV (e:bA):Option Bs:=if bT e then some (bp e) else none
def ot (l:List Nat):List S:=l.map fun n:Nat=>S.int .u64 ((n:Nat):Int)
@[simp] theorem TA (l:List Nat):(ot l).length=l.length:=by simp [ot]
theorem mh:∀ l:List Nat,(dA l).length<=11*l.length
 | []=>by simp [dA]
 | n::r=>by have:=bG n;have:=mh r;simp [dA];omega
theorem tB:∀ (l:List Nat) (n:Nat),dA (l++[n])=dA l++aP n
 | [],n=>by simp [dA]
 | m::r,n=>by simp [dA,tB r n]
theorem tf (e:bA):(dZ e).length<=5:=by
 unfold dZ
 split
 · simp
 · split
   · simp
   · split<;>simp
theorem vu (d:Nat) {s0:St} {v0:T} {acc:Bs} {ns:List Nat} (hb:FB s0 s y acc) (hx:Rd 1 s x ns.length (ot ns)) (eH:∀ c,own x=some c->c<s.size/\own y≠some c/\s0.size<=c) (hn:∀ n∈ns,n<2 ^ 64) (hl:ns.length<=5) (ha:acc.length<=1000) :
 ∃ (z:S) (τ:St),loops (gh (R (d+1)) 8192) 8192 [v0,Z y,Z x,I .i64 ns.length,I .i64 0] s=some (.exit 1 [v0,Z z],τ)/\FB s0 τ z (acc++dA ns):=by
 obtain ⟨j,τ,lp,z,rfl,hf⟩:=aW (f:=gh (R (d+1)) 8192) (fun q v u=>∃ (k:Nat) (z:S),q+k=ns.length/\v=[v0,Z z,Z x,I .i64 ns.length,I .i64 k]/\FB s0 u z (acc++dA (ns.take k))/\Rd 1 u x ns.length (ot ns)/\(∀ c,own x=some c->c<u.size/\own z≠some c))
  (fun j u=>∃ z,j = .exit 1 [v0,Z z]/\FB s0 u z (acc++dA ns)) (by
  rintro q v u ⟨k,z,hk,rfl,hf,hr,ho⟩
  by_cases eU:k<ns.length
  · left
    have hc:ns[k]? = some ns[k]:=List.getElem?_eq_getElem eU
    obtain ⟨p,ix,ld⟩:=Rd.xL hr (n:=ns.length) (i:=(k:Int)) (v := .int .u64 (ns[k]:Int)) rfl (by simp [ot,hc])
    have c0:(k:Int)<(ns.length:Int):=by omega
    have w1:IntKind.i64.wrap ((k:Int)+1)=((k+1:Nat):Int):=by rw [aB _ (by omega) (by omega)];omega
    have kZ:ns.take (k+1)=ns.take k++[ns[k]]:=by rw [List.take_add_one,hc];rfl
    obtain ⟨p1,u1,e1,f1⟩:=fG d hf.gr.wf ns[k] (hn _ (List.getElem_mem eU))
    have PD:FB s0 u1 z (acc++dA (ns.take k)):=hf.kE f1.gr
    have hpl:(dA (ns.take k)).length<=55:=by have:=mh (ns.take k);rw [List.length_take] at this;omega
    obtain ⟨z2,u2,ap,o7,SR,SZ,Xa⟩:=FB.Og PD f1.rd (by have:=bG ns[k];simp;omega)
    have hr2:Rd 1 u2 x ns.length (ot ns):=hr.keep fun c gY=>by rw [SZ c (Nat.lt_of_lt_of_le (ho c gY).1 f1.gr.2.1) (ho c gY).2,f1.gr.2.2 c (ho c gY).1]
    have Rb:∀ c,own x=some c->c<u2.size/\own z2≠some c:=fun c gY=>by
     have h1:=(ho c gY).1
     have h2:=f1.gr.2.1
     refine ⟨by omega,fun e => ?_⟩
     rcases Xa with n | n | ⟨c',n,hc2⟩
     · rw [n] at e;cases e
     · rw [n] at e;exact (ho c gY).2 e
     · rw [n] at e;cases e;omega
    refine ⟨[v0,Z z2,Z x,I .i64 ns.length,I .i64 ((k+1:Nat):Int)],u2,q-1,?_,by omega,k+1,z2,by omega,rfl,by rw [kZ,tB,← List.append_assoc];exact o7,hr2,Rb⟩
    unfold gh
    generalize R (d+1)=r at *
    generalize ((k+1:Nat):Int)=K1 at w1 ⊢
    generalize (k:Int)=K at *
    generalize (ns[k]:Int)=NK at *
    generalize (ns.length:Int)=L at *
    simp [c0,ix,ld,e1,ap,w1]
  · right
    have hk':k=ns.length:=by omega
    subst hk'
    rw [List.take_length] at hf
    refine ⟨.exit 1 [v0,Z z],u,?_,(fun v hv=>by cases hv),z,rfl,hf⟩
    unfold gh
    simp) 8192 ns.length [v0,Z y,Z x,I .i64 ns.length,I .i64 0] s ⟨0,y,by omega,rfl,by simpa [dA] using hb,hx,fun c hc=>⟨(eH c hc).1,(eH c hc).2.1⟩⟩ (by omega)
 exact ⟨z,τ,lp,hf⟩
def rK (e:bA):Prop:=0<=e.u/\e.u<4294967296
theorem dY {e:bA} (h:bT e=true):0<=e.v/\e.v<=1073741824/\1<=e.k/\e.k<=4/\(e.k=1->e.x=[]/\1<=e.i/\e.i<=1073741824/\0<=e.t/\e.t<4/\0<=e.f/\e.f<e.o/\e.o<=1099511627776) ∧
 (e.k=2->1<=e.i/\e.i<=1073741824/\e={ bC with k:=2,v:=e.v,i:=e.i })/\(e.k=3->0<e.v/\e={ bC with k:=3,v:=e.v })/\(e.k=4->e.x.length<=300/\e={ bC with k:=4,v:=e.v,x:=e.x }/\(fB e.x).2.1=0):=by
 unfold bT at h
 split at h
 · cases h
 · rename_i hv
   have uq:0<=e.v/\e.v<=1073741824:=by omega
   refine ⟨uq.1,uq.2,?_⟩
   by_cases k1:e.k=1
   · rw [if_pos k1] at h
     simp only [Bool.and_eq_true,decide_eq_true_eq,my] at h
     refine ⟨by omega,by omega,fun _ => ?_,(fun h2=>by omega),(fun h2=>by omega),(fun h2=>by omega)⟩
     obtain ⟨⟨⟨⟨⟨⟨a,b,b'⟩,c⟩,d⟩,f⟩,g⟩,o⟩:=h
     exact ⟨a,b,b',c,d,f,g,o⟩
   · rw [if_neg k1] at h
     by_cases k2:e.k=2
     · rw [if_pos k2] at h
       simp only [Bool.and_eq_true,decide_eq_true_eq,my] at h
       exact ⟨by omega,by omega,(fun h2=>by omega),fun _=>⟨h.1.1,h.1.2,h.2⟩,(fun h2=>by omega),(fun h2=>by omega)⟩
     · rw [if_neg k2] at h
       by_cases k3:e.k=3
       · rw [if_pos k3] at h
         simp only [Bool.and_eq_true,decide_eq_true_eq] at h
         exact ⟨by omega,by omega,(fun h2=>by omega),(fun h2=>by omega),fun _=>h,(fun h2=>by omega)⟩
       · rw [if_neg k3] at h
         by_cases k4:e.k=4
         · rw [if_pos k4] at h
           simp only [Bool.and_eq_true,decide_eq_true_eq] at h
           exact ⟨by omega,by omega,(fun h2=>by omega),(fun h2=>by omega),(fun h2=>by omega),fun _=>⟨h.1.1,h.1.2,h.2⟩⟩
         · rw [if_neg k4] at h
           cases h
theorem MT {e:bA} (h:bT e=true) (hw:rK e):∀ n∈dZ e,n<2 ^ 64:=by
 obtain ⟨_,_,_,_,h1,h2,_,h4⟩:=dY h
 have:=hw.2
 intro n hn
 unfold dZ at hn
 split at hn
 · rename_i k
   have:=h1 k
   simp at hn
   rcases hn with rfl | rfl | rfl | rfl | rfl<;>omega
 · split at hn
   · rename_i k
     have:=h2 k
     simp at hn
     omega
   · split at hn
     · rename_i k
       have:=h4 k
       simp at hn
       omega
     · cases hn
theorem tA {e:bA} (h:e.x.length<=300):(bp e).length<=400:=by
 have h1:=bG e.v.toNat
 have h2:=mh (dZ e)
 have h3:=tf e
 simp [bp]
 omega
theorem pF {e:bA} (h:bT e=true):e.x.length<=300:=by
 obtain ⟨_,_,k1,k4,h1,h2,h3,h4⟩:=dY h
 by_cases e1:e.k=1
 · rw [(h1 e1).1];simp
 · by_cases e2:e.k=2
   · rw [(h2 e2).2.2];simp [bC]
   · by_cases e3:e.k=3
     · rw [(h3 e3).2];simp [bC]
     · exact (h4 (by omega)).1
theorem CU (d:Nat) (wf:s.wf) {e:bA} (h:bT e=false):∃ t,R (d+9) 133 [AE e] s=some (.eD [.s .az,.s (.int .i64 1)],t)/\Gr s t:=by
 rw [yA]
 unfold f133
 obtain ⟨s1,hs1⟩:∃ s1,s1=s.push (.cells true (cE e)):=⟨_,rfl⟩
 have cX:aK s (ct (AE e))=some (Z (.ptr s.size 0),s1):=by rw [hs1];rfl
 have g1:Gr s s1:=by rw [hs1];exact Gr.push wf _
 have h1:s1.get s.size=some (.cells true (cE e)):=by rw [hs1];exact St.aq _ _
 have l8:=dQ (g:=s1.get) h1
 obtain ⟨s2,e2,g2⟩:=sY d g1.wf e
 rw [h] at e2
 exact ⟨s2,by simp [cX,l8,e2,aQ,bI],g1.trans g2⟩
theorem CV (d:Nat) (wf:s.wf) {e:bA} (h:bT e=true) (hw:rK e):∃ y t,R (d+9) 133 [AE e] s=some (.eD [.s y,.s (.int .i64 0)],t)/\FB s t y (bp e):=by
 rw [yA]
 unfold f133
 obtain ⟨r1,r2,r3,r4,uj,hk2,hk3,Q5⟩:=dY h
 obtain ⟨s1,hs1⟩:∃ s1,s1=s.push (.cells true (cE e)):=⟨_,rfl⟩
 have cX:aK s (ct (AE e))=some (Z (.ptr s.size 0),s1):=by rw [hs1];rfl
 have g1:Gr s s1:=by rw [hs1];exact Gr.push wf _
 have h1:s1.get s.size=some (.cells true (cE e)):=by rw [hs1];exact St.aq _ _
 have z1:s1.size=s.size+1:=by rw [hs1];rfl
 have l8:=dQ (g:=s1.get) h1
 obtain ⟨s2,e2,g2⟩:=sY d g1.wf e
 rw [h] at e2
 have h2:s2.get s.size=some (.cells true (cE e)):=g2.get h1 g1.wf
 have SR:s.size+1<=s2.size:=by have:=g2.2.1;omega
 have lk:ab (Z (.ptr s.size 0)) s2.get=some (I .i64 e.k):=ai h2 rfl
 have wk:IntKind.u8.wrap e.k=((UInt8.ofNat e.k.toNat).toNat:Int):=by
  have:=fH e.k.toNat
  rw [show ((e.k.toNat:Nat):Int)=e.k by omega] at this
  rw [this,dU]
 obtain ⟨kb,hkb⟩:∃ kb,kb=UInt8.ofNat e.k.toNat:=⟨_,rfl⟩
 rw [← hkb] at wk
 obtain ⟨s4,hs4⟩:∃ s4,s4=s2.push (.cells true (U [kb])):=⟨_,rfl⟩
 have Aa:aK s2 (aR 1 (aE [.int .u8 0] [(0,1,I .u8 kb.toNat)]))=some (Z (.sl s2.size 0 1 (.known 1)),s4):=by rw [hs4,MC];rfl
 have f4:FB s2 s4 (.sl s2.size 0 1 (.known 1)) [kb]:=by rw [hs4];exact Fr.lit 1 g2.wf rfl
 have h4:s4.get s.size=some (.cells true (cE e)):=f4.gr.get h2 g2.wf
 have lv:ab (Z (.ptr s.size 1)) s4.get=some (I .i64 e.v):=ai h4 rfl
 have wv:IntKind.u64.wrap e.v=(e.v.toNat:Int):=by rw [cf _ (by omega) (by omega)];omega
 obtain ⟨y5,s5,e5,f5⟩:=fG (d+7) f4.gr.wf e.v.toNat (by omega)
 have h5:s5.get s.size=some (.cells true (cE e)):=f5.gr.get h4 f4.gr.wf
 have UF:ab (Z (.ptr s.size 0)) s5.get=some (I .i64 e.k):=ai h5 rfl
 have Uq:cq 8 s5.get (Bw 3 s2.size (aR 1 (aE [.int .u8 0] [(0,1,I .u8 kb.toNat)])) [])=s5.get:=rfl
 have f45:FB s2 s5 (.sl s2.size 0 1 (.known 1)) [kb]:=f4.kE f5.gr
 obtain ⟨y6,s6,QG,f6,z6,k6,n6⟩:=FB.Og f45 f5.rd (by have:=bG e.v.toNat;simp;omega)
 have h6:s6.get s.size=some (.cells true (cE e)):=f6.gr.get h2 g2.wf
 have nK:([kb]++aP e.v.toNat).length<=1000:=by have:=bG e.v.toNat;simp;omega
 have L:∀ (j:Nat) (x:S),(cE e)[j]? = some x->ab (Z (.ptr s.size j)) s6.get=some (Z x):=fun j x hx=>ai h6 hx
 have l0:=L 0 _ rfl
 have l2:=L 2 _ rfl
 have l3:=L 3 _ rfl
 have l4:=L 4 _ rfl
 have l5:=L 5 _ rfl
 have l6:=L 6 _ rfl
 have l7:=L 7 _ rfl
 have fin:∀ (z:S) (τ:St),FB s2 τ z ([kb]++aP e.v.toNat++dA (dZ e))->∃ y t,ab (Z (.ptr s.size 7)) τ.get=some (Z (.str e.x))/\aH 1 1 (Z z) (Z (.str e.x)) τ=some (Z y,t)/\FB s t y (bp e):=fun z τ hf=>by
  have hx:=pF h
  have hn:=mh (dZ e)
  have Uo:=tf e
  obtain ⟨y,t,ap,o7,_⟩:=FB.Oh (cs:=e.x) hf (by simp at nK ⊢;omega)
  refine ⟨y,t,ai (hf.gr.get h2 g2.wf) rfl,ap,?_⟩
  have e1:[kb]++aP e.v.toNat++dA (dZ e)++e.x=bp e:=by rw [hkb];simp [bp]
  rw [e1] at o7
  exact o7.from (g1.trans g2)
 have hlt:=MT h hw
 have hnl:=tf e
 have Xh:∀ c,own y6=some c->c<s6.size:=fun c hc=>(f6.new c hc).2
 have num:∀ n,n=(dZ e).length->∃ z τ,loops (gh (R (d+8)) 8192) 8192 [Z (.ptr s.size 0),Z y6,Z (.sl s6.size 0 n (.known n)),I .i64 (n:Nat),I .i64 0] (s6.push (.cells true (ot (dZ e))))=some (.exit 1 [Z (.ptr s.size 0),Z z],τ)/\FB s2 τ z ([kb]++aP e.v.toNat++dA (dZ e)):=fun n hn=>by
  subst hn
  have L:=Fr.lit 1 f6.gr.wf (n:=(dZ e).length) (vs:=ot (dZ e)) (by simp)
  exact vu (d+7) (v0:=Z (.ptr s.size 0)) (f6.kE L.gr) L.rd (fun c hc=>by
   cases hc
   exact ⟨by simp,(fun e=>by have:=Xh _ e;omega),by have:=f6.gr.2.1;omega⟩) hlt hnl nK
 simp only [Nat.add_assoc,Nat.reduceAdd] at e5
 by_cases c1:e.k=1
 · have ns:dZ e=[e.i.toNat,e.t.toNat,e.f.toNat,e.o.toNat,e.u.toNat]:=by unfold dZ;rw [if_pos c1]
   obtain ⟨_,i1,i2,t1,t2,q1,q2,q3⟩:=uj c1
   have hu:=hw.1
   have yN:=hw.2
   have w2:IntKind.u64.wrap e.i=(e.i.toNat:Int):=by rw [cf _ (by omega) (by omega)];omega
   have w3:IntKind.u64.wrap e.t=(e.t.toNat:Int):=by rw [cf _ (by omega) (by omega)];omega
   have w4:IntKind.u64.wrap e.f=(e.f.toNat:Int):=by rw [cf _ (by omega) (by omega)];omega
   have w5:IntKind.u64.wrap e.o=(e.o.toNat:Int):=by rw [cf _ (by omega) (by omega)];omega
   have w6:IntKind.u64.wrap e.u=(e.u.toNat:Int):=by rw [cf _ (by omega) (by omega)];omega
   obtain ⟨z,τ,lp,hf⟩:=num 5 (by rw [ns];rfl)
   obtain ⟨y,t,lx,Oi,o7⟩:=fin z τ hf
   have CO:aK s6 (aR 5 (aE [.int .u64 0,.int .u64 0,.int .u64 0,.int .u64 0,.int .u64 0] [(0,1,I .u64 (e.i.toNat:Int)),(1,1,I .u64 (e.t.toNat:Int)),(2,1,I .u64 (e.f.toNat:Int)),(3,1,I .u64 (e.o.toNat:Int)),(4,1,I .u64 (e.u.toNat:Int))])) =
    some (Z (.sl s6.size 0 5 (.known 5)),s6.push (.cells true (ot (dZ e)))):=by rw [ns];rfl
   refine ⟨y,t,?_,o7⟩
   generalize s6.push (.cells true (ot (dZ e)))=s7 at *
   generalize R (d+8)=r at *
   generalize (e.i.toNat:Int)=A2 at *
   generalize (e.t.toNat:Int)=A3 at *
   generalize (e.f.toNat:Int)=A4 at *
   generalize (e.o.toNat:Int)=A5 at *
   generalize (e.u.toNat:Int)=A6 at *
   generalize (e.v.toNat:Int)=A1 at *
   generalize (kb.toNat:Int)=KB at *
   have Fb:IntKind.u8.wrap 1=KB:=by rw [← c1];exact wk
   have lq:loops (gh r 8192) 8192 [Z (.ptr s.size 0),Z y6,Z (.sl s6.size 0 5 (.known 5)),I .i64 5,I .i64 0] s7=some (.exit 1 [Z (.ptr s.size 0),Z z],τ):=lp
   simp [cX,l8,e2,lk,c1,Fb,Aa,lv,wv,e5,QG,Uq,UF,l0,l2,l3,l4,l5,l6,w2,w3,w4,w5,w6,CO,lq,lx,Oi,aQ,bI]
 · by_cases c2:e.k=2
   · have ns:dZ e=[e.i.toNat]:=by unfold dZ;rw [if_neg c1,if_pos c2]
     obtain ⟨i1,i2,_⟩:=hk2 c2
     have w2:IntKind.u64.wrap e.i=(e.i.toNat:Int):=by rw [cf _ (by omega) (by omega)];omega
     obtain ⟨z,τ,lp,hf⟩:=num 1 (by rw [ns];rfl)
     obtain ⟨y,t,lx,Oi,o7⟩:=fin z τ hf
     have CO:aK s6 (aR 1 (aE [.int .u64 0] [(0,1,I .u64 (e.i.toNat:Int))]))=some (Z (.sl s6.size 0 1 (.known 1)),s6.push (.cells true (ot (dZ e)))):=by rw [ns];rfl
     refine ⟨y,t,?_,o7⟩
     generalize s6.push (.cells true (ot (dZ e)))=s7 at *
     generalize R (d+8)=r at *
     generalize (e.i.toNat:Int)=A2 at *
     generalize (e.v.toNat:Int)=A1 at *
     generalize (kb.toNat:Int)=KB at *
     have Fb:IntKind.u8.wrap 2=KB:=by rw [← c2];exact wk
     have lq:loops (gh r 8192) 8192 [Z (.ptr s.size 0),Z y6,Z (.sl s6.size 0 1 (.known 1)),I .i64 1,I .i64 0] s7=some (.exit 1 [Z (.ptr s.size 0),Z z],τ):=lp
     simp [cX,l8,e2,lk,c2,Fb,Aa,lv,wv,e5,QG,Uq,UF,l0,l2,w2,CO,lq,lx,Oi,aQ,bI]
   · by_cases c4:e.k=4
     · have ns:dZ e=[e.x.length]:=by unfold dZ;rw [if_neg c1,if_neg c2,if_pos c4]
       have hx:=pF h
       have w2:IntKind.u64.wrap (e.x.length:Int)=(e.x.length:Int):=wrap64 _ (by omega)
       obtain ⟨z,τ,lp,hf⟩:=num 1 (by rw [ns];rfl)
       obtain ⟨y,t,lx,Oi,o7⟩:=fin z τ hf
       have CO:aK s6 (aR 1 (aE [.int .u64 0] [(0,1,I .u64 (e.x.length:Int))]))=some (Z (.sl s6.size 0 1 (.known 1)),s6.push (.cells true (ot (dZ e)))):=by rw [ns];rfl
       refine ⟨y,t,?_,o7⟩
       generalize s6.push (.cells true (ot (dZ e)))=s7 at *
       generalize R (d+8)=r at *
       generalize (e.v.toNat:Int)=A1 at *
       generalize (kb.toNat:Int)=KB at *
       have Fb:IntKind.u8.wrap 4=KB:=by rw [← c4];exact wk
       have lq:loops (gh r 8192) 8192 [Z (.ptr s.size 0),Z y6,Z (.sl s6.size 0 1 (.known 1)),I .i64 1,I .i64 0] s7=some (.exit 1 [Z (.ptr s.size 0),Z z],τ):=lp
       simp [cX,l8,e2,lk,c4,Fb,Aa,lv,wv,e5,QG,Uq,UF,l0,l7,w2,CO,lq,lx,Oi,aQ,bI]
     · have c3:e.k=3:=by omega
       have ns:dZ e=[]:=by unfold dZ;rw [if_neg c1,if_neg c2,if_neg c4]
       obtain ⟨z,τ,lp,hf⟩:=vu (x := .az) (ns:=[]) (d+7) (v0:=Z (.ptr s.size 0)) f6 (Rd.nil 1 _) (fun c hc=>by cases hc) (fun n hn=>by cases hn) (by simp) nK
       rw [← ns] at hf
       obtain ⟨y,t,lx,Oi,o7⟩:=fin z τ hf
       refine ⟨y,t,?_,o7⟩
       simp only [Nat.add_assoc,Nat.reduceAdd] at lp
       generalize R (d+8)=r at *
       generalize (e.v.toNat:Int)=A1 at *
       generalize (kb.toNat:Int)=KB at *
       have Fb:IntKind.u8.wrap 3=KB:=by rw [← c3];exact wk
       have lq:loops (gh r 8192) 8192 [Z (.ptr s.size 0),Z y6,Z .az,I .i64 0,I .i64 0] s6=some (.exit 1 [Z (.ptr s.size 0),Z z],τ):=lp
       simp [cX,l8,e2,lk,c3,Fb,Aa,lv,wv,e5,QG,Uq,UF,l0,lq,lx,Oi,aQ,bI]
end
end Go.Proofs.YtbohejffelipoaaGreatDoor
