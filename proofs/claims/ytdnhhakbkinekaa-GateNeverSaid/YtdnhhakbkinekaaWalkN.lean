/-
  What the laws of layer 21 and the functions of package gate compute, printed by a program of our own: each text is by definition the run of the code. No conditions.
-/
import Derived.Test.YtdnhhakbkinekaaAbsLoop
import Derived.Test.YtdnhhakbkinekaaRows
namespace Go.Proofs.Ytdnhhakbkinekaa
open Go Go.Abs Go.Abs.F
set_option linter.unusedVariables false
noncomputable section
/-- What is run in an empty store: the few checks of told once, the default policy, whether a policy may be, whether a segment is old. -/
abbrev prim1 : CallF := orP (toldP 9 true) (pureP (runQ Try.prog 64 noPrim 8) [6, 15])
/-- Numbers. -/
def intsOf : List S → Option (List Int)
  | [] => some []
  | .int .i64 n :: r => match intsOf r with
    | some l => some (n :: l)
    | none => none
  | _ :: _ => none

def put (n : Int) : List Int → List Int
  | [] => [n]
  | m :: r => match decide (n ≤ m) with
    | true => n :: m :: r
    | false => m :: put n r

def sorted : List Int → List Int
  | [] => []
  | n :: r => put n (sorted r)

/-- What slices.Sort does to a slice of numbers. -/
def sortP : CallF := fun f ts σ => match Nat.beq f 14 with
  | false => none
  | true => match ts with
    | [.v (.s .nils)] => some (.tup [], σ)
    | [.v (.s (.sl c 0 n _))] => match σ.get c with
      | some (.cells true vs) => match Nat.ble n vs.length && Nat.ble n 100000, intsOf (vs.take n) with
        | true, some zs => some (.tup [], σ.set c (.cells true ((sorted zs).map (S.int .i64) ++ vs.drop n)))
        | _, _ => none
      | _ => none
    | _ => none

abbrev prim : CallF := orP prim1 (orP (pureP (runQ Try.prog 64 prim1 8) [11]) sortP)
abbrev R (d : Nat) : CallF := runQ Try.prog 64 prim d
/- twinkeep/twinkeeplaw21.GateBoth: a loop; 0: t0 mask, 1: t11 may, 2: t12 l, 3: t13 in, 4: t14 i -/
def f3_l1 (callf : CallF) (N : Nat) (v : List T) (s : St) : Option (JO × St) :=
  bd (aLenSl (v.getD 2 .any)) fun t64 =>
  bd (aBin .lss (v.getD 4 .any) t64) fun t65 =>
  br t65 (jn (bd (gT (gd (v.getD 3 .any) false) (some (v.getD 2 .any))) fun t70 =>
  bd (gT (gd (v.getD 3 .any) false) (some (v.getD 4 .any))) fun t71 =>
  bd (gT (gd (v.getD 3 .any) false) (aIndexSl 1 t70 t71)) fun t72 =>
  bd (gT (gd (v.getD 3 .any) false) (aLoad1 t72 s.get)) fun t73 =>
  bd (gT (gd (v.getD 3 .any) false) (aBin .eql t73 (I .i64 1))) fun t74 =>
  bd (aPick (v.getD 3 .any) (B true) t74) fun t75 =>
  some (.normal [(v.getD 0 .any), (v.getD 1 .any), (v.getD 2 .any), t75, (v.getD 4 .any)], s))
  (fun v34 s35 => bd (aBin .add (v34.getD 4 .any) (I .i64 1)) fun t67 =>
  some (.normal [(v34.getD 0 .any), (v34.getD 1 .any), (v34.getD 2 .any), (v34.getD 3 .any), t67], s35))
  (fun i36 v34 s35 => some (.exit i36 v34, s35))
  (fun r37 s35 => some (.ret r37, s35)))
  (some (.exit 0 [(v.getD 0 .any), (v.getD 1 .any), (v.getD 3 .any)], s))

/- twinkeep/twinkeeplaw21.GateBoth -/
def f3 (callf : CallF) (N : Nat) (a0 : T) (a1 : T) (s : St) : Option (T × St) :=
  bd (aConv .u64 a1) fun t16 =>
  bd (aBin .rem t16 (I .u64 3)) fun t17 =>
  bd (aConv .i64 t17) fun t18 =>
  bd (asAggT (aFill [.int .i64 0, .int .i64 0, .int .i64 0, .int .i64 0, .int .u32 0] [(0, 1, (I .i64 1)), (1, 1, t18), (3, 1, (I .i64 9)), (4, 1, (I .u32 5))])) fun t20 =>
  bd (aBin .add t18 (I .i64 1)) fun t22 =>
  bd (asAggT (aFill [.int .i64 0, .int .i64 0, .int .i64 0, .int .i64 0, .int .u32 0] [(0, 1, (I .i64 2)), (1, 1, t22), (3, 1, (I .i64 9))])) fun t23 =>
  bd2 (aNew s (nCells [.int .i64 0, .int .i64 0, .int .i64 0, .int .i64 0, .int .u32 0])) fun t6 s1 =>
  bd2 (aNew s1 (nCells [.int .i64 0, .int .i64 0, .int .i64 0, .int .i64 0, .int .u32 0])) fun t7 s2 =>
  bd2 (aStore 5 t6 t20 s2) fun _ s3 =>
  bd2 (aStore 5 t7 t23 s3) fun _ s4 =>
  bd (aBin .and a0 (I .i64 1)) fun t25 =>
  bd (aBin .eql t25 (I .i64 1)) fun t26 =>
  jn (br t26 (bd (aLoadN 5 t6 s4.get) fun t28 =>
  bd2 (aNew s4 (nSlice 1 (aFill [.int .i64 0, .int .i64 0, .int .i64 0, .int .i64 0, .int .u32 0] [(0, 5, t28)]))) fun t29 s5 =>
  bd2 (aAppend 5 40 (Z .nils) t29 s5) fun t30 s6 =>
  some (.normal [a0, t6, t7, t30, (Z .nils)], s6))
  (some (.normal [a0, t6, t7, (Z .nils), (Z .nils)], s4)))
  (fun v7 s8 => bd (aBin .and (v7.getD 0 .any) (I .i64 2)) fun t32 =>
  bd (aBin .eql t32 (I .i64 2)) fun t33 =>
  jn (br t33 (bd (aLoadN 5 (v7.getD 2 .any) s8.get) fun t35 =>
  bd2 (aNew s8 (nSlice 1 (aFill [.int .i64 0, .int .i64 0, .int .i64 0, .int .i64 0, .int .u32 0] [(0, 5, t35)]))) fun t36 s11 =>
  bd2 (aAppend 5 40 (v7.getD 3 .any) t36 s11) fun t37 s12 =>
  some (.normal [(v7.getD 0 .any), (v7.getD 1 .any), (v7.getD 2 .any), t37, (v7.getD 4 .any)], s12))
  (some (.normal [(v7.getD 0 .any), (v7.getD 1 .any), (v7.getD 2 .any), (v7.getD 3 .any), (v7.getD 4 .any)], s8)))
  (fun v13 s14 => bd (aBin .and (v13.getD 0 .any) (I .i64 4)) fun t39 =>
  bd (aBin .eql t39 (I .i64 4)) fun t40 =>
  jn (br t40 (bd (aLoadN 5 (v13.getD 1 .any) s14.get) fun t42 =>
  bd2 (aNew s14 (nSlice 1 (aFill [.int .i64 0, .int .i64 0, .int .i64 0, .int .i64 0, .int .u32 0] [(0, 5, t42)]))) fun t43 s17 =>
  bd2 (aAppend 5 40 (v13.getD 4 .any) t43 s17) fun t44 s18 =>
  some (.normal [(v13.getD 0 .any), (v13.getD 1 .any), (v13.getD 2 .any), (v13.getD 3 .any), t44], s18))
  (some (.normal [(v13.getD 0 .any), (v13.getD 1 .any), (v13.getD 2 .any), (v13.getD 3 .any), (v13.getD 4 .any)], s14)))
  (fun v19 s20 => bd (aBin .and (v19.getD 0 .any) (I .i64 8)) fun t46 =>
  bd (aBin .eql t46 (I .i64 8)) fun t47 =>
  jn (br t47 (bd (aLoadN 5 (v19.getD 2 .any) s20.get) fun t49 =>
  bd2 (aNew s20 (nSlice 1 (aFill [.int .i64 0, .int .i64 0, .int .i64 0, .int .i64 0, .int .u32 0] [(0, 5, t49)]))) fun t50 s23 =>
  bd2 (aAppend 5 40 (v19.getD 4 .any) t50 s23) fun t51 s24 =>
  some (.normal [(v19.getD 0 .any), (v19.getD 1 .any), (v19.getD 3 .any), t51], s24))
  (some (.normal [(v19.getD 0 .any), (v19.getD 1 .any), (v19.getD 3 .any), (v19.getD 4 .any)], s20)))
  (fun v25 s26 => bd2 (callf 6 [] s26) fun t52 s29 =>
  bd2 (aNew s29 (nCells [.int .i64 0, .int .i64 0, .int .i64 0, .int .i64 0, .int .i64 0, .int .i64 0])) fun t10 s30 =>
  bd2 (aStore 6 t10 t52 s30) fun _ s31 =>
  bd (aLoadN 5 (v25.getD 1 .any) s31.get) fun t53 =>
  bd (aLoadN 6 t10 s31.get) fun t54 =>
  bd2 (callf 7 [t53, t54, (I .i64 100000), (v25.getD 2 .any), (v25.getD 3 .any)] s31) fun t57 s32 =>
  bd (aLoadN 6 t10 s32.get) fun t58 =>
  bd2 (callf 8 [t58, (I .i64 100000), (v25.getD 2 .any), (v25.getD 3 .any)] s32) fun t61 s33 =>
  jn (jn (loops (f3_l1 callf N) N [(v25.getD 0 .any), t57, t61, (B false), (I .i64 0)] s33)
  (fun v38 s39 => some (.normal [.any, .any, .any], s39))
  (fun i40 v38 s39 => if i40 = 0 then some (.normal v38, s39) else some (.exit i40 v38, s39))
  (fun r41 s39 => some (.ret r41, s39)))
  (fun v42 s43 => bd2 (callf 9 [] s43) fun t76 s46 =>
  bd (gT (gd t76 true) (some (v42.getD 1 .any))) fun t78 =>
  bd (gT (gd t76 true) (some (v42.getD 0 .any))) fun t79 =>
  bd (gT (gd t76 true) (aBin .and t79 (I .i64 15))) fun t80 =>
  bd (gT (gd t76 true) (aBin .eql t80 (I .i64 15))) fun t81 =>
  bd (gT (gd t76 true) (eqB .b t78 t81)) fun t82 =>
  bd (aPick t76 t82 (B false)) fun t83 =>
  bd (gT (gd t83 true) (some (v42.getD 2 .any))) fun t85 =>
  bd (gT (gd t83 true) (some (v42.getD 1 .any))) fun t86 =>
  bd (gT (gd t83 true) (eqB .b t85 t86)) fun t87 =>
  bd (aPick t83 t87 (B false)) fun t88 =>
  some (t88, s46))
  (fun i44 v42 s43 => none)
  (fun r45 s43 => some (r45, s43)))
  (fun i27 v25 s26 => none)
  (fun r28 s26 => some (r28, s26)))
  (fun i21 v19 s20 => none)
  (fun r22 s20 => some (r22, s20)))
  (fun i15 v13 s14 => none)
  (fun r16 s14 => some (r16, s14)))
  (fun i9 v7 s8 => none)
  (fun r10 s8 => some (r10, s8))

theorem f3_eq (callf : CallF) (N : Nat) (a0 : T) (a1 : T) (s : St) : bodyC Try.prog callf N Try.f3 [a0, a1] s = f3 callf N a0 a1 s := by kernel_rfl

theorem f3_run (d : Nat) (a0 : T) (a1 : T) (s : St) : R (d + 1) 3 [a0, a1] s = f3 (R d) 64 a0 a1 s := (runQ_body rfl Try.func3 (by kernel_rfl)).trans (f3_eq ..)

/- twinkeep/twinkeeplaw21.GateNever: a loop; 0: t0 a, 1: t1 b, 2: t2 now, 3: t3 which, 4: t9 p, 5: t10 all, 6: t11 less, 7: t12 c, 8: t13 i -/
def f4_l1 (callf : CallF) (N : Nat) (v : List T) (s : St) : Option (JO × St) :=
  bd (aLenSl (v.getD 1 .any)) fun t42 =>
  bd (aBin .lss (v.getD 8 .any) t42) fun t43 =>
  br t43 (jn (bd (aLenSl (v.getD 1 .any)) fun t47 =>
  bd (aBin .gtr t47 (I .i64 0)) fun t48 =>
  bd (gT (gd t48 true) (some (v.getD 8 .any))) fun t50 =>
  bd (gT (gd t48 true) (some (v.getD 3 .any))) fun t51 =>
  bd (gT (gd t48 true) (aConv .u64 t51)) fun t52 =>
  bd (gT (gd t48 true) (some (v.getD 1 .any))) fun t53 =>
  bd (gT (gd t48 true) (aLenSl t53)) fun t54 =>
  bd (gT (gd t48 true) (aConv .u64 t54)) fun t55 =>
  bd (gT (gd t48 true) (aBin .rem t52 t55)) fun t56 =>
  bd (gT (gd t48 true) (aConv .i64 t56)) fun t57 =>
  bd (gT (gd t48 true) (aBin .neq t50 t57)) fun t58 =>
  bd (aPick t48 t58 (B false)) fun t59 =>
  jn (br t59 (bd (aIndexSl 5 (v.getD 1 .any) (v.getD 8 .any)) fun t63 =>
  bd (aLoadN 5 t63 s.get) fun t64 =>
  bd2 (aNew s (nSlice 1 (aFill [.int .i64 0, .int .i64 0, .int .i64 0, .int .i64 0, .int .u32 0] [(0, 5, t64)]))) fun t65 s7 =>
  bd2 (aAppend 5 40 (v.getD 7 .any) t65 s7) fun t66 s8 =>
  some (.normal [(v.getD 0 .any), (v.getD 1 .any), (v.getD 2 .any), (v.getD 3 .any), (v.getD 4 .any), (v.getD 5 .any), (v.getD 6 .any), t66, (v.getD 8 .any)], s8))
  (some (.normal [(v.getD 0 .any), (v.getD 1 .any), (v.getD 2 .any), (v.getD 3 .any), (v.getD 4 .any), (v.getD 5 .any), (v.getD 6 .any), (v.getD 7 .any), (v.getD 8 .any)], s)))
  (fun v9 s10 => some (.normal [(v9.getD 0 .any), (v9.getD 1 .any), (v9.getD 2 .any), (v9.getD 3 .any), (v9.getD 4 .any), (v9.getD 5 .any), (v9.getD 6 .any), (v9.getD 7 .any), (v9.getD 8 .any)], s10))
  (fun i11 v9 s10 => if i11 = 1 then some (.normal v9, s10) else some (.exit i11 v9, s10))
  (fun r12 s10 => some (.ret r12, s10)))
  (fun v13 s14 => bd (aBin .add (v13.getD 8 .any) (I .i64 1)) fun t45 =>
  some (.normal [(v13.getD 0 .any), (v13.getD 1 .any), (v13.getD 2 .any), (v13.getD 3 .any), (v13.getD 4 .any), (v13.getD 5 .any), (v13.getD 6 .any), (v13.getD 7 .any), t45], s14))
  (fun i15 v13 s14 => some (.exit i15 v13, s14))
  (fun r16 s14 => some (.ret r16, s14)))
  (some (.exit 0 [(v.getD 0 .any), (v.getD 2 .any), (v.getD 4 .any), (v.getD 5 .any), (v.getD 6 .any), (v.getD 7 .any)], s))

/- twinkeep/twinkeeplaw21.GateNever -/
def f4 (callf : CallF) (N : Nat) (a0 : T) (a1 : T) (a2 : T) (a3 : T) (s : St) : Option (T × St) :=
  bd (aLenSl a0) fun t16 =>
  bd (aBin .gtr t16 (I .i64 30)) fun t17 =>
  bd (gT (gd t17 false) (some a1)) fun t19 =>
  bd (gT (gd t17 false) (aLenSl t19)) fun t20 =>
  bd (gT (gd t17 false) (aBin .gtr t20 (I .i64 30))) fun t21 =>
  bd (aPick t17 (B true) t21) fun t22 =>
  bd (gT (gd t22 false) (some a2)) fun t24 =>
  bd (gT (gd t22 false) (aBin .lss t24 (I .i64 0))) fun t25 =>
  bd (aPick t22 (B true) t25) fun t26 =>
  br t26 (bd2 (callf 9 [] s) fun t27 s1 =>
  some (t27, s1))
  (bd2 (callf 6 [] s) fun t28 s2 =>
  bd2 (aNew s2 (nCells [.int .i64 0, .int .i64 0, .int .i64 0, .int .i64 0, .int .i64 0, .int .i64 0])) fun t9 s3 =>
  bd2 (aStore 6 t9 t28 s3) fun _ s4 =>
  bd (aLoadN 6 t9 s4.get) fun t29 =>
  bd2 (callf 8 [t29, a2, a0, a1] s4) fun t33 s5 =>
  bd (aLoadN 6 t9 s5.get) fun t34 =>
  bd (aBin .quo a2 (I .i64 2)) fun t36 =>
  bd2 (callf 8 [t34, t36, a0, a1] s5) fun t39 s6 =>
  jn (jn (loops (f4_l1 callf N) N [a0, a1, a2, a3, t9, t33, t39, (Z .nils), (I .i64 0)] s6)
  (fun v17 s18 => some (.normal [.any, .any, .any, .any, .any, .any], s18))
  (fun i19 v17 s18 => if i19 = 0 then some (.normal v17, s18) else some (.exit i19 v17, s18))
  (fun r20 s18 => some (.ret r20, s18)))
  (fun v21 s22 => bd (aLoadN 6 (v21.getD 2 .any) s22.get) fun t67 =>
  bd2 (callf 8 [t67, (v21.getD 1 .any), (v21.getD 0 .any), (v21.getD 5 .any)] s22) fun t71 s25 =>
  bd2 (callf 9 [] s25) fun t72 s26 =>
  bd (gT (gd t72 true) (some (v21.getD 4 .any))) fun t74 =>
  bd (gT (gd t72 true) (some (v21.getD 3 .any))) fun t75 =>
  bd2 (gS (gd t72 true) s26 (callf 10 [t74, t75] s26)) fun t76 s27 =>
  bd (aPick t72 t76 (B false)) fun t77 =>
  bd (gT (gd t77 true) (some t71)) fun t79 =>
  bd (gT (gd t77 true) (some (v21.getD 3 .any))) fun t80 =>
  bd2 (gS (gd t77 true) s27 (callf 10 [t79, t80] s27)) fun t81 s28 =>
  bd (aPick t77 t81 (B false)) fun t82 =>
  bd (gT (gd t82 true) (aLoadN 6 (v21.getD 2 .any) s28.get)) fun t84 =>
  bd (gT (gd t82 true) (some (v21.getD 1 .any))) fun t85 =>
  bd (gT (gd t82 true) (some (v21.getD 0 .any))) fun t86 =>
  bd2 (gS (gd t82 true) s28 (callf 8 [t84, t85, t86, (Z .nils)] s28)) fun t87 s29 =>
  bd (gT (gd t82 true) (aLenSl t87)) fun t88 =>
  bd (gT (gd t82 true) (aBin .eql t88 (I .i64 0))) fun t89 =>
  bd (aPick t82 t89 (B false)) fun t90 =>
  some (t90, s29))
  (fun i23 v21 s22 => none)
  (fun r24 s22 => some (r24, s22)))

theorem f4_eq (callf : CallF) (N : Nat) (a0 : T) (a1 : T) (a2 : T) (a3 : T) (s : St) : bodyC Try.prog callf N Try.f4 [a0, a1, a2, a3] s = f4 callf N a0 a1 a2 a3 s := by kernel_rfl

theorem f4_run (d : Nat) (a0 : T) (a1 : T) (a2 : T) (a3 : T) (s : St) : R (d + 1) 4 [a0, a1, a2, a3] s = f4 (R d) 64 a0 a1 a2 a3 s := (runQ_body rfl Try.func4 (by kernel_rfl)).trans (f4_eq ..)

/- twinkeep/twinkeeplaw21.GateTimes -/
def f5 (callf : CallF) (N : Nat) (a0 : T) (a1 : T) (a2 : T) (s : St) : Option (T × St) :=
  bd2 (callf 6 [] s) fun t11 s1 =>
  bd2 (aNew s1 (nCells [.int .i64 0, .int .i64 0, .int .i64 0, .int .i64 0, .int .i64 0, .int .i64 0])) fun t7 s2 =>
  bd2 (aStore 6 t7 t11 s2) fun _ s3 =>
  bd (aConv .u64 a1) fun t13 =>
  bd (aBin .rem t13 (I .u64 4)) fun t14 =>
  bd (aConv .i64 t14) fun t15 =>
  bd (aConv .u64 a0) fun t18 =>
  bd (aBin .rem t18 (I .u64 1000000)) fun t19 =>
  bd (aConv .i64 t19) fun t20 =>
  bd (aBin .add (I .i64 1) t20) fun t21 =>
  bd (asAggT (aFill [.int .i64 0, .int .i64 0, .int .i64 0, .int .i64 0, .int .u32 0] [(0, 1, (I .i64 1)), (1, 1, t15), (3, 1, t21)])) fun t22 =>
  bd2 (aNew s3 (nCells [.int .i64 0, .int .i64 0, .int .i64 0, .int .i64 0, .int .u32 0])) fun t9 s4 =>
  bd2 (aStore 5 t9 t22 s4) fun _ s5 =>
  bd (aFieldAddr 3 t9) fun t23 =>
  bd (aLoad1 t23 s5.get) fun t24 =>
  bd (aFieldAddr 0 t7) fun t26 =>
  bd (aIndexArr 4 1 t26 t15) fun t27 =>
  bd (aLoad1 t27 s5.get) fun t28 =>
  bd (aBin .add t24 t28) fun t29 =>
  bd (aBin .sub t29 (I .i64 2)) fun t30 =>
  bd (aConv .u64 a2) fun t32 =>
  bd (aBin .rem t32 (I .u64 5)) fun t33 =>
  bd (aConv .i64 t33) fun t34 =>
  bd (aBin .add t30 t34) fun t35 =>
  bd (aBin .eql t15 (I .i64 3)) fun t37 =>
  br t37 (bd2 (callf 9 [] s5) fun t38 s6 =>
  bd (gT (gd t38 true) (aLoadN 5 t9 s6.get)) fun t40 =>
  bd (gT (gd t38 true) (aLoadN 6 t7 s6.get)) fun t41 =>
  bd (gT (gd t38 true) (some t35)) fun t42 =>
  bd2 (gS (gd t38 true) s6 (callf 11 [t40, t41, t42] s6)) fun t43 s7 =>
  bd (gT (gd t38 true) (aUn .not t43)) fun t44 =>
  bd (aPick t38 t44 (B false)) fun t45 =>
  bd (gT (gd t45 true) (aLoadN 5 t9 s7.get)) fun t47 =>
  bd (gT (gd t45 true) (aLoadN 6 t7 s7.get)) fun t48 =>
  bd2 (gS (gd t45 true) s7 (callf 11 [t47, t48, (I .i64 4611686018427387904)] s7)) fun t49 s8 =>
  bd (gT (gd t45 true) (aUn .not t49)) fun t50 =>
  bd (aPick t45 t50 (B false)) fun t51 =>
  some (t51, s8))
  (bd2 (callf 9 [] s5) fun t52 s9 =>
  bd (gT (gd t52 true) (aLoadN 5 t9 s9.get)) fun t54 =>
  bd (gT (gd t52 true) (aLoadN 6 t7 s9.get)) fun t55 =>
  bd (gT (gd t52 true) (some t35)) fun t56 =>
  bd2 (gS (gd t52 true) s9 (callf 11 [t54, t55, t56] s9)) fun t57 s10 =>
  bd (gT (gd t52 true) (some t35)) fun t58 =>
  bd (gT (gd t52 true) (aFieldAddr 3 t9)) fun t59 =>
  bd (gT (gd t52 true) (aLoad1 t59 s10.get)) fun t60 =>
  bd (gT (gd t52 true) (some t15)) fun t61 =>
  bd (gT (gd t52 true) (aFieldAddr 0 t7)) fun t62 =>
  bd (gT (gd t52 true) (aIndexArr 4 1 t62 t61)) fun t63 =>
  bd (gT (gd t52 true) (aLoad1 t63 s10.get)) fun t64 =>
  bd (gT (gd t52 true) (aBin .add t60 t64)) fun t65 =>
  bd (gT (gd t52 true) (aBin .geq t58 t65)) fun t66 =>
  bd (gT (gd t52 true) (eqB .b t57 t66)) fun t67 =>
  bd (aPick t52 t67 (B false)) fun t68 =>
  bd (gT (gd t68 true) (aLoadN 5 t9 s10.get)) fun t70 =>
  bd (gT (gd t68 true) (asAggT (aFill [.int .i64 0, .int .i64 0, .int .i64 0, .int .i64 0, .int .i64 0, .int .i64 0] []))) fun t71 =>
  bd (gT (gd t68 true) (some t35)) fun t72 =>
  bd2 (gS (gd t68 true) s10 (callf 11 [t70, t71, t72] s10)) fun t73 s11 =>
  bd (gT (gd t68 true) (aUn .not t73)) fun t74 =>
  bd (aPick t68 t74 (B false)) fun t75 =>
  ck ((wq (gd t52 true) (decide (aLoad1 t59 s9.get = aLoad1 t59 s10.get)) && true) && ((wq (gd t52 true) (decide (aLoad1 t63 s9.get = aLoad1 t63 s10.get)) && true) && true)) (some (t75, s11)))

theorem f5_eq (callf : CallF) (N : Nat) (a0 : T) (a1 : T) (a2 : T) (s : St) : bodyC Try.prog callf N Try.f5 [a0, a1, a2] s = f5 callf N a0 a1 a2 s := by kernel_rfl

theorem f5_run (d : Nat) (a0 : T) (a1 : T) (a2 : T) (s : St) : R (d + 1) 5 [a0, a1, a2] s = f5 (R d) 64 a0 a1 a2 s := (runQ_body rfl Try.func5 (by kernel_rfl)).trans (f5_eq ..)

/- twinkeep/policy.Default -/
def f6 (callf : CallF) (N : Nat) (s : St) : Option (T × St) :=
  bd2 (aNew s (nCells [.int .i64 0, .int .i64 0, .int .i64 0, .int .i64 0, .int .i64 0, .int .i64 0])) fun t0 s1 =>
  bd (asAggT (aFill [.int .i64 0, .int .i64 0, .int .i64 0, .int .i64 0] [(0, 1, (I .i64 60)), (1, 1, (I .i64 600)), (2, 1, (I .i64 6000)), (3, 1, (I .i64 0))])) fun t1 =>
  bd (asAggT (aFill [.int .i64 0, .int .i64 0, .int .i64 0, .int .i64 0, .int .i64 0, .int .i64 0] [(0, 4, t1), (4, 1, (I .i64 8)), (5, 1, (I .i64 30))])) fun t2 =>
  bd2 (aStore 6 t0 t2 s1) fun _ s2 =>
  bd (rC (aLoadN 6 t0 s2.get) (some [])) fun l3 => bd (retT l3) fun r4 =>
  some (r4, s2)

theorem f6_eq (callf : CallF) (N : Nat) (s : St) : bodyC Try.prog callf N Try.f6 [] s = f6 callf N s := by kernel_rfl

/- twinkeep/gate.May -/
def f7 (callf : CallF) (N : Nat) (a0 : T) (a1 : T) (a2 : T) (a3 : T) (a4 : T) (s : St) : Option (T × St) :=
  bd2 (aNew s (nBox a0)) fun t5 s1 =>
  bd2 (aNew s1 (nBox a1)) fun t6 s2 =>
  bd (aLoadN 5 t5 s2.get) fun t11 =>
  bd (aLoadN 6 t6 s2.get) fun t12 =>
  bd2 (callf 11 [t11, t12, a2] s2) fun t14 s3 =>
  bd (gT (gd t14 true) (some a3)) fun t16 =>
  bd (gT (gd t14 true) (aLoadN 5 t5 s3.get)) fun t17 =>
  bd2 (gS (gd t14 true) s3 (callf 12 [t16, t17] s3)) fun t18 s4 =>
  bd (aPick t14 t18 (B false)) fun t19 =>
  bd (gT (gd t19 true) (some a4)) fun t21 =>
  bd (gT (gd t19 true) (aLoadN 5 t5 s4.get)) fun t22 =>
  bd2 (gS (gd t19 true) s4 (callf 12 [t21, t22] s4)) fun t23 s5 =>
  bd (aPick t19 t23 (B false)) fun t24 =>
  bd (gT (gd t24 true) (some a3)) fun t26 =>
  bd (gT (gd t24 true) (aLoadN 5 t5 s5.get)) fun t27 =>
  bd2 (gS (gd t24 true) s5 (callf 13 [t26, t27] s5)) fun t28 s6 =>
  bd (aPick t24 t28 (B false)) fun t29 =>
  bd (gT (gd t29 true) (some a4)) fun t31 =>
  bd (gT (gd t29 true) (aLoadN 5 t5 s6.get)) fun t32 =>
  bd2 (gS (gd t29 true) s6 (callf 13 [t31, t32] s6)) fun t33 s7 =>
  bd (aPick t29 t33 (B false)) fun t34 =>
  some (t34, s7)

theorem f7_eq (callf : CallF) (N : Nat) (a0 : T) (a1 : T) (a2 : T) (a3 : T) (a4 : T) (s : St) : bodyC Try.prog callf N Try.f7 [a0, a1, a2, a3, a4] s = f7 callf N a0 a1 a2 a3 a4 s := by kernel_rfl

theorem f7_run (d : Nat) (a0 : T) (a1 : T) (a2 : T) (a3 : T) (a4 : T) (s : St) : R (d + 1) 7 [a0, a1, a2, a3, a4] s = f7 (R d) 64 a0 a1 a2 a3 a4 s := (runQ_body rfl Try.func7 (by kernel_rfl)).trans (f7_eq ..)

/- twinkeep/gate.All: a loop; 0: t1 now, 1: t2 mine, 2: t3 theirs, 3: t4 p, 4: t9 l, 5: t12 , 6: t13 , 7: t14  -/
def f8_l1 (callf : CallF) (N : Nat) (v : List T) (s : St) : Option (JO × St) :=
  bd (aBin .lss (v.getD 7 .any) (v.getD 6 .any)) fun t15 =>
  br t15 (jn (bd (aIndexSl 5 (v.getD 5 .any) (v.getD 7 .any)) fun t16 =>
  bd (aLoadN 5 t16 s.get) fun t17 =>
  bd2 (aNew s (nCells [.int .i64 0, .int .i64 0, .int .i64 0, .int .i64 0, .int .u32 0])) fun t11 s2 =>
  bd2 (aStore 5 t11 t17 s2) fun _ s3 =>
  bd (aLoadN 5 t11 s3.get) fun t18 =>
  bd (aLoadN 6 (v.getD 3 .any) s3.get) fun t19 =>
  bd2 (callf 7 [t18, t19, (v.getD 0 .any), (v.getD 1 .any), (v.getD 2 .any)] s3) fun t23 s4 =>
  bd (aUn .not t23) fun t24 =>
  br t24 (some (.normal [(v.getD 0 .any), (v.getD 1 .any), (v.getD 2 .any), (v.getD 3 .any), (v.getD 4 .any), (v.getD 5 .any), (v.getD 6 .any), (v.getD 7 .any)], s4))
  (bd (aFieldAddr 0 t11) fun t26 =>
  bd (aLoad1 t26 s4.get) fun t27 =>
  bd2 (aNew s4 (nSlice 1 (aFill [.int .i64 0] [(0, 1, t27)]))) fun t28 s5 =>
  bd2 (aAppend 1 8 (v.getD 4 .any) t28 s5) fun t29 s6 =>
  some (.normal [(v.getD 0 .any), (v.getD 1 .any), (v.getD 2 .any), (v.getD 3 .any), t29, (v.getD 5 .any), (v.getD 6 .any), (v.getD 7 .any)], s6)))
  (fun v7 s8 => bd (aBin .add (v7.getD 7 .any) (I .i64 1)) fun t30 =>
  some (.normal [(v7.getD 0 .any), (v7.getD 1 .any), (v7.getD 2 .any), (v7.getD 3 .any), (v7.getD 4 .any), (v7.getD 5 .any), (v7.getD 6 .any), t30], s8))
  (fun i9 v7 s8 => some (.exit i9 v7, s8))
  (fun r10 s8 => some (.ret r10, s8)))
  (some (.exit 0 [(v.getD 4 .any)], s))

/- twinkeep/gate.All -/
def f8 (callf : CallF) (N : Nat) (a0 : T) (a1 : T) (a2 : T) (a3 : T) (s : St) : Option (T × St) :=
  bd2 (aNew s (nBox a0)) fun t4 s1 =>
  bd (aLenSl a2) fun t13 =>
  jn (jn (loops (f8_l1 callf N) N [a1, a2, a3, t4, (Z .nils), a2, t13, (I .i64 0)] s1)
  (fun v11 s12 => some (.normal [.any], s12))
  (fun i13 v11 s12 => if i13 = 0 then some (.normal v11, s12) else some (.exit i13 v11, s12))
  (fun r14 s12 => some (.ret r14, s12)))
  (fun v15 s16 => bd2 (callf 14 [(v15.getD 0 .any)] s16) fun t32 s19 =>
  some ((v15.getD 0 .any), s19))
  (fun i17 v15 s16 => none)
  (fun r18 s16 => some (r18, s16))

theorem f8_eq (callf : CallF) (N : Nat) (a0 : T) (a1 : T) (a2 : T) (a3 : T) (s : St) : bodyC Try.prog callf N Try.f8 [a0, a1, a2, a3] s = f8 callf N a0 a1 a2 a3 s := by kernel_rfl

theorem f8_run (d : Nat) (a0 : T) (a1 : T) (a2 : T) (a3 : T) (s : St) : R (d + 1) 8 [a0, a1, a2, a3] s = f8 (R d) 64 a0 a1 a2 a3 s := (runQ_body rfl Try.func8 (by kernel_rfl)).trans (f8_eq ..)

/- twinkeep/twinkeeplaw21.within: a loop; 0: t0 a, 1: t1 b, 2: t5 i, 3: t6 in, 4: t7 k -/
def f10_l2 (callf : CallF) (N : Nat) (v : List T) (s : St) : Option (JO × St) :=
  bd (aLenSl (v.getD 1 .any)) fun t16 =>
  bd (aBin .lss (v.getD 4 .any) t16) fun t17 =>
  br t17 (jn (bd (gT (gd (v.getD 3 .any) false) (some (v.getD 0 .any))) fun t22 =>
  bd (gT (gd (v.getD 3 .any) false) (some (v.getD 2 .any))) fun t23 =>
  bd (gT (gd (v.getD 3 .any) false) (aIndexSl 1 t22 t23)) fun t24 =>
  bd (gT (gd (v.getD 3 .any) false) (aLoad1 t24 s.get)) fun t25 =>
  bd (gT (gd (v.getD 3 .any) false) (some (v.getD 1 .any))) fun t26 =>
  bd (gT (gd (v.getD 3 .any) false) (some (v.getD 4 .any))) fun t27 =>
  bd (gT (gd (v.getD 3 .any) false) (aIndexSl 1 t26 t27)) fun t28 =>
  bd (gT (gd (v.getD 3 .any) false) (aLoad1 t28 s.get)) fun t29 =>
  bd (gT (gd (v.getD 3 .any) false) (aBin .eql t25 t29)) fun t30 =>
  bd (aPick (v.getD 3 .any) (B true) t30) fun t31 =>
  some (.normal [(v.getD 0 .any), (v.getD 1 .any), (v.getD 2 .any), t31, (v.getD 4 .any)], s))
  (fun v1 s2 => bd (aBin .add (v1.getD 4 .any) (I .i64 1)) fun t19 =>
  some (.normal [(v1.getD 0 .any), (v1.getD 1 .any), (v1.getD 2 .any), (v1.getD 3 .any), t19], s2))
  (fun i3 v1 s2 => some (.exit i3 v1, s2))
  (fun r4 s2 => some (.ret r4, s2)))
  (some (.exit 2 [(v.getD 0 .any), (v.getD 1 .any), (v.getD 2 .any), (v.getD 3 .any)], s))

/- twinkeep/twinkeeplaw21.within: a loop; 0: t0 a, 1: t1 b, 2: t5 i -/
def f10_l1 (callf : CallF) (N : Nat) (v : List T) (s : St) : Option (JO × St) :=
  bd (aLenSl (v.getD 0 .any)) fun t10 =>
  bd (aBin .lss (v.getD 2 .any) t10) fun t11 =>
  br t11 (jn (jn (jn (loops (f10_l2 callf N) N [(v.getD 0 .any), (v.getD 1 .any), (v.getD 2 .any), (B false), (I .i64 0)] s)
  (fun v5 s6 => some (.normal [.any, .any, .any, .any], s6))
  (fun i7 v5 s6 => if i7 = 2 then some (.normal v5, s6) else some (.exit i7 v5, s6))
  (fun r8 s6 => some (.ret r8, s6)))
  (fun v9 s10 => bd (aUn .not (v9.getD 3 .any)) fun t33 =>
  br t33 (some (.ret (B false), s10))
  (some (.normal [(v9.getD 0 .any), (v9.getD 1 .any), (v9.getD 2 .any)], s10)))
  (fun i11 v9 s10 => if i11 = 1 then some (.normal v9, s10) else some (.exit i11 v9, s10))
  (fun r12 s10 => some (.ret r12, s10)))
  (fun v13 s14 => bd (aBin .add (v13.getD 2 .any) (I .i64 1)) fun t13 =>
  some (.normal [(v13.getD 0 .any), (v13.getD 1 .any), t13], s14))
  (fun i15 v13 s14 => some (.exit i15 v13, s14))
  (fun r16 s14 => some (.ret r16, s14)))
  (some (.exit 0 [], s))

/- twinkeep/twinkeeplaw21.within -/
def f10 (callf : CallF) (N : Nat) (a0 : T) (a1 : T) (s : St) : Option (T × St) :=
  jn (jn (loops (f10_l1 callf N) N [a0, a1, (I .i64 0)] s)
  (fun v17 s18 => some (.normal [], s18))
  (fun i19 v17 s18 => if i19 = 0 then some (.normal v17, s18) else some (.exit i19 v17, s18))
  (fun r20 s18 => some (.ret r20, s18)))
  (fun v21 s22 => some ((B true), s22))
  (fun i23 v21 s22 => none)
  (fun r24 s22 => some (r24, s22))

theorem f10_eq (callf : CallF) (N : Nat) (a0 : T) (a1 : T) (s : St) : bodyC Try.prog callf N Try.f10 [a0, a1] s = f10 callf N a0 a1 s := by kernel_rfl

theorem f10_run (d : Nat) (a0 : T) (a1 : T) (s : St) : R (d + 1) 10 [a0, a1] s = f10 (R d) 64 a0 a1 s := (runQ_body rfl Try.func10 (by kernel_rfl)).trans (f10_eq ..)

/- twinkeep/gate.Old -/
def f11 (callf : CallF) (N : Nat) (a0 : T) (a1 : T) (a2 : T) (s : St) : Option (T × St) :=
  bd2 (aNew s (nBox a0)) fun t3 s1 =>
  bd2 (aNew s1 (nBox a1)) fun t4 s2 =>
  bd (aLoadN 6 t4 s2.get) fun t7 =>
  bd2 (callf 15 [t7] s2) fun t8 s3 =>
  bd (aUn .not t8) fun t9 =>
  bd (gT (gd t9 false) (aFieldAddr 1 t3)) fun t11 =>
  bd (gT (gd t9 false) (aLoad1 t11 s3.get)) fun t12 =>
  bd (gT (gd t9 false) (aBin .lss t12 (I .i64 0))) fun t13 =>
  bd (aPick t9 (B true) t13) fun t14 =>
  bd (gT (gd t14 false) (aFieldAddr 1 t3)) fun t16 =>
  bd (gT (gd t14 false) (aLoad1 t16 s3.get)) fun t17 =>
  bd (gT (gd t14 false) (aBin .geq t17 (I .i64 4))) fun t18 =>
  bd (aPick t14 (B true) t18) fun t19 =>
  bd (gT (gd t19 false) (aFieldAddr 1 t3)) fun t21 =>
  bd (gT (gd t19 false) (aLoad1 t21 s3.get)) fun t22 =>
  bd (gT (gd t19 false) (aFieldAddr 0 t4)) fun t23 =>
  bd (gT (gd t19 false) (aIndexArr 4 1 t23 t22)) fun t24 =>
  bd (gT (gd t19 false) (aLoad1 t24 s3.get)) fun t25 =>
  bd (gT (gd t19 false) (aBin .eql t25 (I .i64 0))) fun t26 =>
  bd (aPick t19 (B true) t26) fun t27 =>
  bd (gT (gd t27 false) (some a2)) fun t29 =>
  bd (gT (gd t27 false) (aFieldAddr 3 t3)) fun t30 =>
  bd (gT (gd t27 false) (aLoad1 t30 s3.get)) fun t31 =>
  bd (gT (gd t27 false) (aBin .lss t29 t31)) fun t32 =>
  bd (aPick t27 (B true) t32) fun t33 =>
  br t33 (some ((B false), s3))
  (bd (aConv .u64 a2) fun t35 =>
  bd (aFieldAddr 3 t3) fun t36 =>
  bd (aLoad1 t36 s3.get) fun t37 =>
  bd (aConv .u64 t37) fun t38 =>
  bd (aBin .sub t35 t38) fun t39 =>
  bd (aFieldAddr 1 t3) fun t40 =>
  bd (aLoad1 t40 s3.get) fun t41 =>
  bd (aFieldAddr 0 t4) fun t42 =>
  bd (aIndexArr 4 1 t42 t41) fun t43 =>
  bd (aLoad1 t43 s3.get) fun t44 =>
  bd (aConv .u64 t44) fun t45 =>
  bd (aBin .geq t39 t45) fun t46 =>
  some (t46, s3))

theorem f11_eq (callf : CallF) (N : Nat) (a0 : T) (a1 : T) (a2 : T) (s : St) : bodyC Try.prog callf N Try.f11 [a0, a1, a2] s = f11 callf N a0 a1 a2 s := by kernel_rfl

/- slices.Contains[[]twinkeep/api.Info,twinkeep/api.Info] -/
def f12 (callf : CallF) (N : Nat) (a0 : T) (a1 : T) (s : St) : Option (T × St) :=
  bd2 (aNew s (nBox a1)) fun t3 s1 =>
  bd (aLoadN 5 t3 s1.get) fun t6 =>
  bd2 (callf 16 [a0, t6] s1) fun t7 s2 =>
  bd (aBin .geq t7 (I .i64 0)) fun t8 =>
  some (t8, s2)

theorem f12_eq (callf : CallF) (N : Nat) (a0 : T) (a1 : T) (s : St) : bodyC Try.prog callf N Try.f12 [a0, a1] s = f12 callf N a0 a1 s := by kernel_rfl

theorem f12_run (d : Nat) (a0 : T) (a1 : T) (s : St) : R (d + 1) 12 [a0, a1] s = f12 (R d) 64 a0 a1 s := (runQ_body rfl Try.func12 (by kernel_rfl)).trans (f12_eq ..)

/- twinkeep/gate.Rolled -/
def f13 (callf : CallF) (N : Nat) (a0 : T) (a1 : T) (s : St) : Option (T × St) :=
  bd2 (aNew s (nBox a1)) fun t3 s1 =>
  bd (aFieldAddr 1 t3) fun t5 =>
  bd (aLoad1 t5 s1.get) fun t6 =>
  bd (aBin .eql t6 (I .i64 3)) fun t7 =>
  bd (gT (gd t7 false) (some a0)) fun t9 =>
  bd (gT (gd t7 false) (aClo 18 [t3] [])) fun t10 =>
  bd2 (gS (gd t7 false) s1 (callf 17 [t9, t10] s1)) fun t11 s2 =>
  bd (aPick t7 (B true) t11) fun t12 =>
  some (t12, s2)

theorem f13_eq (callf : CallF) (N : Nat) (a0 : T) (a1 : T) (s : St) : bodyC Try.prog callf N Try.f13 [a0, a1] s = f13 callf N a0 a1 s := by kernel_rfl

theorem f13_run (d : Nat) (a0 : T) (a1 : T) (s : St) : R (d + 1) 13 [a0, a1] s = f13 (R d) 64 a0 a1 s := (runQ_body rfl Try.func13 (by kernel_rfl)).trans (f13_eq ..)

/- twinkeep/policy.May: a loop; 0: t1 p, 1: t7 , 2: t8  -/
def f15_l1 (callf : CallF) (N : Nat) (v : List T) (s : St) : Option (JO × St) :=
  bd (aBin .lss (v.getD 2 .any) (I .i64 4)) fun t9 =>
  br t9 (jn (bd (aAtArr none 4 1 (v.getD 1 .any) (v.getD 2 .any)) fun t11 =>
  bd (aBin .lss t11 (I .i64 0)) fun t13 =>
  bd (gT (gd t13 false) (some t11)) fun t15 =>
  bd (gT (gd t13 false) (aBin .gtr t15 (I .i64 1099511627776))) fun t16 =>
  bd (aPick t13 (B true) t16) fun t17 =>
  br t17 (some (.ret (B false), s))
  (bd (aBin .eql (v.getD 2 .any) (I .i64 0)) fun t19 =>
  br t19 (some (.normal [(v.getD 0 .any), (v.getD 1 .any), (v.getD 2 .any)], s))
  (bd (aBin .sub (v.getD 2 .any) (I .i64 1)) fun t21 =>
  bd (aFieldAddr 0 (v.getD 0 .any)) fun t22 =>
  bd (aIndexArr 4 1 t22 t21) fun t23 =>
  bd (aLoad1 t23 s.get) fun t24 =>
  bd (aBin .neq t11 (I .i64 0)) fun t26 =>
  bd (gT (gd t26 true) (some t11)) fun t28 =>
  bd (gT (gd t26 true) (some t24)) fun t29 =>
  bd (gT (gd t26 true) (aBin .lss t28 t29)) fun t30 =>
  bd (gT (gd t26 true) (some t30)) fun t31 =>
  bd (gT (gd t31 false) (some t24)) fun t32 =>
  bd (gT (gd t31 false) (aBin .eql t32 (I .i64 0))) fun t33 =>
  bd (gT (gd t26 true) (aPick t31 (B true) t33)) fun t34 =>
  bd (aPick t26 t34 (B false)) fun t35 =>
  br t35 (some (.ret (B false), s))
  (some (.normal [(v.getD 0 .any), (v.getD 1 .any), (v.getD 2 .any)], s)))))
  (fun v2 s3 => bd (aBin .add (v2.getD 2 .any) (I .i64 1)) fun t36 =>
  some (.normal [(v2.getD 0 .any), (v2.getD 1 .any), t36], s3))
  (fun i4 v2 s3 => some (.exit i4 v2, s3))
  (fun r5 s3 => some (.ret r5, s3)))
  (some (.exit 0 [(v.getD 0 .any)], s))

/- twinkeep/policy.May -/
def f15 (callf : CallF) (N : Nat) (a0 : T) (s : St) : Option (T × St) :=
  bd2 (aNew s (nBox a0)) fun t1 s1 =>
  bd (aFieldAddr 0 t1) fun t6 =>
  bd (aLoadN 4 t6 s1.get) fun t7 =>
  jn (jn (loops (f15_l1 callf N) N [t1, t7, (I .i64 0)] s1)
  (fun v6 s7 => some (.normal [.any], s7))
  (fun i8 v6 s7 => if i8 = 0 then some (.normal v6, s7) else some (.exit i8 v6, s7))
  (fun r9 s7 => some (.ret r9, s7)))
  (fun v10 s11 => bd (aFieldAddr 0 (v10.getD 0 .any)) fun t37 =>
  bd (aIndexArr 4 1 t37 (I .i64 3)) fun t38 =>
  bd (aLoad1 t38 s11.get) fun t39 =>
  bd (aBin .eql t39 (I .i64 0)) fun t40 =>
  bd (gT (gd t40 true) (aFieldAddr 4 (v10.getD 0 .any))) fun t42 =>
  bd (gT (gd t40 true) (aLoad1 t42 s11.get)) fun t43 =>
  bd (gT (gd t40 true) (aBin .geq t43 (I .i64 1))) fun t44 =>
  bd (aPick t40 t44 (B false)) fun t45 =>
  bd (gT (gd t45 true) (aFieldAddr 4 (v10.getD 0 .any))) fun t47 =>
  bd (gT (gd t45 true) (aLoad1 t47 s11.get)) fun t48 =>
  bd (gT (gd t45 true) (aBin .leq t48 (I .i64 64))) fun t49 =>
  bd (aPick t45 t49 (B false)) fun t50 =>
  bd (gT (gd t50 true) (aFieldAddr 5 (v10.getD 0 .any))) fun t52 =>
  bd (gT (gd t50 true) (aLoad1 t52 s11.get)) fun t53 =>
  bd (gT (gd t50 true) (aBin .geq t53 (I .i64 1))) fun t54 =>
  bd (aPick t50 t54 (B false)) fun t55 =>
  bd (gT (gd t55 true) (aFieldAddr 5 (v10.getD 0 .any))) fun t57 =>
  bd (gT (gd t55 true) (aLoad1 t57 s11.get)) fun t58 =>
  bd (gT (gd t55 true) (aBin .leq t58 (I .i64 200))) fun t59 =>
  bd (aPick t55 t59 (B false)) fun t60 =>
  some (t60, s11))
  (fun i12 v10 s11 => none)
  (fun r13 s11 => some (r13, s11))

theorem f15_eq (callf : CallF) (N : Nat) (a0 : T) (s : St) : bodyC Try.prog callf N Try.f15 [a0] s = f15 callf N a0 s := by kernel_rfl

/- slices.Index[[]twinkeep/api.Info,twinkeep/api.Info]: a loop; 0: t0 s, 1: t3 v, 2: t7 , 3: t8  -/
def f16_l1 (callf : CallF) (N : Nat) (v : List T) (s : St) : Option (JO × St) :=
  bd (aBin .lss (v.getD 3 .any) (v.getD 2 .any)) fun t9 =>
  br t9 (jn (bd (aLoadN 5 (v.getD 1 .any) s.get) fun t11 =>
  bd (aIndexSl 5 (v.getD 0 .any) (v.getD 3 .any)) fun t14 =>
  bd (aLoadN 5 t14 s.get) fun t15 =>
  bd (eqB (.a 5 [(0, .i), (1, .i), (2, .i), (3, .i), (4, .i)]) t11 t15) fun t16 =>
  br t16 (some (.ret (v.getD 3 .any), s))
  (some (.normal [(v.getD 0 .any), (v.getD 1 .any), (v.getD 2 .any), (v.getD 3 .any)], s)))
  (fun v2 s3 => bd (aBin .add (v2.getD 3 .any) (I .i64 1)) fun t18 =>
  some (.normal [(v2.getD 0 .any), (v2.getD 1 .any), (v2.getD 2 .any), t18], s3))
  (fun i4 v2 s3 => some (.exit i4 v2, s3))
  (fun r5 s3 => some (.ret r5, s3)))
  (some (.exit 0 [], s))

/- slices.Index[[]twinkeep/api.Info,twinkeep/api.Info] -/
def f16 (callf : CallF) (N : Nat) (a0 : T) (a1 : T) (s : St) : Option (T × St) :=
  bd2 (aNew s (nBox a1)) fun t3 s1 =>
  bd (aLenSl a0) fun t7 =>
  jn (jn (loops (f16_l1 callf N) N [a0, t3, t7, (I .i64 0)] s1)
  (fun v6 s7 => some (.normal [], s7))
  (fun i8 v6 s7 => if i8 = 0 then some (.normal v6, s7) else some (.exit i8 v6, s7))
  (fun r9 s7 => some (.ret r9, s7)))
  (fun v10 s11 => some ((I .i64 (-1)), s11))
  (fun i12 v10 s11 => none)
  (fun r13 s11 => some (r13, s11))

theorem f16_eq (callf : CallF) (N : Nat) (a0 : T) (a1 : T) (s : St) : bodyC Try.prog callf N Try.f16 [a0, a1] s = f16 callf N a0 a1 s := by kernel_rfl

theorem f16_run (d : Nat) (a0 : T) (a1 : T) (s : St) : R (d + 1) 16 [a0, a1] s = f16 (R d) 64 a0 a1 s := (runQ_body rfl Try.func16 (by kernel_rfl)).trans (f16_eq ..)

/- slices.ContainsFunc[[]twinkeep/api.Info,twinkeep/api.Info] -/
def f17 (callf : CallF) (N : Nat) (a0 : T) (a1 : T) (s : St) : Option (T × St) :=
  bd2 (callf 21 [a0, a1] s) fun t7 s1 =>
  bd (aBin .geq t7 (I .i64 0)) fun t8 =>
  some (t8, s1)

theorem f17_eq (callf : CallF) (N : Nat) (a0 : T) (a1 : T) (s : St) : bodyC Try.prog callf N Try.f17 [a0, a1] s = f17 callf N a0 a1 s := by kernel_rfl

theorem f17_run (d : Nat) (a0 : T) (a1 : T) (s : St) : R (d + 1) 17 [a0, a1] s = f17 (R d) 64 a0 a1 s := (runQ_body rfl Try.func17 (by kernel_rfl)).trans (f17_eq ..)

/- twinkeep/gate.Rolled$1 -/
def f18 (callf : CallF) (N : Nat) (a0 : T) (a1 : T) (s : St) : Option (T × St) :=
  bd2 (aNew s (nBox a0)) fun t2 s1 =>
  bd (aFieldAddr 1 t2) fun t4 =>
  bd (aLoad1 t4 s1.get) fun t5 =>
  bd (aFieldAddr 1 a1) fun t6 =>
  bd (aLoad1 t6 s1.get) fun t7 =>
  bd (aBin .gtr t5 t7) fun t8 =>
  bd (gT (gd t8 true) (aFieldAddr 1 t2)) fun t10 =>
  bd (gT (gd t8 true) (aLoad1 t10 s1.get)) fun t11 =>
  bd (gT (gd t8 true) (aFieldAddr 1 a1)) fun t12 =>
  bd (gT (gd t8 true) (aLoad1 t12 s1.get)) fun t13 =>
  bd (gT (gd t8 true) (aBin .sub t11 t13)) fun t14 =>
  bd (gT (gd t8 true) (aBin .eql t14 (I .i64 1))) fun t15 =>
  bd (aPick t8 t15 (B false)) fun t16 =>
  bd (gT (gd t16 true) (aFieldAddr 2 t2)) fun t18 =>
  bd (gT (gd t16 true) (aLoad1 t18 s1.get)) fun t19 =>
  bd (gT (gd t16 true) (aFieldAddr 2 a1)) fun t20 =>
  bd (gT (gd t16 true) (aLoad1 t20 s1.get)) fun t21 =>
  bd (gT (gd t16 true) (aBin .eql t19 t21)) fun t22 =>
  bd (aPick t16 t22 (B false)) fun t23 =>
  bd (gT (gd t23 true) (aFieldAddr 3 t2)) fun t25 =>
  bd (gT (gd t23 true) (aLoad1 t25 s1.get)) fun t26 =>
  bd (gT (gd t23 true) (aFieldAddr 3 a1)) fun t27 =>
  bd (gT (gd t23 true) (aLoad1 t27 s1.get)) fun t28 =>
  bd (gT (gd t23 true) (aBin .eql t26 t28)) fun t29 =>
  bd (aPick t23 t29 (B false)) fun t30 =>
  some (t30, s1)

theorem f18_eq (callf : CallF) (N : Nat) (a0 : T) (a1 : T) (s : St) : bodyC Try.prog callf N Try.f18 [a0, a1] s = f18 callf N a0 a1 s := by kernel_rfl

theorem f18_run (d : Nat) (a0 : T) (a1 : T) (s : St) : R (d + 1) 18 [a0, a1] s = f18 (R d) 64 a0 a1 s := (runQ_body rfl Try.func18 (by kernel_rfl)).trans (f18_eq ..)

/- slices.IndexFunc[[]twinkeep/api.Info,twinkeep/api.Info]: a loop; 0: t0 s, 1: t1 f, 2: t7 , 3: t8  -/
def f21_l1 (callf : CallF) (N : Nat) (v : List T) (s : St) : Option (JO × St) :=
  bd (aBin .lss (v.getD 3 .any) (v.getD 2 .any)) fun t9 =>
  br t9 (jn (bd (aIndexSl 5 (v.getD 0 .any) (v.getD 3 .any)) fun t14 =>
  bd (aLoadN 5 t14 s.get) fun t15 =>
  bd2 (dyn Try.prog callf (v.getD 1 .any) [t15] s) fun t16 s1 =>
  br t16 (some (.ret (v.getD 3 .any), s1))
  (some (.normal [(v.getD 0 .any), (v.getD 1 .any), (v.getD 2 .any), (v.getD 3 .any)], s1)))
  (fun v2 s3 => bd (aBin .add (v2.getD 3 .any) (I .i64 1)) fun t18 =>
  some (.normal [(v2.getD 0 .any), (v2.getD 1 .any), (v2.getD 2 .any), t18], s3))
  (fun i4 v2 s3 => some (.exit i4 v2, s3))
  (fun r5 s3 => some (.ret r5, s3)))
  (some (.exit 0 [], s))

/- slices.IndexFunc[[]twinkeep/api.Info,twinkeep/api.Info] -/
def f21 (callf : CallF) (N : Nat) (a0 : T) (a1 : T) (s : St) : Option (T × St) :=
  bd (aLenSl a0) fun t7 =>
  jn (jn (loops (f21_l1 callf N) N [a0, a1, t7, (I .i64 0)] s)
  (fun v6 s7 => some (.normal [], s7))
  (fun i8 v6 s7 => if i8 = 0 then some (.normal v6, s7) else some (.exit i8 v6, s7))
  (fun r9 s7 => some (.ret r9, s7)))
  (fun v10 s11 => some ((I .i64 (-1)), s11))
  (fun i12 v10 s11 => none)
  (fun r13 s11 => some (r13, s11))

theorem f21_eq (callf : CallF) (N : Nat) (a0 : T) (a1 : T) (s : St) : bodyC Try.prog callf N Try.f21 [a0, a1] s = f21 callf N a0 a1 s := by kernel_rfl

theorem f21_run (d : Nat) (a0 : T) (a1 : T) (s : St) : R (d + 1) 21 [a0, a1] s = f21 (R d) 64 a0 a1 s := (runQ_body rfl Try.func21 (by kernel_rfl)).trans (f21_eq ..)

set_option maxRecDepth 100000 in
theorem prim1_sound : CallSound Try.prog prim1 := orP_sound (toldP_sound (plain_sound _ 64 16) (by kernel_rfl)) (pureP_sound (plain_sound _ _ _) _)

theorem told_run (d : Nat) (s : St) : R (d + 1) 9 [] s = some (B true, s) := runQ_prim rfl
end
end Go.Proofs.Ytdnhhakbkinekaa
