/-
  What the laws of layer 17 and the functions of the packages disk and view compute, printed by a program of our own: each text is by definition the run of the code. No conditions.
-/
import Derived.Test.YtgecidicpdobfaaDoorAbsE
import Derived.Test.YtgecidicpdobfaaDoorRows
namespace Go.Proofs.YtgecidicpdobfaaDoor
open Go Go.Abs Go.Abs.F
set_option linter.unusedVariables false
noncomputable section
/-- A map's keys, if all are short texts. -/
def keysOf : List (S × V) → Option (List (List UInt8))
  | [] => some []
  | (.str n, _) :: r => match keysOf r with
    | some l => match Nat.ble n.length 1000 && !l.contains n with
      | true => some (n :: l)
      | false => none
    | none => none
  | _ :: _ => none

/-- Go's order of texts. -/
def lexLe : List UInt8 → List UInt8 → Bool
  | [], _ => true
  | _ :: _, [] => false
  | a :: r, b :: t => match Nat.blt a.toNat b.toNat with
    | true => true
    | false => match Nat.beq a.toNat b.toNat with
      | true => lexLe r t
      | false => false

def put (n : List UInt8) : List (List UInt8) → List (List UInt8)
  | [] => [n]
  | m :: r => match lexLe n m with
    | true => n :: m :: r
    | false => m :: put n r

def sorted : List (List UInt8) → List (List UInt8)
  | [] => []
  | n :: r => put n (sorted r)

/-- What Names gives. -/
def namesP : CallF := fun f ts σ => match Nat.beq f 33 with
  | false => none
  | true => match ts with
    | [.v (.s (.ptr i o))] => match σ.get i with
      | some (.cells _ vs) => match vs[o + 1]? with
        | some (.map m) => match σ.get m with
          | some (.map es) => match Nat.ble es.length 1000, keysOf es with
            | true, some [] => some (Z .nils, σ)
            | true, some (k :: l) => some (Z (.sl σ.size 0 (l.length + 1) (.grown 1)), σ.push (.cells true ((sorted (k :: l)).map S.str)))
            | _, _ => none
          | _ => none
        | _ => none
      | _ => none
    | _ => none

/-- The few checks of told are run once, in an empty store; so is whether a name may be. -/
abbrev prim1 : CallF := orP namesP (pureP (runQ Tryd.prog 64 noPrim 16) [35])
abbrev prim : CallF := orP (toldP 10 true) prim1
abbrev R (d : Nat) : CallF := runQ Tryd.prog 512 prim d
/- twinkeep/twinkeeplaw17.ViewSpoilt: a loop; 0: t1 at, 1: t2 turn, 2: t7 k, 3: t8 d, 4: t9 a, 5: t11 i -/
def f3_l1 (callf : CallF) (N : Nat) (v : List T) (s : St) : Option (JO × St) :=
  bd (aBin .lss (v.getD 5 .any) (v.getD 2 .any)) fun t38 =>
  br t38 (jn (bd (aBin .rem (v.getD 5 .any) (I .i64 2)) fun t44 =>
  bd2 (callf 8 [(v.getD 4 .any), t44, (v.getD 5 .any)] s) fun t46 s3 =>
  bd (aExtract t46 0) fun t47 =>
  bd (aExtract t46 1) fun t48 =>
  bd2 (aNew s3 (nCells [.int .i64 0, .int .i64 0])) fun t12 s4 =>
  bd2 (aStore 2 t12 t47 s4) fun _ s5 =>
  bd (aBin .neq t48 (I .i64 0)) fun t50 =>
  br t50 (some (.ret (B false), s5))
  (some (.normal [(v.getD 0 .any), (v.getD 1 .any), (v.getD 2 .any), (v.getD 3 .any), (v.getD 4 .any), (v.getD 5 .any)], s5)))
  (fun v6 s7 => bd (aBin .add (v6.getD 5 .any) (I .i64 1)) fun t40 =>
  some (.normal [(v6.getD 0 .any), (v6.getD 1 .any), (v6.getD 2 .any), (v6.getD 3 .any), (v6.getD 4 .any), t40], s7))
  (fun i8 v6 s7 => some (.exit i8 v6, s7))
  (fun r9 s7 => some (.ret r9, s7)))
  (some (.exit 0 [(v.getD 0 .any), (v.getD 1 .any), (v.getD 2 .any), (v.getD 3 .any), (v.getD 4 .any)], s))

/- twinkeep/twinkeeplaw17.ViewSpoilt: a loop; 0: t9 a, 1: t16 j, 2: t17 l, 3: t19 i -/
def f3_l2 (callf : CallF) (N : Nat) (v : List T) (s : St) : Option (JO × St) :=
  bd (aBin .quo (v.getD 1 .any) (I .i64 6)) fun t112 =>
  bd (aBin .lss (v.getD 3 .any) t112) fun t113 =>
  br t113 (jn (bd (aIndexSl 2 (v.getD 2 .any) (v.getD 3 .any)) fun t118 =>
  bd (aLoadN 2 t118 s.get) fun t119 =>
  bd2 (callf 12 [(v.getD 0 .any)] s) fun t121 s22 =>
  bd (aIndexSl 2 t121 (v.getD 3 .any)) fun t123 =>
  bd (aLoadN 2 t123 s22.get) fun t124 =>
  bd (neB (.a 2 [(0, .i), (1, .i)]) t119 t124) fun t125 =>
  ck ((decide (aLoadN 2 t118 s22.get = aLoadN 2 t118 s.get) && true) && true) (br t125 (some (.ret (B false), s22))
  (some (.normal [(v.getD 0 .any), (v.getD 1 .any), (v.getD 2 .any), (v.getD 3 .any)], s22))))
  (fun v23 s24 => bd (aBin .add (v23.getD 3 .any) (I .i64 1)) fun t115 =>
  some (.normal [(v23.getD 0 .any), (v23.getD 1 .any), (v23.getD 2 .any), t115], s24))
  (fun i25 v23 s24 => some (.exit i25 v23, s24))
  (fun r26 s24 => some (.ret r26, s24)))
  (some (.exit 2 [(v.getD 1 .any), (v.getD 2 .any)], s))

/- twinkeep/twinkeeplaw17.ViewSpoilt -/
def f3 (callf : CallF) (N : Nat) (a0 : T) (a1 : T) (a2 : T) (s : St) : Option (T × St) :=
  bd (aConv .u64 a0) fun t21 =>
  bd (aBin .rem t21 (I .u64 9)) fun t22 =>
  bd (aConv .i64 t22) fun t23 =>
  bd2 (callf 6 [(I .i64 1000)] s) fun t24 s1 =>
  bd2 (callf 7 [t24] s1) fun t27 s2 =>
  bd (aExtract t27 0) fun t28 =>
  bd (aExtract t27 1) fun t29 =>
  bd (aBin .neq t29 (I .i64 0)) fun t31 =>
  bd (gT (gd t31 false) (some t28)) fun t33 =>
  bd (gT (gd t31 false) (eqB .p t33 (Z .nilp))) fun t34 =>
  bd (aPick t31 (B true) t34) fun t35 =>
  br t35 (some ((B false), s2))
  (jn (jn (loops (f3_l1 callf N) N [a1, a2, t23, t24, t28, (I .i64 0)] s2)
  (fun v10 s11 => some (.normal [.any, .any, .any, .any, .any], s11))
  (fun i12 v10 s11 => if i12 = 0 then some (.normal v10, s11) else some (.exit i12 v10, s11))
  (fun r13 s11 => some (.ret r13, s11)))
  (fun v14 s15 => bd2 (callf 9 [(v14.getD 3 .any), (Z (.str [118, 105, 101, 119, 115]))] s15) fun t53 s18 =>
  bd (aExtract t53 0) fun t54 =>
  bd (aExtract t53 1) fun t55 =>
  bd (aBin .neq t55 (I .i64 0)) fun t57 =>
  bd (gT (gd t57 false) (some t54)) fun t59 =>
  bd (gT (gd t57 false) (aLenSl t59)) fun t60 =>
  bd (gT (gd t57 false) (some (v14.getD 2 .any))) fun t61 =>
  bd (gT (gd t57 false) (aBin .mul (I .i64 6) t61)) fun t62 =>
  bd (gT (gd t57 false) (aBin .neq t60 t62)) fun t63 =>
  bd (aPick t57 (B true) t63) fun t64 =>
  br t64 (some ((B false), s18))
  (bd (aBin .eql (v14.getD 2 .any) (I .i64 0)) fun t66 =>
  bd (gT (gd t66 false) (some (v14.getD 1 .any))) fun t68 =>
  bd (gT (gd t66 false) (aBin .eql t68 (I .u8 0))) fun t69 =>
  bd (aPick t66 (B true) t69) fun t70 =>
  br t70 (bd2 (callf 10 [] s18) fun t71 s19 =>
  some (t71, s19))
  (bd (aConv .u64 (v14.getD 0 .any)) fun t73 =>
  bd (aLenSl t54) fun t75 =>
  bd (aConv .u64 t75) fun t76 =>
  bd (aBin .rem t73 t76) fun t77 =>
  bd (aConv .i64 t77) fun t78 =>
  bd (aIndexSl 1 t54 t78) fun t83 =>
  bd (aLoad1 t83 s18.get) fun t84 =>
  bd (aBin .xor t84 (v14.getD 1 .any)) fun t86 =>
  bd (aIndexSl 1 t54 t78) fun t87 =>
  bd2 (aStore 1 t87 t86 s18) fun _ s20 =>
  bd2 (callf 11 [t54] s20) fun t90 s21 =>
  bd (aExtract t90 0) fun t91 =>
  bd (aExtract t90 1) fun t92 =>
  bd (aLenSl t91) fun t94 =>
  bd (aBin .quo t78 (I .i64 6)) fun t96 =>
  bd (aBin .lss t94 t96) fun t97 =>
  bd (gT (gd t97 false) (some t92)) fun t99 =>
  bd (gT (gd t97 false) (some t91)) fun t100 =>
  bd (gT (gd t97 false) (aLenSl t100)) fun t101 =>
  bd (gT (gd t97 false) (aBin .mul (I .i64 6) t101)) fun t102 =>
  bd (gT (gd t97 false) (aBin .neq t99 t102)) fun t103 =>
  bd (gT (gd t97 false) (some t103)) fun t104 =>
  bd (gT (gd t104 true) (some t78)) fun t105 =>
  bd (gT (gd t104 true) (aBin .rem t105 (I .i64 6))) fun t106 =>
  bd (gT (gd t104 true) (aBin .gtr t106 (I .i64 0))) fun t107 =>
  bd (gT (gd t97 false) (aPick t104 t107 (B false))) fun t108 =>
  bd (aPick t97 (B true) t108) fun t109 =>
  br t109 (some ((B false), s21))
  (jn (jn (loops (f3_l2 callf N) N [(v14.getD 4 .any), t78, t91, (I .i64 0)] s21)
  (fun v27 s28 => some (.normal [.any, .any], s28))
  (fun i29 v27 s28 => if i29 = 2 then some (.normal v27, s28) else some (.exit i29 v27, s28))
  (fun r30 s28 => some (.ret r30, s28)))
  (fun v31 s32 => bd2 (callf 10 [] s32) fun t126 s35 =>
  bd (gT (gd t126 true) (some (v31.getD 0 .any))) fun t128 =>
  bd (gT (gd t126 true) (aBin .rem t128 (I .i64 6))) fun t129 =>
  bd (gT (gd t126 true) (aBin .eql t129 (I .i64 0))) fun t130 =>
  bd (gT (gd t126 true) (some t130)) fun t131 =>
  bd (gT (gd t131 false) (some (v31.getD 1 .any))) fun t132 =>
  bd (gT (gd t131 false) (aLenSl t132)) fun t133 =>
  bd (gT (gd t131 false) (some (v31.getD 0 .any))) fun t134 =>
  bd (gT (gd t131 false) (aBin .quo t134 (I .i64 6))) fun t135 =>
  bd (gT (gd t131 false) (aBin .eql t133 t135)) fun t136 =>
  bd (gT (gd t126 true) (aPick t131 (B true) t136)) fun t137 =>
  bd (aPick t126 t137 (B false)) fun t138 =>
  some (t138, s35))
  (fun i33 v31 s32 => none)
  (fun r34 s32 => some (r34, s32))))))
  (fun i16 v14 s15 => none)
  (fun r17 s15 => some (r17, s15)))

theorem f3_eq (callf : CallF) (N : Nat) (a0 : T) (a1 : T) (a2 : T) (s : St) : bodyC Tryd.prog callf N Tryd.f3 [a0, a1, a2] s = f3 callf N a0 a1 a2 s := by kernel_rfl

theorem f3_run (d : Nat) (a0 : T) (a1 : T) (a2 : T) (s : St) : R (d + 1) 3 [a0, a1, a2] s = f3 (R d) 512 a0 a1 a2 s := (runQ_body rfl Tryd.func3 (by kernel_rfl)).trans (f3_eq ..)

/- twinkeep/twinkeeplaw17.ViewAsks -/
def f4 (callf : CallF) (N : Nat) (a0 : T) (a1 : T) (s : St) : Option (T × St) :=
  bd2 (aNew s (nBox a0)) fun t2 s1 =>
  bd (aLenSl a1) fun t14 =>
  bd (aBin .gtr t14 (I .i64 200)) fun t15 =>
  br t15 (bd2 (callf 10 [] s1) fun t16 s2 =>
  some (t16, s2))
  (bd (aLoadN 2 t2 s1.get) fun t18 =>
  bd2 (callf 13 [t18] s1) fun t19 s3 =>
  bd (aExtract t19 0) fun t20 =>
  bd (aExtract t19 1) fun t21 =>
  bd (aLoadN 2 t2 s3.get) fun t23 =>
  bd2 (callf 14 [t23] s3) fun t24 s4 =>
  bd (aExtract t24 0) fun t25 =>
  bd (aExtract t24 1) fun t26 =>
  bd2 (callf 11 [a1] s4) fun t29 s5 =>
  bd (aExtract t29 0) fun t30 =>
  bd (aExtract t29 1) fun t31 =>
  bd (aBytesStr a1 s5.get) fun t34 =>
  bd2 (callf 15 [t34] s5) fun t35 s6 =>
  bd (aExtract t35 0) fun t36 =>
  bd (aExtract t35 1) fun t37 =>
  bd2 (callf 10 [] s6) fun t38 s7 =>
  bd (gT (gd t38 true) (some t21)) fun t40 =>
  bd (gT (gd t38 true) (some t26)) fun t41 =>
  bd (gT (gd t38 true) (aBin .eql t40 t41)) fun t42 =>
  bd (aPick t38 t42 (B false)) fun t43 =>
  bd (gT (gd t43 true) (some t20)) fun t45 =>
  bd (gT (gd t43 true) (aBytesStr t45 s7.get)) fun t46 =>
  bd (gT (gd t43 true) (some t25)) fun t47 =>
  bd (gT (gd t43 true) (aBin .eql t46 t47)) fun t48 =>
  bd (aPick t43 t48 (B false)) fun t49 =>
  bd (gT (gd t49 true) (some t30)) fun t51 =>
  bd (gT (gd t49 true) (some t36)) fun t52 =>
  bd2 (gS (gd t49 true) s7 (callf 16 [t51, t52] s7)) fun t53 s8 =>
  bd (aPick t49 t53 (B false)) fun t54 =>
  bd (gT (gd t54 true) (some t31)) fun t56 =>
  bd (gT (gd t54 true) (some t37)) fun t57 =>
  bd (gT (gd t54 true) (aBin .eql t56 t57)) fun t58 =>
  bd (aPick t54 t58 (B false)) fun t59 =>
  some (t59, s8))

theorem f4_eq (callf : CallF) (N : Nat) (a0 : T) (a1 : T) (s : St) : bodyC Tryd.prog callf N Tryd.f4 [a0, a1] s = f4 callf N a0 a1 s := by kernel_rfl

theorem f4_run (d : Nat) (a0 : T) (a1 : T) (s : St) : R (d + 1) 4 [a0, a1] s = f4 (R d) 512 a0 a1 s := (runQ_body rfl Tryd.func4 (by kernel_rfl)).trans (f4_eq ..)

/- twinkeep/twinkeeplaw17.ViewOnce: a loop; 0: t0 l, 1: t3 d, 2: t4 a, 3: t6 last, 4: t7 i -/
def f5_l1 (callf : CallF) (N : Nat) (v : List T) (s : St) : Option (JO × St) :=
  bd (aLenSl (v.getD 0 .any)) fun t32 =>
  bd (aBin .lss (v.getD 4 .any) t32) fun t33 =>
  bd (gT (gd t33 true) (some (v.getD 4 .any))) fun t35 =>
  bd (gT (gd t33 true) (aBin .lss t35 (I .i64 60))) fun t36 =>
  bd (aPick t33 t36 (B false)) fun t37 =>
  br t37 (jn (bd (aIndexSl 1 (v.getD 0 .any) (v.getD 4 .any)) fun t42 =>
  bd (aLoad1 t42 s.get) fun t43 =>
  bd (aConv .u64 t43) fun t44 =>
  bd (aBin .rem t44 (I .u64 7)) fun t46 =>
  bd (aBin .eql t46 (I .u64 6)) fun t47 =>
  br t47 (bd2 (callf 17 [(v.getD 1 .any), (Z .nils)] s) fun t49 s5 =>
  bd2 (callf 7 [(v.getD 1 .any)] s5) fun t52 s6 =>
  bd (aExtract t52 0) fun t53 =>
  bd (aExtract t52 1) fun t54 =>
  bd (aBin .neq t54 (I .i64 0)) fun t56 =>
  bd (gT (gd t56 false) (some t53)) fun t58 =>
  bd (gT (gd t56 false) (eqB .p t58 (Z .nilp))) fun t59 =>
  bd (aPick t56 (B true) t59) fun t60 =>
  bd (gT (gd t60 false) (some t53)) fun t62 =>
  bd2 (gS (gd t60 false) s6 (callf 18 [t62] s6)) fun t63 s7 =>
  bd (gT (gd t60 false) (aLoadN 2 (v.getD 3 .any) s7.get)) fun t64 =>
  bd (gT (gd t60 false) (neB (.a 2 [(0, .i), (1, .i)]) t63 t64)) fun t65 =>
  bd (aPick t60 (B true) t65) fun t66 =>
  bd (gT (gd t66 false) (some (v.getD 2 .any))) fun t68 =>
  bd2 (gS (gd t66 false) s7 (callf 12 [t68] s7)) fun t69 s8 =>
  bd (gT (gd t66 false) (some t53)) fun t70 =>
  bd2 (gS (gd t66 false) s8 (callf 12 [t70] s8)) fun t71 s9 =>
  bd2 (gS (gd t66 false) s9 (callf 16 [t69, t71] s9)) fun t72 s10 =>
  bd (gT (gd t66 false) (aUn .not t72)) fun t73 =>
  bd (aPick t66 (B true) t73) fun t74 =>
  ck ((wq (gd t60 false) (decide (aLoadN 2 (v.getD 3 .any) s6.get = aLoadN 2 (v.getD 3 .any) s7.get)) && true) && true) (br t74 (some (.ret (B false), s10))
  (some (.normal [(v.getD 0 .any), (v.getD 1 .any), t53, (v.getD 3 .any), (v.getD 4 .any)], s10))))
  (bd (aBin .quo t44 (I .u64 7)) fun t77 =>
  bd (aBin .rem t77 (I .u64 2)) fun t78 =>
  bd (aConv .i64 t78) fun t79 =>
  bd (aFieldAddr 0 (v.getD 3 .any)) fun t80 =>
  bd (aLoad1 t80 s.get) fun t81 =>
  bd (aBin .rem t44 (I .u64 7)) fun t83 =>
  bd (aBin .lss t83 (I .u64 2)) fun t84 =>
  jn (br t84 (bd (aFieldAddr 0 (v.getD 3 .any)) fun t85 =>
  bd (aLoad1 t85 s.get) fun t86 =>
  bd (aBin .sub t86 (I .i64 1)) fun t87 =>
  bd (aFold aMax2 (I .i64 0) [t87]) fun t88 =>
  some (.normal [(v.getD 0 .any), (v.getD 1 .any), (v.getD 2 .any), (v.getD 3 .any), (v.getD 4 .any), t79, t88], s))
  (some (.normal [(v.getD 0 .any), (v.getD 1 .any), (v.getD 2 .any), (v.getD 3 .any), (v.getD 4 .any), t79, t81], s)))
  (fun v11 s12 => bd2 (callf 8 [(v11.getD 2 .any), (v11.getD 5 .any), (v11.getD 6 .any)] s12) fun t93 s15 =>
  bd (aExtract t93 0) fun t94 =>
  bd (aExtract t93 1) fun t95 =>
  bd2 (aNew s15 (nCells [.int .i64 0, .int .i64 0])) fun t13 s16 =>
  bd2 (aStore 2 t13 t94 s16) fun _ s17 =>
  bd (aBin .neq t95 (I .i64 0)) fun t97 =>
  bd (gT (gd t97 false) (aFieldAddr 0 t13)) fun t99 =>
  bd (gT (gd t97 false) (aLoad1 t99 s17.get)) fun t100 =>
  bd (gT (gd t97 false) (aFieldAddr 0 (v11.getD 3 .any))) fun t101 =>
  bd (gT (gd t97 false) (aLoad1 t101 s17.get)) fun t102 =>
  bd (gT (gd t97 false) (aBin .lss t100 t102)) fun t103 =>
  bd (aPick t97 (B true) t103) fun t104 =>
  bd (gT (gd t104 false) (aFieldAddr 0 t13)) fun t106 =>
  bd (gT (gd t104 false) (aLoad1 t106 s17.get)) fun t107 =>
  bd (gT (gd t104 false) (aFieldAddr 0 (v11.getD 3 .any))) fun t108 =>
  bd (gT (gd t104 false) (aLoad1 t108 s17.get)) fun t109 =>
  bd (gT (gd t104 false) (aBin .eql t107 t109)) fun t110 =>
  bd (gT (gd t104 false) (some t110)) fun t111 =>
  bd (gT (gd t111 true) (aLoadN 2 t13 s17.get)) fun t112 =>
  bd (gT (gd t111 true) (aLoadN 2 (v11.getD 3 .any) s17.get)) fun t113 =>
  bd (gT (gd t111 true) (neB (.a 2 [(0, .i), (1, .i)]) t112 t113)) fun t114 =>
  bd (gT (gd t104 false) (aPick t111 t114 (B false))) fun t115 =>
  bd (aPick t104 (B true) t115) fun t116 =>
  bd (gT (gd t116 false) (aFieldAddr 0 t13)) fun t118 =>
  bd (gT (gd t116 false) (aLoad1 t118 s17.get)) fun t119 =>
  bd (gT (gd t116 false) (aFieldAddr 0 (v11.getD 3 .any))) fun t120 =>
  bd (gT (gd t116 false) (aLoad1 t120 s17.get)) fun t121 =>
  bd (gT (gd t116 false) (aBin .gtr t119 t121)) fun t122 =>
  bd (gT (gd t116 false) (some t122)) fun t123 =>
  bd (gT (gd t123 true) (aFieldAddr 1 t13)) fun t124 =>
  bd (gT (gd t123 true) (aLoad1 t124 s17.get)) fun t125 =>
  bd (gT (gd t123 true) (some (v11.getD 5 .any))) fun t126 =>
  bd (gT (gd t123 true) (aBin .neq t125 t126)) fun t127 =>
  bd (gT (gd t123 true) (some t127)) fun t128 =>
  bd (gT (gd t128 false) (aFieldAddr 0 t13)) fun t129 =>
  bd (gT (gd t128 false) (aLoad1 t129 s17.get)) fun t130 =>
  bd (gT (gd t128 false) (aFieldAddr 0 (v11.getD 3 .any))) fun t131 =>
  bd (gT (gd t128 false) (aLoad1 t131 s17.get)) fun t132 =>
  bd (gT (gd t128 false) (aBin .add t132 (I .i64 1))) fun t133 =>
  bd (gT (gd t128 false) (aBin .neq t130 t133)) fun t134 =>
  bd (gT (gd t123 true) (aPick t128 (B true) t134)) fun t135 =>
  bd (gT (gd t123 true) (some t135)) fun t136 =>
  bd (gT (gd t136 false) (some (v11.getD 6 .any))) fun t137 =>
  bd (gT (gd t136 false) (aFieldAddr 0 (v11.getD 3 .any))) fun t138 =>
  bd (gT (gd t136 false) (aLoad1 t138 s17.get)) fun t139 =>
  bd (gT (gd t136 false) (aBin .lss t137 t139)) fun t140 =>
  bd (gT (gd t123 true) (aPick t136 (B true) t140)) fun t141 =>
  bd (gT (gd t116 false) (aPick t123 t141 (B false))) fun t142 =>
  bd (aPick t116 (B true) t142) fun t143 =>
  br t143 (some (.ret (B false), s17))
  (bd (aLoadN 2 t13 s17.get) fun t144 =>
  bd2 (aStore 2 (v11.getD 3 .any) t144 s17) fun _ s18 =>
  some (.normal [(v11.getD 0 .any), (v11.getD 1 .any), (v11.getD 2 .any), (v11.getD 3 .any), (v11.getD 4 .any)], s18)))
  (fun i13 v11 s12 => if i13 = 1 then some (.normal v11, s12) else some (.exit i13 v11, s12))
  (fun r14 s12 => some (.ret r14, s12))))
  (fun v19 s20 => bd (aBin .add (v19.getD 4 .any) (I .i64 1)) fun t39 =>
  some (.normal [(v19.getD 0 .any), (v19.getD 1 .any), (v19.getD 2 .any), (v19.getD 3 .any), t39], s20))
  (fun i21 v19 s20 => some (.exit i21 v19, s20))
  (fun r22 s20 => some (.ret r22, s20)))
  (some (.exit 0 [(v.getD 2 .any), (v.getD 3 .any)], s))

/- twinkeep/twinkeeplaw17.ViewOnce: a loop; 0: t4 a, 1: t6 last, 2: t15 all, 3: t16 i -/
def f5_l2 (callf : CallF) (N : Nat) (v : List T) (s : St) : Option (JO × St) :=
  bd (aLenSl (v.getD 2 .any)) fun t149 =>
  bd (aBin .lss (v.getD 3 .any) t149) fun t150 =>
  br t150 (jn (bd (aIndexSl 2 (v.getD 2 .any) (v.getD 3 .any)) fun t155 =>
  bd (aFieldAddr 0 t155) fun t156 =>
  bd (aLoad1 t156 s.get) fun t157 =>
  bd (aBin .sub (v.getD 3 .any) (I .i64 1)) fun t160 =>
  bd (aIndexSl 2 (v.getD 2 .any) t160) fun t161 =>
  bd (aFieldAddr 0 t161) fun t162 =>
  bd (aLoad1 t162 s.get) fun t163 =>
  bd (aBin .leq t157 t163) fun t164 =>
  bd (gT (gd t164 false) (some (v.getD 2 .any))) fun t166 =>
  bd (gT (gd t164 false) (some (v.getD 3 .any))) fun t167 =>
  bd (gT (gd t164 false) (aIndexSl 2 t166 t167)) fun t168 =>
  bd (gT (gd t164 false) (aFieldAddr 1 t168)) fun t169 =>
  bd (gT (gd t164 false) (aLoad1 t169 s.get)) fun t170 =>
  bd (gT (gd t164 false) (some (v.getD 2 .any))) fun t171 =>
  bd (gT (gd t164 false) (some (v.getD 3 .any))) fun t172 =>
  bd (gT (gd t164 false) (aBin .sub t172 (I .i64 1))) fun t173 =>
  bd (gT (gd t164 false) (aIndexSl 2 t171 t173)) fun t174 =>
  bd (gT (gd t164 false) (aFieldAddr 1 t174)) fun t175 =>
  bd (gT (gd t164 false) (aLoad1 t175 s.get)) fun t176 =>
  bd (gT (gd t164 false) (aBin .eql t170 t176)) fun t177 =>
  bd (aPick t164 (B true) t177) fun t178 =>
  br t178 (some (.ret (B false), s))
  (some (.normal [(v.getD 0 .any), (v.getD 1 .any), (v.getD 2 .any), (v.getD 3 .any)], s)))
  (fun v32 s33 => bd (aBin .add (v32.getD 3 .any) (I .i64 1)) fun t152 =>
  some (.normal [(v32.getD 0 .any), (v32.getD 1 .any), (v32.getD 2 .any), t152], s33))
  (fun i34 v32 s33 => some (.exit i34 v32, s33))
  (fun r35 s33 => some (.ret r35, s33)))
  (some (.exit 2 [(v.getD 0 .any), (v.getD 1 .any)], s))

/- twinkeep/twinkeeplaw17.ViewOnce -/
def f5 (callf : CallF) (N : Nat) (a0 : T) (s : St) : Option (T × St) :=
  bd2 (callf 6 [(I .i64 10000)] s) fun t17 s1 =>
  bd2 (callf 7 [t17] s1) fun t20 s2 =>
  bd (aExtract t20 0) fun t21 =>
  bd (aExtract t20 1) fun t22 =>
  bd (aBin .neq t22 (I .i64 0)) fun t24 =>
  bd (gT (gd t24 false) (some t21)) fun t26 =>
  bd (gT (gd t24 false) (eqB .p t26 (Z .nilp))) fun t27 =>
  bd (aPick t24 (B true) t27) fun t28 =>
  br t28 (some ((B false), s2))
  (bd (asAggT (aFill [.int .i64 0, .int .i64 0] [(1, 1, (I .i64 (-1)))])) fun t29 =>
  bd2 (aNew s2 (nCells [.int .i64 0, .int .i64 0])) fun t6 s3 =>
  bd2 (aStore 2 t6 t29 s3) fun _ s4 =>
  jn (jn (loops (f5_l1 callf N) N [a0, t17, t21, t6, (I .i64 0)] s4)
  (fun v23 s24 => some (.normal [.any, .any], s24))
  (fun i25 v23 s24 => if i25 = 0 then some (.normal v23, s24) else some (.exit i25 v23, s24))
  (fun r26 s24 => some (.ret r26, s24)))
  (fun v27 s28 => bd2 (callf 12 [(v27.getD 0 .any)] s28) fun t146 s31 =>
  jn (jn (loops (f5_l2 callf N) N [(v27.getD 0 .any), (v27.getD 1 .any), t146, (I .i64 1)] s31)
  (fun v36 s37 => some (.normal [.any, .any], s37))
  (fun i38 v36 s37 => if i38 = 2 then some (.normal v36, s37) else some (.exit i38 v36, s37))
  (fun r39 s37 => some (.ret r39, s37)))
  (fun v40 s41 => bd2 (callf 10 [] s41) fun t179 s44 =>
  bd (gT (gd t179 true) (some (v40.getD 0 .any))) fun t181 =>
  bd2 (gS (gd t179 true) s44 (callf 18 [t181] s44)) fun t182 s45 =>
  bd (gT (gd t179 true) (aLoadN 2 (v40.getD 1 .any) s45.get)) fun t183 =>
  bd (gT (gd t179 true) (eqB (.a 2 [(0, .i), (1, .i)]) t182 t183)) fun t184 =>
  bd (aPick t179 t184 (B false)) fun t185 =>
  ck ((wq (gd t179 true) (decide (aLoadN 2 (v40.getD 1 .any) s44.get = aLoadN 2 (v40.getD 1 .any) s45.get)) && true) && true) (some (t185, s45)))
  (fun i42 v40 s41 => none)
  (fun r43 s41 => some (r43, s41)))
  (fun i29 v27 s28 => none)
  (fun r30 s28 => some (r30, s28)))

theorem f5_eq (callf : CallF) (N : Nat) (a0 : T) (s : St) : bodyC Tryd.prog callf N Tryd.f5 [a0] s = f5 callf N a0 s := by kernel_rfl

theorem f5_run (d : Nat) (a0 : T) (s : St) : R (d + 1) 5 [a0] s = f5 (R d) 512 a0 s := (runQ_body rfl Tryd.func5 (by kernel_rfl)).trans (f5_eq ..)

/- twinkeep/disk.New -/
def f6 (callf : CallF) (N : Nat) (a0 : T) (s : St) : Option (T × St) :=
  bd (aBin .lss a0 (I .i64 0)) fun t4 =>
  bd (gT (gd t4 false) (some a0)) fun t6 =>
  bd (gT (gd t4 false) (aBin .gtr t6 (I .i64 1048576))) fun t7 =>
  bd (aPick t4 (B true) t7) fun t8 =>
  br t8 (some ((Z .nilp), s))
  (bd2 (aNew s (nMap)) fun t10 s1 =>
  bd (asAggT (aFill [.int .i64 0, .nilm] [(0, 1, a0), (1, 1, t10)])) fun t11 =>
  bd2 (aNew s1 (nBox t11)) fun t12 s2 =>
  some (t12, s2))

theorem f6_eq (callf : CallF) (N : Nat) (a0 : T) (s : St) : bodyC Tryd.prog callf N Tryd.f6 [a0] s = f6 callf N a0 s := by kernel_rfl

theorem f6_run (d : Nat) (a0 : T) (s : St) : R (d + 1) 6 [a0] s = f6 (R d) 512 a0 s := (runQ_body rfl Tryd.func6 (by kernel_rfl)).trans (f6_eq ..)

/- twinkeep/view.Open -/
def f7 (callf : CallF) (N : Nat) (a0 : T) (s : St) : Option (T × St) :=
  bd (eqB .p a0 (Z .nilp)) fun t9 =>
  br t9 (bd (retT [(Z .nilp), (I .i64 1)]) fun r1 =>
  some (r1, s))
  (bd2 (callf 9 [a0, (Z (.str [118, 105, 101, 119, 115]))] s) fun t12 s2 =>
  bd (aExtract t12 0) fun t13 =>
  bd (aExtract t12 1) fun t14 =>
  bd (aBin .eql t14 (I .i64 9)) fun t16 =>
  jn (br t16 (bd2 (callf 19 [a0, (Z (.str [118, 105, 101, 119, 115])), (Z .nils)] s2) fun t18 s3 =>
  some (.normal [a0, t13, t18], s3))
  (some (.normal [a0, t13, t14], s2)))
  (fun v4 s5 => bd (aBin .neq (v4.getD 2 .any) (I .i64 0)) fun t20 =>
  br t20 (bd (retT [(Z .nilp), (v4.getD 2 .any)]) fun r8 =>
  some (r8, s5))
  (bd2 (callf 11 [(v4.getD 1 .any)] s5) fun t24 s9 =>
  bd (aExtract t24 0) fun t25 =>
  bd (aExtract t24 1) fun t26 =>
  bd2 (callf 20 [(v4.getD 0 .any), (Z (.str [118, 105, 101, 119, 115])), t26] s9) fun t29 s10 =>
  bd2 (callf 21 [(v4.getD 0 .any), (Z (.str [118, 105, 101, 119, 115]))] s10) fun t31 s11 =>
  bd (asAggT (aFill [.nilp, .nils] [(0, 1, (v4.getD 0 .any)), (1, 1, t25)])) fun t34 =>
  bd2 (aNew s11 (nBox t34)) fun t35 s12 =>
  bd (retT [t35, (I .i64 0)]) fun r13 =>
  some (r13, s12)))
  (fun i6 v4 s5 => none)
  (fun r7 s5 => some (r7, s5)))

theorem f7_eq (callf : CallF) (N : Nat) (a0 : T) (s : St) : bodyC Tryd.prog callf N Tryd.f7 [a0] s = f7 callf N a0 s := by kernel_rfl

theorem f7_run (d : Nat) (a0 : T) (s : St) : R (d + 1) 7 [a0] s = f7 (R d) 512 a0 s := (runQ_body rfl Tryd.func7 (by kernel_rfl)).trans (f7_eq ..)

/- (twinkeep/view.Arbiter).Ask -/
def f8 (callf : CallF) (N : Nat) (a0 : T) (a1 : T) (a2 : T) (s : St) : Option (T × St) :=
  bd2 (aNew s (nCells [.int .i64 0, .int .i64 0])) fun t6 s1 =>
  jn (bd (eqB .p a0 (Z .nilp)) fun t16 =>
  br t16 (bd2 (callf 22 [] s1) fun t17 s2 =>
  bd2 (aStore 2 t6 t17 s2) fun _ s3 =>
  bd (rC (aLoadN 2 t6 s3.get) (rT (I .i64 10) (some []))) fun l4 => bd (retT l4) fun r5 =>
  some (.ret r5, s3))
  (bd (aBin .lss a1 (I .i64 0)) fun t20 =>
  bd (gT (gd t20 false) (some a1)) fun t22 =>
  bd (gT (gd t20 false) (aBin .geq t22 (I .i64 2))) fun t23 =>
  bd (aPick t20 (B true) t23) fun t24 =>
  bd (gT (gd t24 false) (some a2)) fun t26 =>
  bd (gT (gd t24 false) (aBin .lss t26 (I .i64 0))) fun t27 =>
  bd (aPick t24 (B true) t27) fun t28 =>
  br t28 (bd2 (callf 22 [] s1) fun t29 s6 =>
  bd2 (aStore 2 t6 t29 s6) fun _ s7 =>
  bd (rC (aLoadN 2 t6 s7.get) (rT (I .i64 1) (some []))) fun l8 => bd (retT l8) fun r9 =>
  some (.ret r9, s7))
  (some (.normal [a0, a1, a2, t6], s1))))
  (fun v10 s11 => bd2 (callf 18 [(v10.getD 0 .any)] s11) fun t31 s14 =>
  bd2 (aNew s14 (nCells [.int .i64 0, .int .i64 0])) fun t8 s15 =>
  bd2 (aStore 2 t8 t31 s15) fun _ s16 =>
  bd (aFieldAddr 1 t8) fun t32 =>
  bd (aLoad1 t32 s16.get) fun t33 =>
  bd (aBin .eql t33 (v10.getD 1 .any)) fun t35 =>
  bd (gT (gd t35 false) (some (v10.getD 2 .any))) fun t37 =>
  bd (gT (gd t35 false) (aFieldAddr 0 t8)) fun t38 =>
  bd (gT (gd t35 false) (aLoad1 t38 s16.get)) fun t39 =>
  bd (gT (gd t35 false) (aBin .lss t37 t39)) fun t40 =>
  bd (aPick t35 (B true) t40) fun t41 =>
  br t41 (bd (aLoadN 2 t8 s16.get) fun t42 =>
  bd2 (aStore 2 (v10.getD 3 .any) t42 s16) fun _ s17 =>
  bd (rC (aLoadN 2 (v10.getD 3 .any) s17.get) (rT (I .i64 0) (some []))) fun l18 => bd (retT l18) fun r19 =>
  some (r19, s17))
  (bd (aFieldAddr 0 t8) fun t43 =>
  bd (aLoad1 t43 s16.get) fun t44 =>
  bd (aFold aMax2 t44 [(v10.getD 2 .any)]) fun t46 =>
  bd (aBin .geq t46 (I .i64 1073741824)) fun t47 =>
  br t47 (bd2 (callf 22 [] s16) fun t48 s20 =>
  bd2 (aStore 2 (v10.getD 3 .any) t48 s20) fun _ s21 =>
  bd (rC (aLoadN 2 (v10.getD 3 .any) s21.get) (rT (I .i64 8) (some []))) fun l22 => bd (retT l22) fun r23 =>
  some (r23, s21))
  (bd (aFieldAddr 0 t8) fun t49 =>
  bd (aLoad1 t49 s16.get) fun t50 =>
  bd (aFold aMax2 t50 [(v10.getD 2 .any)]) fun t52 =>
  bd (aBin .add t52 (I .i64 1)) fun t53 =>
  bd (asAggT (aFill [.int .i64 0, .int .i64 0] [(0, 1, t53), (1, 1, (v10.getD 1 .any))])) fun t55 =>
  bd2 (aNew s16 (nCells [.int .i64 0, .int .i64 0])) fun t9 s24 =>
  bd2 (aStore 2 t9 t55 s24) fun _ s25 =>
  bd (aLoadN 2 t9 s25.get) fun t57 =>
  bd2 (callf 13 [t57] s25) fun t58 s26 =>
  bd (aExtract t58 0) fun t59 =>
  bd (aExtract t58 1) fun t60 =>
  bd (aNil (v10.getD 0 .any)) fun t63 =>
  bd (aFieldAddr 0 t63) fun t64 =>
  bd (aLoad1 t64 s26.get) fun t65 =>
  bd2 (callf 9 [t65, (Z (.str [118, 105, 101, 119, 115]))] s26) fun t66 s27 =>
  bd (aExtract t66 0) fun t67 =>
  bd (aExtract t66 1) fun t68 =>
  bd (aNil (v10.getD 0 .any)) fun t70 =>
  bd (aFieldAddr 0 t70) fun t71 =>
  bd (aLoad1 t71 s27.get) fun t72 =>
  bd2 (callf 19 [t72, (Z (.str [118, 105, 101, 119, 115])), t59] s27) fun t74 s28 =>
  bd (aBin .neq t74 (I .i64 0)) fun t75 =>
  bd (gT (gd t75 false) (some (v10.getD 0 .any))) fun t77 =>
  bd (gT (gd t75 false) (aNil t77)) fun t78 =>
  bd (gT (gd t75 false) (aFieldAddr 0 t78)) fun t79 =>
  bd (gT (gd t75 false) (aLoad1 t79 s28.get)) fun t80 =>
  bd2 (gS (gd t75 false) s28 (callf 21 [t80, (Z (.str [118, 105, 101, 119, 115]))] s28)) fun t81 s29 =>
  bd (gT (gd t75 false) (aBin .neq t81 (I .i64 0))) fun t82 =>
  bd (aPick t75 (B true) t82) fun t83 =>
  br t83 (bd (aNil (v10.getD 0 .any)) fun t85 =>
  bd (aFieldAddr 0 t85) fun t86 =>
  bd (aLoad1 t86 s29.get) fun t87 =>
  bd (aLenSl t67) fun t89 =>
  bd2 (callf 20 [t87, (Z (.str [118, 105, 101, 119, 115])), t89] s29) fun t90 s30 =>
  bd2 (callf 22 [] s30) fun t91 s31 =>
  bd2 (aStore 2 (v10.getD 3 .any) t91 s31) fun _ s32 =>
  bd (rC (aLoadN 2 (v10.getD 3 .any) s32.get) (rT (I .i64 10) (some []))) fun l33 => bd (retT l33) fun r34 =>
  some (r34, s32))
  (bd (aNil (v10.getD 0 .any)) fun t94 =>
  bd (aFieldAddr 1 t94) fun t95 =>
  bd (aLoad1 t95 s29.get) fun t96 =>
  bd (aLoadN 2 t9 s29.get) fun t97 =>
  bd2 (aNew s29 (nSlice 1 (aFill [.int .i64 0, .int .i64 0] [(0, 2, t97)]))) fun t98 s35 =>
  bd2 (aAppend 2 16 t96 t98 s35) fun t99 s36 =>
  bd (aNil (v10.getD 0 .any)) fun t100 =>
  bd (aFieldAddr 1 t100) fun t101 =>
  bd2 (aStore 1 t101 t99 s36) fun _ s37 =>
  bd (aLoadN 2 t9 s37.get) fun t102 =>
  bd2 (aStore 2 (v10.getD 3 .any) t102 s37) fun _ s38 =>
  bd (rC (aLoadN 2 (v10.getD 3 .any) s38.get) (rT (I .i64 0) (some []))) fun l39 => bd (retT l39) fun r40 =>
  some (r40, s38)))))
  (fun i12 v10 s11 => none)
  (fun r13 s11 => some (r13, s11))

theorem f8_eq (callf : CallF) (N : Nat) (a0 : T) (a1 : T) (a2 : T) (s : St) : bodyC Tryd.prog callf N Tryd.f8 [a0, a1, a2] s = f8 callf N a0 a1 a2 s := by kernel_rfl

theorem f8_run (d : Nat) (a0 : T) (a1 : T) (a2 : T) (s : St) : R (d + 1) 8 [a0, a1, a2] s = f8 (R d) 512 a0 a1 a2 s := (runQ_body rfl Tryd.func8 (by kernel_rfl)).trans (f8_eq ..)

/- (twinkeep/disk.Disk).Read -/
def f9 (callf : CallF) (N : Nat) (a0 : T) (a1 : T) (s : St) : Option (T × St) :=
  bd2 (callf 23 [a0, a1] s) fun t11 s1 =>
  bd (aExtract t11 0) fun t12 =>
  bd (aExtract t11 1) fun t13 =>
  bd (aBin .neq t13 (I .i64 0)) fun t15 =>
  br t15 (bd (retT [(Z .nils), t13]) fun r2 =>
  some (r2, s1))
  (bd (aNil t12) fun t18 =>
  bd (aFieldAddr 0 t18) fun t19 =>
  bd (aLoad1 t19 s1.get) fun t20 =>
  bd2 (callf 24 [t20] s1) fun t21 s3 =>
  bd (retT [t21, (I .i64 0)]) fun r4 =>
  some (r4, s3))

theorem f9_eq (callf : CallF) (N : Nat) (a0 : T) (a1 : T) (s : St) : bodyC Tryd.prog callf N Tryd.f9 [a0, a1] s = f9 callf N a0 a1 s := by kernel_rfl

theorem f9_run (d : Nat) (a0 : T) (a1 : T) (s : St) : R (d + 1) 9 [a0, a1] s = f9 (R d) 512 a0 a1 s := (runQ_body rfl Tryd.func9 (by kernel_rfl)).trans (f9_eq ..)

/- twinkeep/view.Get: a loop; 0: t0 b, 1: t4 l, 2: t5 at -/
def f11_l1 (callf : CallF) (N : Nat) (v : List T) (s : St) : Option (JO × St) :=
  jn (bd2 (callf 25 [(v.getD 0 .any), (v.getD 2 .any)] s) fun t12 s1 =>
  bd (aExtract t12 0) fun t13 =>
  bd (aExtract t12 1) fun t14 =>
  bd (aExtract t12 2) fun t15 =>
  bd2 (aNew s1 (nCells [.int .i64 0, .int .i64 0])) fun t6 s2 =>
  bd2 (aStore 2 t6 t13 s2) fun _ s3 =>
  bd (aUn .not t15) fun t17 =>
  bd (gT (gd t17 false) (some (v.getD 1 .any))) fun t19 =>
  bd (gT (gd t17 false) (aLenSl t19)) fun t20 =>
  bd (gT (gd t17 false) (aBin .gtr t20 (I .i64 0))) fun t21 =>
  bd (gT (gd t17 false) (some t21)) fun t22 =>
  bd (gT (gd t22 true) (aFieldAddr 0 t6)) fun t23 =>
  bd (gT (gd t22 true) (aLoad1 t23 s3.get)) fun t24 =>
  bd (gT (gd t22 true) (some (v.getD 1 .any))) fun t25 =>
  bd (gT (gd t22 true) (some (v.getD 1 .any))) fun t26 =>
  bd (gT (gd t22 true) (aLenSl t26)) fun t27 =>
  bd (gT (gd t22 true) (aBin .sub t27 (I .i64 1))) fun t28 =>
  bd (gT (gd t22 true) (aIndexSl 2 t25 t28)) fun t29 =>
  bd (gT (gd t22 true) (aFieldAddr 0 t29)) fun t30 =>
  bd (gT (gd t22 true) (aLoad1 t30 s3.get)) fun t31 =>
  bd (gT (gd t22 true) (aBin .leq t24 t31)) fun t32 =>
  bd (gT (gd t17 false) (aPick t22 t32 (B false))) fun t33 =>
  bd (aPick t17 (B true) t33) fun t34 =>
  br t34 (some (.exit 0 [(v.getD 1 .any), (v.getD 2 .any)], s3))
  (bd (aLoadN 2 t6 s3.get) fun t36 =>
  bd2 (aNew s3 (nSlice 1 (aFill [.int .i64 0, .int .i64 0] [(0, 2, t36)]))) fun t37 s4 =>
  bd2 (aAppend 2 16 (v.getD 1 .any) t37 s4) fun t38 s5 =>
  some (.normal [(v.getD 0 .any), t38, t14], s5)))
  (fun v6 s7 => some (.normal [(v6.getD 0 .any), (v6.getD 1 .any), (v6.getD 2 .any)], s7))
  (fun i8 v6 s7 => some (.exit i8 v6, s7))
  (fun r9 s7 => some (.ret r9, s7))

/- twinkeep/view.Get -/
def f11 (callf : CallF) (N : Nat) (a0 : T) (s : St) : Option (T × St) :=
  jn (jn (loops (f11_l1 callf N) N [a0, (Z .nils), (I .i64 0)] s)
  (fun v10 s11 => some (.normal [.any, .any], s11))
  (fun i12 v10 s11 => if i12 = 0 then some (.normal v10, s11) else some (.exit i12 v10, s11))
  (fun r13 s11 => some (.ret r13, s11)))
  (fun v14 s15 => bd (retT [(v14.getD 0 .any), (v14.getD 1 .any)]) fun r18 =>
  some (r18, s15))
  (fun i16 v14 s15 => none)
  (fun r17 s15 => some (r17, s15))

theorem f11_eq (callf : CallF) (N : Nat) (a0 : T) (s : St) : bodyC Tryd.prog callf N Tryd.f11 [a0] s = f11 callf N a0 s := by kernel_rfl

theorem f11_run (d : Nat) (a0 : T) (s : St) : R (d + 1) 11 [a0] s = f11 (R d) 512 a0 s := (runQ_body rfl Tryd.func11 (by kernel_rfl)).trans (f11_eq ..)

/- (twinkeep/view.Arbiter).All -/
def f12 (callf : CallF) (N : Nat) (a0 : T) (s : St) : Option (T × St) :=
  bd (eqB .p a0 (Z .nilp)) fun t4 =>
  br t4 (some ((Z .nils), s))
  (bd (aNil a0) fun t6 =>
  bd (aFieldAddr 1 t6) fun t7 =>
  bd (aLoad1 t7 s.get) fun t8 =>
  bd2 (callf 26 [t8] s) fun t9 s1 =>
  some (t9, s1))

theorem f12_eq (callf : CallF) (N : Nat) (a0 : T) (s : St) : bodyC Tryd.prog callf N Tryd.f12 [a0] s = f12 callf N a0 s := by kernel_rfl

theorem f12_run (d : Nat) (a0 : T) (s : St) : R (d + 1) 12 [a0] s = f12 (R d) 512 a0 s := (runQ_body rfl Tryd.func12 (by kernel_rfl)).trans (f12_eq ..)

/- twinkeep/view.Put -/
def f13 (callf : CallF) (N : Nat) (a0 : T) (s : St) : Option (T × St) :=
  bd2 (aNew s (nBox a0)) fun t1 s1 =>
  bd (aFieldAddr 0 t1) fun t6 =>
  bd (aLoad1 t6 s1.get) fun t7 =>
  bd (aBin .lss t7 (I .i64 1)) fun t8 =>
  bd (gT (gd t8 false) (aFieldAddr 0 t1)) fun t10 =>
  bd (gT (gd t8 false) (aLoad1 t10 s1.get)) fun t11 =>
  bd (gT (gd t8 false) (aBin .gtr t11 (I .i64 1073741824))) fun t12 =>
  bd (aPick t8 (B true) t12) fun t13 =>
  bd (gT (gd t13 false) (aFieldAddr 1 t1)) fun t15 =>
  bd (gT (gd t13 false) (aLoad1 t15 s1.get)) fun t16 =>
  bd (gT (gd t13 false) (aBin .lss t16 (I .i64 0))) fun t17 =>
  bd (aPick t13 (B true) t17) fun t18 =>
  bd (gT (gd t18 false) (aFieldAddr 1 t1)) fun t20 =>
  bd (gT (gd t18 false) (aLoad1 t20 s1.get)) fun t21 =>
  bd (gT (gd t18 false) (aBin .geq t21 (I .i64 2))) fun t22 =>
  bd (aPick t18 (B true) t22) fun t23 =>
  br t23 (bd (retT [(Z .nils), (I .i64 1)]) fun r2 =>
  some (r2, s1))
  (bd (aFieldAddr 0 t1) fun t24 =>
  bd (aLoad1 t24 s1.get) fun t25 =>
  bd (aConv .u64 t25) fun t26 =>
  bd2 (callf 27 [t26] s1) fun t27 s3 =>
  bd (aFieldAddr 1 t1) fun t28 =>
  bd (aLoad1 t28 s3.get) fun t29 =>
  bd (aConv .u64 t29) fun t30 =>
  bd2 (callf 27 [t30] s3) fun t31 s4 =>
  bd2 (aAppend 1 1 t27 t31 s4) fun t32 s5 =>
  ck ((decide (aLoad1 t28 s1.get = aLoad1 t28 s3.get) && true) && true) (bd2 (callf 28 [t32] s5) fun t34 s6 =>
  bd (aConv .u8 t34) fun t37 =>
  bd (aBin .shr t34 (I .u64 8)) fun t39 =>
  bd (aConv .u8 t39) fun t40 =>
  bd (aBin .shr t34 (I .u64 16)) fun t42 =>
  bd (aConv .u8 t42) fun t43 =>
  bd (aBin .shr t34 (I .u64 24)) fun t45 =>
  bd (aConv .u8 t45) fun t46 =>
  bd2 (aNew s6 (nSlice 4 (aFill [.int .u8 0, .int .u8 0, .int .u8 0, .int .u8 0] [(0, 1, t37), (1, 1, t40), (2, 1, t43), (3, 1, t46)]))) fun t47 s7 =>
  bd2 (aAppend 1 1 t32 t47 s7) fun t48 s8 =>
  bd (retT [t48, (I .i64 0)]) fun r9 =>
  some (r9, s8)))

theorem f13_eq (callf : CallF) (N : Nat) (a0 : T) (s : St) : bodyC Tryd.prog callf N Tryd.f13 [a0] s = f13 callf N a0 s := by kernel_rfl

theorem f13_run (d : Nat) (a0 : T) (s : St) : R (d + 1) 13 [a0] s = f13 (R d) 512 a0 s := (runQ_body rfl Tryd.func13 (by kernel_rfl)).trans (f13_eq ..)

/- twinkeep/twinkeepref17.PutGrant -/
def f14 (callf : CallF) (N : Nat) (a0 : T) (s : St) : Option (T × St) :=
  bd2 (aNew s (nBox a0)) fun t1 s1 =>
  bd (aFieldAddr 0 t1) fun t5 =>
  bd (aLoad1 t5 s1.get) fun t6 =>
  bd (aBin .lss t6 (I .i64 1)) fun t7 =>
  bd (gT (gd t7 false) (aFieldAddr 0 t1)) fun t9 =>
  bd (gT (gd t7 false) (aLoad1 t9 s1.get)) fun t10 =>
  bd (gT (gd t7 false) (aBin .gtr t10 (I .i64 1073741824))) fun t11 =>
  bd (aPick t7 (B true) t11) fun t12 =>
  bd (gT (gd t12 false) (aFieldAddr 1 t1)) fun t14 =>
  bd (gT (gd t12 false) (aLoad1 t14 s1.get)) fun t15 =>
  bd (gT (gd t12 false) (aBin .lss t15 (I .i64 0))) fun t16 =>
  bd (aPick t12 (B true) t16) fun t17 =>
  bd (gT (gd t17 false) (aFieldAddr 1 t1)) fun t19 =>
  bd (gT (gd t17 false) (aLoad1 t19 s1.get)) fun t20 =>
  bd (gT (gd t17 false) (aBin .gtr t20 (I .i64 1))) fun t21 =>
  bd (aPick t17 (B true) t21) fun t22 =>
  br t22 (bd (retT [(Z (.str [])), (I .i64 1)]) fun r2 =>
  some (r2, s1))
  (bd (aFieldAddr 0 t1) fun t23 =>
  bd (aLoad1 t23 s1.get) fun t24 =>
  bd (aConv .u64 t24) fun t25 =>
  bd2 (callf 29 [t25] s1) fun t26 s3 =>
  bd (aFieldAddr 1 t1) fun t27 =>
  bd (aLoad1 t27 s3.get) fun t28 =>
  bd (aConv .u64 t28) fun t29 =>
  bd2 (callf 29 [t29] s3) fun t30 s4 =>
  bd (aBin .add t26 t30) fun t31 =>
  ck ((decide (aLoad1 t27 s1.get = aLoad1 t27 s3.get) && true) && true) (bd2 (callf 31 [t31] s4) fun t34 s5 =>
  bd2 (callf 30 [t34] s5) fun t35 s6 =>
  bd (aBin .add t31 t35) fun t36 =>
  bd (retT [t36, (I .i64 0)]) fun r7 =>
  some (r7, s6)))

theorem f14_eq (callf : CallF) (N : Nat) (a0 : T) (s : St) : bodyC Tryd.prog callf N Tryd.f14 [a0] s = f14 callf N a0 s := by kernel_rfl

theorem f14_run (d : Nat) (a0 : T) (s : St) : R (d + 1) 14 [a0] s = f14 (R d) 512 a0 s := (runQ_body rfl Tryd.func14 (by kernel_rfl)).trans (f14_eq ..)

/- twinkeep/twinkeepref17.GetGrants: a loop; 0: t0 b, 1: t4 l, 2: t5 at, 3: t6 last -/
def f15_l1 (callf : CallF) (N : Nat) (v : List T) (s : St) : Option (JO × St) :=
  bd (aLenStr (v.getD 0 .any)) fun t18 =>
  bd (aBin .lss (v.getD 2 .any) t18) fun t19 =>
  br t19 (jn (bd2 (callf 32 [(v.getD 0 .any), (v.getD 2 .any)] s) fun t23 s1 =>
  bd (aExtract t23 0) fun t24 =>
  bd (aExtract t23 1) fun t25 =>
  bd (aExtract t23 2) fun t26 =>
  bd2 (callf 32 [(v.getD 0 .any), t25] s1) fun t30 s2 =>
  bd (aExtract t30 0) fun t31 =>
  bd (aExtract t30 1) fun t32 =>
  bd (aExtract t30 2) fun t33 =>
  bd (aBin .neq t26 (I .i64 0)) fun t35 =>
  bd (gT (gd t35 false) (some t33)) fun t37 =>
  bd (gT (gd t35 false) (aBin .neq t37 (I .i64 0))) fun t38 =>
  bd (aPick t35 (B true) t38) fun t39 =>
  bd (gT (gd t39 false) (some t24)) fun t41 =>
  bd (gT (gd t39 false) (aBin .gtr t41 (I .u64 1073741824))) fun t42 =>
  bd (aPick t39 (B true) t42) fun t43 =>
  bd (gT (gd t43 false) (some t31)) fun t45 =>
  bd (gT (gd t43 false) (aBin .gtr t45 (I .u64 1))) fun t46 =>
  bd (aPick t43 (B true) t46) fun t47 =>
  bd (gT (gd t47 false) (some t24)) fun t49 =>
  bd (gT (gd t47 false) (aConv .i64 t49)) fun t50 =>
  bd (gT (gd t47 false) (some (v.getD 3 .any))) fun t51 =>
  bd (gT (gd t47 false) (aBin .leq t50 t51)) fun t52 =>
  bd (aPick t47 (B true) t52) fun t53 =>
  bd (gT (gd t53 false) (some t32)) fun t55 =>
  bd (gT (gd t53 false) (aBin .add t55 (I .i64 4))) fun t56 =>
  bd (gT (gd t53 false) (some (v.getD 0 .any))) fun t57 =>
  bd (gT (gd t53 false) (aLenStr t57)) fun t58 =>
  bd (gT (gd t53 false) (aBin .gtr t56 t58)) fun t59 =>
  bd (aPick t53 (B true) t59) fun t60 =>
  br t60 (some (.exit 0 [(v.getD 1 .any), (v.getD 2 .any)], s2))
  (bd (aConv .i64 t24) fun t62 =>
  bd (aConv .i64 t31) fun t64 =>
  bd (asAggT (aFill [.int .i64 0, .int .i64 0] [(0, 1, t62), (1, 1, t64)])) fun t65 =>
  bd2 (aNew s2 (nCells [.int .i64 0, .int .i64 0])) fun t13 s3 =>
  bd2 (aStore 2 t13 t65 s3) fun _ s4 =>
  bd (aLoadN 2 t13 s4.get) fun t67 =>
  bd2 (callf 14 [t67] s4) fun t68 s5 =>
  bd (aExtract t68 0) fun t69 =>
  bd (aExtract t68 1) fun t70 =>
  bd (aBin .add t32 (I .i64 4)) fun t75 =>
  bd (aPieceStr (v.getD 0 .any) (some (v.getD 2 .any)) (some t75) none) fun t76 =>
  bd (aBin .neq t69 t76) fun t77 =>
  br t77 (some (.exit 0 [(v.getD 1 .any), (v.getD 2 .any)], s5))
  (bd (aLoadN 2 t13 s5.get) fun t79 =>
  bd2 (aNew s5 (nSlice 1 (aFill [.int .i64 0, .int .i64 0] [(0, 2, t79)]))) fun t80 s6 =>
  bd2 (aAppend 2 16 (v.getD 1 .any) t80 s6) fun t81 s7 =>
  bd (aBin .add t32 (I .i64 4)) fun t83 =>
  bd (aFieldAddr 0 t13) fun t84 =>
  bd (aLoad1 t84 s7.get) fun t85 =>
  some (.normal [(v.getD 0 .any), t81, t83, t85], s7))))
  (fun v8 s9 => some (.normal [(v8.getD 0 .any), (v8.getD 1 .any), (v8.getD 2 .any), (v8.getD 3 .any)], s9))
  (fun i10 v8 s9 => some (.exit i10 v8, s9))
  (fun r11 s9 => some (.ret r11, s9)))
  (some (.exit 0 [(v.getD 1 .any), (v.getD 2 .any)], s))

/- twinkeep/twinkeepref17.GetGrants -/
def f15 (callf : CallF) (N : Nat) (a0 : T) (s : St) : Option (T × St) :=
  jn (jn (loops (f15_l1 callf N) N [a0, (Z .nils), (I .i64 0), (I .i64 0)] s)
  (fun v12 s13 => some (.normal [.any, .any], s13))
  (fun i14 v12 s13 => if i14 = 0 then some (.normal v12, s13) else some (.exit i14 v12, s13))
  (fun r15 s13 => some (.ret r15, s13)))
  (fun v16 s17 => bd (retT [(v16.getD 0 .any), (v16.getD 1 .any)]) fun r20 =>
  some (r20, s17))
  (fun i18 v16 s17 => none)
  (fun r19 s17 => some (r19, s17))

theorem f15_eq (callf : CallF) (N : Nat) (a0 : T) (s : St) : bodyC Tryd.prog callf N Tryd.f15 [a0] s = f15 callf N a0 s := by kernel_rfl

theorem f15_run (d : Nat) (a0 : T) (s : St) : R (d + 1) 15 [a0] s = f15 (R d) 512 a0 s := (runQ_body rfl Tryd.func15 (by kernel_rfl)).trans (f15_eq ..)

/- twinkeep/twinkeeplaw17.grants: a loop; 0: t0 a, 1: t1 b, 2: t5 i -/
def f16_l1 (callf : CallF) (N : Nat) (v : List T) (s : St) : Option (JO × St) :=
  bd (aLenSl (v.getD 0 .any)) fun t13 =>
  bd (aBin .lss (v.getD 2 .any) t13) fun t14 =>
  br t14 (jn (bd (aIndexSl 2 (v.getD 0 .any) (v.getD 2 .any)) fun t19 =>
  bd (aLoadN 2 t19 s.get) fun t20 =>
  bd (aIndexSl 2 (v.getD 1 .any) (v.getD 2 .any)) fun t23 =>
  bd (aLoadN 2 t23 s.get) fun t24 =>
  bd (neB (.a 2 [(0, .i), (1, .i)]) t20 t24) fun t25 =>
  br t25 (some (.ret (B false), s))
  (some (.normal [(v.getD 0 .any), (v.getD 1 .any), (v.getD 2 .any)], s)))
  (fun v1 s2 => bd (aBin .add (v1.getD 2 .any) (I .i64 1)) fun t16 =>
  some (.normal [(v1.getD 0 .any), (v1.getD 1 .any), t16], s2))
  (fun i3 v1 s2 => some (.exit i3 v1, s2))
  (fun r4 s2 => some (.ret r4, s2)))
  (some (.exit 0 [], s))

/- twinkeep/twinkeeplaw17.grants -/
def f16 (callf : CallF) (N : Nat) (a0 : T) (a1 : T) (s : St) : Option (T × St) :=
  bd (aLenSl a0) fun t7 =>
  bd (aLenSl a1) fun t9 =>
  bd (aBin .neq t7 t9) fun t10 =>
  br t10 (some ((B false), s))
  (jn (jn (loops (f16_l1 callf N) N [a0, a1, (I .i64 0)] s)
  (fun v5 s6 => some (.normal [], s6))
  (fun i7 v5 s6 => if i7 = 0 then some (.normal v5, s6) else some (.exit i7 v5, s6))
  (fun r8 s6 => some (.ret r8, s6)))
  (fun v9 s10 => some ((B true), s10))
  (fun i11 v9 s10 => none)
  (fun r12 s10 => some (r12, s10)))

theorem f16_eq (callf : CallF) (N : Nat) (a0 : T) (a1 : T) (s : St) : bodyC Tryd.prog callf N Tryd.f16 [a0, a1] s = f16 callf N a0 a1 s := by kernel_rfl

theorem f16_run (d : Nat) (a0 : T) (a1 : T) (s : St) : R (d + 1) 16 [a0, a1] s = f16 (R d) 512 a0 a1 s := (runQ_body rfl Tryd.func16 (by kernel_rfl)).trans (f16_eq ..)

/- (twinkeep/disk.Disk).Crash: a loop; 0: t0 d, 1: t1 keep, 2: t9 , 3: t10 , 4: t11  -/
def f17_l1 (callf : CallF) (N : Nat) (v : List T) (s : St) : Option (JO × St) :=
  bd (aBin .lss (v.getD 4 .any) (v.getD 3 .any)) fun t12 =>
  br t12 (jn (bd (aIndexSl 1 (v.getD 2 .any) (v.getD 4 .any)) fun t14 =>
  bd (aLoad1 t14 s.get) fun t15 =>
  bd (aNil (v.getD 0 .any)) fun t17 =>
  bd (aFieldAddr 1 t17) fun t18 =>
  bd (aLoad1 t18 s.get) fun t19 =>
  bd (Go.Abs.F.look .s false (.s (.nilp)) t19 t15 s.get) fun t21 =>
  bd (aLenSl (v.getD 1 .any)) fun t24 =>
  bd (aBin .lss (v.getD 4 .any) t24) fun t25 =>
  jn (br t25 (bd (aIndexSl 1 (v.getD 1 .any) (v.getD 4 .any)) fun t28 =>
  bd (aLoad1 t28 s.get) fun t29 =>
  bd (aFold aMax2 t29 [(I .i64 0)]) fun t30 =>
  bd (aNil t21) fun t32 =>
  bd (aFieldAddr 0 t32) fun t33 =>
  bd (aLoad1 t33 s.get) fun t34 =>
  bd (aLenSl t34) fun t35 =>
  bd (aNil t21) fun t37 =>
  bd (aFieldAddr 1 t37) fun t38 =>
  bd (aLoad1 t38 s.get) fun t39 =>
  bd (aBin .sub t35 t39) fun t40 =>
  bd (aFold aMin2 t30 [t40]) fun t41 =>
  some (.normal [(v.getD 0 .any), (v.getD 1 .any), t21, t41, (v.getD 2 .any), (v.getD 3 .any), (v.getD 4 .any)], s))
  (some (.normal [(v.getD 0 .any), (v.getD 1 .any), t21, (I .i64 0), (v.getD 2 .any), (v.getD 3 .any), (v.getD 4 .any)], s)))
  (fun v2 s3 => bd (aNil (v2.getD 2 .any)) fun t44 =>
  bd (aFieldAddr 0 t44) fun t45 =>
  bd (aLoad1 t45 s3.get) fun t46 =>
  bd (aNil (v2.getD 2 .any)) fun t48 =>
  bd (aFieldAddr 1 t48) fun t49 =>
  bd (aLoad1 t49 s3.get) fun t50 =>
  bd (aBin .add t50 (v2.getD 3 .any)) fun t52 =>
  bd (aPieceSl 1 t46 none (some t52) none) fun t53 =>
  bd (aNil (v2.getD 2 .any)) fun t54 =>
  bd (aFieldAddr 0 t54) fun t55 =>
  bd2 (aStore 1 t55 t53 s3) fun _ s6 =>
  bd (aNil (v2.getD 2 .any)) fun t58 =>
  bd (aFieldAddr 0 t58) fun t59 =>
  bd (aLoad1 t59 s6.get) fun t60 =>
  bd (aLenSl t60) fun t61 =>
  bd (aNil (v2.getD 2 .any)) fun t62 =>
  bd (aFieldAddr 1 t62) fun t63 =>
  bd2 (aStore 1 t63 t61 s6) fun _ s7 =>
  some (.normal [(v2.getD 0 .any), (v2.getD 1 .any), (v2.getD 4 .any), (v2.getD 5 .any), (v2.getD 6 .any)], s7))
  (fun i4 v2 s3 => if i4 = 1 then some (.normal v2, s3) else some (.exit i4 v2, s3))
  (fun r5 s3 => some (.ret r5, s3)))
  (fun v8 s9 => bd (aBin .add (v8.getD 4 .any) (I .i64 1)) fun t64 =>
  some (.normal [(v8.getD 0 .any), (v8.getD 1 .any), (v8.getD 2 .any), (v8.getD 3 .any), t64], s9))
  (fun i10 v8 s9 => some (.exit i10 v8, s9))
  (fun r11 s9 => some (.ret r11, s9)))
  (some (.exit 0 [], s))

/- (twinkeep/disk.Disk).Crash -/
def f17 (callf : CallF) (N : Nat) (a0 : T) (a1 : T) (s : St) : Option (T × St) :=
  bd2 (callf 33 [a0] s) fun t9 s1 =>
  bd (aLenSl t9) fun t10 =>
  jn (jn (loops (f17_l1 callf N) N [a0, a1, t9, t10, (I .i64 0)] s1)
  (fun v12 s13 => some (.normal [], s13))
  (fun i14 v12 s13 => if i14 = 0 then some (.normal v12, s13) else some (.exit i14 v12, s13))
  (fun r15 s13 => some (.ret r15, s13)))
  (fun v16 s17 => bd (retT []) fun r20 =>
  some (r20, s17))
  (fun i18 v16 s17 => none)
  (fun r19 s17 => some (r19, s17))

theorem f17_eq (callf : CallF) (N : Nat) (a0 : T) (a1 : T) (s : St) : bodyC Tryd.prog callf N Tryd.f17 [a0, a1] s = f17 callf N a0 a1 s := by kernel_rfl

theorem f17_run (d : Nat) (a0 : T) (a1 : T) (s : St) : R (d + 1) 17 [a0, a1] s = f17 (R d) 512 a0 a1 s := (runQ_body rfl Tryd.func17 (by kernel_rfl)).trans (f17_eq ..)

/- (twinkeep/view.Arbiter).Last -/
def f18 (callf : CallF) (N : Nat) (a0 : T) (s : St) : Option (T × St) :=
  bd2 (aNew s (nCells [.int .i64 0, .int .i64 0])) fun t2 s1 =>
  bd (eqB .p a0 (Z .nilp)) fun t4 =>
  bd (gT (gd t4 false) (some a0)) fun t6 =>
  bd (gT (gd t4 false) (aNil t6)) fun t7 =>
  bd (gT (gd t4 false) (aFieldAddr 1 t7)) fun t8 =>
  bd (gT (gd t4 false) (aLoad1 t8 s1.get)) fun t9 =>
  bd (gT (gd t4 false) (aLenSl t9)) fun t10 =>
  bd (gT (gd t4 false) (aBin .eql t10 (I .i64 0))) fun t11 =>
  bd (aPick t4 (B true) t11) fun t12 =>
  br t12 (bd2 (callf 22 [] s1) fun t13 s2 =>
  bd2 (aStore 2 t2 t13 s2) fun _ s3 =>
  bd (rC (aLoadN 2 t2 s3.get) (some [])) fun l4 => bd (retT l4) fun r5 =>
  some (r5, s3))
  (bd (aNil a0) fun t15 =>
  bd (aFieldAddr 1 t15) fun t16 =>
  bd (aLoad1 t16 s1.get) fun t17 =>
  bd (aNil a0) fun t19 =>
  bd (aFieldAddr 1 t19) fun t20 =>
  bd (aLoad1 t20 s1.get) fun t21 =>
  bd (aLenSl t21) fun t22 =>
  bd (aBin .sub t22 (I .i64 1)) fun t23 =>
  bd (aIndexSl 2 t17 t23) fun t24 =>
  bd (aLoadN 2 t24 s1.get) fun t25 =>
  bd2 (aStore 2 t2 t25 s1) fun _ s6 =>
  bd (rC (aLoadN 2 t2 s6.get) (some [])) fun l7 => bd (retT l7) fun r8 =>
  some (r8, s6))

theorem f18_eq (callf : CallF) (N : Nat) (a0 : T) (s : St) : bodyC Tryd.prog callf N Tryd.f18 [a0] s = f18 callf N a0 s := by kernel_rfl

theorem f18_run (d : Nat) (a0 : T) (s : St) : R (d + 1) 18 [a0] s = f18 (R d) 512 a0 s := (runQ_body rfl Tryd.func18 (by kernel_rfl)).trans (f18_eq ..)

/- (twinkeep/disk.Disk).Append -/
def f19 (callf : CallF) (N : Nat) (a0 : T) (a1 : T) (a2 : T) (s : St) : Option (T × St) :=
  bd2 (callf 23 [a0, a1] s) fun t12 s1 =>
  bd (aExtract t12 0) fun t13 =>
  bd (aExtract t12 1) fun t14 =>
  bd (aBin .neq t14 (I .i64 0)) fun t16 =>
  bd (gT (gd t16 true) (some t14)) fun t18 =>
  bd (gT (gd t16 true) (aBin .neq t18 (I .i64 9))) fun t19 =>
  bd (aPick t16 t19 (B false)) fun t20 =>
  br t20 (some (t14, s1))
  (bd (eqB .p t13 (Z .nilp)) fun t23 =>
  bd (gT (gd t23 true) (some a0)) fun t25 =>
  bd (gT (gd t23 true) (aNil t25)) fun t26 =>
  bd (gT (gd t23 true) (aFieldAddr 1 t26)) fun t27 =>
  bd (gT (gd t23 true) (aLoad1 t27 s1.get)) fun t28 =>
  bd (gT (gd t23 true) (aLenMap t28 s1.get)) fun t29 =>
  bd (gT (gd t23 true) (aBin .eql t29 (I .i64 200))) fun t30 =>
  bd (aPick t23 t30 (B false)) fun t31 =>
  bd (gT (gd t31 false) (some a0)) fun t33 =>
  bd2 (gS (gd t31 false) s1 (callf 34 [t33] s1)) fun t34 s2 =>
  bd (gT (gd t31 false) (some a2)) fun t35 =>
  bd (gT (gd t31 false) (aLenSl t35)) fun t36 =>
  bd (gT (gd t31 false) (aBin .add t34 t36)) fun t37 =>
  bd (gT (gd t31 false) (some a0)) fun t38 =>
  bd (gT (gd t31 false) (aNil t38)) fun t39 =>
  bd (gT (gd t31 false) (aFieldAddr 0 t39)) fun t40 =>
  bd (gT (gd t31 false) (aLoad1 t40 s2.get)) fun t41 =>
  bd (gT (gd t31 false) (aBin .gtr t37 t41)) fun t42 =>
  bd (aPick t31 (B true) t42) fun t43 =>
  ck ((wq (gd t31 false) (decide (aLoad1 t40 s1.get = aLoad1 t40 s2.get)) && true) && true) (br t43 (some ((I .i64 8), s2))
  (bd (eqB .p t13 (Z .nilp)) fun t45 =>
  jn (br t45 (bd (asAggT (aFill [.nils, .int .i64 0] [])) fun t46 =>
  bd2 (aNew s2 (nBox t46)) fun t47 s3 =>
  bd (aNil a0) fun t49 =>
  bd (aFieldAddr 1 t49) fun t50 =>
  bd (aLoad1 t50 s3.get) fun t51 =>
  bd2 (mset .s t51 a1 t47 s3) fun _ s4 =>
  some (.normal [a2, t47], s4))
  (some (.normal [a2, t13], s2)))
  (fun v5 s6 => bd (aNil (v5.getD 1 .any)) fun t56 =>
  bd (aFieldAddr 0 t56) fun t57 =>
  bd (aLoad1 t57 s6.get) fun t58 =>
  bd2 (aAppend 1 1 t58 (v5.getD 0 .any) s6) fun t60 s9 =>
  bd (aNil (v5.getD 1 .any)) fun t61 =>
  bd (aFieldAddr 0 t61) fun t62 =>
  bd2 (aStore 1 t62 t60 s9) fun _ s10 =>
  some ((I .i64 0), s10))
  (fun i7 v5 s6 => none)
  (fun r8 s6 => some (r8, s6)))))

theorem f19_eq (callf : CallF) (N : Nat) (a0 : T) (a1 : T) (a2 : T) (s : St) : bodyC Tryd.prog callf N Tryd.f19 [a0, a1, a2] s = f19 callf N a0 a1 a2 s := by kernel_rfl

theorem f19_run (d : Nat) (a0 : T) (a1 : T) (a2 : T) (s : St) : R (d + 1) 19 [a0, a1, a2] s = f19 (R d) 512 a0 a1 a2 s := (runQ_body rfl Tryd.func19 (by kernel_rfl)).trans (f19_eq ..)

/- (twinkeep/disk.Disk).Cut -/
def f20 (callf : CallF) (N : Nat) (a0 : T) (a1 : T) (a2 : T) (s : St) : Option (T × St) :=
  bd2 (callf 23 [a0, a1] s) fun t12 s1 =>
  bd (aExtract t12 0) fun t13 =>
  bd (aExtract t12 1) fun t14 =>
  jn (bd (aBin .neq t14 (I .i64 0)) fun t17 =>
  br t17 (some (.ret t14, s1))
  (bd (aBin .lss a2 (I .i64 0)) fun t21 =>
  bd (gT (gd t21 false) (some a2)) fun t23 =>
  bd (gT (gd t21 false) (some t13)) fun t24 =>
  bd (gT (gd t21 false) (aNil t24)) fun t25 =>
  bd (gT (gd t21 false) (aFieldAddr 0 t25)) fun t26 =>
  bd (gT (gd t21 false) (aLoad1 t26 s1.get)) fun t27 =>
  bd (gT (gd t21 false) (aLenSl t27)) fun t28 =>
  bd (gT (gd t21 false) (aBin .gtr t23 t28)) fun t29 =>
  bd (aPick t21 (B true) t29) fun t30 =>
  br t30 (some (.ret (I .i64 5), s1))
  (some (.normal [a2, t13], s1))))
  (fun v2 s3 => bd (aNil (v2.getD 1 .any)) fun t34 =>
  bd (aFieldAddr 0 t34) fun t35 =>
  bd (aLoad1 t35 s3.get) fun t36 =>
  bd (aPieceSl 1 t36 none (some (v2.getD 0 .any)) none) fun t38 =>
  bd (aNil (v2.getD 1 .any)) fun t40 =>
  bd (aFieldAddr 1 t40) fun t41 =>
  bd (aLoad1 t41 s3.get) fun t42 =>
  bd (aFold aMin2 t42 [(v2.getD 0 .any)]) fun t44 =>
  bd (aNil (v2.getD 1 .any)) fun t45 =>
  bd (aFieldAddr 0 t45) fun t46 =>
  bd2 (aStore 1 t46 t38 s3) fun _ s6 =>
  bd (aNil (v2.getD 1 .any)) fun t47 =>
  bd (aFieldAddr 1 t47) fun t48 =>
  bd2 (aStore 1 t48 t44 s6) fun _ s7 =>
  some ((I .i64 0), s7))
  (fun i4 v2 s3 => none)
  (fun r5 s3 => some (r5, s3))

theorem f20_eq (callf : CallF) (N : Nat) (a0 : T) (a1 : T) (a2 : T) (s : St) : bodyC Tryd.prog callf N Tryd.f20 [a0, a1, a2] s = f20 callf N a0 a1 a2 s := by kernel_rfl

theorem f20_run (d : Nat) (a0 : T) (a1 : T) (a2 : T) (s : St) : R (d + 1) 20 [a0, a1, a2] s = f20 (R d) 512 a0 a1 a2 s := (runQ_body rfl Tryd.func20 (by kernel_rfl)).trans (f20_eq ..)

/- (twinkeep/disk.Disk).Sync -/
def f21 (callf : CallF) (N : Nat) (a0 : T) (a1 : T) (s : St) : Option (T × St) :=
  bd2 (callf 23 [a0, a1] s) fun t10 s1 =>
  bd (aExtract t10 0) fun t11 =>
  bd (aExtract t10 1) fun t12 =>
  bd (aBin .eql t12 (I .i64 0)) fun t14 =>
  jn (br t14 (bd (aNil t11) fun t17 =>
  bd (aFieldAddr 0 t17) fun t18 =>
  bd (aLoad1 t18 s1.get) fun t19 =>
  bd (aLenSl t19) fun t20 =>
  bd (aNil t11) fun t21 =>
  bd (aFieldAddr 1 t21) fun t22 =>
  bd2 (aStore 1 t22 t20 s1) fun _ s2 =>
  some (.normal [t12], s2))
  (some (.normal [t12], s1)))
  (fun v3 s4 => some ((v3.getD 0 .any), s4))
  (fun i5 v3 s4 => none)
  (fun r6 s4 => some (r6, s4))

theorem f21_eq (callf : CallF) (N : Nat) (a0 : T) (a1 : T) (s : St) : bodyC Tryd.prog callf N Tryd.f21 [a0, a1] s = f21 callf N a0 a1 s := by kernel_rfl

theorem f21_run (d : Nat) (a0 : T) (a1 : T) (s : St) : R (d + 1) 21 [a0, a1] s = f21 (R d) 512 a0 a1 s := (runQ_body rfl Tryd.func21 (by kernel_rfl)).trans (f21_eq ..)

/- twinkeep/view.nobody -/
def f22 (callf : CallF) (N : Nat) (s : St) : Option (T × St) :=
  bd2 (aNew s (nCells [.int .i64 0, .int .i64 0])) fun t0 s1 =>
  bd (asAggT (aFill [.int .i64 0, .int .i64 0] [(1, 1, (I .i64 (-1)))])) fun t1 =>
  bd2 (aStore 2 t0 t1 s1) fun _ s2 =>
  bd (rC (aLoadN 2 t0 s2.get) (some [])) fun l3 => bd (retT l3) fun r4 =>
  some (r4, s2)

theorem f22_eq (callf : CallF) (N : Nat) (s : St) : bodyC Tryd.prog callf N Tryd.f22 [] s = f22 callf N s := by kernel_rfl

theorem f22_run (d : Nat) (s : St) : R (d + 1) 22 [] s = f22 (R d) 512 s := (runQ_body rfl Tryd.func22 (by kernel_rfl)).trans (f22_eq ..)

/- (twinkeep/disk.Disk).find -/
def f23 (callf : CallF) (N : Nat) (a0 : T) (a1 : T) (s : St) : Option (T × St) :=
  jn (bd (eqB .p a0 (Z .nilp)) fun t8 =>
  br t8 (bd (retT [(Z .nilp), (I .i64 10)]) fun r1 =>
  some (.ret r1, s))
  (bd2 (callf 35 [a1] s) fun t11 s2 =>
  bd (aUn .not t11) fun t12 =>
  br t12 (bd (retT [(Z .nilp), (I .i64 1)]) fun r3 =>
  some (.ret r3, s2))
  (bd (aNil a0) fun t15 =>
  bd (aFieldAddr 1 t15) fun t16 =>
  bd (aLoad1 t16 s2.get) fun t17 =>
  bd (Go.Abs.F.look .s false (.s (.nilp)) t17 a1 s2.get) fun t19 =>
  bd (eqB .p t19 (Z .nilp)) fun t20 =>
  br t20 (bd (retT [(Z .nilp), (I .i64 9)]) fun r4 =>
  some (.ret r4, s2))
  (some (.normal [a0, a1], s2)))))
  (fun v5 s6 => bd (aNil (v5.getD 0 .any)) fun t22 =>
  bd (aFieldAddr 1 t22) fun t23 =>
  bd (aLoad1 t23 s6.get) fun t24 =>
  bd (Go.Abs.F.look .s false (.s (.nilp)) t24 (v5.getD 1 .any) s6.get) fun t26 =>
  bd (retT [t26, (I .i64 0)]) fun r9 =>
  some (r9, s6))
  (fun i7 v5 s6 => none)
  (fun r8 s6 => some (r8, s6))

theorem f23_eq (callf : CallF) (N : Nat) (a0 : T) (a1 : T) (s : St) : bodyC Tryd.prog callf N Tryd.f23 [a0, a1] s = f23 callf N a0 a1 s := by kernel_rfl

theorem f23_run (d : Nat) (a0 : T) (a1 : T) (s : St) : R (d + 1) 23 [a0, a1] s = f23 (R d) 512 a0 a1 s := (runQ_body rfl Tryd.func23 (by kernel_rfl)).trans (f23_eq ..)

/- bytes.Clone -/
def f24 (callf : CallF) (N : Nat) (a0 : T) (s : St) : Option (T × St) :=
  bd (eqB .l a0 (Z .nils)) fun t4 =>
  br t4 (some ((Z .nils), s))
  (bd2 (aNew s (nSlice 0 (aFill [] []))) fun t5 s1 =>
  bd2 (aAppend 1 1 t5 a0 s1) fun t7 s2 =>
  some (t7, s2))

theorem f24_eq (callf : CallF) (N : Nat) (a0 : T) (s : St) : bodyC Tryd.prog callf N Tryd.f24 [a0] s = f24 callf N a0 s := by kernel_rfl

theorem f24_run (d : Nat) (a0 : T) (s : St) : R (d + 1) 24 [a0] s = f24 (R d) 512 a0 s := (runQ_body rfl Tryd.func24 (by kernel_rfl)).trans (f24_eq ..)

/- twinkeep/view.one -/
def f25 (callf : CallF) (N : Nat) (a0 : T) (a1 : T) (s : St) : Option (T × St) :=
  bd2 (aNew s (nCells [.int .i64 0, .int .i64 0])) fun t4 s1 =>
  bd2 (callf 36 [a0, a1] s1) fun t18 s2 =>
  bd (aExtract t18 0) fun t19 =>
  bd (aExtract t18 1) fun t20 =>
  bd (aExtract t18 2) fun t21 =>
  bd2 (callf 36 [a0, t20] s2) fun t25 s3 =>
  bd (aExtract t25 0) fun t26 =>
  bd (aExtract t25 1) fun t27 =>
  bd (aExtract t25 2) fun t28 =>
  bd (aBin .neq t21 (I .i64 0)) fun t30 =>
  bd (gT (gd t30 false) (some t28)) fun t32 =>
  bd (gT (gd t30 false) (aBin .neq t32 (I .i64 0))) fun t33 =>
  bd (aPick t30 (B true) t33) fun t34 =>
  bd (gT (gd t34 false) (some a0)) fun t36 =>
  bd (gT (gd t34 false) (aLenSl t36)) fun t37 =>
  bd (gT (gd t34 false) (some t27)) fun t38 =>
  bd (gT (gd t34 false) (aBin .sub t37 t38)) fun t39 =>
  bd (gT (gd t34 false) (aBin .lss t39 (I .i64 4))) fun t40 =>
  bd (aPick t34 (B true) t40) fun t41 =>
  bd (gT (gd t41 false) (some t19)) fun t43 =>
  bd (gT (gd t41 false) (aBin .gtr t43 (I .u64 1073741824))) fun t44 =>
  bd (aPick t41 (B true) t44) fun t45 =>
  bd (gT (gd t45 false) (some t26)) fun t47 =>
  bd (gT (gd t45 false) (aBin .geq t47 (I .u64 2))) fun t48 =>
  bd (aPick t45 (B true) t48) fun t49 =>
  br t49 (bd (asAggT (aFill [.int .i64 0, .int .i64 0] [])) fun t50 =>
  bd2 (aStore 2 t4 t50 s3) fun _ s4 =>
  bd (rC (aLoadN 2 t4 s4.get) (rT a1 (rT (B false) (some [])))) fun l5 => bd (retT l5) fun r6 =>
  some (r6, s4))
  (bd (aConv .i64 t19) fun t53 =>
  bd (aConv .i64 t26) fun t55 =>
  bd (asAggT (aFill [.int .i64 0, .int .i64 0] [(0, 1, t53), (1, 1, t55)])) fun t56 =>
  bd2 (aNew s3 (nCells [.int .i64 0, .int .i64 0])) fun t13 s7 =>
  bd2 (aStore 2 t13 t56 s7) fun _ s8 =>
  bd (aLoadN 2 t13 s8.get) fun t58 =>
  bd2 (callf 13 [t58] s8) fun t59 s9 =>
  bd (aExtract t59 0) fun t60 =>
  bd (aExtract t59 1) fun t61 =>
  bd (aLoadN 2 t13 s9.get) fun t62 =>
  bd (aBin .add t27 (I .i64 4)) fun t64 =>
  bd (aBin .eql t61 (I .i64 0)) fun t66 =>
  bd (gT (gd t66 true) (some t60)) fun t68 =>
  bd (gT (gd t66 true) (some a0)) fun t69 =>
  bd (gT (gd t66 true) (some a1)) fun t70 =>
  bd (gT (gd t66 true) (some t27)) fun t71 =>
  bd (gT (gd t66 true) (aBin .add t71 (I .i64 4))) fun t72 =>
  bd (gT (gd t66 true) (aPieceSl 1 t69 (some t70) (some t72) none)) fun t73 =>
  bd2 (gS (gd t66 true) s9 (callf 37 [t68, t73] s9)) fun t74 s10 =>
  bd (aPick t66 t74 (B false)) fun t75 =>
  bd2 (aStore 2 t4 t62 s10) fun _ s11 =>
  ck ((decide (aLoadN 2 t13 s10.get = aLoadN 2 t13 s9.get) && true) && true) (bd (rC (aLoadN 2 t4 s11.get) (rT t64 (rT t75 (some [])))) fun l12 => bd (retT l12) fun r13 =>
  some (r13, s11)))

theorem f25_eq (callf : CallF) (N : Nat) (a0 : T) (a1 : T) (s : St) : bodyC Tryd.prog callf N Tryd.f25 [a0, a1] s = f25 callf N a0 a1 s := by kernel_rfl

theorem f25_run (d : Nat) (a0 : T) (a1 : T) (s : St) : R (d + 1) 25 [a0, a1] s = f25 (R d) 512 a0 a1 s := (runQ_body rfl Tryd.func25 (by kernel_rfl)).trans (f25_eq ..)

/- slices.Clone[[]twinkeep/api.Grant,twinkeep/api.Grant] -/
def f26 (callf : CallF) (N : Nat) (a0 : T) (s : St) : Option (T × St) :=
  bd (eqB .l a0 (Z .nils)) fun t4 =>
  br t4 (some ((Z .nils), s))
  (bd2 (aNew s (nSlice 0 (aFill [] []))) fun t5 s1 =>
  bd2 (aAppend 2 16 t5 a0 s1) fun t7 s2 =>
  some (t7, s2))

theorem f26_eq (callf : CallF) (N : Nat) (a0 : T) (s : St) : bodyC Tryd.prog callf N Tryd.f26 [a0] s = f26 callf N a0 s := by kernel_rfl

theorem f26_run (d : Nat) (a0 : T) (s : St) : R (d + 1) 26 [a0] s = f26 (R d) 512 a0 s := (runQ_body rfl Tryd.func26 (by kernel_rfl)).trans (f26_eq ..)

/- twinkeep/vary.Put: a loop; 0: t0 n, 1: t3 b -/
def f27_l1 (callf : CallF) (N : Nat) (v : List T) (s : St) : Option (JO × St) :=
  bd (aBin .geq (v.getD 0 .any) (I .u64 128)) fun t5 =>
  br t5 (jn (bd (aConv .u8 (v.getD 0 .any)) fun t8 =>
  bd (aBin .or t8 (I .u8 128)) fun t9 =>
  bd2 (aNew s (nSlice 1 (aFill [.int .u8 0] [(0, 1, t9)]))) fun t10 s1 =>
  bd2 (aAppend 1 1 (v.getD 1 .any) t10 s1) fun t11 s2 =>
  bd (aBin .shr (v.getD 0 .any) (I .u64 7)) fun t13 =>
  some (.normal [t13, t11], s2))
  (fun v3 s4 => some (.normal [(v3.getD 0 .any), (v3.getD 1 .any)], s4))
  (fun i5 v3 s4 => some (.exit i5 v3, s4))
  (fun r6 s4 => some (.ret r6, s4)))
  (some (.exit 0 [(v.getD 0 .any), (v.getD 1 .any)], s))

/- twinkeep/vary.Put -/
def f27 (callf : CallF) (N : Nat) (a0 : T) (s : St) : Option (T × St) :=
  jn (jn (loops (f27_l1 callf N) N [a0, (Z .nils)] s)
  (fun v7 s8 => some (.normal [.any, .any], s8))
  (fun i9 v7 s8 => if i9 = 0 then some (.normal v7, s8) else some (.exit i9 v7, s8))
  (fun r10 s8 => some (.ret r10, s8)))
  (fun v11 s12 => bd (aConv .u8 (v11.getD 0 .any)) fun t16 =>
  bd2 (aNew s12 (nSlice 1 (aFill [.int .u8 0] [(0, 1, t16)]))) fun t17 s15 =>
  bd2 (aAppend 1 1 (v11.getD 1 .any) t17 s15) fun t18 s16 =>
  some (t18, s16))
  (fun i13 v11 s12 => none)
  (fun r14 s12 => some (r14, s12))

theorem f27_eq (callf : CallF) (N : Nat) (a0 : T) (s : St) : bodyC Tryd.prog callf N Tryd.f27 [a0] s = f27 callf N a0 s := by kernel_rfl

theorem f27_run (d : Nat) (a0 : T) (s : St) : R (d + 1) 27 [a0] s = f27 (R d) 512 a0 s := (runQ_body rfl Tryd.func27 (by kernel_rfl)).trans (f27_eq ..)

/- twinkeep/sum.Of -/
def f28 (callf : CallF) (N : Nat) (a0 : T) (s : St) : Option (T × St) :=
  bd2 (callf 38 [(I .u32 1), a0] s) fun t4 s1 =>
  some (t4, s1)

theorem f28_eq (callf : CallF) (N : Nat) (a0 : T) (s : St) : bodyC Tryd.prog callf N Tryd.f28 [a0] s = f28 callf N a0 s := by kernel_rfl

theorem f28_run (d : Nat) (a0 : T) (s : St) : R (d + 1) 28 [a0] s = f28 (R d) 512 a0 s := (runQ_body rfl Tryd.func28 (by kernel_rfl)).trans (f28_eq ..)

/- twinkeep/twinkeepref1.Put: a loop; 0: t0 n, 1: t3 out -/
def f29_l1 (callf : CallF) (N : Nat) (v : List T) (s : St) : Option (JO × St) :=
  bd (aBin .geq (v.getD 0 .any) (I .u64 128)) fun t5 =>
  br t5 (jn (bd (aConv .u8 (v.getD 0 .any)) fun t8 =>
  bd (aBin .or t8 (I .u8 128)) fun t9 =>
  bd2 (aNew s (nSlice 1 (aFill [.int .u8 0] [(0, 1, t9)]))) fun t10 s1 =>
  bd2 (aAppend 1 1 (v.getD 1 .any) t10 s1) fun t11 s2 =>
  bd (aBin .shr (v.getD 0 .any) (I .u64 7)) fun t13 =>
  some (.normal [t13, t11], s2))
  (fun v3 s4 => some (.normal [(v3.getD 0 .any), (v3.getD 1 .any)], s4))
  (fun i5 v3 s4 => some (.exit i5 v3, s4))
  (fun r6 s4 => some (.ret r6, s4)))
  (some (.exit 0 [(v.getD 0 .any), (v.getD 1 .any)], s))

/- twinkeep/twinkeepref1.Put -/
def f29 (callf : CallF) (N : Nat) (a0 : T) (s : St) : Option (T × St) :=
  jn (jn (loops (f29_l1 callf N) N [a0, (Z .nils)] s)
  (fun v7 s8 => some (.normal [.any, .any], s8))
  (fun i9 v7 s8 => if i9 = 0 then some (.normal v7, s8) else some (.exit i9 v7, s8))
  (fun r10 s8 => some (.ret r10, s8)))
  (fun v11 s12 => bd (aConv .u8 (v11.getD 0 .any)) fun t16 =>
  bd2 (aNew s12 (nSlice 1 (aFill [.int .u8 0] [(0, 1, t16)]))) fun t17 s15 =>
  bd2 (aAppend 1 1 (v11.getD 1 .any) t17 s15) fun t18 s16 =>
  bd (aBytesStr t18 s16.get) fun t19 =>
  some (t19, s16))
  (fun i13 v11 s12 => none)
  (fun r14 s12 => some (r14, s12))

theorem f29_eq (callf : CallF) (N : Nat) (a0 : T) (s : St) : bodyC Tryd.prog callf N Tryd.f29 [a0] s = f29 callf N a0 s := by kernel_rfl

theorem f29_run (d : Nat) (a0 : T) (s : St) : R (d + 1) 29 [a0] s = f29 (R d) 512 a0 s := (runQ_body rfl Tryd.func29 (by kernel_rfl)).trans (f29_eq ..)

/- twinkeep/twinkeepref1.Four -/
def f30 (callf : CallF) (N : Nat) (a0 : T) (s : St) : Option (T × St) :=
  bd (aConv .u8 a0) fun t4 =>
  bd (aBin .shr a0 (I .u64 8)) fun t6 =>
  bd (aConv .u8 t6) fun t7 =>
  bd (aBin .shr a0 (I .u64 16)) fun t9 =>
  bd (aConv .u8 t9) fun t10 =>
  bd (aBin .shr a0 (I .u64 24)) fun t12 =>
  bd (aConv .u8 t12) fun t13 =>
  bd2 (aNew s (nSlice 4 (aFill [.int .u8 0, .int .u8 0, .int .u8 0, .int .u8 0] [(0, 1, t4), (1, 1, t7), (2, 1, t10), (3, 1, t13)]))) fun t14 s1 =>
  bd (aBytesStr t14 s1.get) fun t15 =>
  some (t15, s1)

theorem f30_eq (callf : CallF) (N : Nat) (a0 : T) (s : St) : bodyC Tryd.prog callf N Tryd.f30 [a0] s = f30 callf N a0 s := by kernel_rfl

theorem f30_run (d : Nat) (a0 : T) (s : St) : R (d + 1) 30 [a0] s = f30 (R d) 512 a0 s := (runQ_body rfl Tryd.func30 (by kernel_rfl)).trans (f30_eq ..)

/- twinkeep/twinkeepref1.Of -/
def f31 (callf : CallF) (N : Nat) (a0 : T) (s : St) : Option (T × St) :=
  bd2 (callf 39 [(I .u32 1), a0] s) fun t4 s1 =>
  some (t4, s1)

theorem f31_eq (callf : CallF) (N : Nat) (a0 : T) (s : St) : bodyC Tryd.prog callf N Tryd.f31 [a0] s = f31 callf N a0 s := by kernel_rfl

theorem f31_run (d : Nat) (a0 : T) (s : St) : R (d + 1) 31 [a0] s = f31 (R d) 512 a0 s := (runQ_body rfl Tryd.func31 (by kernel_rfl)).trans (f31_eq ..)

/- twinkeep/twinkeepref1.Get: a loop; 0: t0 b, 1: t1 at, 2: t7 n, 3: t8 i -/
def f32_l1 (callf : CallF) (N : Nat) (v : List T) (s : St) : Option (JO × St) :=
  bd (aBin .lss (v.getD 3 .any) (I .i64 10)) fun t20 =>
  bd (gT (gd t20 true) (some (v.getD 1 .any))) fun t22 =>
  bd (gT (gd t20 true) (some (v.getD 3 .any))) fun t23 =>
  bd (gT (gd t20 true) (aBin .add t22 t23)) fun t24 =>
  bd (gT (gd t20 true) (some (v.getD 0 .any))) fun t25 =>
  bd (gT (gd t20 true) (aLenStr t25)) fun t26 =>
  bd (gT (gd t20 true) (aBin .lss t24 t26)) fun t27 =>
  bd (aPick t20 t27 (B false)) fun t28 =>
  br t28 (jn (bd (aBin .add (v.getD 1 .any) (v.getD 3 .any)) fun t34 =>
  bd (aAtStr (v.getD 0 .any) t34) fun t35 =>
  bd (aConv .u64 t35) fun t36 =>
  bd (aBin .eql (v.getD 3 .any) (I .i64 9)) fun t38 =>
  bd (gT (gd t38 true) (some t36)) fun t40 =>
  bd (gT (gd t38 true) (aBin .gtr t40 (I .u64 1))) fun t41 =>
  bd (aPick t38 t41 (B false)) fun t42 =>
  br t42 (some (.exit 0 [(v.getD 1 .any)], s))
  (bd (aBin .and t36 (I .u64 127)) fun t45 =>
  bd (aBin .mul (I .i64 7) (v.getD 3 .any)) fun t47 =>
  bd (aConv .u64 t47) fun t48 =>
  bd (aBin .shl t45 t48) fun t49 =>
  bd (aBin .or (v.getD 2 .any) t49) fun t50 =>
  bd (aBin .lss t36 (I .u64 128)) fun t52 =>
  br t52 (bd (aBin .eql t36 (I .u64 0)) fun t54 =>
  bd (gT (gd t54 true) (some (v.getD 3 .any))) fun t56 =>
  bd (gT (gd t54 true) (aBin .gtr t56 (I .i64 0))) fun t57 =>
  bd (aPick t54 t57 (B false)) fun t58 =>
  br t58 (some (.exit 0 [(v.getD 1 .any)], s))
  (bd (aBin .add (v.getD 1 .any) (v.getD 3 .any)) fun t62 =>
  bd (aBin .add t62 (I .i64 1)) fun t63 =>
  bd (retT [t50, t63, (I .i64 0)]) fun r2 =>
  some (.ret r2, s)))
  (some (.normal [(v.getD 0 .any), (v.getD 1 .any), t50, (v.getD 3 .any)], s))))
  (fun v3 s4 => bd (aBin .add (v3.getD 3 .any) (I .i64 1)) fun t30 =>
  some (.normal [(v3.getD 0 .any), (v3.getD 1 .any), (v3.getD 2 .any), t30], s4))
  (fun i5 v3 s4 => some (.exit i5 v3, s4))
  (fun r6 s4 => some (.ret r6, s4)))
  (some (.exit 0 [(v.getD 1 .any)], s))

/- twinkeep/twinkeepref1.Get -/
def f32 (callf : CallF) (N : Nat) (a0 : T) (a1 : T) (s : St) : Option (T × St) :=
  bd (aBin .lss a1 (I .i64 0)) fun t11 =>
  bd (gT (gd t11 false) (some a1)) fun t13 =>
  bd (gT (gd t11 false) (some a0)) fun t14 =>
  bd (gT (gd t11 false) (aLenStr t14)) fun t15 =>
  bd (gT (gd t11 false) (aBin .gtr t13 t15)) fun t16 =>
  bd (aPick t11 (B true) t16) fun t17 =>
  br t17 (bd (retT [(I .u64 0), a1, (I .i64 1)]) fun r1 =>
  some (r1, s))
  (jn (jn (loops (f32_l1 callf N) N [a0, a1, (I .u64 0), (I .i64 0)] s)
  (fun v7 s8 => some (.normal [.any], s8))
  (fun i9 v7 s8 => if i9 = 0 then some (.normal v7, s8) else some (.exit i9 v7, s8))
  (fun r10 s8 => some (.ret r10, s8)))
  (fun v11 s12 => bd (retT [(I .u64 0), (v11.getD 0 .any), (I .i64 2)]) fun r15 =>
  some (r15, s12))
  (fun i13 v11 s12 => none)
  (fun r14 s12 => some (r14, s12)))

theorem f32_eq (callf : CallF) (N : Nat) (a0 : T) (a1 : T) (s : St) : bodyC Tryd.prog callf N Tryd.f32 [a0, a1] s = f32 callf N a0 a1 s := by kernel_rfl

theorem f32_run (d : Nat) (a0 : T) (a1 : T) (s : St) : R (d + 1) 32 [a0, a1] s = f32 (R d) 512 a0 a1 s := (runQ_body rfl Tryd.func32 (by kernel_rfl)).trans (f32_eq ..)

/- (twinkeep/disk.Disk).Used: a loop; 0: t0 d, 1: t3 n, 2: t7 , 3: t8 , 4: t9  -/
def f34_l1 (callf : CallF) (N : Nat) (v : List T) (s : St) : Option (JO × St) :=
  bd (aBin .lss (v.getD 4 .any) (v.getD 3 .any)) fun t10 =>
  br t10 (jn (bd (aIndexSl 1 (v.getD 2 .any) (v.getD 4 .any)) fun t11 =>
  bd (aLoad1 t11 s.get) fun t12 =>
  bd (aNil (v.getD 0 .any)) fun t15 =>
  bd (aFieldAddr 1 t15) fun t16 =>
  bd (aLoad1 t16 s.get) fun t17 =>
  bd (Go.Abs.F.look .s false (.s (.nilp)) t17 t12 s.get) fun t19 =>
  bd (aNil t19) fun t20 =>
  bd (aFieldAddr 0 t20) fun t21 =>
  bd (aLoad1 t21 s.get) fun t22 =>
  bd (aLenSl t22) fun t23 =>
  bd (aBin .add (v.getD 1 .any) t23) fun t24 =>
  some (.normal [(v.getD 0 .any), t24, (v.getD 2 .any), (v.getD 3 .any), (v.getD 4 .any)], s))
  (fun v2 s3 => bd (aBin .add (v2.getD 4 .any) (I .i64 1)) fun t25 =>
  some (.normal [(v2.getD 0 .any), (v2.getD 1 .any), (v2.getD 2 .any), (v2.getD 3 .any), t25], s3))
  (fun i4 v2 s3 => some (.exit i4 v2, s3))
  (fun r5 s3 => some (.ret r5, s3)))
  (some (.exit 0 [(v.getD 1 .any)], s))

/- (twinkeep/disk.Disk).Used -/
def f34 (callf : CallF) (N : Nat) (a0 : T) (s : St) : Option (T × St) :=
  bd2 (callf 33 [a0] s) fun t7 s1 =>
  bd (aLenSl t7) fun t8 =>
  jn (jn (loops (f34_l1 callf N) N [a0, (I .i64 0), t7, t8, (I .i64 0)] s1)
  (fun v6 s7 => some (.normal [.any], s7))
  (fun i8 v6 s7 => if i8 = 0 then some (.normal v6, s7) else some (.exit i8 v6, s7))
  (fun r9 s7 => some (.ret r9, s7)))
  (fun v10 s11 => some ((v10.getD 0 .any), s11))
  (fun i12 v10 s11 => none)
  (fun r13 s11 => some (r13, s11))

theorem f34_eq (callf : CallF) (N : Nat) (a0 : T) (s : St) : bodyC Tryd.prog callf N Tryd.f34 [a0] s = f34 callf N a0 s := by kernel_rfl

theorem f34_run (d : Nat) (a0 : T) (s : St) : R (d + 1) 34 [a0] s = f34 (R d) 512 a0 s := (runQ_body rfl Tryd.func34 (by kernel_rfl)).trans (f34_eq ..)

/- twinkeep/vary.Get: a loop; 0: t0 b, 1: t1 at, 2: t7 n, 3: t19  -/
def f36_l1 (callf : CallF) (N : Nat) (v : List T) (s : St) : Option (JO × St) :=
  bd (aBin .lss (v.getD 3 .any) (I .i64 10)) fun t20 =>
  br t20 (jn (bd (aBin .add (v.getD 1 .any) (v.getD 3 .any)) fun t24 =>
  bd (aLenSl (v.getD 0 .any)) fun t26 =>
  bd (aBin .geq t24 t26) fun t27 =>
  br t27 (some (.exit 0 [(v.getD 1 .any)], s))
  (bd (aBin .add (v.getD 1 .any) (v.getD 3 .any)) fun t31 =>
  bd (aIndexSl 1 (v.getD 0 .any) t31) fun t32 =>
  bd (aLoad1 t32 s.get) fun t33 =>
  bd (aBin .eql (v.getD 3 .any) (I .i64 9)) fun t35 =>
  bd (gT (gd t35 true) (some t33)) fun t37 =>
  bd (gT (gd t35 true) (aBin .gtr t37 (I .u8 1))) fun t38 =>
  bd (aPick t35 t38 (B false)) fun t39 =>
  br t39 (some (.exit 0 [(v.getD 1 .any)], s))
  (bd (aBin .and t33 (I .u8 127)) fun t42 =>
  bd (aConv .u64 t42) fun t43 =>
  bd (aBin .mul (I .i64 7) (v.getD 3 .any)) fun t45 =>
  bd (aConv .u64 t45) fun t46 =>
  bd (aBin .shl t43 t46) fun t47 =>
  bd (aBin .or (v.getD 2 .any) t47) fun t48 =>
  jn (bd (aBin .geq t33 (I .u8 128)) fun t51 =>
  br t51 (some (.exit 1 [(v.getD 0 .any), (v.getD 1 .any), t48, (v.getD 3 .any)], s))
  (bd (aBin .gtr (v.getD 3 .any) (I .i64 0)) fun t54 =>
  bd (gT (gd t54 true) (some t33)) fun t56 =>
  bd (gT (gd t54 true) (aBin .eql t56 (I .u8 0))) fun t57 =>
  bd (aPick t54 t57 (B false)) fun t58 =>
  br t58 (some (.exit 0 [(v.getD 1 .any)], s))
  (some (.normal [(v.getD 1 .any), t48, (v.getD 3 .any)], s))))
  (fun v2 s3 => bd (aBin .add (v2.getD 0 .any) (v2.getD 2 .any)) fun t62 =>
  bd (aBin .add t62 (I .i64 1)) fun t63 =>
  bd (retT [(v2.getD 1 .any), t63, (I .i64 0)]) fun r6 =>
  some (.ret r6, s3))
  (fun i4 v2 s3 => if i4 = 1 then some (.normal v2, s3) else some (.exit i4 v2, s3))
  (fun r5 s3 => some (.ret r5, s3)))))
  (fun v7 s8 => bd (aBin .add (v7.getD 3 .any) (I .i64 1)) fun t64 =>
  some (.normal [(v7.getD 0 .any), (v7.getD 1 .any), (v7.getD 2 .any), t64], s8))
  (fun i9 v7 s8 => some (.exit i9 v7, s8))
  (fun r10 s8 => some (.ret r10, s8)))
  (some (.exit 0 [(v.getD 1 .any)], s))

/- twinkeep/vary.Get -/
def f36 (callf : CallF) (N : Nat) (a0 : T) (a1 : T) (s : St) : Option (T × St) :=
  bd (aBin .lss a1 (I .i64 0)) fun t11 =>
  bd (gT (gd t11 false) (some a1)) fun t13 =>
  bd (gT (gd t11 false) (some a0)) fun t14 =>
  bd (gT (gd t11 false) (aLenSl t14)) fun t15 =>
  bd (gT (gd t11 false) (aBin .gtr t13 t15)) fun t16 =>
  bd (aPick t11 (B true) t16) fun t17 =>
  br t17 (bd (retT [(I .u64 0), a1, (I .i64 1)]) fun r1 =>
  some (r1, s))
  (jn (jn (loops (f36_l1 callf N) N [a0, a1, (I .u64 0), (I .i64 0)] s)
  (fun v11 s12 => some (.normal [.any], s12))
  (fun i13 v11 s12 => if i13 = 0 then some (.normal v11, s12) else some (.exit i13 v11, s12))
  (fun r14 s12 => some (.ret r14, s12)))
  (fun v15 s16 => bd (retT [(I .u64 0), (v15.getD 0 .any), (I .i64 2)]) fun r19 =>
  some (r19, s16))
  (fun i17 v15 s16 => none)
  (fun r18 s16 => some (r18, s16)))

theorem f36_eq (callf : CallF) (N : Nat) (a0 : T) (a1 : T) (s : St) : bodyC Tryd.prog callf N Tryd.f36 [a0, a1] s = f36 callf N a0 a1 s := by kernel_rfl

theorem f36_run (d : Nat) (a0 : T) (a1 : T) (s : St) : R (d + 1) 36 [a0, a1] s = f36 (R d) 512 a0 a1 s := (runQ_body rfl Tryd.func36 (by kernel_rfl)).trans (f36_eq ..)

/- slices.Equal[[]byte,byte]: a loop; 0: t0 s1, 1: t1 s2, 2: t12 , 3: t13  -/
def f37_l1 (callf : CallF) (N : Nat) (v : List T) (s : St) : Option (JO × St) :=
  bd (aBin .lss (v.getD 3 .any) (v.getD 2 .any)) fun t14 =>
  br t14 (jn (bd (aIndexSl 1 (v.getD 0 .any) (v.getD 3 .any)) fun t18 =>
  bd (aLoad1 t18 s.get) fun t19 =>
  bd (aIndexSl 1 (v.getD 1 .any) (v.getD 3 .any)) fun t22 =>
  bd (aLoad1 t22 s.get) fun t23 =>
  bd (aBin .neq t19 t23) fun t24 =>
  br t24 (some (.ret (B false), s))
  (some (.normal [(v.getD 0 .any), (v.getD 1 .any), (v.getD 2 .any), (v.getD 3 .any)], s)))
  (fun v1 s2 => bd (aBin .add (v1.getD 3 .any) (I .i64 1)) fun t25 =>
  some (.normal [(v1.getD 0 .any), (v1.getD 1 .any), (v1.getD 2 .any), t25], s2))
  (fun i3 v1 s2 => some (.exit i3 v1, s2))
  (fun r4 s2 => some (.ret r4, s2)))
  (some (.exit 0 [], s))

/- slices.Equal[[]byte,byte] -/
def f37 (callf : CallF) (N : Nat) (a0 : T) (a1 : T) (s : St) : Option (T × St) :=
  bd (aLenSl a0) fun t7 =>
  bd (aLenSl a1) fun t9 =>
  bd (aBin .neq t7 t9) fun t10 =>
  br t10 (some ((B false), s))
  (bd (aLenSl a0) fun t12 =>
  jn (jn (loops (f37_l1 callf N) N [a0, a1, t12, (I .i64 0)] s)
  (fun v5 s6 => some (.normal [], s6))
  (fun i7 v5 s6 => if i7 = 0 then some (.normal v5, s6) else some (.exit i7 v5, s6))
  (fun r8 s6 => some (.ret r8, s6)))
  (fun v9 s10 => some ((B true), s10))
  (fun i11 v9 s10 => none)
  (fun r12 s10 => some (r12, s10)))

theorem f37_eq (callf : CallF) (N : Nat) (a0 : T) (a1 : T) (s : St) : bodyC Tryd.prog callf N Tryd.f37 [a0, a1] s = f37 callf N a0 a1 s := by kernel_rfl

theorem f37_run (d : Nat) (a0 : T) (a1 : T) (s : St) : R (d + 1) 37 [a0, a1] s = f37 (R d) 512 a0 a1 s := (runQ_body rfl Tryd.func37 (by kernel_rfl)).trans (f37_eq ..)

/- twinkeep/sum.More: a loop; 0: t5 n, 1: t11 , 2: t12 , 3: t13  -/
def f38_l1 (callf : CallF) (N : Nat) (v : List T) (s : St) : Option (JO × St) :=
  bd (aBin .lss (v.getD 3 .any) (v.getD 2 .any)) fun t14 =>
  br t14 (jn (bd (aIndexSl 1 (v.getD 1 .any) (v.getD 3 .any)) fun t15 =>
  bd (aLoad1 t15 s.get) fun t16 =>
  bd (aBin .mul (v.getD 0 .any) (I .u64 257)) fun t18 =>
  bd (aConv .u64 t16) fun t20 =>
  bd (aBin .add t18 t20) fun t21 =>
  bd (aBin .add t21 (I .u64 1)) fun t22 =>
  bd (aBin .rem t22 (I .u64 4294967291)) fun t23 =>
  some (.normal [t23, (v.getD 1 .any), (v.getD 2 .any), (v.getD 3 .any)], s))
  (fun v1 s2 => bd (aBin .add (v1.getD 3 .any) (I .i64 1)) fun t24 =>
  some (.normal [(v1.getD 0 .any), (v1.getD 1 .any), (v1.getD 2 .any), t24], s2))
  (fun i3 v1 s2 => some (.exit i3 v1, s2))
  (fun r4 s2 => some (.ret r4, s2)))
  (some (.exit 0 [(v.getD 0 .any)], s))

/- twinkeep/sum.More -/
def f38 (callf : CallF) (N : Nat) (a0 : T) (a1 : T) (s : St) : Option (T × St) :=
  bd (aConv .u64 a0) fun t9 =>
  bd (aBin .rem t9 (I .u64 4294967291)) fun t10 =>
  bd (aLenSl a1) fun t12 =>
  jn (jn (loops (f38_l1 callf N) N [t10, a1, t12, (I .i64 0)] s)
  (fun v5 s6 => some (.normal [.any], s6))
  (fun i7 v5 s6 => if i7 = 0 then some (.normal v5, s6) else some (.exit i7 v5, s6))
  (fun r8 s6 => some (.ret r8, s6)))
  (fun v9 s10 => bd (aConv .u32 (v9.getD 0 .any)) fun t26 =>
  some (t26, s10))
  (fun i11 v9 s10 => none)
  (fun r12 s10 => some (r12, s10))

theorem f38_eq (callf : CallF) (N : Nat) (a0 : T) (a1 : T) (s : St) : bodyC Tryd.prog callf N Tryd.f38 [a0, a1] s = f38 callf N a0 a1 s := by kernel_rfl

theorem f38_run (d : Nat) (a0 : T) (a1 : T) (s : St) : R (d + 1) 38 [a0, a1] s = f38 (R d) 512 a0 a1 s := (runQ_body rfl Tryd.func38 (by kernel_rfl)).trans (f38_eq ..)

/- twinkeep/twinkeepref1.More: a loop; 0: t1 b, 1: t5 n, 2: t6 i -/
def f39_l1 (callf : CallF) (N : Nat) (v : List T) (s : St) : Option (JO × St) :=
  bd (aLenStr (v.getD 0 .any)) fun t12 =>
  bd (aBin .lss (v.getD 2 .any) t12) fun t13 =>
  br t13 (jn (bd (aBin .mul (v.getD 1 .any) (I .u64 257)) fun t17 =>
  bd (aAtStr (v.getD 0 .any) (v.getD 2 .any)) fun t20 =>
  bd (aConv .u64 t20) fun t21 =>
  bd (aBin .add t17 t21) fun t22 =>
  bd (aBin .add t22 (I .u64 1)) fun t23 =>
  bd (aBin .rem t23 (I .u64 4294967291)) fun t24 =>
  some (.normal [(v.getD 0 .any), t24, (v.getD 2 .any)], s))
  (fun v1 s2 => bd (aBin .add (v1.getD 2 .any) (I .i64 1)) fun t15 =>
  some (.normal [(v1.getD 0 .any), (v1.getD 1 .any), t15], s2))
  (fun i3 v1 s2 => some (.exit i3 v1, s2))
  (fun r4 s2 => some (.ret r4, s2)))
  (some (.exit 0 [(v.getD 1 .any)], s))

/- twinkeep/twinkeepref1.More -/
def f39 (callf : CallF) (N : Nat) (a0 : T) (a1 : T) (s : St) : Option (T × St) :=
  bd (aConv .u64 a0) fun t8 =>
  bd (aBin .rem t8 (I .u64 4294967291)) fun t9 =>
  jn (jn (loops (f39_l1 callf N) N [a1, t9, (I .i64 0)] s)
  (fun v5 s6 => some (.normal [.any], s6))
  (fun i7 v5 s6 => if i7 = 0 then some (.normal v5, s6) else some (.exit i7 v5, s6))
  (fun r8 s6 => some (.ret r8, s6)))
  (fun v9 s10 => bd (aConv .u32 (v9.getD 0 .any)) fun t26 =>
  some (t26, s10))
  (fun i11 v9 s10 => none)
  (fun r12 s10 => some (r12, s10))

theorem f39_eq (callf : CallF) (N : Nat) (a0 : T) (a1 : T) (s : St) : bodyC Tryd.prog callf N Tryd.f39 [a0, a1] s = f39 callf N a0 a1 s := by kernel_rfl

theorem f39_run (d : Nat) (a0 : T) (a1 : T) (s : St) : R (d + 1) 39 [a0, a1] s = f39 (R d) 512 a0 a1 s := (runQ_body rfl Tryd.func39 (by kernel_rfl)).trans (f39_eq ..)

set_option maxRecDepth 100000 in
theorem told_all : gave true (runQ Tryd.prog 64 prim1 16 10 [] St.empty) = true := by kernel_rfl

theorem told_run (d : Nat) (s : St) : R (d + 1) 10 [] s = some (B true, s) := runQ_prim rfl
end
end Go.Proofs.YtgecidicpdobfaaDoor
