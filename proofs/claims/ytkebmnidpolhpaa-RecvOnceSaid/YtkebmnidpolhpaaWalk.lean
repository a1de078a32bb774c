/-
  What the laws of layer 15 and the functions of package recv compute, printed by a program of our own: each text is by definition the run of the code. No conditions.
-/
import Derived.Test.YtkebmnidpolhpaaAbsLoop
import Derived.Test.YtkebmnidpolhpaaRows
namespace Go.Proofs.Ytkebmnidpolhpaa
open Go Go.Abs Go.Abs.F
set_option linter.unusedVariables false
noncomputable section
/-- A map's keys, if all are numbers of this kind. -/
def keysOf : List (S × V) → Option (List Int)
  | [] => some []
  | (.int .i64 n, _) :: r => match keysOf r with
    | some l => match (Lit.int .i64 n).wf && !l.contains n with
      | true => some (n :: l)
      | false => none
    | none => none
  | _ :: _ => none

def put (n : Int) : List Int → List Int
  | [] => [n]
  | m :: r => match decide (n ≤ m) with
    | true => n :: m :: r
    | false => m :: put n r

def sorted : List Int → List Int
  | [] => []
  | n :: r => put n (sorted r)

/-- What Kept gives. -/
def keptP : CallF := fun f ts σ => match Nat.beq f 13 with
  | false => none
  | true => match ts with
    | [.v (.s (.ptr i o))] => match σ.get i with
      | some (.cells _ vs) => match vs[o + 1]? with
        | some (.map m) => match σ.get m with
          | some (.map es) => match Nat.ble es.length 1000, keysOf es with
            | true, some [] => some (Z .nils, σ)
            | true, some (k :: l) => some (Z (.sl σ.size 0 (l.length + 1) (.grown 1)), σ.push (.cells true ((sorted (k :: l)).map (S.int .i64))))
            | _, _ => none
          | _ => none
        | _ => none
      | _ => none
    | _ => none

/-- The few checks of told are run once, in an empty store. -/
abbrev prim : CallF := orP (toldP 8 true) keptP
abbrev R (d : Nat) : CallF := runQ Try.prog 512 prim d
/- twinkeep/twinkeeplaw15.RecvOnce: a loop; 0: t0 order, 1: t3 r, 2: t4 n, 3: t5 i, 4: t7 l, 5: t9 k -/
def f4_l2 (callf : CallF) (N : Nat) (v : List T) (s : St) : Option (JO × St) :=
  bd (aLenSl (v.getD 4 .any)) fun t55 =>
  bd (aBin .lss (v.getD 5 .any) t55) fun t56 =>
  br t56 (jn (bd (aBin .add (v.getD 2 .any) (I .i64 1)) fun t60 =>
  bd (aIndexSl 1 (v.getD 4 .any) (v.getD 5 .any)) fun t63 =>
  bd (aLoad1 t63 s.get) fun t64 =>
  bd (aLenSl t64) fun t65 =>
  bd (aBin .neq t65 (I .i64 1)) fun t66 =>
  bd (gT (gd t66 false) (some (v.getD 4 .any))) fun t68 =>
  bd (gT (gd t66 false) (some (v.getD 5 .any))) fun t69 =>
  bd (gT (gd t66 false) (aIndexSl 1 t68 t69)) fun t70 =>
  bd (gT (gd t66 false) (aLoad1 t70 s.get)) fun t71 =>
  bd (gT (gd t66 false) (aIndexSl 1 t71 (I .i64 0))) fun t72 =>
  bd (gT (gd t66 false) (aLoad1 t72 s.get)) fun t73 =>
  bd (gT (gd t66 false) (some t60)) fun t74 =>
  bd (gT (gd t66 false) (aConv .u8 t74)) fun t75 =>
  bd (gT (gd t66 false) (aBin .neq t73 t75)) fun t76 =>
  bd (aPick t66 (B true) t76) fun t77 =>
  br t77 (some (.ret (B false), s))
  (some (.normal [(v.getD 0 .any), (v.getD 1 .any), t60, (v.getD 3 .any), (v.getD 4 .any), (v.getD 5 .any)], s)))
  (fun v4 s5 => bd (aBin .add (v4.getD 5 .any) (I .i64 1)) fun t58 =>
  some (.normal [(v4.getD 0 .any), (v4.getD 1 .any), (v4.getD 2 .any), (v4.getD 3 .any), (v4.getD 4 .any), t58], s5))
  (fun i6 v4 s5 => some (.exit i6 v4, s5))
  (fun r7 s5 => some (.ret r7, s5)))
  (some (.exit 2 [(v.getD 0 .any), (v.getD 1 .any), (v.getD 2 .any), (v.getD 3 .any)], s))

/- twinkeep/twinkeeplaw15.RecvOnce: a loop; 0: t0 order, 1: t3 r, 2: t4 n, 3: t5 i -/
def f4_l1 (callf : CallF) (N : Nat) (v : List T) (s : St) : Option (JO × St) :=
  bd (aLenSl (v.getD 0 .any)) fun t15 =>
  bd (aBin .lss (v.getD 3 .any) t15) fun t16 =>
  bd (gT (gd t16 true) (some (v.getD 3 .any))) fun t18 =>
  bd (gT (gd t16 true) (aBin .lss t18 (I .i64 100))) fun t19 =>
  bd (aPick t16 t19 (B false)) fun t20 =>
  br t20 (jn (bd (aBin .sub (v.getD 2 .any) (I .i64 2)) fun t24 =>
  bd (aIndexSl 1 (v.getD 0 .any) (v.getD 3 .any)) fun t27 =>
  bd (aLoad1 t27 s.get) fun t28 =>
  bd (aConv .u64 t28) fun t29 =>
  bd (aBin .rem t29 (I .u64 10)) fun t30 =>
  bd (aConv .i64 t30) fun t31 =>
  bd (aBin .add t24 t31) fun t32 =>
  bd (aConv .u8 t32) fun t37 =>
  bd2 (aNew s (nSlice 1 (aFill [.int .u8 0] [(0, 1, t37)]))) fun t38 s2 =>
  bd2 (callf 9 [(v.getD 1 .any), t32, t38] s2) fun t39 s3 =>
  bd (aExtract t39 0) fun t40 =>
  bd (aExtract t39 1) fun t41 =>
  bd (aBin .neq t41 (I .i64 0)) fun t43 =>
  bd (aBin .lss t32 (I .i64 1)) fun t45 =>
  bd (gT (gd t45 false) (some t32)) fun t47 =>
  bd (gT (gd t45 false) (some (v.getD 2 .any))) fun t48 =>
  bd (gT (gd t45 false) (aBin .add t48 (I .i64 8))) fun t49 =>
  bd (gT (gd t45 false) (aBin .gtr t47 t49)) fun t50 =>
  bd (aPick t45 (B true) t50) fun t51 =>
  bd (neB .b t43 t51) fun t52 =>
  br t52 (some (.ret (B false), s3))
  (jn (jn (loops (f4_l2 callf N) N [(v.getD 0 .any), (v.getD 1 .any), (v.getD 2 .any), (v.getD 3 .any), t40, (I .i64 0)] s3)
  (fun v8 s9 => some (.normal [.any, .any, .any, .any], s9))
  (fun i10 v8 s9 => if i10 = 2 then some (.normal v8, s9) else some (.exit i10 v8, s9))
  (fun r11 s9 => some (.ret r11, s9)))
  (fun v12 s13 => bd2 (callf 11 [(v12.getD 1 .any)] s13) fun t79 s16 =>
  bd (aBin .neq t79 (v12.getD 2 .any)) fun t81 =>
  br t81 (some (.ret (B false), s16))
  (some (.normal [(v12.getD 0 .any), (v12.getD 1 .any), (v12.getD 2 .any), (v12.getD 3 .any)], s16)))
  (fun i14 v12 s13 => if i14 = 1 then some (.normal v12, s13) else some (.exit i14 v12, s13))
  (fun r15 s13 => some (.ret r15, s13))))
  (fun v17 s18 => bd (aBin .add (v17.getD 3 .any) (I .i64 1)) fun t22 =>
  some (.normal [(v17.getD 0 .any), (v17.getD 1 .any), (v17.getD 2 .any), t22], s18))
  (fun i19 v17 s18 => some (.exit i19 v17, s18))
  (fun r20 s18 => some (.ret r20, s18)))
  (some (.exit 0 [], s))

/- twinkeep/twinkeeplaw15.RecvOnce -/
def f4 (callf : CallF) (N : Nat) (a0 : T) (s : St) : Option (T × St) :=
  bd2 (callf 7 [] s) fun t10 s1 =>
  bd (eqB .p t10 (Z .nilp)) fun t12 =>
  br t12 (some ((B false), s1))
  (jn (jn (loops (f4_l1 callf N) N [a0, t10, (I .i64 0), (I .i64 0)] s1)
  (fun v21 s22 => some (.normal [], s22))
  (fun i23 v21 s22 => if i23 = 0 then some (.normal v21, s22) else some (.exit i23 v21, s22))
  (fun r24 s22 => some (.ret r24, s22)))
  (fun v25 s26 => bd2 (callf 8 [] s26) fun t82 s29 =>
  some (t82, s29))
  (fun i27 v25 s26 => none)
  (fun r28 s26 => some (r28, s26)))

theorem f4_eq (callf : CallF) (N : Nat) (a0 : T) (s : St) : bodyC Try.prog callf N Try.f4 [a0] s = f4 callf N a0 s := by kernel_rfl

theorem f4_run (d : Nat) (a0 : T) (s : St) : R (d + 1) 4 [a0] s = f4 (R d) 512 a0 s := (runQ_body rfl Try.func4 (by kernel_rfl)).trans (f4_eq ..)

/- twinkeep/twinkeeplaw15.RecvKept: a loop; 0: t0 mask, 1: t3 r, 2: t4 n, 3: t5 front, 4: t6 i -/
def f5_l1 (callf : CallF) (N : Nat) (v : List T) (s : St) : Option (JO × St) :=
  bd (aBin .leq (v.getD 4 .any) (I .i64 8)) fun t17 =>
  br t17 (jn (bd (aConv .u64 (v.getD 4 .any)) fun t22 =>
  bd (aBin .shr (v.getD 0 .any) t22) fun t23 =>
  bd (aBin .and t23 (I .i64 1)) fun t24 =>
  bd (aBin .eql t24 (I .i64 1)) fun t25 =>
  jn (br t25 (bd (aConv .u8 (v.getD 4 .any)) fun t30 =>
  bd2 (aNew s (nSlice 1 (aFill [.int .u8 0] [(0, 1, t30)]))) fun t31 s2 =>
  bd2 (callf 9 [(v.getD 1 .any), (v.getD 4 .any), t31] s2) fun t32 s3 =>
  bd (aExtract t32 0) fun t33 =>
  bd (aExtract t32 1) fun t34 =>
  bd (aLenSl t33) fun t36 =>
  bd (aBin .neq t36 (I .i64 0)) fun t37 =>
  bd (gT (gd t37 false) (some t34)) fun t39 =>
  bd (gT (gd t37 false) (aBin .neq t39 (I .i64 0))) fun t40 =>
  bd (aPick t37 (B true) t40) fun t41 =>
  br t41 (some (.ret (B false), s3))
  (bd (aBin .add (v.getD 2 .any) (I .i64 1)) fun t43 =>
  bd (aBin .add (v.getD 3 .any) (I .i64 1)) fun t46 =>
  bd (aBin .eql (v.getD 4 .any) t46) fun t47 =>
  jn (br t47 (some (.normal [(v.getD 0 .any), (v.getD 1 .any), t43, (v.getD 4 .any), (v.getD 4 .any)], s3))
  (some (.normal [(v.getD 0 .any), (v.getD 1 .any), t43, (v.getD 3 .any), (v.getD 4 .any)], s3)))
  (fun v4 s5 => some (.normal [(v4.getD 0 .any), (v4.getD 1 .any), (v4.getD 2 .any), (v4.getD 3 .any), (v4.getD 4 .any)], s5))
  (fun i6 v4 s5 => some (.exit i6 v4, s5))
  (fun r7 s5 => some (.ret r7, s5))))
  (some (.normal [(v.getD 0 .any), (v.getD 1 .any), (v.getD 2 .any), (v.getD 3 .any), (v.getD 4 .any)], s)))
  (fun v8 s9 => some (.normal [(v8.getD 0 .any), (v8.getD 1 .any), (v8.getD 2 .any), (v8.getD 3 .any), (v8.getD 4 .any)], s9))
  (fun i10 v8 s9 => if i10 = 1 then some (.normal v8, s9) else some (.exit i10 v8, s9))
  (fun r11 s9 => some (.ret r11, s9)))
  (fun v12 s13 => bd (aBin .add (v12.getD 4 .any) (I .i64 1)) fun t19 =>
  some (.normal [(v12.getD 0 .any), (v12.getD 1 .any), (v12.getD 2 .any), (v12.getD 3 .any), t19], s13))
  (fun i14 v12 s13 => some (.exit i14 v12, s13))
  (fun r15 s13 => some (.ret r15, s13)))
  (some (.exit 0 [(v.getD 1 .any), (v.getD 2 .any), (v.getD 3 .any)], s))

/- twinkeep/twinkeeplaw15.RecvKept: a loop; 0: t3 r, 1: t4 n, 2: t5 front, 3: t9 k, 4: t10 l, 5: t11 e, 6: t12 i -/
def f5_l2 (callf : CallF) (N : Nat) (v : List T) (s : St) : Option (JO × St) :=
  bd (aLenSl (v.getD 4 .any)) fun t60 =>
  bd (aBin .lss (v.getD 6 .any) t60) fun t61 =>
  br t61 (jn (bd (aIndexSl 1 (v.getD 4 .any) (v.getD 6 .any)) fun t66 =>
  bd (aLoad1 t66 s.get) fun t67 =>
  bd (aLenSl t67) fun t68 =>
  bd (aBin .neq t68 (I .i64 1)) fun t69 =>
  bd (gT (gd t69 false) (some (v.getD 4 .any))) fun t71 =>
  bd (gT (gd t69 false) (some (v.getD 6 .any))) fun t72 =>
  bd (gT (gd t69 false) (aIndexSl 1 t71 t72)) fun t73 =>
  bd (gT (gd t69 false) (aLoad1 t73 s.get)) fun t74 =>
  bd (gT (gd t69 false) (aIndexSl 1 t74 (I .i64 0))) fun t75 =>
  bd (gT (gd t69 false) (aLoad1 t75 s.get)) fun t76 =>
  bd (gT (gd t69 false) (some (v.getD 6 .any))) fun t77 =>
  bd (gT (gd t69 false) (aBin .add t77 (I .i64 1))) fun t78 =>
  bd (gT (gd t69 false) (aConv .u8 t78)) fun t79 =>
  bd (gT (gd t69 false) (aBin .neq t76 t79)) fun t80 =>
  bd (aPick t69 (B true) t80) fun t81 =>
  br t81 (some (.ret (B false), s))
  (some (.normal [(v.getD 0 .any), (v.getD 1 .any), (v.getD 2 .any), (v.getD 3 .any), (v.getD 4 .any), (v.getD 5 .any), (v.getD 6 .any)], s)))
  (fun v27 s28 => bd (aBin .add (v27.getD 6 .any) (I .i64 1)) fun t63 =>
  some (.normal [(v27.getD 0 .any), (v27.getD 1 .any), (v27.getD 2 .any), (v27.getD 3 .any), (v27.getD 4 .any), (v27.getD 5 .any), t63], s28))
  (fun i29 v27 s28 => some (.exit i29 v27, s28))
  (fun r30 s28 => some (.ret r30, s28)))
  (some (.exit 2 [(v.getD 0 .any), (v.getD 1 .any), (v.getD 2 .any), (v.getD 3 .any), (v.getD 4 .any), (v.getD 5 .any)], s))

/- twinkeep/twinkeeplaw15.RecvKept -/
def f5 (callf : CallF) (N : Nat) (a0 : T) (s : St) : Option (T × St) :=
  bd2 (callf 7 [] s) fun t13 s1 =>
  bd (eqB .p t13 (Z .nilp)) fun t15 =>
  br t15 (some ((B false), s1))
  (jn (jn (loops (f5_l1 callf N) N [a0, t13, (I .i64 0), (I .i64 1), (I .i64 2)] s1)
  (fun v16 s17 => some (.normal [.any, .any, .any], s17))
  (fun i18 v16 s17 => if i18 = 0 then some (.normal v16, s17) else some (.exit i18 v16, s17))
  (fun r19 s17 => some (.ret r19, s17)))
  (fun v20 s21 => bd2 (callf 13 [(v20.getD 0 .any)] s21) fun t50 s24 =>
  bd (aLenSl t50) fun t51 =>
  bd2 (aNew s24 (nSlice 1 (aFill [.int .u8 0] [(0, 1, (I .u8 1))]))) fun t54 s25 =>
  bd2 (callf 9 [(v20.getD 0 .any), (I .i64 1), t54] s25) fun t55 s26 =>
  bd (aExtract t55 0) fun t56 =>
  bd (aExtract t55 1) fun t57 =>
  jn (jn (loops (f5_l2 callf N) N [(v20.getD 0 .any), (v20.getD 1 .any), (v20.getD 2 .any), t51, t56, t57, (I .i64 0)] s26)
  (fun v31 s32 => some (.normal [.any, .any, .any, .any, .any, .any], s32))
  (fun i33 v31 s32 => if i33 = 2 then some (.normal v31, s32) else some (.exit i33 v31, s32))
  (fun r34 s32 => some (.ret r34, s32)))
  (fun v35 s36 => bd2 (callf 8 [] s36) fun t82 s39 =>
  bd (gT (gd t82 true) (some (v35.getD 5 .any))) fun t84 =>
  bd (gT (gd t82 true) (aBin .eql t84 (I .i64 0))) fun t85 =>
  bd (aPick t82 t85 (B false)) fun t86 =>
  bd (gT (gd t86 true) (some (v35.getD 3 .any))) fun t88 =>
  bd (gT (gd t86 true) (some (v35.getD 1 .any))) fun t89 =>
  bd (gT (gd t86 true) (aBin .eql t88 t89)) fun t90 =>
  bd (aPick t86 t90 (B false)) fun t91 =>
  bd (gT (gd t91 true) (some (v35.getD 4 .any))) fun t93 =>
  bd (gT (gd t91 true) (aLenSl t93)) fun t94 =>
  bd (gT (gd t91 true) (some (v35.getD 2 .any))) fun t95 =>
  bd (gT (gd t91 true) (aBin .eql t94 t95)) fun t96 =>
  bd (aPick t91 t96 (B false)) fun t97 =>
  bd (gT (gd t97 true) (some (v35.getD 0 .any))) fun t99 =>
  bd2 (gS (gd t97 true) s39 (callf 11 [t99] s39)) fun t100 s40 =>
  bd (gT (gd t97 true) (some (v35.getD 2 .any))) fun t101 =>
  bd (gT (gd t97 true) (aBin .eql t100 t101)) fun t102 =>
  bd (aPick t97 t102 (B false)) fun t103 =>
  bd (gT (gd t103 true) (some (v35.getD 0 .any))) fun t105 =>
  bd2 (gS (gd t103 true) s40 (callf 13 [t105] s40)) fun t106 s41 =>
  bd (gT (gd t103 true) (aLenSl t106)) fun t107 =>
  bd (gT (gd t103 true) (some (v35.getD 1 .any))) fun t108 =>
  bd (gT (gd t103 true) (aBin .add t108 (I .i64 1))) fun t109 =>
  bd (gT (gd t103 true) (some (v35.getD 2 .any))) fun t110 =>
  bd (gT (gd t103 true) (aBin .sub t109 t110)) fun t111 =>
  bd (gT (gd t103 true) (aBin .eql t107 t111)) fun t112 =>
  bd (aPick t103 t112 (B false)) fun t113 =>
  some (t113, s41))
  (fun i37 v35 s36 => none)
  (fun r38 s36 => some (r38, s36)))
  (fun i22 v20 s21 => none)
  (fun r23 s21 => some (r23, s21)))

theorem f5_eq (callf : CallF) (N : Nat) (a0 : T) (s : St) : bodyC Try.prog callf N Try.f5 [a0] s = f5 callf N a0 s := by kernel_rfl

theorem f5_run (d : Nat) (a0 : T) (s : St) : R (d + 1) 5 [a0] s = f5 (R d) 512 a0 s := (runQ_body rfl Try.func5 (by kernel_rfl)).trans (f5_eq ..)

/- twinkeep/recv.New -/
def f7 (callf : CallF) (N : Nat) (s : St) : Option (T × St) :=
  bd2 (aNew s (nMap)) fun t1 s1 =>
  bd (asAggT (aFill [.int .i64 0, .nilm] [(1, 1, t1)])) fun t2 =>
  bd2 (aNew s1 (nBox t2)) fun t3 s2 =>
  some (t3, s2)

theorem f7_eq (callf : CallF) (N : Nat) (s : St) : bodyC Try.prog callf N Try.f7 [] s = f7 callf N s := by kernel_rfl

theorem f7_run (d : Nat) (s : St) : R (d + 1) 7 [] s = f7 (R d) 512 s := (runQ_body rfl Try.func7 (by kernel_rfl)).trans (f7_eq ..)

/- (twinkeep/recv.Recv).Take: a loop; 0: t0 r, 1: t10 l -/
def f9_l1 (callf : CallF) (N : Nat) (v : List T) (s : St) : Option (JO × St) :=
  jn (bd (aNil (v.getD 0 .any)) fun t60 =>
  bd (aFieldAddr 1 t60) fun t61 =>
  bd (aLoad1 t61 s.get) fun t62 =>
  bd (aNil (v.getD 0 .any)) fun t64 =>
  bd (aFieldAddr 0 t64) fun t65 =>
  bd (aLoad1 t65 s.get) fun t66 =>
  bd (aBin .add t66 (I .i64 1)) fun t67 =>
  bd (Go.Abs.F.look .i true (.s (.nils)) t62 t67 s.get) fun t68 =>
  bd (aExtract t68 0) fun t69 =>
  bd (aExtract t68 1) fun t70 =>
  bd (aUn .not t70) fun t72 =>
  br t72 (some (.exit 1 [(v.getD 1 .any)], s))
  (bd (aNil (v.getD 0 .any)) fun t74 =>
  bd (aFieldAddr 0 t74) fun t75 =>
  bd (aLoad1 t75 s.get) fun t76 =>
  bd (aBin .add t76 (I .i64 1)) fun t77 =>
  bd (aNil (v.getD 0 .any)) fun t78 =>
  bd (aFieldAddr 0 t78) fun t79 =>
  bd2 (aStore 1 t79 t77 s) fun _ s10 =>
  bd (aNil (v.getD 0 .any)) fun t81 =>
  bd (aFieldAddr 1 t81) fun t82 =>
  bd (aLoad1 t82 s10.get) fun t83 =>
  bd (aNil (v.getD 0 .any)) fun t85 =>
  bd (aFieldAddr 0 t85) fun t86 =>
  bd (aLoad1 t86 s10.get) fun t87 =>
  bd2 (mdel .i t83 t87 s10) fun _ s11 =>
  bd2 (aNew s11 (nSlice 1 (aFill [.nils] [(0, 1, t69)]))) fun t90 s12 =>
  bd2 (aAppend 1 24 (v.getD 1 .any) t90 s12) fun t91 s13 =>
  some (.normal [(v.getD 0 .any), t91], s13)))
  (fun v14 s15 => some (.normal [(v14.getD 0 .any), (v14.getD 1 .any)], s15))
  (fun i16 v14 s15 => some (.exit i16 v14, s15))
  (fun r17 s15 => some (.ret r17, s15))

/- (twinkeep/recv.Recv).Take -/
def f9 (callf : CallF) (N : Nat) (a0 : T) (a1 : T) (a2 : T) (s : St) : Option (T × St) :=
  jn (bd (eqB .p a0 (Z .nilp)) fun t15 =>
  br t15 (bd (retT [(Z .nils), (I .i64 10)]) fun r1 =>
  some (.ret r1, s))
  (bd (aBin .lss a1 (I .i64 1)) fun t18 =>
  bd (gT (gd t18 false) (some a1)) fun t20 =>
  bd (gT (gd t18 false) (aBin .sub t20 (I .i64 8))) fun t21 =>
  bd (gT (gd t18 false) (some a0)) fun t22 =>
  bd (gT (gd t18 false) (aNil t22)) fun t23 =>
  bd (gT (gd t18 false) (aFieldAddr 0 t23)) fun t24 =>
  bd (gT (gd t18 false) (aLoad1 t24 s.get)) fun t25 =>
  bd (gT (gd t18 false) (aBin .gtr t21 t25)) fun t26 =>
  bd (aPick t18 (B true) t26) fun t27 =>
  bd (gT (gd t27 false) (some a2)) fun t29 =>
  bd (gT (gd t27 false) (aLenSl t29)) fun t30 =>
  bd (gT (gd t27 false) (aBin .gtr t30 (I .i64 4100))) fun t31 =>
  bd (aPick t27 (B true) t31) fun t32 =>
  br t32 (bd (retT [(Z .nils), (I .i64 5)]) fun r2 =>
  some (.ret r2, s))
  (some (.normal [a0, a1, a2], s))))
  (fun v3 s4 => bd (aNil (v3.getD 0 .any)) fun t35 =>
  bd (aFieldAddr 1 t35) fun t36 =>
  bd (aLoad1 t36 s4.get) fun t37 =>
  bd (Go.Abs.F.look .i true (.s (.nils)) t37 (v3.getD 1 .any) s4.get) fun t39 =>
  bd (aExtract t39 0) fun t40 =>
  bd (aExtract t39 1) fun t41 =>
  bd (gT (gd t41 false) (some (v3.getD 1 .any))) fun t44 =>
  bd (gT (gd t41 false) (some (v3.getD 0 .any))) fun t45 =>
  bd (gT (gd t41 false) (aNil t45)) fun t46 =>
  bd (gT (gd t41 false) (aFieldAddr 0 t46)) fun t47 =>
  bd (gT (gd t41 false) (aLoad1 t47 s4.get)) fun t48 =>
  bd (gT (gd t41 false) (aBin .leq t44 t48)) fun t49 =>
  bd (aPick t41 (B true) t49) fun t50 =>
  br t50 (bd (retT [(Z .nils), (I .i64 0)]) fun r7 =>
  some (r7, s4))
  (bd (aNil (v3.getD 0 .any)) fun t52 =>
  bd (aFieldAddr 1 t52) fun t53 =>
  bd (aLoad1 t53 s4.get) fun t54 =>
  bd2 (callf 20 [(v3.getD 2 .any)] s4) fun t57 s8 =>
  bd2 (mset .i t54 (v3.getD 1 .any) t57 s8) fun _ s9 =>
  ck ((decide (aLoad1 t53 s8.get = aLoad1 t53 s4.get) && true) && true) (jn (jn (loops (f9_l1 callf N) N [(v3.getD 0 .any), (Z .nils)] s9)
  (fun v18 s19 => some (.normal [.any], s19))
  (fun i20 v18 s19 => if i20 = 1 then some (.normal v18, s19) else some (.exit i20 v18, s19))
  (fun r21 s19 => some (.ret r21, s19)))
  (fun v22 s23 => bd (retT [(v22.getD 0 .any), (I .i64 0)]) fun r26 =>
  some (r26, s23))
  (fun i24 v22 s23 => none)
  (fun r25 s23 => some (r25, s23)))))
  (fun i5 v3 s4 => none)
  (fun r6 s4 => some (r6, s4))

theorem f9_eq (callf : CallF) (N : Nat) (a0 : T) (a1 : T) (a2 : T) (s : St) : bodyC Try.prog callf N Try.f9 [a0, a1, a2] s = f9 callf N a0 a1 a2 s := by kernel_rfl

theorem f9_run (d : Nat) (a0 : T) (a1 : T) (a2 : T) (s : St) : R (d + 1) 9 [a0, a1, a2] s = f9 (R d) 512 a0 a1 a2 s := (runQ_body rfl Try.func9 (by kernel_rfl)).trans (f9_eq ..)

/- (twinkeep/recv.Recv).Got -/
def f11 (callf : CallF) (N : Nat) (a0 : T) (s : St) : Option (T × St) :=
  bd (eqB .p a0 (Z .nilp)) fun t4 =>
  br t4 (some ((I .i64 0), s))
  (bd (aNil a0) fun t6 =>
  bd (aFieldAddr 0 t6) fun t7 =>
  bd (aLoad1 t7 s.get) fun t8 =>
  some (t8, s))

theorem f11_eq (callf : CallF) (N : Nat) (a0 : T) (s : St) : bodyC Try.prog callf N Try.f11 [a0] s = f11 callf N a0 s := by kernel_rfl

theorem f11_run (d : Nat) (a0 : T) (s : St) : R (d + 1) 11 [a0] s = f11 (R d) 512 a0 s := (runQ_body rfl Try.func11 (by kernel_rfl)).trans (f11_eq ..)

/- bytes.Clone -/
def f20 (callf : CallF) (N : Nat) (a0 : T) (s : St) : Option (T × St) :=
  bd (eqB .l a0 (Z .nils)) fun t4 =>
  br t4 (some ((Z .nils), s))
  (bd2 (aNew s (nSlice 0 (aFill [] []))) fun t5 s1 =>
  bd2 (aAppend 1 1 t5 a0 s1) fun t7 s2 =>
  some (t7, s2))

theorem f20_eq (callf : CallF) (N : Nat) (a0 : T) (s : St) : bodyC Try.prog callf N Try.f20 [a0] s = f20 callf N a0 s := by kernel_rfl

theorem f20_run (d : Nat) (a0 : T) (s : St) : R (d + 1) 20 [a0] s = f20 (R d) 512 a0 s := (runQ_body rfl Try.func20 (by kernel_rfl)).trans (f20_eq ..)

set_option maxRecDepth 100000 in
theorem told_all : gave true (runQ Try.prog 64 keptP 16 8 [] St.empty) = true := by kernel_rfl

theorem told_run (d : Nat) (s : St) : R (d + 1) 8 [] s = some (B true, s) := runQ_prim rfl
end
end Go.Proofs.Ytkebmnidpolhpaa
