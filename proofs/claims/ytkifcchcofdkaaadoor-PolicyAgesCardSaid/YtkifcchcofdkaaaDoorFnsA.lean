/-
  Several texts in one: what functions that the law reaches compute. No conditions but those named in each line.
-/
import Derived.Test.YtkifcchcofdkaaaDoorAbsE
import Derived.Test.YtkifcchcofdkaaaDoorAbsD
import Derived.Test.YtkifcchcofdkaaaDoorRows
import Derived.Shelf.Strings.OnBuilder
import Derived.Shelf.Strings.Search3
import Derived.Shelf.Strings.Count
import Derived.Shelf.Strconv.Itoa4
import Derived.Shelf.Strings.Builder1
import Derived.Test.YtkifcchcofdkaaaDoorProg
/-
  What the laws of layer 5 and the functions that they reach compute, printed by a program of our own: each text is by definition the run of the code. No conditions.
-/
namespace Go.Proofs.YtkifcchcofdkaaaDoor
open Go Go.Abs Go.Abs.F
set_option linter.unusedVariables false
noncomputable section
abbrev ixs : List Nat := [37, 38]
abbrev prim0 : CallF := orP (ixP ixs 36) (joinP 19)
abbrev prim1 : CallF := orP prim0 (pureP (runQ Tryd.prog 64 noPrim 8) [57])
abbrev primI : CallF := orP (bldP 41 5 14 16) (itoaP 0 13 15)
abbrev prim3 : CallF := orP primI prim1
abbrev tab0 : St := tabZ 0 .u64 pow10
abbrev Tab (s : St) : Prop := s.get 0 = some (.glob 0 (pow10.map (S.int .u64)))
abbrev prim : CallF := orP (toldG 0 .u64 pow10 9 true) prim3
abbrev R (d : Nat) : CallF := runQ Tryd.prog 8192 prim d
end
end Go.Proofs.YtkifcchcofdkaaaDoor


/-
  What functions that the laws reach compute, printed by a program of our own: each text is by definition the run of the code. No conditions.
-/
namespace Go.Proofs.YtkifcchcofdkaaaDoor
open Go Go.Abs Go.Abs.F
set_option linter.unusedVariables false
noncomputable section
theorem prim_fmt {n : Int} {σ : St} (h : i64B n = true) (ht : Tab σ) : prim 13 [I .i64 n, I .i64 10] σ = some (Z (.str (itoaF n)), σ) := by
  have e1 : toldG 0 .u64 pow10 9 true 13 [I .i64 n, I .i64 10] σ = none := by
    have h1 : Nat.beq 13 9 = false := by decide
    simp [toldG, h1]
  have e2 : bldP 41 5 14 16 13 [I .i64 n, I .i64 10] σ = none := by
    have h2 : Nat.beq 13 14 = false := by decide
    have h3 : Nat.beq 13 16 = false := by decide
    simp only [bldP, h2, h3]
  exact (orP_right e1).trans (orP_left ((orP_right e2).trans (itoaP_fmt h ht)))
theorem prim_itoa {n : Int} {σ : St} (h : i64B n = true) (ht : Tab σ) : prim 15 [I .i64 n] σ = some (Z (.str (itoaF n)), σ) := by
  have e1 : toldG 0 .u64 pow10 9 true 15 [I .i64 n] σ = none := by
    have h1 : Nat.beq 15 9 = false := by decide
    simp [toldG, h1]
  have e2 : bldP 41 5 14 16 15 [I .i64 n] σ = none := by
    have h2 : Nat.beq 15 14 = false := by decide
    have h3 : Nat.beq 15 16 = false := by decide
    simp only [bldP, h2, h3]
  exact (orP_right e1).trans (orP_left ((orP_right e2).trans (itoaP_int (by decide) h ht)))
theorem prim_bld {f : Nat} {ts : List T} {σ : St} {r : T × St} (hf : Nat.beq f 9 = false) (h : bldP 41 5 14 16 f ts σ = some r) : prim f ts σ = some r := by
  have e1 : toldG 0 .u64 pow10 9 true f ts σ = none := by simp [toldG, hf]
  exact (orP_right e1).trans (orP_left (orP_left h))
set_option maxRecDepth 100000 in
theorem told5_all : gave true (runQ Tryd.prog 64 prim3 16 9 [] tab0) = true := by kernel_rfl
theorem told5_run (d : Nat) {s : St} (ht : Tab s) : R (d + 1) 9 [] s = some (B true, s) := runQ_prim (orP_left (toldG_of ht))
end
end Go.Proofs.YtkifcchcofdkaaaDoor


/-
  What functions that the laws reach compute, printed by a program of our own: each text is by definition the run of the code. No conditions.
-/
namespace Go.Proofs.YtkifcchcofdkaaaDoor
open Go Go.Abs Go.Abs.F
set_option linter.unusedVariables false
noncomputable section
/- strings.Split -/
/- strings.genSplit: a loop; 0: t0 s, 1: t1 sep, 2: t2 sepSave, 3: t3 n, 4: t9 a, 5: t10 i -/
/- strings.genSplit -/
/- strings.Cut -/
/- internal/stringslite.Cut -/
/- slices.Index[[]string,string]: a loop; 0: t0 s, 1: t1 v, 2: t7 , 3: t8  -/
/- slices.Index[[]string,string] -/
/- slices.Contains[[]string,string] -/
/- strings.Trim -/
/- strings.trimLeftASCII: a loop; 0: t0 s, 1: t1 as -/
/- strings.trimLeftASCII -/
/- strings.trimRightASCII: a loop; 0: t0 s, 1: t1 as -/
/- strings.trimRightASCII -/
/- (strings.asciiSet).contains -/
/- strconv.ParseInt -/
/- internal/strconv.ParseInt -/
/- internal/strconv.ParseUint: a loop; 0: t1 base, 1: t8 base0, 2: t9 s0, 3: t10 cutoff, 4: t11 maxVal, 5: t12 underscores, 6: t13 n, 7: t99 , 8: t100 , 9: t101  -/
/- internal/strconv.ParseUint -/
end
end Go.Proofs.YtkifcchcofdkaaaDoor


/-
  What functions that the laws reach compute, printed by a program of our own: each text is by definition the run of the code. No conditions.
-/
namespace Go.Proofs.YtkifcchcofdkaaaDoor
open Go Go.Abs Go.Abs.F
set_option linter.unusedVariables false
noncomputable section
/- twinkeep/policy.number -/
/- twinkeep/policy.names -/
def f12 (callf : CallF) (N : Nat) (s : St) : Option (T × St) :=
  bd2 (aNew s (nSlice 4 (aFill [.str [], .str [], .str [], .str []] [(0, 1, (Z (.str [114, 97, 119]))), (1, 1, (Z (.str [53, 109]))), (2, 1, (Z (.str [49, 104]))), (3, 1, (Z (.str [49, 100])))]))) fun t1 s1 =>
  some (t1, s1)

theorem f12_eq (callf : CallF) (N : Nat) (s : St) : bodyC Tryd.prog callf N Tryd.f12 [] s = f12 callf N s := by kernel_rfl

theorem f12_run (d : Nat) (s : St) : R (d + 1) 12 [] s = f12 (R d) 8192 s := (runQ_body rfl Tryd.func12 (by kernel_rfl)).trans (f12_eq ..)

/- twinkeep/policy.line -/
/- twinkeep/policy.May: a loop; 0: t1 p, 1: t7 , 2: t8  -/
def f10_l1 (callf : CallF) (N : Nat) (v : List T) (s : St) : Option (JO × St) :=
  bd (aBin .lss (v.getD 2 .any) (I .i64 4)) fun t9 =>
  br t9 (jn (bd (aAtArr none 4 1 (v.getD 1 .any) (v.getD 2 .any)) fun t11 =>
  bd (aBin .lss t11 (I .i64 0)) fun t13 =>
  bd (gT (gd t13 false) (some t11)) fun t15 =>
  bd (gT (gd t13 false) (aBin .gtr t15 (I .i64 1099511627776))) fun t16 =>
  bd (aPick t13 (B true) t16) fun t17 =>
  br t17 (some (.ret (B false), s))
  (bd (aBin .eql (v.getD 2 .any) (I .i64 0)) fun t19 =>
  br t19 (some (.normal [(v.getD 0 .any), (v.getD 1 .any), (v.getD 2 .any)], s))
  (bd (aBin .sub (v.getD 2 .any) (I .i64 1)) fun t21 =>
  bd (aFieldAddr 0 (v.getD 0 .any)) fun t22 =>
  bd (aIndexArr 4 1 t22 t21) fun t23 =>
  bd (aLoad1 t23 s.get) fun t24 =>
  bd (aBin .neq t11 (I .i64 0)) fun t26 =>
  bd (gT (gd t26 true) (some t11)) fun t28 =>
  bd (gT (gd t26 true) (some t24)) fun t29 =>
  bd (gT (gd t26 true) (aBin .lss t28 t29)) fun t30 =>
  bd (gT (gd t26 true) (some t30)) fun t31 =>
  bd (gT (gd t31 false) (some t24)) fun t32 =>
  bd (gT (gd t31 false) (aBin .eql t32 (I .i64 0))) fun t33 =>
  bd (gT (gd t26 true) (aPick t31 (B true) t33)) fun t34 =>
  bd (aPick t26 t34 (B false)) fun t35 =>
  br t35 (some (.ret (B false), s))
  (some (.normal [(v.getD 0 .any), (v.getD 1 .any), (v.getD 2 .any)], s)))))
  (fun v2 s3 => bd (aBin .add (v2.getD 2 .any) (I .i64 1)) fun t36 =>
  some (.normal [(v2.getD 0 .any), (v2.getD 1 .any), t36], s3))
  (fun i4 v2 s3 => some (.exit i4 v2, s3))
  (fun r5 s3 => some (.ret r5, s3)))
  (some (.exit 0 [(v.getD 0 .any)], s))

/- twinkeep/policy.May -/
def f10 (callf : CallF) (N : Nat) (a0 : T) (s : St) : Option (T × St) :=
  bd2 (aNew s (nBox a0)) fun t1 s1 =>
  bd (aFieldAddr 0 t1) fun t6 =>
  bd (aLoadN 4 t6 s1.get) fun t7 =>
  jn (jn (loops (f10_l1 callf N) N [t1, t7, (I .i64 0)] s1)
  (fun v6 s7 => some (.normal [.any], s7))
  (fun i8 v6 s7 => if i8 = 0 then some (.normal v6, s7) else some (.exit i8 v6, s7))
  (fun r9 s7 => some (.ret r9, s7)))
  (fun v10 s11 => bd (aFieldAddr 0 (v10.getD 0 .any)) fun t37 =>
  bd (aIndexArr 4 1 t37 (I .i64 3)) fun t38 =>
  bd (aLoad1 t38 s11.get) fun t39 =>
  bd (aBin .eql t39 (I .i64 0)) fun t40 =>
  bd (gT (gd t40 true) (aFieldAddr 4 (v10.getD 0 .any))) fun t42 =>
  bd (gT (gd t40 true) (aLoad1 t42 s11.get)) fun t43 =>
  bd (gT (gd t40 true) (aBin .geq t43 (I .i64 1))) fun t44 =>
  bd (aPick t40 t44 (B false)) fun t45 =>
  bd (gT (gd t45 true) (aFieldAddr 4 (v10.getD 0 .any))) fun t47 =>
  bd (gT (gd t45 true) (aLoad1 t47 s11.get)) fun t48 =>
  bd (gT (gd t45 true) (aBin .leq t48 (I .i64 64))) fun t49 =>
  bd (aPick t45 t49 (B false)) fun t50 =>
  bd (gT (gd t50 true) (aFieldAddr 5 (v10.getD 0 .any))) fun t52 =>
  bd (gT (gd t50 true) (aLoad1 t52 s11.get)) fun t53 =>
  bd (gT (gd t50 true) (aBin .geq t53 (I .i64 1))) fun t54 =>
  bd (aPick t50 t54 (B false)) fun t55 =>
  bd (gT (gd t55 true) (aFieldAddr 5 (v10.getD 0 .any))) fun t57 =>
  bd (gT (gd t55 true) (aLoad1 t57 s11.get)) fun t58 =>
  bd (gT (gd t55 true) (aBin .leq t58 (I .i64 200))) fun t59 =>
  bd (aPick t55 t59 (B false)) fun t60 =>
  some (t60, s11))
  (fun i12 v10 s11 => none)
  (fun r13 s11 => some (r13, s11))

theorem f10_eq (callf : CallF) (N : Nat) (a0 : T) (s : St) : bodyC Tryd.prog callf N Tryd.f10 [a0] s = f10 callf N a0 s := by kernel_rfl

theorem f10_run (d : Nat) (a0 : T) (s : St) : R (d + 1) 10 [a0] s = f10 (R d) 8192 a0 s := (runQ_body rfl Tryd.func10 (by kernel_rfl)).trans (f10_eq ..)

/- twinkeep/policy.Parse: a loop; 0: t2 , 1: t5 p, 2: t6 seen, 3: t7 i, 4: t9 l, 5: t15 , 6: t16 , 7: t17 , 8: t29 , 9: t30 , 10: t31  -/
/- twinkeep/policy.Parse: a loop; 0: t2 , 1: t5 p, 2: t6 seen, 3: t15 , 4: t16 , 5: t17  -/
/- twinkeep/policy.Parse -/
/- twinkeep/policy.Default -/
def f7 (callf : CallF) (N : Nat) (s : St) : Option (T × St) :=
  bd2 (aNew s (nCells [.int .i64 0, .int .i64 0, .int .i64 0, .int .i64 0, .int .i64 0, .int .i64 0])) fun t0 s1 =>
  bd (asAggT (aFill [.int .i64 0, .int .i64 0, .int .i64 0, .int .i64 0] [(0, 1, (I .i64 60)), (1, 1, (I .i64 600)), (2, 1, (I .i64 6000)), (3, 1, (I .i64 0))])) fun t1 =>
  bd (asAggT (aFill [.int .i64 0, .int .i64 0, .int .i64 0, .int .i64 0, .int .i64 0, .int .i64 0] [(0, 4, t1), (4, 1, (I .i64 8)), (5, 1, (I .i64 30))])) fun t2 =>
  bd2 (aStore 6 t0 t2 s1) fun _ s2 =>
  bd (rC (aLoadN 6 t0 s2.get) (some [])) fun l3 => bd (retT l3) fun r4 =>
  some (r4, s2)

theorem f7_eq (callf : CallF) (N : Nat) (s : St) : bodyC Tryd.prog callf N Tryd.f7 [] s = f7 callf N s := by kernel_rfl

theorem f7_run (d : Nat) (s : St) : R (d + 1) 7 [] s = f7 (R d) 8192 s := (runQ_body rfl Tryd.func7 (by kernel_rfl)).trans (f7_eq ..)

/- twinkeep/policy.Print: a loop; 0: t1 p, 1: t4 b, 2: t12 , 3: t13 , 4: t14  -/
def f8_l1 (callf : CallF) (N : Nat) (v : List T) (s : St) : Option (JO × St) :=
  bd (aBin .lss (v.getD 4 .any) (v.getD 3 .any)) fun t15 =>
  br t15 (jn (bd (aIndexSl 1 (v.getD 2 .any) (v.getD 4 .any)) fun t17 =>
  bd (aLoad1 t17 s.get) fun t18 =>
  bd (aFieldAddr 0 (v.getD 0 .any)) fun t20 =>
  bd (aIndexArr 4 1 t20 (v.getD 4 .any)) fun t21 =>
  bd (aLoad1 t21 s.get) fun t22 =>
  bd (aBin .gtr t22 (I .i64 0)) fun t24 =>
  jn (br t24 (bd2 (callf 13 [t22, (I .i64 10)] s) fun t26 s6 =>
  some (.normal [(v.getD 0 .any), (v.getD 1 .any), t18, t26, (v.getD 2 .any), (v.getD 3 .any), (v.getD 4 .any)], s6))
  (some (.normal [(v.getD 0 .any), (v.getD 1 .any), t18, (Z (.str [101, 118, 101, 114])), (v.getD 2 .any), (v.getD 3 .any), (v.getD 4 .any)], s)))
  (fun v7 s8 => bd (aBin .add (Z (.str [107, 101, 101, 112, 32])) (v7.getD 2 .any)) fun t28 =>
  bd (aBin .add t28 (Z (.str [32]))) fun t29 =>
  bd (aBin .add t29 (v7.getD 3 .any)) fun t31 =>
  bd (aBin .add t31 (Z (.str [10]))) fun t32 =>
  bd2 (callf 14 [(v7.getD 1 .any), t32] s8) fun t33 s11 =>
  some (.normal [(v7.getD 0 .any), (v7.getD 1 .any), (v7.getD 4 .any), (v7.getD 5 .any), (v7.getD 6 .any)], s11))
  (fun i9 v7 s8 => if i9 = 1 then some (.normal v7, s8) else some (.exit i9 v7, s8))
  (fun r10 s8 => some (.ret r10, s8)))
  (fun v12 s13 => bd (aBin .add (v12.getD 4 .any) (I .i64 1)) fun t34 =>
  some (.normal [(v12.getD 0 .any), (v12.getD 1 .any), (v12.getD 2 .any), (v12.getD 3 .any), t34], s13))
  (fun i14 v12 s13 => some (.exit i14 v12, s13))
  (fun r15 s13 => some (.ret r15, s13)))
  (some (.exit 0 [(v.getD 0 .any), (v.getD 1 .any)], s))

/- twinkeep/policy.Print -/
def f8 (callf : CallF) (N : Nat) (a0 : T) (s : St) : Option (T × St) :=
  bd2 (aNew s (nBox a0)) fun t1 s1 =>
  bd (aLoadN 6 t1 s1.get) fun t9 =>
  bd2 (callf 10 [t9] s1) fun t10 s2 =>
  bd (aUn .not t10) fun t11 =>
  br t11 (bd (retT [(Z (.str [])), (I .i64 1)]) fun r3 =>
  some (r3, s2))
  (bd2 (aNew s2 (nBld 41 [.nilp, .nils])) fun t4 s4 =>
  bd2 (callf 12 [] s4) fun t12 s5 =>
  bd (aLenSl t12) fun t13 =>
  jn (jn (loops (f8_l1 callf N) N [t1, t4, t12, t13, (I .i64 0)] s5)
  (fun v16 s17 => some (.normal [.any, .any], s17))
  (fun i18 v16 s17 => if i18 = 0 then some (.normal v16, s17) else some (.exit i18 v16, s17))
  (fun r19 s17 => some (.ret r19, s17)))
  (fun v20 s21 => bd (aFieldAddr 4 (v20.getD 0 .any)) fun t35 =>
  bd (aLoad1 t35 s21.get) fun t36 =>
  bd2 (callf 15 [t36] s21) fun t37 s24 =>
  bd (aBin .add (Z (.str [115, 101, 97, 108, 32])) t37) fun t38 =>
  bd (aBin .add t38 (Z (.str [10, 115, 112, 97, 110, 32]))) fun t39 =>
  bd (aFieldAddr 5 (v20.getD 0 .any)) fun t40 =>
  bd (aLoad1 t40 s24.get) fun t41 =>
  bd2 (callf 13 [t41, (I .i64 10)] s24) fun t42 s25 =>
  bd (aBin .add t39 t42) fun t43 =>
  bd (aBin .add t43 (Z (.str [10]))) fun t44 =>
  bd2 (callf 14 [(v20.getD 1 .any), t44] s25) fun t45 s26 =>
  ck ((decide (aLoad1 t40 s21.get = aLoad1 t40 s24.get) && true) && true) (bd2 (callf 16 [(v20.getD 1 .any)] s26) fun t46 s27 =>
  bd (retT [t46, (I .i64 0)]) fun r28 =>
  some (r28, s27)))
  (fun i22 v20 s21 => none)
  (fun r23 s21 => some (r23, s21)))

theorem f8_eq (callf : CallF) (N : Nat) (a0 : T) (s : St) : bodyC Tryd.prog callf N Tryd.f8 [a0] s = f8 callf N a0 s := by kernel_rfl

theorem f8_run (d : Nat) (a0 : T) (s : St) : R (d + 1) 8 [a0] s = f8 (R d) 8192 a0 s := (runQ_body rfl Tryd.func8 (by kernel_rfl)).trans (f8_eq ..)

end
end Go.Proofs.YtkifcchcofdkaaaDoor


/-
  What functions that the laws reach compute, printed by a program of our own: each text is by definition the run of the code. No conditions.
-/
namespace Go.Proofs.YtkifcchcofdkaaaDoor
open Go Go.Abs Go.Abs.F
set_option linter.unusedVariables false
noncomputable section
/- twinkeep/twinkeeplaw5.PolicyAges -/
def f3 (callf : CallF) (N : Nat) (a0 : T) (a1 : T) (a2 : T) (s : St) : Option (T × St) :=
  bd (aConv .u64 a0) fun t16 =>
  bd (aBin .rem t16 (I .u64 21)) fun t17 =>
  bd (aConv .i64 t17) fun t18 =>
  bd (aConv .u64 a1) fun t20 =>
  bd (aBin .rem t20 (I .u64 21)) fun t21 =>
  bd (aConv .i64 t21) fun t22 =>
  bd (aConv .u64 a2) fun t24 =>
  bd (aBin .rem t24 (I .u64 21)) fun t25 =>
  bd (aConv .i64 t25) fun t26 =>
  bd2 (callf 7 [] s) fun t27 s1 =>
  bd2 (aNew s1 (nCells [.int .i64 0, .int .i64 0, .int .i64 0, .int .i64 0, .int .i64 0, .int .i64 0])) fun t10 s2 =>
  bd2 (aStore 6 t10 t27 s2) fun _ s3 =>
  bd (asAggT (aFill [.int .i64 0, .int .i64 0, .int .i64 0, .int .i64 0] [(0, 1, t18), (1, 1, t22), (2, 1, t26), (3, 1, (I .i64 0))])) fun t31 =>
  bd (aFieldAddr 0 t10) fun t32 =>
  bd2 (aStore 4 t32 t31 s3) fun _ s4 =>
  bd (aBin .eql t18 (I .i64 0)) fun t34 =>
  bd (gT (gd t34 true) (some t22)) fun t36 =>
  bd (gT (gd t34 true) (aBin .neq t36 (I .i64 0))) fun t37 =>
  bd (gT (gd t34 true) (some t37)) fun t38 =>
  bd (gT (gd t38 false) (some t26)) fun t39 =>
  bd (gT (gd t38 false) (aBin .neq t39 (I .i64 0))) fun t40 =>
  bd (gT (gd t34 true) (aPick t38 (B true) t40)) fun t41 =>
  bd (aPick t34 t41 (B false)) fun t42 =>
  bd (gT (gd t42 false) (some t22)) fun t44 =>
  bd (gT (gd t42 false) (aBin .eql t44 (I .i64 0))) fun t45 =>
  bd (gT (gd t42 false) (some t45)) fun t46 =>
  bd (gT (gd t46 true) (some t26)) fun t47 =>
  bd (gT (gd t46 true) (aBin .neq t47 (I .i64 0))) fun t48 =>
  bd (gT (gd t42 false) (aPick t46 t48 (B false))) fun t49 =>
  bd (aPick t42 (B true) t49) fun t50 =>
  jn (br t50 (some (.normal [t18, t22, t26, t10, (B false)], s4))
  (some (.normal [t18, t22, t26, t10, (B true)], s4)))
  (fun v5 s6 => bd (aBin .neq (v5.getD 1 .any) (I .i64 0)) fun t52 =>
  bd (gT (gd t52 true) (some (v5.getD 1 .any))) fun t54 =>
  bd (gT (gd t52 true) (some (v5.getD 0 .any))) fun t55 =>
  bd (gT (gd t52 true) (aBin .lss t54 t55)) fun t56 =>
  bd (aPick t52 t56 (B false)) fun t57 =>
  bd (gT (gd t57 false) (some (v5.getD 2 .any))) fun t59 =>
  bd (gT (gd t57 false) (aBin .neq t59 (I .i64 0))) fun t60 =>
  bd (gT (gd t57 false) (some t60)) fun t61 =>
  bd (gT (gd t61 true) (some (v5.getD 2 .any))) fun t62 =>
  bd (gT (gd t61 true) (some (v5.getD 1 .any))) fun t63 =>
  bd (gT (gd t61 true) (aBin .lss t62 t63)) fun t64 =>
  bd (gT (gd t57 false) (aPick t61 t64 (B false))) fun t65 =>
  bd (aPick t57 (B true) t65) fun t66 =>
  jn (br t66 (some (.normal [(v5.getD 3 .any), (B false)], s6))
  (some (.normal [(v5.getD 3 .any), (v5.getD 4 .any)], s6)))
  (fun v9 s10 => bd (aLoadN 6 (v9.getD 0 .any) s10.get) fun t67 =>
  bd2 (aNew s10 (nCells [.int .i64 0, .int .i64 0, .int .i64 0, .int .i64 0, .int .i64 0, .int .i64 0])) fun t12 s13 =>
  bd2 (aStore 6 t12 t67 s13) fun _ s14 =>
  bd (aFieldAddr 0 t12) fun t68 =>
  bd (aIndexArr 4 1 t68 (I .i64 3)) fun t69 =>
  bd2 (aStore 1 t69 (I .i64 100) s14) fun _ s15 =>
  bd (aLoadN 6 (v9.getD 0 .any) s15.get) fun t71 =>
  bd2 (callf 8 [t71] s15) fun t72 s16 =>
  bd (aExtract t72 0) fun t73 =>
  bd (aExtract t72 1) fun t74 =>
  bd2 (callf 9 [] s16) fun t75 s17 =>
  bd (gT (gd t75 true) (aLoadN 6 (v9.getD 0 .any) s17.get)) fun t77 =>
  bd2 (gS (gd t75 true) s17 (callf 10 [t77] s17)) fun t78 s18 =>
  bd (gT (gd t75 true) (some (v9.getD 1 .any))) fun t79 =>
  bd (gT (gd t75 true) (eqB .b t78 t79)) fun t80 =>
  bd (aPick t75 t80 (B false)) fun t81 =>
  bd (gT (gd t81 true) (aLoadN 6 t12 s18.get)) fun t83 =>
  bd2 (gS (gd t81 true) s18 (callf 10 [t83] s18)) fun t84 s19 =>
  bd (gT (gd t81 true) (aUn .not t84)) fun t85 =>
  bd (aPick t81 t85 (B false)) fun t86 =>
  bd (gT (gd t86 true) (some t74)) fun t88 =>
  bd (gT (gd t86 true) (aBin .eql t88 (I .i64 0))) fun t89 =>
  bd (gT (gd t86 true) (some (v9.getD 1 .any))) fun t90 =>
  bd (gT (gd t86 true) (eqB .b t89 t90)) fun t91 =>
  bd (aPick t86 t91 (B false)) fun t92 =>
  bd (gT (gd t92 true) (some t73)) fun t94 =>
  bd (gT (gd t92 true) (aLenStr t94)) fun t95 =>
  bd (gT (gd t92 true) (aBin .gtr t95 (I .i64 0))) fun t96 =>
  bd (gT (gd t92 true) (some (v9.getD 1 .any))) fun t97 =>
  bd (gT (gd t92 true) (eqB .b t96 t97)) fun t98 =>
  bd (aPick t92 t98 (B false)) fun t99 =>
  some (t99, s19))
  (fun i11 v9 s10 => none)
  (fun r12 s10 => some (r12, s10)))
  (fun i7 v5 s6 => none)
  (fun r8 s6 => some (r8, s6))

theorem f3_eq (callf : CallF) (N : Nat) (a0 : T) (a1 : T) (a2 : T) (s : St) : bodyC Tryd.prog callf N Tryd.f3 [a0, a1, a2] s = f3 callf N a0 a1 a2 s := by kernel_rfl

theorem f3_run (d : Nat) (a0 : T) (a1 : T) (a2 : T) (s : St) : R (d + 1) 3 [a0, a1, a2] s = f3 (R d) 8192 a0 a1 a2 s := (runQ_body rfl Tryd.func3 (by kernel_rfl)).trans (f3_eq ..)

/- twinkeep/twinkeeplaw5.PolicyBack: a loop; 0: t5 p, 1: t11 q, 2: t12 turn -/
def f4_l1 (callf : CallF) (N : Nat) (v : List T) (s : St) : Option (JO × St) :=
  bd (aBin .lss (v.getD 2 .any) (I .i64 2)) fun t59 =>
  br t59 (jn (bd (aLoadN 6 (v.getD 1 .any) s.get) fun t63 =>
  bd2 (callf 8 [t63] s) fun t64 s10 =>
  bd (aExtract t64 0) fun t65 =>
  bd (aExtract t64 1) fun t66 =>
  bd (aLoadN 6 (v.getD 1 .any) s10.get) fun t67 =>
  bd2 (callf 10 [t67] s10) fun t68 s11 =>
  bd (aBin .eql t66 (I .i64 0)) fun t70 =>
  bd (neB .b t68 t70) fun t71 =>
  br t71 (some (.ret (B false), s11))
  (bd (aBin .eql t66 (I .i64 0)) fun t73 =>
  jn (br t73 (bd2 (callf 11 [t65] s11) fun t76 s12 =>
  bd (aExtract t76 0) fun t77 =>
  bd (aExtract t76 1) fun t78 =>
  bd (aExtract t76 2) fun t79 =>
  bd2 (aNew s12 (nCells [.int .i64 0, .int .i64 0, .int .i64 0, .int .i64 0, .int .i64 0, .int .i64 0])) fun t15 s13 =>
  bd2 (aStore 6 t15 t77 s13) fun _ s14 =>
  bd (aBin .neq t78 (I .i64 0)) fun t81 =>
  bd (gT (gd t81 false) (aLoadN 6 t15 s14.get)) fun t83 =>
  bd (gT (gd t81 false) (aLoadN 6 (v.getD 1 .any) s14.get)) fun t84 =>
  bd (gT (gd t81 false) (neB (.a 6 [(0, .i), (1, .i), (2, .i), (3, .i), (4, .i), (5, .i)]) t83 t84)) fun t85 =>
  bd (aPick t81 (B true) t85) fun t86 =>
  br t86 (some (.ret (B false), s14))
  (some (.normal [(v.getD 0 .any), (v.getD 1 .any), (v.getD 2 .any)], s14)))
  (some (.normal [(v.getD 0 .any), (v.getD 1 .any), (v.getD 2 .any)], s11)))
  (fun v15 s16 => bd (aLoadN 6 (v15.getD 0 .any) s16.get) fun t87 =>
  bd2 (aStore 6 (v15.getD 1 .any) t87 s16) fun _ s19 =>
  some (.normal [(v15.getD 0 .any), (v15.getD 1 .any), (v15.getD 2 .any)], s19))
  (fun i17 v15 s16 => if i17 = 1 then some (.normal v15, s16) else some (.exit i17 v15, s16))
  (fun r18 s16 => some (.ret r18, s16))))
  (fun v20 s21 => bd (aBin .add (v20.getD 2 .any) (I .i64 1)) fun t61 =>
  some (.normal [(v20.getD 0 .any), (v20.getD 1 .any), t61], s21))
  (fun i22 v20 s21 => some (.exit i22 v20, s21))
  (fun r23 s21 => some (.ret r23, s21)))
  (some (.exit 0 [], s))

/- twinkeep/twinkeeplaw5.PolicyBack -/
def f4 (callf : CallF) (N : Nat) (a0 : T) (a1 : T) (a2 : T) (a3 : T) (a4 : T) (s : St) : Option (T × St) :=
  bd2 (aNew s (nBox a0)) fun t5 s1 =>
  bd (aConv .u64 a1) fun t19 =>
  bd (aBin .rem t19 (I .u64 1000)) fun t20 =>
  bd (aConv .i64 t20) fun t21 =>
  bd (asAggT (aFill [.int .i64 0, .int .i64 0, .int .i64 0, .int .i64 0] [(0, 1, t21), (1, 1, (I .i64 0)), (2, 1, (I .i64 0)), (3, 1, (I .i64 0))])) fun t22 =>
  bd (aConv .u64 a4) fun t24 =>
  bd (aBin .rem t24 (I .u64 64)) fun t25 =>
  bd (aConv .i64 t25) fun t26 =>
  bd (aBin .add (I .i64 1) t26) fun t27 =>
  bd (aConv .u64 a4) fun t29 =>
  bd (aBin .rem t29 (I .u64 200)) fun t30 =>
  bd (aConv .i64 t30) fun t31 =>
  bd (aBin .add (I .i64 1) t31) fun t32 =>
  bd (asAggT (aFill [.int .i64 0, .int .i64 0, .int .i64 0, .int .i64 0, .int .i64 0, .int .i64 0] [(0, 4, t22), (4, 1, t27), (5, 1, t32)])) fun t33 =>
  bd2 (aNew s1 (nCells [.int .i64 0, .int .i64 0, .int .i64 0, .int .i64 0, .int .i64 0, .int .i64 0])) fun t11 s2 =>
  bd2 (aStore 6 t11 t33 s2) fun _ s3 =>
  bd (aFieldAddr 0 t11) fun t34 =>
  bd (aIndexArr 4 1 t34 (I .i64 0)) fun t35 =>
  bd (aLoad1 t35 s3.get) fun t36 =>
  bd (aBin .gtr t36 (I .i64 0)) fun t37 =>
  jn (br t37 (bd (aFieldAddr 0 t11) fun t38 =>
  bd (aIndexArr 4 1 t38 (I .i64 0)) fun t39 =>
  bd (aLoad1 t39 s3.get) fun t40 =>
  bd (aConv .u64 a2) fun t42 =>
  bd (aBin .rem t42 (I .u64 1000)) fun t43 =>
  bd (aConv .i64 t43) fun t44 =>
  bd (aBin .add t40 t44) fun t45 =>
  bd (aFieldAddr 0 t11) fun t46 =>
  bd (aIndexArr 4 1 t46 (I .i64 1)) fun t47 =>
  bd2 (aStore 1 t47 t45 s3) fun _ s4 =>
  bd (aFieldAddr 0 t11) fun t48 =>
  bd (aIndexArr 4 1 t48 (I .i64 1)) fun t49 =>
  bd (aLoad1 t49 s4.get) fun t50 =>
  bd (aConv .u64 a3) fun t52 =>
  bd (aBin .rem t52 (I .u64 1000)) fun t53 =>
  bd (aConv .i64 t53) fun t54 =>
  bd (aBin .add t50 t54) fun t55 =>
  bd (aFieldAddr 0 t11) fun t56 =>
  bd (aIndexArr 4 1 t56 (I .i64 2)) fun t57 =>
  bd2 (aStore 1 t57 t55 s4) fun _ s5 =>
  some (.normal [t5, t11], s5))
  (some (.normal [t5, t11], s3)))
  (fun v6 s7 => jn (jn (loops (f4_l1 callf N) N [(v6.getD 0 .any), (v6.getD 1 .any), (I .i64 0)] s7)
  (fun v24 s25 => some (.normal [], s25))
  (fun i26 v24 s25 => if i26 = 0 then some (.normal v24, s25) else some (.exit i26 v24, s25))
  (fun r27 s25 => some (.ret r27, s25)))
  (fun v28 s29 => bd2 (callf 9 [] s29) fun t88 s32 =>
  some (t88, s32))
  (fun i30 v28 s29 => none)
  (fun r31 s29 => some (r31, s29)))
  (fun i8 v6 s7 => none)
  (fun r9 s7 => some (r9, s7))

/- twinkeep/twinkeeplaw5.PolicyOrders: a loop; 0: t1 twice, 1: t5 l, 2: t6 k, 3: t7 s, 4: t8 n, 5: t9 left -/
/- twinkeep/twinkeeplaw5.PolicyOrders -/
/- twinkeep/twinkeeplaw5.PolicyLines: a loop; 0: t5 l, 1: t6 k, 2: t7 n, 3: t8 s, 4: t9 t, 5: t10 i -/
/- twinkeep/twinkeeplaw5.PolicyLines: a loop; 0: t5 l, 1: t6 k, 2: t7 n, 3: t8 s, 4: t9 t, 5: t11 i -/
/- twinkeep/twinkeeplaw5.PolicyLines -/
end
end Go.Proofs.YtkifcchcofdkaaaDoor


/-
  What functions that the laws reach compute, printed by a program of our own: each text is by definition the run of the code. No conditions.
-/
namespace Go.Proofs.YtkifcchcofdkaaaDoor
end Go.Proofs.YtkifcchcofdkaaaDoor


/-
  Pieces of texts: what strings.Split, Cut, slices.Index and Contains compute, in any store. No conditions but those named in each line.
-/
namespace Go.Proofs.YtkifcchcofdkaaaDoor
open Go Go.Abs Go.Abs.F
set_option linter.unusedVariables false
section
variable {s t : St} {x y : S} {l : Bs} {c : UInt8}

end
end Go.Proofs.YtkifcchcofdkaaaDoor


/-
  A number of digits: what strings.Trim at the digits, strconv.ParseInt at digits, and policy's number compute, in any store. No conditions but those named in each line.
-/
namespace Go.Proofs.YtkifcchcofdkaaaDoor
open Go Go.Abs Go.Abs.F
set_option linter.unusedVariables false

def isDig (b : UInt8) : Bool := Nat.ble 48 b.toNat && Nat.ble b.toNat 57
def digits : Bs := [48, 49, 50, 51, 52, 53, 54, 55, 56, 57]
theorem isDig_iff {b : UInt8} : isDig b = true ↔ 48 ≤ b.toNat ∧ b.toNat ≤ 57 := by
  simp [isDig, Nat.ble_eq]

section
variable {s t : St} {x y : S} {l : Bs} {i : Nat} {w : Bool}

theorem setRange_all {vs xs : List S} (h : vs.length = xs.length) : setRange vs 0 xs = xs := by
  rw [setRange_eq _ _ _ (by omega), List.take_zero, List.nil_append, List.drop_eq_nil_of_le (by omega), List.append_nil]

end
end Go.Proofs.YtkifcchcofdkaaaDoor


/-
  Policies: what policy.Default, May, line and Parse compute, in any store. No conditions but those named in each line.
-/
namespace Go.Proofs.YtkifcchcofdkaaaDoor
open Go Go.Abs Go.Abs.F
set_option linter.unusedVariables false

structure Pol where
  a0 : Int
  a1 : Int
  a2 : Int
  a3 : Int
  c : Int
  n : Int
  deriving DecidableEq

def cP (p : Pol) : List S := [.int .i64 p.a0, .int .i64 p.a1, .int .i64 p.a2, .int .i64 p.a3, .int .i64 p.c, .int .i64 p.n]
abbrev AP (p : Pol) : T := .v (.agg (cP p))
def pol0 : Pol := ⟨0, 0, 0, 0, 0, 0⟩
def polD : Pol := ⟨60, 600, 6000, 0, 8, 30⟩

def ageOk (n : Int) : Bool := decide (0 ≤ n) && decide (n ≤ 1099511627776)
def nxtOk (was n : Int) : Bool := decide (n = 0) || (decide (was ≤ n) && !decide (was = 0))
def agesOk (p : Pol) : Bool := ageOk p.a0 && (ageOk p.a1 && nxtOk p.a0 p.a1) && (ageOk p.a2 && nxtOk p.a1 p.a2) && (ageOk p.a3 && nxtOk p.a2 p.a3)
def mayP (p : Pol) : Bool := agesOk p && decide (p.a3 = 0) && decide (1 ≤ p.c) && decide (p.c ≤ 64) && decide (1 ≤ p.n) && decide (p.n ≤ 200)

section
variable {s t : St} {x y : S} {l : Bs} {i : Nat}

theorem store6 {i : Nat} {vs : List S} {p : Pol} (h : s.get i = some (.cells true vs)) (hv : vs.length = 6) : aStore 6 (Z (.ptr i 0)) (AP p) s = some (tt, s.set i (.cells true (cP p))) := by
  have hb : (V.agg (cP p)).cells.length = 6 ∧ 0 + 6 ≤ vs.length := ⟨rfl, by omega⟩
  simp only [aStore, h, if_pos hb]
  rw [show (V.agg (cP p)).cells = cP p from rfl, setRange_all (by rw [hv]; rfl)]
theorem load6 {i : Nat} {w : Bool} {p : Pol} {g : Mem} (h : g i = some (.cells w (cP p))) : aLoadN 6 (Z (.ptr i 0)) g = some (AP p) := by
  simp [aLoadN, h, cP]
theorem gtt (b : Bool) : gd tt b = some false := rfl

theorem default_run (d : Nat) (wf : s.wf) : ∃ t, R (d + 1) 7 [] s = some (AP polD, t) ∧ Gr s t := by
  rw [f7_run]
  unfold f7
  have e1 : asAggT (aFill [.int .i64 0, .int .i64 0, .int .i64 0, .int .i64 0] [(0, 1, (I .i64 60)), (1, 1, (I .i64 600)), (2, 1, (I .i64 6000)), (3, 1, (I .i64 0))]) = some (.v (.agg [.int .i64 60, .int .i64 600, .int .i64 6000, .int .i64 0])) := rfl
  have e2 : asAggT (aFill [.int .i64 0, .int .i64 0, .int .i64 0, .int .i64 0, .int .i64 0, .int .i64 0] [(0, 4, .v (.agg [.int .i64 60, .int .i64 600, .int .i64 6000, .int .i64 0])), (4, 1, (I .i64 8)), (5, 1, (I .i64 30))]) = some (AP polD) := rfl
  obtain ⟨s1, hs1⟩ : ∃ s1, s1 = s.push (.cells true (cP pol0)) := ⟨_, rfl⟩
  have nw : aNew s (nCells [.int .i64 0, .int .i64 0, .int .i64 0, .int .i64 0, .int .i64 0, .int .i64 0]) = some (Z (.ptr s.size 0), s1) := by rw [hs1]; rfl
  have h1 : s1.get s.size = some (.cells true (cP pol0)) := by rw [hs1]; exact St.get_push_same _ _
  obtain ⟨s2, hs2⟩ : ∃ s2, s2 = s1.set s.size (.cells true (cP polD)) := ⟨_, rfl⟩
  have st := store6 (p := polD) h1 rfl
  rw [← hs2] at st
  have h2 : s2.get s.size = some (.cells true (cP polD)) := by rw [hs2]; exact St.get_set_same _ _ _
  have ld := load6 (g := s2.get) h2
  refine ⟨s2, ?_, ?_⟩
  · simp [nw, e1, e2, st, ld, rC, retT]
  · rw [hs2, hs1]
    exact ⟨St.wf_set (St.wf_push wf _) (by simp) _, by simp, fun b hb => by rw [St.get_set_ne _ _ (by omega), St.get_push_ne _ _ (by omega)]⟩

def ageAt (p : Pol) : Nat → Int
  | 0 => p.a0
  | 1 => p.a1
  | 2 => p.a2
  | _ => p.a3
def okAt (p : Pol) : Nat → Bool
  | 0 => ageOk p.a0
  | 1 => ageOk p.a1 && nxtOk p.a0 p.a1
  | 2 => ageOk p.a2 && nxtOk p.a1 p.a2
  | _ => ageOk p.a3 && nxtOk p.a2 p.a3
theorem agesOk_iff (p : Pol) : agesOk p = true ↔ ∀ j, j < 4 → okAt p j = true := by
  constructor
  · intro h j hj
    simp only [agesOk, Bool.and_eq_true] at h
    match j, hj with
    | 0, _ => exact h.1.1.1
    | 1, _ => simp only [okAt, Bool.and_eq_true]; exact h.1.1.2
    | 2, _ => simp only [okAt, Bool.and_eq_true]; exact h.1.2
    | 3, _ => simp only [okAt, Bool.and_eq_true]; exact h.2
  · intro h
    have h0 := h 0 (by omega)
    have h1 := h 1 (by omega)
    have h2 := h 2 (by omega)
    have h3 := h 3 (by omega)
    simp only [okAt] at h0 h1 h2 h3
    simp only [agesOk, h0, h1, h2, h3, Bool.and_self]

theorem may_run (d : Nat) (wf : s.wf) (p : Pol) : ∃ t, R (d + 1) 10 [AP p] s = some (B (mayP p), t) ∧ Gr s t := by
  rw [f10_run]
  unfold f10
  obtain ⟨s1, hs1⟩ : ∃ s1, s1 = s.push (.cells true (cP p)) := ⟨_, rfl⟩
  have nw : aNew s (nBox (AP p)) = some (Z (.ptr s.size 0), s1) := by rw [hs1]; rfl
  have h1 : s1.get s.size = some (.cells true (cP p)) := by rw [hs1]; exact St.get_push_same _ _
  have g : Gr s s1 := by rw [hs1]; exact Gr.push wf _
  have l4 : aLoadN 4 (Z (.ptr s.size 0)) s1.get = some (.v (.agg [.int .i64 p.a0, .int .i64 p.a1, .int .i64 p.a2, .int .i64 p.a3])) := by simp [aLoadN, h1, cP]
  have ld : ∀ j, j < 4 → aLoad1 (Z (.ptr s.size j)) s1.get = some (I .i64 (ageAt p j)) := fun j hj => by
    match j, hj with
    | 0, _ => exact aLoad1_of h1 rfl
    | 1, _ => exact aLoad1_of h1 rfl
    | 2, _ => exact aLoad1_of h1 rfl
    | 3, _ => exact aLoad1_of h1 rfl
  have ld4 : aLoad1 (Z (.ptr s.size 4)) s1.get = some (I .i64 p.c) := aLoad1_of h1 rfl
  have ld5 : aLoad1 (Z (.ptr s.size 5)) s1.get = some (I .i64 p.n) := aLoad1_of h1 rfl
  have at4 : ∀ j, j < 4 → aAtArr none 4 1 (.v (.agg [.int .i64 p.a0, .int .i64 p.a1, .int .i64 p.a2, .int .i64 p.a3])) (I .i64 (j : Nat)) = some (I .i64 (ageAt p j)) := fun j hj => by
    match j, hj with
    | 0, _ => rfl
    | 1, _ => rfl
    | 2, _ => rfl
    | 3, _ => rfl
  have ix : ∀ j : Nat, j < 4 → aIndexArr 4 1 (Z (.ptr s.size 0)) (I .i64 (j : Nat)) = some (Z (.ptr s.size j)) := fun j hj => by
    match j, hj with
    | 0, _ => rfl
    | 1, _ => rfl
    | 2, _ => rfl
    | 3, _ => rfl
  obtain ⟨j, τ, lp, hj, hτ⟩ := loops_inv (f := f10_l1 (R d) 8192) (fun q v u => ∃ k : Nat, q + k = 4 ∧ v = [Z (.ptr s.size 0), .v (.agg [.int .i64 p.a0, .int .i64 p.a1, .int .i64 p.a2, .int .i64 p.a3]), I .i64 k] ∧ u = s1 ∧ ∀ j, j < k → okAt p j = true)
    (fun j u => (j = .exit 0 [Z (.ptr s.size 0)] ∧ agesOk p = true ∨ j = .ret (B false) ∧ agesOk p = false) ∧ u = s1) (by
    rintro q v u ⟨k, hk, rfl, rfl, hok⟩
    by_cases hk4 : k < 4
    · have bad : okAt p k = false → agesOk p = false := fun h => by
        rw [Bool.eq_false_iff]
        intro h2
        rw [(agesOk_iff p).1 h2 k hk4] at h
        cases h
      have next : okAt p k = true → ∀ j, j < k + 1 → okAt p j = true := fun h j hj => by
        by_cases e : j = k
        · subst e; exact h
        · exact hok j (by omega)
      have c0 : (k : Int) < 4 := by omega
      have w1 : IntKind.i64.wrap ((k : Int) + 1) = ((k + 1 : Nat) : Int) := by rw [wrap_in _ (by omega) (by omega)]; omega
      have hat := at4 k hk4
      obtain ⟨a, ha⟩ : ∃ a, a = ageAt p k := ⟨_, rfl⟩
      rw [← ha] at hat
      have hage : okAt p k = (ageOk a && (decide (k = 0) || nxtOk (ageAt p (k - 1)) a)) := by
        rw [ha]
        match k, hk4 with
        | 0, _ => simp [okAt, ageAt]
        | 1, _ => simp [okAt, ageAt]
        | 2, _ => simp [okAt, ageAt]
        | 3, _ => simp [okAt, ageAt]
      by_cases c1 : a < 0
      · right
        have : okAt p k = false := by
          have : ¬ 0 ≤ a := by omega
          rw [hage]; simp [ageOk, this]
        refine ⟨.ret (B false), u, ?_, (fun v hv => by cases hv), .inr ⟨rfl, bad this⟩, rfl⟩
        unfold f10_l1
        simp [c0, hat, c1]
      · by_cases c2 : 1099511627776 < a
        · right
          have : okAt p k = false := by
            have : ¬ a ≤ 1099511627776 := by omega
            rw [hage]; simp [ageOk, this]
          refine ⟨.ret (B false), u, ?_, (fun v hv => by cases hv), .inr ⟨rfl, bad this⟩, rfl⟩
          unfold f10_l1
          simp [c0, hat, c1, c2]
        · have hA : ageOk a = true := by
            have h1 : 0 ≤ a := by omega
            have h2 : a ≤ 1099511627776 := by omega
            simp [ageOk, h1, h2]
          by_cases k0 : k = 0
          · left
            have : okAt p k = true := by rw [hage]; simp [hA, k0]
            refine ⟨[Z (.ptr s.size 0), .v (.agg [.int .i64 p.a0, .int .i64 p.a1, .int .i64 p.a2, .int .i64 p.a3]), I .i64 ((k + 1 : Nat) : Int)], u, q - 1, ?_, by omega, k + 1, by omega, rfl, rfl, next this⟩
            unfold f10_l1
            subst k0
            have hat0 : aAtArr none 4 1 (.v (.agg [.int .i64 p.a0, .int .i64 p.a1, .int .i64 p.a2, .int .i64 p.a3])) (I .i64 0) = some (I .i64 a) := hat
            have w0 : IntKind.i64.wrap 1 = 1 := rfl
            simp [hat0, c1, c2, w0]
          · obtain ⟨b, hb⟩ : ∃ b, b = ageAt p (k - 1) := ⟨_, rfl⟩
            rw [← hb] at hage
            have ck0 : ¬ (k : Int) = 0 := by omega
            have w2 : IntKind.i64.wrap ((k : Int) - 1) = ((k - 1 : Nat) : Int) := by rw [wrap_in _ (by omega) (by omega)]; omega
            have ix1 := ix (k - 1) (by omega)
            have ld1 := ld (k - 1) (by omega)
            rw [← hb] at ld1
            by_cases c3 : a = 0
            · left
              have : okAt p k = true := by rw [hage, hA]; simp [nxtOk, c3]
              refine ⟨[Z (.ptr s.size 0), .v (.agg [.int .i64 p.a0, .int .i64 p.a1, .int .i64 p.a2, .int .i64 p.a3]), I .i64 ((k + 1 : Nat) : Int)], u, q - 1, ?_, by omega, k + 1, by omega, rfl, rfl, next this⟩
              unfold f10_l1
              subst c3
              generalize ((k + 1 : Nat) : Int) = K1 at w1 ⊢
              generalize ((k - 1 : Nat) : Int) = K0 at w2 ix1
              generalize (k : Int) = K at *
              simp [c0, hat, ck0, w2, ix1, ld1, w1, gtt]
            · by_cases c4 : a < b
              · right
                have : okAt p k = false := by
                  have h1 : ¬ b ≤ a := by omega
                  rw [hage]; simp [hA, nxtOk, c3, h1, k0]
                refine ⟨.ret (B false), u, ?_, (fun v hv => by cases hv), .inr ⟨rfl, bad this⟩, rfl⟩
                unfold f10_l1
                generalize ((k - 1 : Nat) : Int) = K0 at w2 ix1
                generalize (k : Int) = K at *
                simp [c0, hat, c1, c2, ck0, w2, ix1, ld1, c3, c4]
              · by_cases c5 : b = 0
                · right
                  have : okAt p k = false := by rw [hage]; simp [hA, nxtOk, c3, c5, k0]
                  refine ⟨.ret (B false), u, ?_, (fun v hv => by cases hv), .inr ⟨rfl, bad this⟩, rfl⟩
                  unfold f10_l1
                  generalize ((k - 1 : Nat) : Int) = K0 at w2 ix1
                  generalize (k : Int) = K at *
                  simp [c0, hat, c1, c2, ck0, w2, ix1, ld1, c3, c4, c5]
                · left
                  have : okAt p k = true := by
                    have h1 : b ≤ a := by omega
                    rw [hage]; simp [hA, nxtOk, h1, c5]
                  refine ⟨[Z (.ptr s.size 0), .v (.agg [.int .i64 p.a0, .int .i64 p.a1, .int .i64 p.a2, .int .i64 p.a3]), I .i64 ((k + 1 : Nat) : Int)], u, q - 1, ?_, by omega, k + 1, by omega, rfl, rfl, next this⟩
                  unfold f10_l1
                  generalize ((k + 1 : Nat) : Int) = K1 at w1 ⊢
                  generalize ((k - 1 : Nat) : Int) = K0 at w2 ix1
                  generalize (k : Int) = K at *
                  simp [c0, hat, c1, c2, ck0, w2, ix1, ld1, c3, c4, c5, w1]
    · right
      have hk' : k = 4 := by omega
      subst hk'
      refine ⟨.exit 0 [Z (.ptr s.size 0)], u, ?_, (fun v hv => by cases hv), .inl ⟨rfl, (agesOk_iff p).2 hok⟩, rfl⟩
      unfold f10_l1
      simp) 8192 4 [Z (.ptr s.size 0), .v (.agg [.int .i64 p.a0, .int .i64 p.a1, .int .i64 p.a2, .int .i64 p.a3]), I .i64 0] s1 ⟨0, rfl, rfl, rfl, fun j hj => by omega⟩ (by omega)
  subst hτ
  refine ⟨τ, ?_, g⟩
  have ix3 : aIndexArr 4 1 (Z (.ptr s.size 0)) (I .i64 3) = some (Z (.ptr s.size 3)) := rfl
  have ld3 := ld 3 (by omega)
  generalize (T.v (.agg [.int .i64 p.a0, .int .i64 p.a1, .int .i64 p.a2, .int .i64 p.a3])) = L at l4 lp
  rcases hj with ⟨rfl, ha⟩ | ⟨rfl, ha⟩
  · have hm : mayP p = (decide (p.a3 = 0) && decide (1 ≤ p.c) && decide (p.c ≤ 64) && decide (1 ≤ p.n) && decide (p.n ≤ 200)) := by simp [mayP, ha]
    rw [hm]
    by_cases d1 : p.a3 = 0
    · by_cases d2 : 1 ≤ p.c
      · by_cases d3 : p.c ≤ 64
        · by_cases d4 : 1 ≤ p.n
          · simp [nw, l4, lp, ix3, ld3, ld4, ld5, ageAt, d1, d2, d3, d4]
          · simp [nw, l4, lp, ix3, ld3, ld4, ld5, ageAt, d1, d2, d3, d4]
        · simp [nw, l4, lp, ix3, ld3, ld4, ld5, ageAt, d1, d2, d3]
      · simp [nw, l4, lp, ix3, ld3, ld4, ld5, ageAt, d1, d2]
    · simp [nw, l4, lp, ix3, ld3, ageAt, d1]
  · have hm : mayP p = false := by simp [mayP, ha]
    rw [hm]
    simp [nw, l4, lp]

/-! ### A line -/

def tNames : List Bs := [[114, 97, 119], [53, 109], [49, 104], [49, 100]]
def kKeep : Bs := [107, 101, 101, 112]
def kSeal : Bs := [115, 101, 97, 108]
def kSpan : Bs := [115, 112, 97, 110]
def kEver : Bs := [101, 118, 101, 114]

theorem names_run (d : Nat) (wf : s.wf) : ∃ x t, R (d + 1) 12 [] s = some (Z x, t) ∧ FT s t x tNames := by
  rw [f12_run]
  unfold f12
  refine ⟨.sl s.size 0 4 (.known 4), s.push (.cells true (strS tNames)), ?_, Fr.lit 1 wf rfl⟩
  simp [aNew, nSlice, aFill, V.cells, setRange, strS, tNames]

def But (i : Nat) (s t : St) : Prop := t.wf ∧ s.size ≤ t.size ∧ ∀ b, b < s.size → b ≠ i → t.get b = s.get b
theorem Gr.but {s t : St} (h : Gr s t) (i : Nat) : But i s t := ⟨h.1, h.2.1, fun b hb _ => h.2.2 b hb⟩
theorem But.trans {i : Nat} {a b c : St} (h : But i a b) (k : But i b c) : But i a c := ⟨k.1, Nat.le_trans h.2.1 k.2.1, fun x hx hi => by rw [k.2.2 x (Nat.lt_of_lt_of_le hx h.2.1) hi, h.2.2 x hx hi]⟩
theorem But.set {i : Nat} {s : St} (wf : s.wf) (hi : i < s.size) (b : Blk) : But i s (s.set i b) := ⟨St.wf_set wf hi _, by simp, fun c hc hne => St.get_set_ne _ _ hne⟩

end
end Go.Proofs.YtkifcchcofdkaaaDoor


/-
  What policy.Parse computes, in any store. No conditions but those named in each line.
-/
namespace Go.Proofs.YtkifcchcofdkaaaDoor
open Go Go.Abs Go.Abs.F
set_option linter.unusedVariables false

section
variable {s t : St} {x y : S} {l : Bs} {i : Nat}

end
end Go.Proofs.YtkifcchcofdkaaaDoor


/-
  A policy's text, and that it is read as that policy: plain law, no program in sight. No conditions.
-/
namespace Go.Proofs.YtkifcchcofdkaaaDoor
open Go Go.Abs Go.Abs.F
set_option linter.unusedVariables false

def ageW (n : Int) : Bs := if 0 < n then itoaF n else kEver
def lineA (m : Bs) (n : Int) : Bs := kKeep ++ [32] ++ m ++ [32] ++ ageW n
def lineN (k : Bs) (n : Int) : Bs := k ++ [32] ++ itoaF n
def printP (p : Pol) : Bs :=
  (lineA [114, 97, 119] p.a0 ++ [10]) ++ ((lineA [53, 109] p.a1 ++ [10]) ++ ((lineA [49, 104] p.a2 ++ [10]) ++ ((lineA [49, 100] p.a3 ++ [10]) ++ ((lineN kSeal p.c ++ [10]) ++ (lineN kSpan p.n ++ [10])))))

/-! ### Digits -/

theorem digit_dig (u : Nat) (h : u < 10) : isDig (UInt8.ofNat (48 + u)) = true := by
  rw [isDig_iff, UInt8.toNat_ofNat']
  omega
theorem decF_all : ∀ (f u : Nat), (decF f u).all isDig = true
  | 0, u => rfl
  | f + 1, u => by
    unfold decF
    cases hb : Nat.ble 10 u with
    | true =>
      simp only [List.all_append, decF_all f (u / 10), List.all_cons, List.all_nil, Bool.and_true, Bool.true_and]
      exact digit_dig _ (by omega)
    | false =>
      have h10 : ¬ 10 ≤ u := fun h' => by rw [Nat.ble_eq_true_of_le h'] at hb; cases hb
      simp only [List.all_cons, List.all_nil, Bool.and_true]
      exact digit_dig _ (by omega)

theorem decF_len : ∀ (f k u : Nat), u < 10 ^ k → 0 < k → (decF f u).length ≤ k
  | 0, k, u, _, _ => by simp [decF]
  | f + 1, k, u, h, hk => by
    unfold decF
    cases hb : Nat.ble 10 u with
    | true =>
      have h10 := Nat.le_of_ble_eq_true hb
      obtain ⟨k', rfl⟩ : ∃ k', k = k' + 1 := ⟨k - 1, by omega⟩
      have hk' : 0 < k' := by
        rcases Nat.eq_zero_or_pos k' with h0 | h0
        · subst h0; simp at h; omega
        · exact h0
      have := decF_len f k' (u / 10) (by rw [Nat.pow_succ] at h; omega) hk'
      simp
      omega
    | false => simpa using (show 1 ≤ k by omega)

theorem decF_pos (f u : Nat) : 1 ≤ (decF (f + 1) u).length := by
  unfold decF
  split <;> simp

theorem itoaF_nat (u : Nat) : itoaF (u : Int) = decF 20 u := rfl

/-! ### Lines and words -/

def wordB (b : UInt8) : Bool := !Nat.beq b.toNat 32 && !Nat.beq b.toNat 35 && !Nat.beq b.toNat 10
theorem dig_word {b : UInt8} (h : isDig b = true) : wordB b = true := by
  have h := isDig_iff.1 h
  have n1 : Nat.beq b.toNat 32 = false := by rw [← Bool.not_eq_true, Nat.beq_eq]; omega
  have n2 : Nat.beq b.toNat 35 = false := by rw [← Bool.not_eq_true, Nat.beq_eq]; omega
  have n3 : Nat.beq b.toNat 10 = false := by rw [← Bool.not_eq_true, Nat.beq_eq]; omega
  simp [wordB, n1, n2, n3]
abbrev Word (x : Bs) : Prop := x ≠ [] ∧ x.all wordB = true
theorem Word.itoa (u : Nat) : Word (itoaF (u : Int)) := by
  rw [itoaF_nat]
  refine ⟨fun e => by have := decF_pos 19 u; rw [e] at this; simp at this, List.all_eq_true.2 fun b hb => dig_word (List.all_eq_true.1 (decF_all 20 u) b hb)⟩
theorem may_facts {p : Pol} (h : mayP p = true) : (0 ≤ p.a0 ∧ p.a0 ≤ 1099511627776) ∧ (0 ≤ p.a1 ∧ p.a1 ≤ 1099511627776) ∧ (0 ≤ p.a2 ∧ p.a2 ≤ 1099511627776) ∧ (0 ≤ p.a3 ∧ p.a3 ≤ 1099511627776) ∧ 1 ≤ p.c ∧ p.c ≤ 64 ∧ 1 ≤ p.n ∧ p.n ≤ 200 := by
  simp only [mayP, agesOk, ageOk, Bool.and_eq_true, decide_eq_true_eq] at h
  omega

end Go.Proofs.YtkifcchcofdkaaaDoor


/-
  What policy.Print computes, in any store whose first block is the table of powers of ten. No conditions but those named in each line.
-/
namespace Go.Proofs.YtkifcchcofdkaaaDoor
open Go Go.Abs Go.Abs.F
set_option linter.unusedVariables false

section
variable {s t u : St} {x y : S} {l w : Bs} {i lo : Nat}

structure Bld (lo : Nat) (u : St) (i : Nat) (l : Bs) : Prop where
  ilo : i < lo
  lou : lo ≤ u.size
  wf : u.wf
  bk : ∃ x y, u.get i = some (.cells true [x, y]) ∧ notedB 41 i x = true ∧ ((y = .nils ∧ l = []) ∨ ∃ j, lo ≤ j ∧ y = .buf 5 j l.length ∧ u.get j = some (.cells true (strBytes l)))

abbrev PB (i : Nat) : T := Z (.tptr 41 i 2)

theorem bld_write (d : Nat) (h : Bld lo u i l) (hw : w ≠ []) (hl : l.length + w.length ≤ 100000) :
    ∃ t, R (d + 1) 14 [PB i, Z (.str w)] u = some (.tup [.s (.int .i64 w.length), .s .nili], t) ∧ Bld lo t i (l ++ w) ∧ ∀ b, b < lo → b ≠ i → t.get b = u.get b := by
  obtain ⟨x, y, hi, hn, hy⟩ := h.bk
  have hilo := h.ilo
  have hlou := h.lou
  have nt : notedB 41 i (.tptr 41 i 2) = true := by simp [notedB]
  rcases hy with ⟨rfl, rfl⟩ | ⟨j, hj, rfl, hb⟩
  · refine ⟨(u.push (.cells true (strBytes w))).set i (.cells true [.tptr 41 i 2, .buf 5 u.size w.length]), runQ_prim (prim_bld (by decide) ?_), ⟨hilo, by simp; omega, St.wf_set (St.wf_push h.wf _) (by simp; omega) _, _, _, St.get_set_same _ _ _, nt, .inr ⟨u.size, hlou, rfl, ?_⟩⟩, fun b hb hbi => ?_⟩
    · simp [bldP, hi, hn, hw, show w.length ≤ 1000000 by omega]
    · rw [St.get_set_ne _ _ (by omega), St.get_push_same]; rfl
    · rw [St.get_set_ne _ _ hbi, St.get_push_ne _ _ (by omega)]
  · have hjs := h.wf.lt hb
    refine ⟨((u.set j .dead).push (.cells true (strBytes (l ++ w)))).set i (.cells true [.tptr 41 i 2, .buf 5 u.size (l ++ w).length]), runQ_prim (prim_bld (by decide) ?_), ⟨hilo, by simp; omega, St.wf_set (St.wf_push (St.wf_set h.wf hjs _) _) (by simp; omega) _, _, _, St.get_set_same _ _ _, nt, .inr ⟨u.size, hlou, rfl, ?_⟩⟩, fun b hb hbi => ?_⟩
    · simp [bldP, hi, hn, hw, hb, bsOf_strBytes, show w.length ≤ 1000000 by omega, show l.length ≤ 1000000 by omega]
    · rw [St.get_set_ne _ _ (by omega)]
      exact St.get_push_same (u.set j .dead) _
    · rw [St.get_set_ne _ _ hbi, St.get_push_ne _ _ (by simp; omega), St.get_set_ne _ _ (by omega)]

theorem bld_string (d : Nat) (h : Bld lo u i l) (hl : l ≠ []) :
    ∃ t, R (d + 1) 16 [PB i] u = some (Z (.str l), t) ∧ t.wf ∧ u.size ≤ t.size ∧ ∀ b, b < lo → b ≠ i → t.get b = u.get b := by
  obtain ⟨x, y, hi, hn, hy⟩ := h.bk
  rcases hy with ⟨rfl, rfl⟩ | ⟨j, hj, rfl, hb⟩
  · exact absurd rfl hl
  · have hjs := h.wf.lt hb
    have hf : Nat.beq 16 14 = false := by decide
    refine ⟨u.set j (.cells false (strBytes l)), runQ_prim (prim_bld (by decide) ?_), St.wf_set h.wf hjs _, by simp, fun b hb2 hbi => St.get_set_ne _ _ (by omega)⟩
    simp [bldP, hf, hi, hb, bsOf_strBytes, hl]

def ageLine (p : Pol) (k : Nat) : Bs := lineA (tNames.getD k []) (ageAt p k) ++ [10]
def ageLines (p : Pol) : Nat → Bs
  | 0 => []
  | k + 1 => ageLines p k ++ ageLine p k
theorem printP_lines (p : Pol) : printP p = ageLines p 4 ++ ((lineN kSeal p.c ++ [10]) ++ (lineN kSpan p.n ++ [10])) := by
  simp [printP, ageLines, ageLine, ageAt, tNames]

theorem itoa_len {n : Int} (h : i64B n = true) : (itoaF n).length ≤ 21 := by
  have h := of_decide_eq_true h
  cases n with
  | ofNat u =>
    have hu : (Int.ofNat u) = (u : Int) := rfl
    rw [hu] at h
    have := decF_len 20 20 u (by omega) (by omega)
    show (decF 20 u).length ≤ 21
    omega
  | negSucc u =>
    have := decF_len 20 20 (u + 1) (by omega) (by omega)
    show (45 :: decF 20 (u + 1)).length ≤ 21
    simp
    omega
theorem age_len {n : Int} (h : i64B n = true) : (ageW n).length ≤ 21 := by
  unfold ageW
  split
  · exact itoa_len h
  · decide

theorem print_run (d : Nat) (wf : s.wf) (ht : Tab s) (p : Pol) : ∃ t, R (d + 2) 8 [AP p] s = some (.tup [.s (.str (if mayP p then printP p else [])), .s (.int .i64 (if mayP p then 0 else 1))], t) ∧ Gr s t := by
  rw [f8_run]
  unfold f8
  obtain ⟨s1, hs1⟩ : ∃ s1, s1 = s.push (.cells true (cP p)) := ⟨_, rfl⟩
  have nw1 : aNew s (nBox (AP p)) = some (Z (.ptr s.size 0), s1) := by rw [hs1]; rfl
  have g1 : Gr s s1 := by rw [hs1]; exact Gr.push wf _
  have hp1 : s1.get s.size = some (.cells true (cP p)) := by rw [hs1]; exact St.get_push_same _ _
  have z1 : s1.size = s.size + 1 := by rw [hs1]; rfl
  have ld1 := load6 (g := s1.get) hp1
  obtain ⟨s2, e2, g2⟩ := may_run d g1.wf p
  have h0 := wf.lt ht
  cases hm : mayP p with
  | false =>
    rw [hm] at e2
    refine ⟨s2, ?_, g1.trans g2⟩
    generalize R (d + 1) = r at *
    simp [nw1, ld1, e2, rC, retT, allV]
  | true =>
    rw [hm] at e2
    obtain ⟨f0, f1, f2, f3, c1, c2, n1, n2⟩ := may_facts hm
    obtain ⟨s3, hs3⟩ : ∃ s3, s3 = s2.push (.cells true [.nilp, .nils]) := ⟨_, rfl⟩
    have nw3 : aNew s2 (nBld 41 [.nilp, .nils]) = some (PB s2.size, s3) := by rw [hs3]; rfl
    have g3 : Gr s2 s3 := by rw [hs3]; exact Gr.push g2.wf _
    have z3 : s3.size = s2.size + 1 := by rw [hs3]; rfl
    have hb3 : s3.get s2.size = some (.cells true [.nilp, .nils]) := by rw [hs3]; exact St.get_push_same _ _
    obtain ⟨x, s4, e4, ft4⟩ := names_run d g3.wf
    obtain ⟨pp, hpp⟩ : ∃ pp, pp = s.size := ⟨_, rfl⟩
    obtain ⟨bb, hbb⟩ : ∃ bb, bb = s2.size := ⟨_, rfl⟩
    obtain ⟨lo, hlo⟩ : ∃ lo, lo = s4.size := ⟨_, rfl⟩
    have g4 : Gr s3 s4 := ft4.gr
    have l2 := g2.2.1
    have l4 := g4.2.1
    have hp4 : s4.get pp = some (.cells true (cP p)) := by rw [hpp, g4.2.2 _ (by omega), g3.2.2 _ (by omega), g2.2.2 _ (by omega)]; exact hp1
    have hb4 : s4.get bb = some (.cells true [.nilp, .nils]) := by rw [hbb, g4.2.2 _ (by omega)]; exact hb3
    have ht4 : Tab s4 := by
      unfold Tab
      rw [g4.2.2 _ (by omega), g3.2.2 _ (by omega), g2.2.2 _ (by omega), g1.2.2 _ h0]
      exact ht
    have hlen : aLenSl (Z x) = some (I .i64 4) := ft4.rd.lens
    have bl4 : Bld lo s4 bb [] := ⟨by omega, by omega, g4.wf, _, _, hb4, rfl, .inl ⟨rfl, rfl⟩⟩
    rw [← hpp] at nw1 ld1
    rw [← hbb] at nw3
    have ages : ∀ k, 0 ≤ ageAt p k ∧ ageAt p k ≤ 1099511627776 := fun k => by
      match k with
      | 0 => exact f0
      | 1 => exact f1
      | 2 => exact f2
      | k + 3 => exact f3
    have iB : ∀ n : Int, 0 ≤ n → n ≤ 1099511627776 → i64B n = true := fun n h1 h2 => decide_eq_true ⟨by omega, by omega⟩
    have lens : ∀ k, k ≤ 4 → (ageLines p k).length ≤ 40 * k := by
      intro k
      induction k with
      | zero => intro _; simp [ageLines]
      | succ k ih =>
        intro hk
        have h1 := ih (by omega)
        have h2 := age_len (iB _ (ages k).1 (ages k).2)
        have h3 : (tNames.getD k []).length ≤ 3 := by
          match k, hk with
          | 0, _ => decide
          | 1, _ => decide
          | 2, _ => decide
          | 3, _ => decide
        simp only [ageLines, ageLine, lineA, List.length_append, kKeep, List.length_cons, List.length_nil]
        omega
    obtain ⟨j, τ, lp, hj, bl, hbτ⟩ := loops_inv (f := f8_l1 (R (d + 1)) 8192)
      (fun q v u => ∃ k : Nat, q + k = 4 ∧ v = [Z (.ptr pp 0), PB bb, Z x, I .i64 4, I .i64 k] ∧ Bld lo u bb (ageLines p k) ∧ ∀ b, b < lo → b ≠ bb → u.get b = s4.get b)
      (fun j u => j = .exit 0 [Z (.ptr pp 0), PB bb] ∧ Bld lo u bb (ageLines p 4) ∧ ∀ b, b < lo → b ≠ bb → u.get b = s4.get b) (by
      rintro q v u ⟨k, hk, rfl, bu, hu⟩
      by_cases hk4 : k < 4
      · left
        have c0 : (k : Int) < 4 := by omega
        have w1 : IntKind.i64.wrap ((k : Int) + 1) = ((k + 1 : Nat) : Int) := by rw [wrap_in _ (by omega) (by omega)]; omega
        have hpu : u.get pp = some (.cells true (cP p)) := by rw [hu pp (by omega) (by omega)]; exact hp4
        have htu : Tab u := by unfold Tab; rw [hu 0 (by omega) (by omega)]; exact ht4
        have hxu : RT u x tNames := ft4.rd.keep fun c hc => hu c (by rw [hlo]; exact (ft4.new c hc).2) (by have := (ft4.new c hc).1; omega)
        obtain ⟨pi, ix, ld⟩ := RT.atT hxu (j := k) (n := (k : Int)) (c := tNames.getD k []) rfl (by
          match k, hk4 with
          | 0, _ => rfl
          | 1, _ => rfl
          | 2, _ => rfl
          | 3, _ => rfl)
        have ixa : aIndexArr 4 1 (Z (.ptr pp 0)) (I .i64 (k : Nat)) = some (Z (.ptr pp k)) := by
          have h2 : aIdx (I .i64 (k : Int)) 4 = some k := by simp [aIdx]; omega
          simp [aIndexArr, h2]
        have la : aLoad1 (Z (.ptr pp k)) u.get = some (I .i64 (ageAt p k)) := aLoad1_of hpu (by
          match k, hk4 with
          | 0, _ => rfl
          | 1, _ => rfl
          | 2, _ => rfl
          | 3, _ => rfl)
        obtain ⟨a, ha⟩ : ∃ a, a = ageAt p k := ⟨_, rfl⟩
        obtain ⟨m, hmn⟩ : ∃ m, m = tNames.getD k [] := ⟨_, rfl⟩
        have hml : m.length ≤ 3 := by
          rw [hmn]
          match k, hk4 with
          | 0, _ => decide
          | 1, _ => decide
          | 2, _ => decide
          | 3, _ => decide
        have hia := iB _ (ages k).1 (ages k).2
        rw [← ha] at hia la
        rw [← hmn] at ld
        have hal := age_len hia
        have ef : R (d + 1) 13 [I .i64 a, I .i64 10] u = some (Z (.str (itoaF a)), u) := runQ_prim (prim_fmt hia htu)
        obtain ⟨q1, hq1⟩ : ∃ q1, q1 = [107, 101, 101, 112, 32] ++ m := ⟨_, rfl⟩
        obtain ⟨q2, hq2⟩ : ∃ q2, q2 = q1 ++ [32] := ⟨_, rfl⟩
        obtain ⟨q3, hq3⟩ : ∃ q3, q3 = q2 ++ ageW a := ⟨_, rfl⟩
        have z1' : q1.length ≤ 8 := by rw [hq1]; simp; omega
        have z2' : q2.length ≤ 9 := by rw [hq2]; simp; omega
        have z3' : q3.length ≤ 30 := by rw [hq3]; simp; omega
        have a1 : aBin .add (Z (.str [107, 101, 101, 112, 32])) (Z (.str m)) = some (Z (.str q1)) := by rw [hq1]; exact str_add _ _ (by simp; omega)
        have a2 : aBin .add (Z (.str q1)) (Z (.str [32])) = some (Z (.str q2)) := by rw [hq2]; exact str_add _ _ (by simp; omega)
        have a3 : aBin .add (Z (.str q2)) (Z (.str (ageW a))) = some (Z (.str q3)) := by rw [hq3]; exact str_add _ _ (by omega)
        have hline : ageLine p k = q3 ++ [10] := by
          rw [hq3, hq2, hq1]
          unfold ageLine lineA
          rw [← ha, ← hmn]
          simp [kKeep]
        have a4 : aBin .add (Z (.str q3)) (Z (.str [10])) = some (Z (.str (ageLine p k))) := by rw [hline]; exact str_add _ _ (by simp; omega)
        obtain ⟨u', ew, bu', hu'⟩ := bld_write d bu (w := ageLine p k) (by rw [hline]; simp) (by
          have h1 := lens k (by omega)
          have h2 := lens (k + 1) (by omega)
          simp only [ageLines, List.length_append] at h2
          omega)
        refine ⟨[Z (.ptr pp 0), PB bb, Z x, I .i64 4, I .i64 ((k + 1 : Nat) : Int)], u', q - 1, ?_, by omega, k + 1, by omega, rfl, bu', fun b h1 h2 => (hu' b h1 h2).trans (hu b h1 h2)⟩
        unfold f8_l1
        generalize R (d + 1) = r at *
        by_cases hpos : 0 < a
        · have hag : ageW a = itoaF a := if_pos hpos
          rw [hag] at a3
          generalize ageLine p k = al at *
          generalize ((k + 1 : Nat) : Int) = K1 at w1 ⊢
          generalize (k : Int) = K at *
          simp [c0, ix, ld, ixa, la, hpos, ef, a1, a2, a3, a4, ew, w1]
        · have hag : ageW a = kEver := if_neg hpos
          rw [hag] at a3
          unfold kEver at a3
          generalize ageLine p k = al at *
          generalize ((k + 1 : Nat) : Int) = K1 at w1 ⊢
          generalize (k : Int) = K at *
          simp [c0, ix, ld, ixa, la, hpos, a1, a2, a3, a4, ew, w1]
      · right
        have hk' : k = 4 := by omega
        subst hk'
        refine ⟨_, u, ?_, (fun v hv => by cases hv), rfl, bu, hu⟩
        unfold f8_l1
        simp) 8192 4 [Z (.ptr pp 0), PB bb, Z x, I .i64 4, I .i64 0] s4 ⟨0, rfl, rfl, bl4, fun _ _ _ => rfl⟩ (by omega)
    subst hj
    have hpτ : τ.get pp = some (.cells true (cP p)) := by rw [hbτ pp (by omega) (by omega)]; exact hp4
    have htτ : Tab τ := by unfold Tab; rw [hbτ 0 (by omega) (by omega)]; exact ht4
    have lc : aLoad1 (Z (.ptr pp 4)) τ.get = some (I .i64 p.c) := aLoad1_of hpτ rfl
    have ln : aLoad1 (Z (.ptr pp 5)) τ.get = some (I .i64 p.n) := aLoad1_of hpτ rfl
    have ic := iB p.c (by omega) (by omega)
    have inn := iB p.n (by omega) (by omega)
    have ec : R (d + 1) 15 [I .i64 p.c] τ = some (Z (.str (itoaF p.c)), τ) := runQ_prim (prim_itoa ic htτ)
    have en : R (d + 1) 13 [I .i64 p.n, I .i64 10] τ = some (Z (.str (itoaF p.n)), τ) := runQ_prim (prim_fmt inn htτ)
    have q1 := itoa_len ic
    have q2 := itoa_len inn
    obtain ⟨i1, hi1⟩ : ∃ i1, i1 = itoaF p.c := ⟨_, rfl⟩
    obtain ⟨i2, hi2⟩ : ∃ i2, i2 = itoaF p.n := ⟨_, rfl⟩
    rw [← hi1] at ec q1
    rw [← hi2] at en q2
    obtain ⟨r1, hr1⟩ : ∃ r1, r1 = [115, 101, 97, 108, 32] ++ i1 := ⟨_, rfl⟩
    obtain ⟨r2, hr2⟩ : ∃ r2, r2 = r1 ++ [10, 115, 112, 97, 110, 32] := ⟨_, rfl⟩
    obtain ⟨r3, hr3⟩ : ∃ r3, r3 = r2 ++ i2 := ⟨_, rfl⟩
    have y1 : r1.length ≤ 26 := by rw [hr1]; simp; omega
    have y2 : r2.length ≤ 32 := by rw [hr2]; simp; omega
    have y3 : r3.length ≤ 53 := by rw [hr3]; simp; omega
    have a1 : aBin .add (Z (.str [115, 101, 97, 108, 32])) (Z (.str i1)) = some (Z (.str r1)) := by rw [hr1]; exact str_add _ _ (by simp; omega)
    have a2 : aBin .add (Z (.str r1)) (Z (.str [10, 115, 112, 97, 110, 32])) = some (Z (.str r2)) := by rw [hr2]; exact str_add _ _ (by simp; omega)
    have a3 : aBin .add (Z (.str r2)) (Z (.str i2)) = some (Z (.str r3)) := by rw [hr3]; exact str_add _ _ (by omega)
    obtain ⟨w, hw⟩ : ∃ w, w = (lineN kSeal p.c ++ [10]) ++ (lineN kSpan p.n ++ [10]) := ⟨_, rfl⟩
    have a4 : aBin .add (Z (.str r3)) (Z (.str [10])) = some (Z (.str w)) := by
      rw [str_add _ _ (by simp; omega), hw, hr3, hr2, hr1, hi1, hi2]
      simp [lineN, kSeal, kSpan]
    have hwl : w.length ≤ 100 := by rw [hw]; rw [hi1] at q1; rw [hi2] at q2; simp [lineN, kSeal, kSpan]; omega
    have hwne : w ≠ [] := by rw [hw]; simp
    obtain ⟨u, ew, bu, hu⟩ := bld_write d bl (w := w) hwne (by have := lens 4 (by omega); omega)
    have hpr : ageLines p 4 ++ w = printP p := by rw [printP_lines, hw]
    rw [hpr] at bu
    obtain ⟨t, es, wft, hzt, ht'⟩ := bld_string d bu (by rw [← hpr]; simp [hwne])
    refine ⟨t, ?_, wft, by have := bu.lou; omega, fun b hb => ?_⟩
    · generalize printP p = pr at *
      generalize R (d + 1) = r at *
      simp [nw1, ld1, e2, nw3, e4, hlen, lp, lc, ec, a1, a2, ln, en, a3, a4, ew, es, rC, retT, allV]
    · rw [ht' b (by omega) (by omega), hu b (by omega) (by omega), hbτ b (by omega) (by omega), g4.2.2 b (by omega), g3.2.2 b (by omega), g2.2.2 b (by omega), g1.2.2 b (by omega)]
end
end Go.Proofs.YtkifcchcofdkaaaDoor


/-
  PolicyAges gives true, whatever its three numbers. No conditions.
-/
namespace Go.Proofs.YtkifcchcofdkaaaDoor
open Go Go.Abs Go.Abs.F
set_option linter.unusedVariables false

theorem may_small (x y z : Int) (hx : 0 ≤ x) (hx' : x < 21) (hy : 0 ≤ y) (hy' : y < 21) (hz : 0 ≤ z) (hz' : z < 21) :
    mayP ⟨x, y, z, 0, 8, 30⟩ = decide ((y = 0 ∨ (x ≤ y ∧ x ≠ 0)) ∧ (z = 0 ∨ (y ≤ z ∧ y ≠ 0))) := by
  have h1 : x ≤ 1099511627776 := by omega
  have h2 : y ≤ 1099511627776 := by omega
  have h3 : z ≤ 1099511627776 := by omega
  rw [Bool.eq_iff_iff]
  simp only [mayP, agesOk, ageOk, nxtOk, Bool.and_eq_true, Bool.or_eq_true, Bool.not_eq_true', decide_eq_true_eq, decide_eq_false_iff_not]
  have q1 : (0 : Int) ≤ 0 ∧ (0 : Int) ≤ 1099511627776 := by omega
  constructor
  · rintro ⟨⟨⟨⟨⟨⟨⟨⟨_, _, h4⟩, _, h5⟩, _⟩, _⟩, _⟩, _⟩, _⟩, _⟩
    exact ⟨h4, h5⟩
  · rintro ⟨h4, h5⟩
    exact ⟨⟨⟨⟨⟨⟨⟨⟨⟨hx, h1⟩, ⟨hy, h2⟩, h4⟩, ⟨hz, h3⟩, h5⟩, q1, .inl trivial⟩, trivial⟩, by omega⟩, by omega⟩, by omega⟩, by omega⟩

theorem may_last (x y z : Int) : mayP ⟨x, y, z, 100, 8, 30⟩ = false := by
  have : decide ((100 : Int) = 0) = false := by decide
  simp only [mayP, this, Bool.and_false, Bool.false_and]

theorem print_pos (p : Pol) : ∃ n : Nat, (printP p).length = n + 1 := ⟨(printP p).length - 1, by
  have : 0 < (printP p).length := by
    simp [printP]
    omega
  omega⟩

set_option maxHeartbeats 4000000 in
theorem ages_run (a b c : Int) : ∃ τ, R 12 3 [I .i64 a, I .i64 b, I .i64 c] tab0 = some (B true, τ) := by
  obtain ⟨x, hx0, hx1, h1, h2, _⟩ := mod_u a 21 (by omega) (by omega)
  obtain ⟨y, hy0, hy1, h3, h4, _⟩ := mod_u b 21 (by omega) (by omega)
  obtain ⟨z, hz0, hz1, h5, h6, _⟩ := mod_u c 21 (by omega) (by omega)
  rw [f3_run]
  unfold f3
  have wf0 : tab0.wf := St.wf_push St.wf_empty _
  have t0 : Tab tab0 := tabZ_get0 _ _ _
  have z0 : tab0.size = 1 := rfl
  obtain ⟨s0, hs0⟩ : ∃ s0, s0 = tab0 := ⟨_, rfl⟩
  rw [← hs0] at wf0 t0 z0 ⊢
  obtain ⟨s1, e1, g1⟩ := default_run 10 wf0
  obtain ⟨s2, hs2⟩ : ∃ s2, s2 = s1.push (.cells true (cP pol0)) := ⟨_, rfl⟩
  have nw2 : aNew s1 (nCells [.int .i64 0, .int .i64 0, .int .i64 0, .int .i64 0, .int .i64 0, .int .i64 0]) = some (Z (.ptr s1.size 0), s2) := by rw [hs2]; rfl
  have g2 : Gr s1 s2 := by rw [hs2]; exact Gr.push g1.wf _
  have b2 : s2.get s1.size = some (.cells true (cP pol0)) := by rw [hs2]; exact St.get_push_same _ _
  have z2 : s2.size = s1.size + 1 := by rw [hs2]; rfl
  obtain ⟨pp, hpp⟩ : ∃ pp, pp = s1.size := ⟨_, rfl⟩
  rw [← hpp] at nw2 b2
  have z1 := g1.2.1
  obtain ⟨s3, hs3⟩ : ∃ s3, s3 = s2.set pp (.cells true (cP polD)) := ⟨_, rfl⟩
  have st3 := store6 (p := polD) b2 rfl
  rw [← hs3] at st3
  have b3 : s3.get pp = some (.cells true (cP polD)) := by rw [hs3]; exact St.get_set_same _ _ _
  have agg : asAggT (aFill [.int .i64 0, .int .i64 0, .int .i64 0, .int .i64 0] [(0, 1, I .i64 x), (1, 1, I .i64 y), (2, 1, I .i64 z), (3, 1, (I .i64 0))]) = some (.v (.agg [.int .i64 x, .int .i64 y, .int .i64 z, .int .i64 0])) := rfl
  obtain ⟨P, hP⟩ : ∃ P : Pol, P = ⟨x, y, z, 0, 8, 30⟩ := ⟨_, rfl⟩
  obtain ⟨Q, hQ⟩ : ∃ Q : Pol, Q = ⟨x, y, z, 100, 8, 30⟩ := ⟨_, rfl⟩
  obtain ⟨s4, hs4⟩ : ∃ s4, s4 = s3.set pp (.cells true (cP P)) := ⟨_, rfl⟩
  have st4 : aStore 4 (Z (.ptr pp 0)) (.v (.agg [.int .i64 x, .int .i64 y, .int .i64 z, .int .i64 0])) s3 = some (tt, s4) := by
    rw [hs4, hP]
    simp [aStore, b3, V.cells, cP, setRange, polD]
  have b4 : s4.get pp = some (.cells true (cP P)) := by rw [hs4]; exact St.get_set_same _ _ _
  have z4 : s4.size = s1.size + 1 := by rw [hs4, hs3]; exact z2
  have wf4 : s4.wf := by rw [hs4, hs3]; exact St.wf_set (St.wf_set g2.wf (by omega) _) (by simp; omega) _
  have ld4 := load6 (g := s4.get) b4
  have t4 : Tab s4 := by
    unfold Tab
    rw [hs4, St.get_set_ne _ _ (by omega), hs3, St.get_set_ne _ _ (by omega), g2.2.2 0 (by omega), g1.2.2 0 (by omega)]
    exact t0
  obtain ⟨s5, hs5⟩ : ∃ s5, s5 = s4.push (.cells true (cP pol0)) := ⟨_, rfl⟩
  have nw5 : aNew s4 (nCells [.int .i64 0, .int .i64 0, .int .i64 0, .int .i64 0, .int .i64 0, .int .i64 0]) = some (Z (.ptr s4.size 0), s5) := by rw [hs5]; rfl
  have b5 : s5.get s4.size = some (.cells true (cP pol0)) := by rw [hs5]; exact St.get_push_same _ _
  obtain ⟨qq, hqq⟩ : ∃ qq, qq = s4.size := ⟨_, rfl⟩
  rw [← hqq] at nw5 b5
  obtain ⟨s6, hs6⟩ : ∃ s6, s6 = s5.set qq (.cells true (cP P)) := ⟨_, rfl⟩
  have st6 := store6 (p := P) b5 rfl
  rw [← hs6] at st6
  have b6 : s6.get qq = some (.cells true (cP P)) := by rw [hs6]; exact St.get_set_same _ _ _
  obtain ⟨s7, hs7⟩ : ∃ s7, s7 = s6.set qq (.cells true (cP Q)) := ⟨_, rfl⟩
  have ia3 : aIndexArr 4 1 (Z (.ptr qq 0)) (I .i64 3) = some (Z (.ptr qq 3)) := rfl
  have st7 : aStore 1 (Z (.ptr qq 3)) (I .i64 100) s6 = some (tt, s7) := by
    rw [hs7, aStore1_of b6 (by simp [cP]), hP, hQ]
    rfl
  have z5 : s5.size = qq + 1 := by rw [hs5, hqq]; rfl
  have z7 : s7.size = qq + 1 := by rw [hs7, hs6]; exact z5
  have wf7 : s7.wf := by rw [hs7, hs6, hs5]; exact St.wf_set (St.wf_set (St.wf_push wf4 _) (by simp; omega) _) (by simp; omega) _
  have o7 : ∀ q, q < qq → s7.get q = s4.get q := fun q hq => by rw [hs7, St.get_set_ne _ _ (by omega), hs6, St.get_set_ne _ _ (by omega), hs5, St.get_push_ne _ _ (by omega)]
  have b7 : s7.get qq = some (.cells true (cP Q)) := by rw [hs7]; exact St.get_set_same _ _ _
  have b7p : s7.get pp = some (.cells true (cP P)) := by rw [o7 pp (by omega)]; exact b4
  have t7 : Tab s7 := by unfold Tab; rw [o7 0 (by omega)]; exact t4
  have ld7 := load6 (g := s7.get) b7p
  obtain ⟨s8, e8, g8⟩ := print_run 9 wf7 t7 P
  have z8 := g8.2.1
  have t8 : Tab s8 := by unfold Tab; rw [g8.2.2 0 (by omega)]; exact t7
  have told := told5_run 10 t8
  have b8p : s8.get pp = some (.cells true (cP P)) := by rw [g8.2.2 pp (by omega)]; exact b7p
  have b8 : s8.get qq = some (.cells true (cP Q)) := by rw [g8.2.2 qq (by omega)]; exact b7
  have ld8 := load6 (g := s8.get) b8p
  obtain ⟨s9, e9, g9⟩ := may_run 10 g8.wf P
  have b9 : s9.get qq = some (.cells true (cP Q)) := by rw [g9.2.2 qq (by omega)]; exact b8
  have ld9 := load6 (g := s9.get) b9
  obtain ⟨s10, e10, g10⟩ := may_run 10 g9.wf Q
  have hmq : mayP Q = false := by rw [hQ]; exact may_last x y z
  have hmp : mayP P = decide ((y = 0 ∨ (x ≤ y ∧ x ≠ 0)) ∧ (z = 0 ∨ (y ≤ z ∧ y ≠ 0))) := by rw [hP]; exact may_small x y z hx0 hx1 hy0 hy1 hz0 hz1
  rw [hmq] at e10
  obtain ⟨len, hlen⟩ := print_pos P
  refine ⟨s10, ?_⟩
  simp only [Nat.reduceAdd] at e1 e8 told e9 e10
  have cl : (0 : Int) < (len : Int) + 1 := by omega
  generalize R 11 = r at *
  by_cases c1 : x = 0 <;> by_cases c2 : y = 0 <;> by_cases c3 : z = 0 <;> by_cases c4 : y < x <;> by_cases c5 : z < y <;> (first | have d1 := decide_eq_false c1 | have d1 := decide_eq_true c1) <;> (first | have d2 := decide_eq_false c2 | have d2 := decide_eq_true c2) <;> (first | have d3 := decide_eq_false c3 | have d3 := decide_eq_true c3) <;> (first | have d4 := decide_eq_false c4 | have d4 := decide_eq_true c4) <;> (first | have d5 := decide_eq_false c5 | have d5 := decide_eq_true c5) <;> first
    | (exfalso; omega)
    | (have hm : mayP P = true := by rw [hmp]; exact decide_eq_true (by omega)
       rw [hm] at e8 e9
       simp [h1, h2, h3, h4, h5, h6, e1, nw2, st3, agg, st4, d1, d2, d3, d4, d5, ld4, nw5, st6, ia3, st7, ld7, e8, aExtract, gtt, told, ld8, e9, ld9, e10, hlen, cl])
    | (have hm : mayP P = false := by rw [hmp]; exact decide_eq_false (by omega)
       rw [hm] at e8 e9
       simp [h1, h2, h3, h4, h5, h6, e1, nw2, st3, agg, st4, d1, d2, d3, d4, d5, ld4, nw5, st6, ia3, st7, ld7, e8, aExtract, gtt, told, ld8, e9, ld9, e10])
end Go.Proofs.YtkifcchcofdkaaaDoor


/-
  Functions of the library in this program, as the kit lays them. No conditions.
-/
namespace Go.Proofs
open Go.Shelf
def Tryd.lays156_ren : Go.Shelf.Ren := ⟨fun | 156 => 19 | 165 => 27 | 166 => 14 | 169 => 16 | 240 => 23 | 241 => 39 | 276 => 34 | 277 => 54 | n => n, fun | 31 => 36 | 9 => 9 | 3 => 3 | 4 => 4 | 0 => 0 | 20 => 20 | 72 => 41 | 76 => 46 | 70 => 38 | 37 => 39 | 75 => 45 | 127 => 57 | 164 => 68 | 5 => 5 | 80 => 49 | n => n, fun | n => n⟩
theorem Tryd.lays156 : Go.Proofs.Lays.n156 Tryd.prog Tryd.lays156_ren := {
  mixed := by kernel_rfl
  f156 := Tryd.func19.trans (congrArg some (by kernel_rfl))
  f165 := Tryd.func27.trans (congrArg some (by kernel_rfl))
  f166 := Tryd.func14.trans (congrArg some (by kernel_rfl))
  f169 := Tryd.func16.trans (congrArg some (by kernel_rfl))
  f240 := Tryd.func23.trans (congrArg some (by kernel_rfl))
  f241 := Tryd.func39.trans (congrArg some (by kernel_rfl))
  f276 := Tryd.func34.trans (congrArg some (by kernel_rfl))
  f277 := Tryd.func54.trans (congrArg some (by kernel_rfl))
  t0 := Tryd.underlying0
  a0 := Tryd.isAgg0
  z0 := Tryd.sizeOf0
  v0 := Tryd.zeroValue0
  t3 := Tryd.underlying3
  a3 := Tryd.isAgg3
  z3 := Tryd.sizeOf3
  v3 := Tryd.zeroValue3
  t4 := Tryd.underlying4
  a4 := Tryd.isAgg4
  z4 := Tryd.sizeOf4
  v4 := Tryd.zeroValue4
  t9 := Tryd.underlying9
  a9 := Tryd.isAgg9
  z9 := Tryd.sizeOf9
  v9 := Tryd.zeroValue9
  t20 := Tryd.underlying20
  a20 := Tryd.isAgg20
  z20 := Tryd.sizeOf20
  v20 := Tryd.zeroValue20
  t31 := Tryd.underlying36
  a31 := Tryd.isAgg36
  z31 := Tryd.sizeOf36
  v31 := Tryd.zeroValue36
  t37 := Tryd.underlying39
  a37 := Tryd.isAgg39
  z37 := Tryd.sizeOf39
  v37 := Tryd.zeroValue39
  t70 := Tryd.underlying38
  a70 := Tryd.isAgg38
  z70 := Tryd.sizeOf38
  v70 := Tryd.zeroValue38
  t72 := Tryd.underlying41
  a72 := Tryd.isAgg41
  z72 := Tryd.sizeOf41
  v72 := Tryd.zeroValue41
  t75 := Tryd.underlying45
  a75 := Tryd.isAgg45
  z75 := Tryd.sizeOf45
  v75 := Tryd.zeroValue45
  t76 := Tryd.underlying46
  a76 := Tryd.isAgg46
  z76 := Tryd.sizeOf46
  v76 := Tryd.zeroValue46
  t127 := Tryd.underlying57
  a127 := Tryd.isAgg57
  z127 := Tryd.sizeOf57
  v127 := Tryd.zeroValue57
  t164 := Tryd.underlying68
  a164 := Tryd.isAgg68
  z164 := Tryd.sizeOf68
  v164 := Tryd.zeroValue68 }
theorem Tryd.Builder_Extra_156 : Builder.Extra Tryd.prog Tryd.lays156_ren := {
  sizeBuilder := by kernel_rfl
  liesBuilder := by kernel_rfl
  t5 := Tryd.underlying5
  a5 := Tryd.isAgg5
  z5 := Tryd.sizeOf5
  v5 := Tryd.zeroValue5
  infoByte := by kernel_rfl
  cellsByte := by kernel_rfl
  sizeByte := by kernel_rfl
  neB5 := by decide }
open Go.RowKit in
theorem Tryd.strings_Join_none (a : Option Addr) (c : Nat) (sep : ByteArray) (w : World) :
    Calls Tryd.prog 19 #[.slice a 0 c, .string sep] w fun e w' => e = .returned (.string ⟨#[]⟩) ∧ w' = w := Any.strings_Join_none Tryd.lays156 Tryd.Builder_Extra_156 a c sep w
open Go.RowKit in
theorem Tryd.strings_Join (bk o c : Nat) (xs : List ByteArray) (sep : ByteArray) (w : World) (hcells : ∀ (j : Nat) x, xs[j]? = some x → w.cell? ⟨bk, o + j, none⟩ = some (.string x)) (hbk : bk < w.heap.size) (hN : xs.length ≤ 140737488355328) (hcap : xs.length ≤ c) (hlen : (Lib.join (xs.map (·.data.toList)) sep.data.toList).length ≤ 140737488355328) :
    Calls Tryd.prog 19 #[.slice (some ⟨bk, o, none⟩) xs.length c, .string sep] w fun e w' => e = .returned (.string ⟨(Lib.join (xs.map (·.data.toList)) sep.data.toList).toArray⟩) ∧ Below w.heap.size w w' := Any.strings_Join Tryd.lays156 Tryd.Builder_Extra_156 bk o c xs sep w hcells hbk hN hcap hlen
def Tryd.laysM171_ren : Go.Shelf.Ren := ⟨fun | 171 => 15 | 243 => 24 | 246 => 22 | 283 => 30 | 284 => 31 | 285 => 32 | 286 => 33 | 129 => 43 | 317 => 42 | 318 => 44 | 319 => 45 | 320 => 46 | 337 => 64 | 338 => 65 | n => n, fun | 3 => 3 | 9 => 9 | 2 => 2 | 4 => 4 | 171 => 63 | 0 => 0 | 53 => 32 | 37 => 39 | 5 => 5 | 173 => 66 | 212 => 77 | 51 => 78 | 20 => 20 | 213 => 79 | 46 => 22 | 232 => 106 | 233 => 107 | n => n, fun | 17 => 0 | 18 => 2 | 19 => 3 | n => n⟩
theorem Tryd.laysM171 : Go.Proofs.LaysM.n171 Tryd.prog Tryd.laysM171_ren := {
  mixed := by kernel_rfl
  f129 := Tryd.func43.trans (congrArg some (by kernel_rfl))
  f171 := Tryd.func15.trans (congrArg some (by kernel_rfl))
  f243 := Tryd.func24.trans (congrArg some (by kernel_rfl))
  f246 := Tryd.func22.trans (congrArg some (by kernel_rfl))
  f283 := Tryd.func30.trans (congrArg some (by kernel_rfl))
  f284 := Tryd.func31.trans (congrArg some (by kernel_rfl))
  f285 := Tryd.func32.trans (congrArg some (by kernel_rfl))
  f286 := Tryd.func33.trans (congrArg some (by kernel_rfl))
  f317 := Tryd.func42.trans (congrArg some (by kernel_rfl))
  f318 := Tryd.func44.trans (congrArg some (by kernel_rfl))
  f319 := Tryd.func45.trans (congrArg some (by kernel_rfl))
  f320 := Tryd.func46.trans (congrArg some (by kernel_rfl))
  f337 := Tryd.func64.trans (congrArg some (by kernel_rfl))
  f338 := Tryd.func65.trans (congrArg some (by kernel_rfl))
  t0 := Tryd.underlying0
  a0 := Tryd.isAgg0
  z0 := Tryd.sizeOf0
  v0 := Tryd.zeroValue0
  t2 := Tryd.underlying2
  a2 := Tryd.isAgg2
  z2 := Tryd.sizeOf2
  v2 := Tryd.zeroValue2
  t3 := Tryd.underlying3
  a3 := Tryd.isAgg3
  z3 := Tryd.sizeOf3
  v3 := Tryd.zeroValue3
  t4 := Tryd.underlying4
  a4 := Tryd.isAgg4
  z4 := Tryd.sizeOf4
  v4 := Tryd.zeroValue4
  t5 := Tryd.underlying5
  a5 := Tryd.isAgg5
  z5 := Tryd.sizeOf5
  v5 := Tryd.zeroValue5
  t9 := Tryd.underlying9
  a9 := Tryd.isAgg9
  z9 := Tryd.sizeOf9
  v9 := Tryd.zeroValue9
  t20 := Tryd.underlying20
  a20 := Tryd.isAgg20
  z20 := Tryd.sizeOf20
  v20 := Tryd.zeroValue20
  t37 := Tryd.underlying39
  a37 := Tryd.isAgg39
  z37 := Tryd.sizeOf39
  v37 := Tryd.zeroValue39
  t46 := Tryd.underlying22
  a46 := Tryd.isAgg22
  z46 := Tryd.sizeOf22
  v46 := Tryd.zeroValue22
  t51 := Tryd.underlying78
  a51 := Tryd.isAgg78
  z51 := Tryd.sizeOf78
  v51 := Tryd.zeroValue78
  t53 := Tryd.underlying32
  a53 := Tryd.isAgg32
  z53 := Tryd.sizeOf32
  v53 := Tryd.zeroValue32
  t171 := Tryd.underlying63
  a171 := Tryd.isAgg63
  z171 := Tryd.sizeOf63
  v171 := Tryd.zeroValue63
  t173 := Tryd.underlying66
  a173 := Tryd.isAgg66
  z173 := Tryd.sizeOf66
  v173 := Tryd.zeroValue66
  t212 := Tryd.underlying77
  a212 := Tryd.isAgg77
  z212 := Tryd.sizeOf77
  v212 := Tryd.zeroValue77
  t213 := Tryd.underlying79
  a213 := Tryd.isAgg79
  z213 := Tryd.sizeOf79
  t232 := Tryd.underlying106
  a232 := Tryd.isAgg106
  z232 := Tryd.sizeOf106
  v232 := Tryd.zeroValue106
  t233 := Tryd.underlying107
  a233 := Tryd.isAgg107
  z233 := Tryd.sizeOf107
  v233 := Tryd.zeroValue107
  g17 := by kernel_rfl
  g18 := by kernel_rfl
  g19 := by kernel_rfl
  i0 := by kernel_rfl
  i2 := by kernel_rfl
  i3 := by kernel_rfl
  i4 := by kernel_rfl
  i5 := by kernel_rfl
  i9 := by kernel_rfl
  i20 := by kernel_rfl
  i37 := by kernel_rfl
  i46 := by kernel_rfl
  i51 := by kernel_rfl
  i53 := by kernel_rfl
  i171 := by kernel_rfl
  i173 := by kernel_rfl
  i212 := by kernel_rfl
  i232 := by kernel_rfl
  i233 := by kernel_rfl
  m17 := by kernel_rfl
  m18 := by kernel_rfl
  m19 := by kernel_rfl }
open Go.RowKit Go.Sort Go.Lib in
theorem Tryd.strconv_Itoa (n : Int) (h0 : -9223372036854775808 ≤ n) (h1 : n ≤ 9223372036854775807) (w : World) (htab : Lib.TabIs Tryd.prog w "internal/strconv.uint64pow10" .u64 Lib.pow10Tab) :
    Calls Tryd.prog 15 #[.int .i64 n] w fun e w' => e = .returned (.string ⟨(Lib.itoa n).toArray⟩) ∧ ∃ k os, w' = grow (w.drewN k) os := Any.strconv_Itoa Tryd.laysM171 n h0 h1 w htab
def Tryd.laysM173_ren : Go.Shelf.Ren := ⟨fun | 173 => 13 | 246 => 22 | 283 => 30 | 284 => 31 | 285 => 32 | 286 => 33 | 129 => 43 | 317 => 42 | 318 => 44 | 319 => 45 | 320 => 46 | 337 => 64 | 338 => 65 | n => n, fun | 2 => 2 | 3 => 3 | 9 => 9 | 4 => 4 | 171 => 63 | 0 => 0 | 53 => 32 | 37 => 39 | 5 => 5 | 173 => 66 | 212 => 77 | 51 => 78 | 20 => 20 | 213 => 79 | 46 => 22 | 232 => 106 | 233 => 107 | n => n, fun | 17 => 0 | 18 => 2 | 19 => 3 | n => n⟩
theorem Tryd.laysM173 : Go.Proofs.LaysM.n173 Tryd.prog Tryd.laysM173_ren := {
  mixed := by kernel_rfl
  f129 := Tryd.func43.trans (congrArg some (by kernel_rfl))
  f173 := Tryd.func13.trans (congrArg some (by kernel_rfl))
  f246 := Tryd.func22.trans (congrArg some (by kernel_rfl))
  f283 := Tryd.func30.trans (congrArg some (by kernel_rfl))
  f284 := Tryd.func31.trans (congrArg some (by kernel_rfl))
  f285 := Tryd.func32.trans (congrArg some (by kernel_rfl))
  f286 := Tryd.func33.trans (congrArg some (by kernel_rfl))
  f317 := Tryd.func42.trans (congrArg some (by kernel_rfl))
  f318 := Tryd.func44.trans (congrArg some (by kernel_rfl))
  f319 := Tryd.func45.trans (congrArg some (by kernel_rfl))
  f320 := Tryd.func46.trans (congrArg some (by kernel_rfl))
  f337 := Tryd.func64.trans (congrArg some (by kernel_rfl))
  f338 := Tryd.func65.trans (congrArg some (by kernel_rfl))
  t0 := Tryd.underlying0
  a0 := Tryd.isAgg0
  z0 := Tryd.sizeOf0
  v0 := Tryd.zeroValue0
  t2 := Tryd.underlying2
  a2 := Tryd.isAgg2
  z2 := Tryd.sizeOf2
  v2 := Tryd.zeroValue2
  t3 := Tryd.underlying3
  a3 := Tryd.isAgg3
  z3 := Tryd.sizeOf3
  v3 := Tryd.zeroValue3
  t4 := Tryd.underlying4
  a4 := Tryd.isAgg4
  z4 := Tryd.sizeOf4
  v4 := Tryd.zeroValue4
  t5 := Tryd.underlying5
  a5 := Tryd.isAgg5
  z5 := Tryd.sizeOf5
  v5 := Tryd.zeroValue5
  t9 := Tryd.underlying9
  a9 := Tryd.isAgg9
  z9 := Tryd.sizeOf9
  v9 := Tryd.zeroValue9
  t20 := Tryd.underlying20
  a20 := Tryd.isAgg20
  z20 := Tryd.sizeOf20
  v20 := Tryd.zeroValue20
  t37 := Tryd.underlying39
  a37 := Tryd.isAgg39
  z37 := Tryd.sizeOf39
  v37 := Tryd.zeroValue39
  t46 := Tryd.underlying22
  a46 := Tryd.isAgg22
  z46 := Tryd.sizeOf22
  v46 := Tryd.zeroValue22
  t51 := Tryd.underlying78
  a51 := Tryd.isAgg78
  z51 := Tryd.sizeOf78
  v51 := Tryd.zeroValue78
  t53 := Tryd.underlying32
  a53 := Tryd.isAgg32
  z53 := Tryd.sizeOf32
  v53 := Tryd.zeroValue32
  t171 := Tryd.underlying63
  a171 := Tryd.isAgg63
  z171 := Tryd.sizeOf63
  v171 := Tryd.zeroValue63
  t173 := Tryd.underlying66
  a173 := Tryd.isAgg66
  z173 := Tryd.sizeOf66
  v173 := Tryd.zeroValue66
  t212 := Tryd.underlying77
  a212 := Tryd.isAgg77
  z212 := Tryd.sizeOf77
  v212 := Tryd.zeroValue77
  t213 := Tryd.underlying79
  a213 := Tryd.isAgg79
  z213 := Tryd.sizeOf79
  t232 := Tryd.underlying106
  a232 := Tryd.isAgg106
  z232 := Tryd.sizeOf106
  v232 := Tryd.zeroValue106
  t233 := Tryd.underlying107
  a233 := Tryd.isAgg107
  z233 := Tryd.sizeOf107
  v233 := Tryd.zeroValue107
  g17 := by kernel_rfl
  g18 := by kernel_rfl
  g19 := by kernel_rfl
  i0 := by kernel_rfl
  i2 := by kernel_rfl
  i3 := by kernel_rfl
  i4 := by kernel_rfl
  i5 := by kernel_rfl
  i9 := by kernel_rfl
  i20 := by kernel_rfl
  i37 := by kernel_rfl
  i46 := by kernel_rfl
  i51 := by kernel_rfl
  i53 := by kernel_rfl
  i171 := by kernel_rfl
  i173 := by kernel_rfl
  i212 := by kernel_rfl
  i232 := by kernel_rfl
  i233 := by kernel_rfl
  m17 := by kernel_rfl
  m18 := by kernel_rfl
  m19 := by kernel_rfl }
open Go.RowKit Go.Sort Go.Lib in
theorem Tryd.strconv_FormatInt_10 (n : Int) (h0 : -9223372036854775808 ≤ n) (h1 : n ≤ 9223372036854775807) (w : World) (htab : Lib.TabIs Tryd.prog w "internal/strconv.uint64pow10" .u64 Lib.pow10Tab) :
    Calls Tryd.prog 13 #[.int .i64 n, .int .i64 10] w fun e w' => e = .returned (.string ⟨(Lib.itoa n).toArray⟩) ∧ ∃ k os, w' = grow (w.drewN k) os := Any.strconv_FormatInt_10 Tryd.laysM173 n h0 h1 w htab
def Tryd.lays219_ren : Go.Shelf.Ren := ⟨fun | 219 => 38 | 217 => 50 | 225 => 51 | 224 => 52 | 267 => 53 | 266 => 67 | 314 => 68 | n => n, fun | 9 => 9 | 3 => 3 | 4 => 4 | 5 => 5 | 46 => 22 | 146 => 96 | 51 => 78 | n => n, fun | 1 => 1 | n => n⟩
theorem Tryd.lays219 : Go.Proofs.Lays.n219 Tryd.prog Tryd.lays219_ren := {
  mixed := by kernel_rfl
  f217 := Tryd.func50.trans (congrArg some (by kernel_rfl))
  f219 := Tryd.func38.trans (congrArg some (by kernel_rfl))
  f224 := Tryd.func52.trans (congrArg some (by kernel_rfl))
  f225 := Tryd.func51.trans (congrArg some (by kernel_rfl))
  f266 := Tryd.func67.trans (congrArg some (by kernel_rfl))
  f267 := Tryd.func53.trans (congrArg some (by kernel_rfl))
  f314 := Tryd.func68.trans (congrArg some (by kernel_rfl))
  t3 := Tryd.underlying3
  a3 := Tryd.isAgg3
  z3 := Tryd.sizeOf3
  v3 := Tryd.zeroValue3
  t4 := Tryd.underlying4
  a4 := Tryd.isAgg4
  z4 := Tryd.sizeOf4
  v4 := Tryd.zeroValue4
  t5 := Tryd.underlying5
  a5 := Tryd.isAgg5
  z5 := Tryd.sizeOf5
  v5 := Tryd.zeroValue5
  t9 := Tryd.underlying9
  a9 := Tryd.isAgg9
  z9 := Tryd.sizeOf9
  v9 := Tryd.zeroValue9
  t46 := Tryd.underlying22
  a46 := Tryd.isAgg22
  z46 := Tryd.sizeOf22
  v46 := Tryd.zeroValue22
  t51 := Tryd.underlying78
  a51 := Tryd.isAgg78
  z51 := Tryd.sizeOf78
  v51 := Tryd.zeroValue78
  t146 := Tryd.underlying96
  a146 := Tryd.isAgg96
  z146 := Tryd.sizeOf96
  v146 := Tryd.zeroValue96
  g1 := by kernel_rfl }
open Go.RowKit Go.Lib in
theorem Tryd.stringslite_Index_one (s : ByteArray) (c : UInt8) (w : World) :
    Calls Tryd.prog 38 #[.string s, .string ⟨#[c]⟩] w fun e w' => e = .returned (.int .i64 (Lib.indexByte s.data.toList c)) ∧ w' = w := Any.stringslite_Index_one Tryd.lays219 s c w
def Tryd.lays143_ren : Go.Shelf.Ren := ⟨fun | 143 => 37 | 219 => 38 | 217 => 50 | 225 => 51 | 224 => 52 | 267 => 53 | 266 => 67 | 314 => 68 | n => n, fun | 9 => 9 | 3 => 3 | 4 => 4 | 5 => 5 | 46 => 22 | 146 => 96 | 51 => 78 | n => n, fun | 1 => 1 | n => n⟩
theorem Tryd.lays143 : Go.Proofs.Lays.n143 Tryd.prog Tryd.lays143_ren := {
  mixed := by kernel_rfl
  f143 := Tryd.func37.trans (congrArg some (by kernel_rfl))
  f217 := Tryd.func50.trans (congrArg some (by kernel_rfl))
  f219 := Tryd.func38.trans (congrArg some (by kernel_rfl))
  f224 := Tryd.func52.trans (congrArg some (by kernel_rfl))
  f225 := Tryd.func51.trans (congrArg some (by kernel_rfl))
  f266 := Tryd.func67.trans (congrArg some (by kernel_rfl))
  f267 := Tryd.func53.trans (congrArg some (by kernel_rfl))
  f314 := Tryd.func68.trans (congrArg some (by kernel_rfl))
  t3 := Tryd.underlying3
  a3 := Tryd.isAgg3
  z3 := Tryd.sizeOf3
  v3 := Tryd.zeroValue3
  t4 := Tryd.underlying4
  a4 := Tryd.isAgg4
  z4 := Tryd.sizeOf4
  v4 := Tryd.zeroValue4
  t5 := Tryd.underlying5
  a5 := Tryd.isAgg5
  z5 := Tryd.sizeOf5
  v5 := Tryd.zeroValue5
  t9 := Tryd.underlying9
  a9 := Tryd.isAgg9
  z9 := Tryd.sizeOf9
  v9 := Tryd.zeroValue9
  t46 := Tryd.underlying22
  a46 := Tryd.isAgg22
  z46 := Tryd.sizeOf22
  v46 := Tryd.zeroValue22
  t51 := Tryd.underlying78
  a51 := Tryd.isAgg78
  z51 := Tryd.sizeOf78
  v51 := Tryd.zeroValue78
  t146 := Tryd.underlying96
  a146 := Tryd.isAgg96
  z146 := Tryd.sizeOf96
  v146 := Tryd.zeroValue96
  g1 := by kernel_rfl }
open Go.RowKit Go.Lib in
theorem Tryd.strings_Index_one (s : ByteArray) (c : UInt8) (w : World) :
    Calls Tryd.prog 37 #[.string s, .string ⟨#[c]⟩] w fun e w' => e = .returned (.int .i64 (Lib.indexByte s.data.toList c)) ∧ w' = w := Any.strings_Index_one Tryd.lays143 s c w
def Tryd.lays138_ren : Go.Shelf.Ren := ⟨fun | 138 => 36 | 195 => 47 | 218 => 49 | 143 => 37 | 219 => 38 | 217 => 50 | 225 => 51 | 224 => 52 | 267 => 53 | 266 => 67 | 314 => 68 | n => n, fun | 9 => 9 | 3 => 3 | 4 => 4 | 5 => 5 | 0 => 0 | 46 => 22 | 146 => 96 | 51 => 78 | n => n, fun | 1 => 1 | n => n⟩
theorem Tryd.lays138 : Go.Proofs.Lays.n138 Tryd.prog Tryd.lays138_ren := {
  mixed := by kernel_rfl
  f138 := Tryd.func36.trans (congrArg some (by kernel_rfl))
  f143 := Tryd.func37.trans (congrArg some (by kernel_rfl))
  f195 := Tryd.func47.trans (congrArg some (by kernel_rfl))
  f217 := Tryd.func50.trans (congrArg some (by kernel_rfl))
  f218 := Tryd.func49.trans (congrArg some (by kernel_rfl))
  f219 := Tryd.func38.trans (congrArg some (by kernel_rfl))
  f224 := Tryd.func52.trans (congrArg some (by kernel_rfl))
  f225 := Tryd.func51.trans (congrArg some (by kernel_rfl))
  f266 := Tryd.func67.trans (congrArg some (by kernel_rfl))
  f267 := Tryd.func53.trans (congrArg some (by kernel_rfl))
  f314 := Tryd.func68.trans (congrArg some (by kernel_rfl))
  t0 := Tryd.underlying0
  a0 := Tryd.isAgg0
  z0 := Tryd.sizeOf0
  v0 := Tryd.zeroValue0
  t3 := Tryd.underlying3
  a3 := Tryd.isAgg3
  z3 := Tryd.sizeOf3
  v3 := Tryd.zeroValue3
  t4 := Tryd.underlying4
  a4 := Tryd.isAgg4
  z4 := Tryd.sizeOf4
  v4 := Tryd.zeroValue4
  t5 := Tryd.underlying5
  a5 := Tryd.isAgg5
  z5 := Tryd.sizeOf5
  v5 := Tryd.zeroValue5
  t9 := Tryd.underlying9
  a9 := Tryd.isAgg9
  z9 := Tryd.sizeOf9
  v9 := Tryd.zeroValue9
  t46 := Tryd.underlying22
  a46 := Tryd.isAgg22
  z46 := Tryd.sizeOf22
  v46 := Tryd.zeroValue22
  t51 := Tryd.underlying78
  a51 := Tryd.isAgg78
  z51 := Tryd.sizeOf78
  v51 := Tryd.zeroValue78
  t146 := Tryd.underlying96
  a146 := Tryd.isAgg96
  z146 := Tryd.sizeOf96
  v146 := Tryd.zeroValue96
  g1 := by kernel_rfl }
open Go.RowKit Go.Lib in
theorem Tryd.strings_Count_one (s : ByteArray) (c : UInt8) (w : World) :
    Calls Tryd.prog 36 #[.string s, .string ⟨#[c]⟩] w fun e w' => e = .returned (.int .i64 (Lib.countByte s.data.toList c)) ∧ w' = w := Any.strings_Count_one Tryd.lays138 s c w
end Go.Proofs


/-
  Parse as one step: its run in an empty store, by what it computes. No conditions.
-/
namespace Go.Proofs.YtkifcchcofdkaaaDoor
open Go Go.Abs Go.Abs.F
set_option linter.unusedVariables false

end Go.Proofs.YtkifcchcofdkaaaDoor


/-
  What our runs ask first is what the program does. No conditions.
-/
namespace Go.Proofs.YtkifcchcofdkaaaDoor
open Go Go.Abs Go.Abs.F
set_option linter.unusedVariables false

theorem prim1_sound : CallSound Tryd.prog prim1 := by
  refine orP_sound (orP_sound (ixP_sound ?_ ?_) (joinP_sound ?_ ?_)) (pureP_sound (runQ_sound noPrim_sound 64 8) _)
  · intro f hf s c w
    have : f = 37 ∨ f = 38 := by simpa [ixs] using hf
    rcases this with rfl | rfl
    · exact Tryd.strings_Index_one s c w
    · exact Tryd.stringslite_Index_one s c w
  · exact fun s c w => Tryd.strings_Count_one s c w
  · exact fun a c sep w => Tryd.strings_Join_none a c sep w
  · exact fun bk o c xs sep w h1 h2 h3 h4 h5 => Tryd.strings_Join bk o c xs sep w h1 h2 h3 h4 h5

theorem bld_sound : CallSound Tryd.prog (bldP 41 5 14 16) :=
  bldP_sound (ρ := Tryd.lays156_ren) (ρ' := Tryd.lays156_ren) { Tryd.lays156 with } { Tryd.lays156 with } Tryd.Builder_Extra_156 Tryd.Builder_Extra_156 rfl rfl
theorem itoa_sound : CallSound Tryd.prog (itoaP 0 13 15) :=
  itoaP_sound (by kernel_rfl) (fun n h0 h1 w ht => Tryd.strconv_FormatInt_10 n h0 h1 w ht) (fun n h0 h1 w ht => Tryd.strconv_Itoa n h0 h1 w ht)

theorem prim3_sound : CallSound Tryd.prog prim3 := orP_sound (orP_sound bld_sound itoa_sound) prim1_sound
theorem prim_sound : CallSound Tryd.prog prim := orP_sound (toldG_sound (runQ_sound prim3_sound 64 16) told5_all) prim3_sound
end Go.Proofs.YtkifcchcofdkaaaDoor

