/-
  Several texts in one: what functions that the law reaches compute. No conditions but those named in each line.
-/
import Derived.Test.YtkifcchcofdkaaaDoorAbsE
import Derived.Test.YtkifcchcofdkaaaDoorAbsD
import Derived.Test.YtkifcchcofdkaaaDoorRows
/-
  What the laws of layer 5 and the functions that they reach compute, printed by a program of our own: each text is by definition the run of the code. No conditions.
-/
namespace Go.Proofs.YtkifcchcofdkaaaDoor
open Go Go.Abs Go.Abs.F
set_option linter.unusedVariables false
noncomputable section
abbrev ixs : List Nat := [37, 38]
abbrev prim0 : CallF := orP (ixP ixs 36) (joinP 19)
abbrev prim1 : CallF := orP prim0 (pureP (runQ Tryd.prog 64 noPrim 8) [57])
abbrev primI : CallF := orP (bldP 41 5 14 16) (itoaP 0 13 15)
abbrev prim3 : CallF := orP primI prim1
abbrev tab0 : St := tabZ 0 .u64 pow10
abbrev Tab (s : St) : Prop := s.get 0 = some (.glob 0 (pow10.map (S.int .u64)))
abbrev prim : CallF := orP (toldG 0 .u64 pow10 9 true) prim3
abbrev R (d : Nat) : CallF := runQ Tryd.prog 8192 prim d
end
end Go.Proofs.YtkifcchcofdkaaaDoor


/-
  What functions that the laws reach compute, printed by a program of our own: each text is by definition the run of the code. No conditions.
-/
namespace Go.Proofs.YtkifcchcofdkaaaDoor
open Go Go.Abs Go.Abs.F
set_option linter.unusedVariables false
noncomputable section
theorem prim_skip {f : Nat} {ts : List T} {σ : St} (h : (!Nat.beq f 9 && !Nat.beq f 14 && !Nat.beq f 16 && !Nat.beq f 13 && !Nat.beq f 15) = true) : prim f ts σ = prim1 f ts σ := by
  simp only [Bool.and_eq_true, Bool.not_eq_true'] at h
  obtain ⟨⟨⟨⟨h1, h2⟩, h3⟩, h4⟩, h5⟩ := h
  have e1 : toldG 0 .u64 pow10 9 true f ts σ = none := by simp [toldG, h1]
  have e2 : bldP 41 5 14 16 f ts σ = none := by simp only [bldP, h2, h3]
  have e3 : itoaP 0 13 15 f ts σ = none := by simp only [itoaP, h4, h5]
  exact (orP_right e1).trans (orP_right ((orP_right e2).trans e3))
theorem prim_ix {f : Nat} {l : Bs} {c : UInt8} {σ : St} (h : (ixs.contains f && !Nat.beq f 9) = true) : prim f [Z (.str l), Z (.str [c])] σ = some (I .i64 (ixB c l 0), σ) := by
  simp only [Bool.and_eq_true, Bool.not_eq_true'] at h
  have hf : f = 37 ∨ f = 38 := by simpa [ixs] using h.1
  rw [prim_skip (by rcases hf with rfl | rfl <;> decide)]
  exact orP_left (orP_left (ixP_at h.1))
theorem prim_cnt {l : Bs} {c : UInt8} {σ : St} : prim 36 [Z (.str l), Z (.str [c])] σ = some (I .i64 (cntB c l : Nat), σ) := by
  rw [prim_skip (by decide)]
  exact orP_left (orP_left (ixP_cnt (by decide)))
theorem prim_join {x : S} {l : List Bs} {sep : Bs} {σ : St} (h : RT σ x l) (hb : totalLen l + l.length * sep.length ≤ 1000000) (hl : l.length ≤ 1000000) : prim 19 [Z x, Z (.str sep)] σ = some (Z (.str (joinB sep l)), σ) := by
  rw [prim_skip (by decide)]
  have e3 : ixP ixs 36 19 [Z x, Z (.str sep)] σ = none := by
    have h1 : ixs.contains 19 = false := by decide
    have h2 : Nat.beq 19 36 = false := by decide
    simp only [ixP, h1, h2]
  exact orP_left ((orP_right e3).trans (joinP_at h hb hl))
theorem prim_set (σ : St) : prim 57 [Z (.str [48, 49, 50, 51, 52, 53, 54, 55, 56, 57])] σ = some (.tup [.agg ((List.range 256).map fun c => S.bool (Nat.ble 48 c && Nat.ble c 57)), .s (.bool true)], σ) := by
  rw [prim_skip (by decide)]
  have h0 : prim0 57 [Z (.str [48, 49, 50, 51, 52, 53, 54, 55, 56, 57])] σ = none := by
    have h1 : ixs.contains 57 = false := by decide
    have h2 : Nat.beq 57 36 = false := by decide
    have h3 : Nat.beq 57 19 = false := by decide
    simp only [prim0, orP, ixP, h1, h2, joinP, h3]
  exact (orP_right h0).trans (pureP_val (by decide) (by kernel_rfl) (by kernel_rfl))
theorem prim_fmt {n : Int} {σ : St} (h : i64B n = true) (ht : Tab σ) : prim 13 [I .i64 n, I .i64 10] σ = some (Z (.str (itoaF n)), σ) := by
  have e1 : toldG 0 .u64 pow10 9 true 13 [I .i64 n, I .i64 10] σ = none := by
    have h1 : Nat.beq 13 9 = false := by decide
    simp [toldG, h1]
  have e2 : bldP 41 5 14 16 13 [I .i64 n, I .i64 10] σ = none := by
    have h2 : Nat.beq 13 14 = false := by decide
    have h3 : Nat.beq 13 16 = false := by decide
    simp only [bldP, h2, h3]
  exact (orP_right e1).trans (orP_left ((orP_right e2).trans (itoaP_fmt h ht)))
theorem prim_itoa {n : Int} {σ : St} (h : i64B n = true) (ht : Tab σ) : prim 15 [I .i64 n] σ = some (Z (.str (itoaF n)), σ) := by
  have e1 : toldG 0 .u64 pow10 9 true 15 [I .i64 n] σ = none := by
    have h1 : Nat.beq 15 9 = false := by decide
    simp [toldG, h1]
  have e2 : bldP 41 5 14 16 15 [I .i64 n] σ = none := by
    have h2 : Nat.beq 15 14 = false := by decide
    have h3 : Nat.beq 15 16 = false := by decide
    simp only [bldP, h2, h3]
  exact (orP_right e1).trans (orP_left ((orP_right e2).trans (itoaP_int (by decide) h ht)))
theorem prim_bld {f : Nat} {ts : List T} {σ : St} {r : T × St} (hf : Nat.beq f 9 = false) (h : bldP 41 5 14 16 f ts σ = some r) : prim f ts σ = some r := by
  have e1 : toldG 0 .u64 pow10 9 true f ts σ = none := by simp [toldG, hf]
  exact (orP_right e1).trans (orP_left (orP_left h))
set_option maxRecDepth 100000 in
theorem told5_all : gave true (runQ Tryd.prog 64 prim3 16 9 [] tab0) = true := by kernel_rfl
theorem told5_run (d : Nat) {s : St} (ht : Tab s) : R (d + 1) 9 [] s = some (B true, s) := runQ_prim (orP_left (toldG_of ht))
end
end Go.Proofs.YtkifcchcofdkaaaDoor


/-
  What functions that the laws reach compute, printed by a program of our own: each text is by definition the run of the code. No conditions.
-/
namespace Go.Proofs.YtkifcchcofdkaaaDoor
open Go Go.Abs Go.Abs.F
set_option linter.unusedVariables false
noncomputable section
/- strings.Split -/
def f17 (callf : CallF) (N : Nat) (a0 : T) (a1 : T) (s : St) : Option (T × St) :=
  bd2 (callf 25 [a0, a1, (I .i64 0), (I .i64 (-1))] s) fun t7 s1 =>
  some (t7, s1)

theorem f17_eq (callf : CallF) (N : Nat) (a0 : T) (a1 : T) (s : St) : bodyC Tryd.prog callf N Tryd.f17 [a0, a1] s = f17 callf N a0 a1 s := by kernel_rfl

theorem f17_run (d : Nat) (a0 : T) (a1 : T) (s : St) : R (d + 1) 17 [a0, a1] s = f17 (R d) 8192 a0 a1 s := (runQ_body rfl Tryd.func17 (by kernel_rfl)).trans (f17_eq ..)

/- strings.genSplit: a loop; 0: t0 s, 1: t1 sep, 2: t2 sepSave, 3: t3 n, 4: t9 a, 5: t10 i -/
def f25_l1 (callf : CallF) (N : Nat) (v : List T) (s : St) : Option (JO × St) :=
  bd (aBin .lss (v.getD 5 .any) (v.getD 3 .any)) fun t36 =>
  br t36 (jn (bd2 (callf 37 [(v.getD 0 .any), (v.getD 1 .any)] s) fun t39 s8 =>
  bd (aBin .lss t39 (I .i64 0)) fun t41 =>
  br t41 (some (.exit 0 [(v.getD 0 .any), (v.getD 4 .any), (v.getD 5 .any)], s8))
  (bd (aBin .add t39 (v.getD 2 .any)) fun t47 =>
  bd (aPieceStr (v.getD 0 .any) none (some t47) none) fun t48 =>
  bd (aIndexSl 1 (v.getD 4 .any) (v.getD 5 .any)) fun t49 =>
  bd2 (aStore 1 t49 t48 s8) fun _ s9 =>
  bd (aLenStr (v.getD 1 .any)) fun t53 =>
  bd (aBin .add t39 t53) fun t54 =>
  bd (aPieceStr (v.getD 0 .any) (some t54) none none) fun t55 =>
  bd (aBin .add (v.getD 5 .any) (I .i64 1)) fun t57 =>
  some (.normal [t55, (v.getD 1 .any), (v.getD 2 .any), (v.getD 3 .any), (v.getD 4 .any), t57], s9)))
  (fun v10 s11 => some (.normal [(v10.getD 0 .any), (v10.getD 1 .any), (v10.getD 2 .any), (v10.getD 3 .any), (v10.getD 4 .any), (v10.getD 5 .any)], s11))
  (fun i12 v10 s11 => some (.exit i12 v10, s11))
  (fun r13 s11 => some (.ret r13, s11)))
  (some (.exit 0 [(v.getD 0 .any), (v.getD 4 .any), (v.getD 5 .any)], s))

/- strings.genSplit -/
def f25 (callf : CallF) (N : Nat) (a0 : T) (a1 : T) (a2 : T) (a3 : T) (s : St) : Option (T × St) :=
  bd (aBin .eql a3 (I .i64 0)) fun t13 =>
  br t13 (some ((Z .nils), s))
  (bd (aBin .eql a1 (Z (.str []))) fun t15 =>
  br t15 (bd2 (callf 35 [a0, a3] s) fun t18 s1 =>
  some (t18, s1))
  (bd (aBin .lss a3 (I .i64 0)) fun t20 =>
  jn (br t20 (bd2 (callf 36 [a0, a1] s) fun t23 s2 =>
  bd (aBin .add t23 (I .i64 1)) fun t24 =>
  some (.normal [a0, a1, a2, t24], s2))
  (some (.normal [a0, a1, a2, a3], s)))
  (fun v3 s4 => bd (aLenStr (v3.getD 0 .any)) fun t27 =>
  bd (aBin .add t27 (I .i64 1)) fun t28 =>
  bd (aFold aMin2 (v3.getD 3 .any) [t28]) fun t29 =>
  bd2 (aNew s4 (nMake 1 16 [.str []] t29 t29)) fun t31 s7 =>
  bd (aBin .sub t29 (I .i64 1)) fun t33 =>
  jn (jn (loops (f25_l1 callf N) N [(v3.getD 0 .any), (v3.getD 1 .any), (v3.getD 2 .any), t33, t31, (I .i64 0)] s7)
  (fun v14 s15 => some (.normal [.any, .any, .any], s15))
  (fun i16 v14 s15 => if i16 = 0 then some (.normal v14, s15) else some (.exit i16 v14, s15))
  (fun r17 s15 => some (.ret r17, s15)))
  (fun v18 s19 => bd (aIndexSl 1 (v18.getD 1 .any) (v18.getD 2 .any)) fun t61 =>
  bd2 (aStore 1 t61 (v18.getD 0 .any) s19) fun _ s22 =>
  bd (aBin .add (v18.getD 2 .any) (I .i64 1)) fun t64 =>
  bd (aPieceSl 1 (v18.getD 1 .any) none (some t64) none) fun t65 =>
  some (t65, s22))
  (fun i20 v18 s19 => none)
  (fun r21 s19 => some (r21, s19)))
  (fun i5 v3 s4 => none)
  (fun r6 s4 => some (r6, s4))))

theorem f25_eq (callf : CallF) (N : Nat) (a0 : T) (a1 : T) (a2 : T) (a3 : T) (s : St) : bodyC Tryd.prog callf N Tryd.f25 [a0, a1, a2, a3] s = f25 callf N a0 a1 a2 a3 s := by kernel_rfl

theorem f25_run (d : Nat) (a0 : T) (a1 : T) (a2 : T) (a3 : T) (s : St) : R (d + 1) 25 [a0, a1, a2, a3] s = f25 (R d) 8192 a0 a1 a2 a3 s := (runQ_body rfl Tryd.func25 (by kernel_rfl)).trans (f25_eq ..)

/- strings.Cut -/
def f18 (callf : CallF) (N : Nat) (a0 : T) (a1 : T) (s : St) : Option (T × St) :=
  bd2 (callf 26 [a0, a1] s) fun t9 s1 =>
  bd (aExtract t9 0) fun t10 =>
  bd (aExtract t9 1) fun t11 =>
  bd (aExtract t9 2) fun t12 =>
  bd (retT [t10, t11, t12]) fun r2 =>
  some (r2, s1)

theorem f18_eq (callf : CallF) (N : Nat) (a0 : T) (a1 : T) (s : St) : bodyC Tryd.prog callf N Tryd.f18 [a0, a1] s = f18 callf N a0 a1 s := by kernel_rfl

theorem f18_run (d : Nat) (a0 : T) (a1 : T) (s : St) : R (d + 1) 18 [a0, a1] s = f18 (R d) 8192 a0 a1 s := (runQ_body rfl Tryd.func18 (by kernel_rfl)).trans (f18_eq ..)

/- internal/stringslite.Cut -/
def f26 (callf : CallF) (N : Nat) (a0 : T) (a1 : T) (s : St) : Option (T × St) :=
  bd2 (callf 38 [a0, a1] s) fun t10 s1 =>
  bd (aBin .geq t10 (I .i64 0)) fun t12 =>
  br t12 (bd (aPieceStr a0 none (some t10) none) fun t15 =>
  bd (aLenStr a1) fun t19 =>
  bd (aBin .add t10 t19) fun t20 =>
  bd (aPieceStr a0 (some t20) none none) fun t21 =>
  bd (retT [t15, t21, (B true)]) fun r2 =>
  some (r2, s1))
  (bd (retT [a0, (Z (.str [])), (B false)]) fun r3 =>
  some (r3, s1))

theorem f26_eq (callf : CallF) (N : Nat) (a0 : T) (a1 : T) (s : St) : bodyC Tryd.prog callf N Tryd.f26 [a0, a1] s = f26 callf N a0 a1 s := by kernel_rfl

theorem f26_run (d : Nat) (a0 : T) (a1 : T) (s : St) : R (d + 1) 26 [a0, a1] s = f26 (R d) 8192 a0 a1 s := (runQ_body rfl Tryd.func26 (by kernel_rfl)).trans (f26_eq ..)

/- slices.Index[[]string,string]: a loop; 0: t0 s, 1: t1 v, 2: t7 , 3: t8  -/
def f29_l1 (callf : CallF) (N : Nat) (v : List T) (s : St) : Option (JO × St) :=
  bd (aBin .lss (v.getD 3 .any) (v.getD 2 .any)) fun t9 =>
  br t9 (jn (bd (aIndexSl 1 (v.getD 0 .any) (v.getD 3 .any)) fun t14 =>
  bd (aLoad1 t14 s.get) fun t15 =>
  bd (aBin .eql (v.getD 1 .any) t15) fun t16 =>
  br t16 (some (.ret (v.getD 3 .any), s))
  (some (.normal [(v.getD 0 .any), (v.getD 1 .any), (v.getD 2 .any), (v.getD 3 .any)], s)))
  (fun v1 s2 => bd (aBin .add (v1.getD 3 .any) (I .i64 1)) fun t18 =>
  some (.normal [(v1.getD 0 .any), (v1.getD 1 .any), (v1.getD 2 .any), t18], s2))
  (fun i3 v1 s2 => some (.exit i3 v1, s2))
  (fun r4 s2 => some (.ret r4, s2)))
  (some (.exit 0 [], s))

/- slices.Index[[]string,string] -/
def f29 (callf : CallF) (N : Nat) (a0 : T) (a1 : T) (s : St) : Option (T × St) :=
  bd (aLenSl a0) fun t7 =>
  jn (jn (loops (f29_l1 callf N) N [a0, a1, t7, (I .i64 0)] s)
  (fun v5 s6 => some (.normal [], s6))
  (fun i7 v5 s6 => if i7 = 0 then some (.normal v5, s6) else some (.exit i7 v5, s6))
  (fun r8 s6 => some (.ret r8, s6)))
  (fun v9 s10 => some ((I .i64 (-1)), s10))
  (fun i11 v9 s10 => none)
  (fun r12 s10 => some (r12, s10))

theorem f29_eq (callf : CallF) (N : Nat) (a0 : T) (a1 : T) (s : St) : bodyC Tryd.prog callf N Tryd.f29 [a0, a1] s = f29 callf N a0 a1 s := by kernel_rfl

theorem f29_run (d : Nat) (a0 : T) (a1 : T) (s : St) : R (d + 1) 29 [a0, a1] s = f29 (R d) 8192 a0 a1 s := (runQ_body rfl Tryd.func29 (by kernel_rfl)).trans (f29_eq ..)

/- slices.Contains[[]string,string] -/
def f21 (callf : CallF) (N : Nat) (a0 : T) (a1 : T) (s : St) : Option (T × St) :=
  bd2 (callf 29 [a0, a1] s) fun t7 s1 =>
  bd (aBin .geq t7 (I .i64 0)) fun t8 =>
  some (t8, s1)

theorem f21_eq (callf : CallF) (N : Nat) (a0 : T) (a1 : T) (s : St) : bodyC Tryd.prog callf N Tryd.f21 [a0, a1] s = f21 callf N a0 a1 s := by kernel_rfl

theorem f21_run (d : Nat) (a0 : T) (a1 : T) (s : St) : R (d + 1) 21 [a0, a1] s = f21 (R d) 8192 a0 a1 s := (runQ_body rfl Tryd.func21 (by kernel_rfl)).trans (f21_eq ..)

/- strings.Trim -/
def f40 (callf : CallF) (N : Nat) (a0 : T) (a1 : T) (s : St) : Option (T × St) :=
  bd (aBin .eql a0 (Z (.str []))) fun t8 =>
  bd (gT (gd t8 false) (some a1)) fun t10 =>
  bd (gT (gd t8 false) (aBin .eql t10 (Z (.str [])))) fun t11 =>
  bd (aPick t8 (B true) t11) fun t12 =>
  br t12 (some (a0, s))
  (bd (aLenStr a1) fun t15 =>
  bd (aBin .eql t15 (I .i64 1)) fun t16 =>
  bd (gT (gd t16 true) (some a1)) fun t18 =>
  bd (gT (gd t16 true) (aAtStr t18 (I .i64 0))) fun t19 =>
  bd (gT (gd t16 true) (aBin .lss t19 (I .u8 128))) fun t20 =>
  bd (aPick t16 t20 (B false)) fun t21 =>
  br t21 (bd (aAtStr a1 (I .i64 0)) fun t24 =>
  bd2 (callf 56 [a0, t24] s) fun t25 s1 =>
  bd (aAtStr a1 (I .i64 0)) fun t27 =>
  bd2 (callf 55 [t25, t27] s1) fun t28 s2 =>
  some (t28, s2))
  (bd2 (callf 57 [a1] s) fun t31 s3 =>
  bd (aExtract t31 0) fun t32 =>
  bd (aExtract t31 1) fun t33 =>
  bd2 (aNew s3 (nCells [.bool false, .bool false, .bool false, .bool false, .bool false, .bool false, .bool false, .bool false, .bool false, .bool false, .bool false, .bool false, .bool false, .bool false, .bool false, .bool false, .bool false, .bool false, .bool false, .bool false, .bool false, .bool false, .bool false, .bool false, .bool false, .bool false, .bool false, .bool false, .bool false, .bool false, .bool false, .bool false, .bool false, .bool false, .bool false, .bool false, .bool false, .bool false, .bool false, .bool false, .bool false, .bool false, .bool false, .bool false, .bool false, .bool false, .bool false, .bool false, .bool false, .bool false, .bool false, .bool false, .bool false, .bool false, .bool false, .bool false, .bool false, .bool false, .bool false, .bool false, .bool false, .bool false, .bool false, .bool false, .bool false, .bool false, .bool false, .bool false, .bool false, .bool false, .bool false, .bool false, .bool false, .bool false, .bool false, .bool false, .bool false, .bool false, .bool false, .bool false, .bool false, .bool false, .bool false, .bool false, .bool false, .bool false, .bool false, .bool false, .bool false, .bool false, .bool false, .bool false, .bool false, .bool false, .bool false, .bool false, .bool false, .bool false, .bool false, .bool false, .bool false, .bool false, .bool false, .bool false, .bool false, .bool false, .bool false, .bool false, .bool false, .bool false, .bool false, .bool false, .bool false, .bool false, .bool false, .bool false, .bool false, .bool false, .bool false, .bool false, .bool false, .bool false, .bool false, .bool false, .bool false, .bool false, .bool false, .bool false, .bool false, .bool false, .bool false, .bool false, .bool false, .bool false, .bool false, .bool false, .bool false, .bool false, .bool false, .bool false, .bool false, .bool false, .bool false, .bool false, .bool false, .bool false, .bool false, .bool false, .bool false, .bool false, .bool false, .bool false, .bool false, .bool false, .bool false, .bool false, .bool false, .bool false, .bool false, .bool false, .bool false, .bool false, .bool false, .bool false, .bool false, .bool false, .bool false, .bool false, .bool false, .bool false, .bool false, .bool false, .bool false, .bool false, .bool false, .bool false, .bool false, .bool false, .bool false, .bool false, .bool false, .bool false, .bool false, .bool false, .bool false, .bool false, .bool false, .bool false, .bool false, .bool false, .bool false, .bool false, .bool false, .bool false, .bool false, .bool false, .bool false, .bool false, .bool false, .bool false, .bool false, .bool false, .bool false, .bool false, .bool false, .bool false, .bool false, .bool false, .bool false, .bool false, .bool false, .bool false, .bool false, .bool false, .bool false, .bool false, .bool false, .bool false, .bool false, .bool false, .bool false, .bool false, .bool false, .bool false, .bool false, .bool false, .bool false, .bool false, .bool false, .bool false, .bool false, .bool false, .bool false, .bool false, .bool false, .bool false, .bool false, .bool false, .bool false, .bool false, .bool false, .bool false, .bool false, .bool false, .bool false, .bool false, .bool false, .bool false, .bool false, .bool false, .bool false, .bool false, .bool false, .bool false, .bool false, .bool false])) fun t5 s4 =>
  bd2 (aStore 256 t5 t32 s4) fun _ s5 =>
  br t33 (bd2 (callf 59 [a0, t5] s5) fun t36 s6 =>
  bd2 (callf 58 [t36, t5] s6) fun t37 s7 =>
  some (t37, s7))
  (bd2 (callf 61 [a0, a1] s5) fun t40 s8 =>
  bd2 (callf 60 [t40, a1] s8) fun t42 s9 =>
  some (t42, s9))))

theorem f40_eq (callf : CallF) (N : Nat) (a0 : T) (a1 : T) (s : St) : bodyC Tryd.prog callf N Tryd.f40 [a0, a1] s = f40 callf N a0 a1 s := by kernel_rfl

theorem f40_run (d : Nat) (a0 : T) (a1 : T) (s : St) : R (d + 1) 40 [a0, a1] s = f40 (R d) 8192 a0 a1 s := (runQ_body rfl Tryd.func40 (by kernel_rfl)).trans (f40_eq ..)

/- strings.trimLeftASCII: a loop; 0: t0 s, 1: t1 as -/
def f58_l1 (callf : CallF) (N : Nat) (v : List T) (s : St) : Option (JO × St) :=
  bd (aLenStr (v.getD 0 .any)) fun t6 =>
  bd (aBin .gtr t6 (I .i64 0)) fun t7 =>
  br t7 (jn (bd (aAtStr (v.getD 0 .any) (I .i64 0)) fun t10 =>
  bd2 (callf 69 [(v.getD 1 .any), t10] s) fun t11 s1 =>
  bd (aUn .not t11) fun t12 =>
  br t12 (some (.exit 0 [(v.getD 0 .any)], s1))
  (bd (aPieceStr (v.getD 0 .any) (some (I .i64 1)) none none) fun t14 =>
  some (.normal [t14, (v.getD 1 .any)], s1)))
  (fun v2 s3 => some (.normal [(v2.getD 0 .any), (v2.getD 1 .any)], s3))
  (fun i4 v2 s3 => some (.exit i4 v2, s3))
  (fun r5 s3 => some (.ret r5, s3)))
  (some (.exit 0 [(v.getD 0 .any)], s))

/- strings.trimLeftASCII -/
def f58 (callf : CallF) (N : Nat) (a0 : T) (a1 : T) (s : St) : Option (T × St) :=
  jn (jn (loops (f58_l1 callf N) N [a0, a1] s)
  (fun v6 s7 => some (.normal [.any], s7))
  (fun i8 v6 s7 => if i8 = 0 then some (.normal v6, s7) else some (.exit i8 v6, s7))
  (fun r9 s7 => some (.ret r9, s7)))
  (fun v10 s11 => some ((v10.getD 0 .any), s11))
  (fun i12 v10 s11 => none)
  (fun r13 s11 => some (r13, s11))

theorem f58_eq (callf : CallF) (N : Nat) (a0 : T) (a1 : T) (s : St) : bodyC Tryd.prog callf N Tryd.f58 [a0, a1] s = f58 callf N a0 a1 s := by kernel_rfl

theorem f58_run (d : Nat) (a0 : T) (a1 : T) (s : St) : R (d + 1) 58 [a0, a1] s = f58 (R d) 8192 a0 a1 s := (runQ_body rfl Tryd.func58 (by kernel_rfl)).trans (f58_eq ..)

/- strings.trimRightASCII: a loop; 0: t0 s, 1: t1 as -/
def f59_l1 (callf : CallF) (N : Nat) (v : List T) (s : St) : Option (JO × St) :=
  bd (aLenStr (v.getD 0 .any)) fun t6 =>
  bd (aBin .gtr t6 (I .i64 0)) fun t7 =>
  br t7 (jn (bd (aLenStr (v.getD 0 .any)) fun t11 =>
  bd (aBin .sub t11 (I .i64 1)) fun t12 =>
  bd (aAtStr (v.getD 0 .any) t12) fun t13 =>
  bd2 (callf 69 [(v.getD 1 .any), t13] s) fun t14 s1 =>
  bd (aUn .not t14) fun t15 =>
  br t15 (some (.exit 0 [(v.getD 0 .any)], s1))
  (bd (aLenStr (v.getD 0 .any)) fun t18 =>
  bd (aBin .sub t18 (I .i64 1)) fun t19 =>
  bd (aPieceStr (v.getD 0 .any) none (some t19) none) fun t20 =>
  some (.normal [t20, (v.getD 1 .any)], s1)))
  (fun v2 s3 => some (.normal [(v2.getD 0 .any), (v2.getD 1 .any)], s3))
  (fun i4 v2 s3 => some (.exit i4 v2, s3))
  (fun r5 s3 => some (.ret r5, s3)))
  (some (.exit 0 [(v.getD 0 .any)], s))

/- strings.trimRightASCII -/
def f59 (callf : CallF) (N : Nat) (a0 : T) (a1 : T) (s : St) : Option (T × St) :=
  jn (jn (loops (f59_l1 callf N) N [a0, a1] s)
  (fun v6 s7 => some (.normal [.any], s7))
  (fun i8 v6 s7 => if i8 = 0 then some (.normal v6, s7) else some (.exit i8 v6, s7))
  (fun r9 s7 => some (.ret r9, s7)))
  (fun v10 s11 => some ((v10.getD 0 .any), s11))
  (fun i12 v10 s11 => none)
  (fun r13 s11 => some (r13, s11))

theorem f59_eq (callf : CallF) (N : Nat) (a0 : T) (a1 : T) (s : St) : bodyC Tryd.prog callf N Tryd.f59 [a0, a1] s = f59 callf N a0 a1 s := by kernel_rfl

theorem f59_run (d : Nat) (a0 : T) (a1 : T) (s : St) : R (d + 1) 59 [a0, a1] s = f59 (R d) 8192 a0 a1 s := (runQ_body rfl Tryd.func59 (by kernel_rfl)).trans (f59_eq ..)

/- (strings.asciiSet).contains -/
def f69 (callf : CallF) (N : Nat) (a0 : T) (a1 : T) (s : St) : Option (T × St) :=
  bd (aNil a0) fun t7 =>
  bd (aIndexArr 256 1 t7 a1) fun t8 =>
  bd (aLoad1 t8 s.get) fun t9 =>
  some (t9, s)

theorem f69_eq (callf : CallF) (N : Nat) (a0 : T) (a1 : T) (s : St) : bodyC Tryd.prog callf N Tryd.f69 [a0, a1] s = f69 callf N a0 a1 s := by kernel_rfl

theorem f69_run (d : Nat) (a0 : T) (a1 : T) (s : St) : R (d + 1) 69 [a0, a1] s = f69 (R d) 8192 a0 a1 s := (runQ_body rfl Tryd.func69 (by kernel_rfl)).trans (f69_eq ..)

/- strconv.ParseInt -/
def f41 (callf : CallF) (N : Nat) (a0 : T) (a1 : T) (a2 : T) (s : St) : Option (T × St) :=
  bd2 (callf 62 [a0, a1, a2] s) fun t13 s1 =>
  bd (aExtract t13 0) fun t14 =>
  bd (aExtract t13 1) fun t15 =>
  bd (neB .i t15 (Z .nili)) fun t17 =>
  br t17 (bd2 (callf 63 [(Z (.str [80, 97, 114, 115, 101, 73, 110, 116])), a0, a1, a2, t15] s1) fun t23 s2 =>
  bd (retT [t14, t23]) fun r3 =>
  some (r3, s2))
  (bd (retT [t14, (Z .nili)]) fun r4 =>
  some (r4, s1))

theorem f41_eq (callf : CallF) (N : Nat) (a0 : T) (a1 : T) (a2 : T) (s : St) : bodyC Tryd.prog callf N Tryd.f41 [a0, a1, a2] s = f41 callf N a0 a1 a2 s := by kernel_rfl

theorem f41_run (d : Nat) (a0 : T) (a1 : T) (a2 : T) (s : St) : R (d + 1) 41 [a0, a1, a2] s = f41 (R d) 8192 a0 a1 a2 s := (runQ_body rfl Tryd.func41 (by kernel_rfl)).trans (f41_eq ..)

/- internal/strconv.ParseInt -/
def f62 (callf : CallF) (N : Nat) (a0 : T) (a1 : T) (a2 : T) (s : St) : Option (T × St) :=
  bd (aBin .eql a0 (Z (.str []))) fun t13 =>
  br t13 (bd ((none : Option T)) fun t14 =>
  bd (retT [(I .i64 0), t14]) fun r1 =>
  some (r1, s))
  (bd (aAtStr a0 (I .i64 0)) fun t16 =>
  jn (bd (aBin .eql t16 (I .u8 43)) fun t18 =>
  jn (br t18 (bd (aPieceStr a0 (some (I .i64 1)) none none) fun t20 =>
  some (.normal [t20, a1, a2, (B false)], s))
  (bd (aBin .eql t16 (I .u8 45)) fun t22 =>
  jn (br t22 (bd (aPieceStr a0 (some (I .i64 1)) none none) fun t24 =>
  some (.normal [t24, a1, a2, (B true)], s))
  (some (.normal [a0, a1, a2, (B false)], s)))
  (fun v2 s3 => some (.normal [(v2.getD 0 .any), (v2.getD 1 .any), (v2.getD 2 .any), (v2.getD 3 .any)], s3))
  (fun i4 v2 s3 => some (.exit i4 v2, s3))
  (fun r5 s3 => some (.ret r5, s3))))
  (fun v6 s7 => some (.normal [(v6.getD 0 .any), (v6.getD 1 .any), (v6.getD 2 .any), (v6.getD 3 .any)], s7))
  (fun i8 v6 s7 => if i8 = 0 then some (.normal v6, s7) else some (.exit i8 v6, s7))
  (fun r9 s7 => some (.ret r9, s7)))
  (fun v10 s11 => bd2 (callf 72 [(v10.getD 0 .any), (v10.getD 1 .any), (v10.getD 2 .any)] s11) fun t29 s14 =>
  bd (aExtract t29 0) fun t30 =>
  bd (aExtract t29 1) fun t31 =>
  bd (neB .i t31 (Z .nili)) fun t33 =>
  bd (gT (gd t33 true) (some t31)) fun t35 =>
  bd (gT (gd t33 true) ((none : Option T))) fun t36 =>
  bd (gT (gd t33 true) ((none : Option T))) fun t37 =>
  bd (aPick t33 t37 (B false)) fun t38 =>
  br t38 (bd (retT [(I .i64 0), t31]) fun r15 =>
  some (r15, s14))
  (bd (aBin .eql (v10.getD 2 .any) (I .i64 0)) fun t41 =>
  jn (br t41 (some (.normal [(I .i64 64), (v10.getD 3 .any), t30], s14))
  (some (.normal [(v10.getD 2 .any), (v10.getD 3 .any), t30], s14)))
  (fun v16 s17 => bd (aBin .sub (v16.getD 0 .any) (I .i64 1)) fun t43 =>
  bd (aConv .u64 t43) fun t44 =>
  bd (aBin .shl (I .u64 1) t44) fun t45 =>
  bd (aUn .not (v16.getD 1 .any)) fun t47 =>
  bd (gT (gd t47 true) (some (v16.getD 2 .any))) fun t49 =>
  bd (gT (gd t47 true) (some t45)) fun t50 =>
  bd (gT (gd t47 true) (aBin .geq t49 t50)) fun t51 =>
  bd (aPick t47 t51 (B false)) fun t52 =>
  br t52 (bd (aBin .sub t45 (I .u64 1)) fun t54 =>
  bd (aConv .i64 t54) fun t55 =>
  bd ((none : Option T)) fun t56 =>
  bd (retT [t55, t56]) fun r20 =>
  some (r20, s17))
  (bd (gT (gd (v16.getD 1 .any) true) (some (v16.getD 2 .any))) fun t59 =>
  bd (gT (gd (v16.getD 1 .any) true) (some t45)) fun t60 =>
  bd (gT (gd (v16.getD 1 .any) true) (aBin .gtr t59 t60)) fun t61 =>
  bd (aPick (v16.getD 1 .any) t61 (B false)) fun t62 =>
  br t62 (bd (aConv .i64 t45) fun t64 =>
  bd (aUn .neg t64) fun t65 =>
  bd ((none : Option T)) fun t66 =>
  bd (retT [t65, t66]) fun r21 =>
  some (r21, s17))
  (bd (aConv .i64 (v16.getD 2 .any)) fun t68 =>
  jn (br (v16.getD 1 .any) (bd (aUn .neg t68) fun t71 =>
  some (.normal [t71], s17))
  (some (.normal [t68], s17)))
  (fun v22 s23 => bd (retT [(v22.getD 0 .any), (Z .nili)]) fun r26 =>
  some (r26, s23))
  (fun i24 v22 s23 => none)
  (fun r25 s23 => some (r25, s23)))))
  (fun i18 v16 s17 => none)
  (fun r19 s17 => some (r19, s17))))
  (fun i12 v10 s11 => none)
  (fun r13 s11 => some (r13, s11)))

theorem f62_eq (callf : CallF) (N : Nat) (a0 : T) (a1 : T) (a2 : T) (s : St) : bodyC Tryd.prog callf N Tryd.f62 [a0, a1, a2] s = f62 callf N a0 a1 a2 s := by kernel_rfl

theorem f62_run (d : Nat) (a0 : T) (a1 : T) (a2 : T) (s : St) : R (d + 1) 62 [a0, a1, a2] s = f62 (R d) 8192 a0 a1 a2 s := (runQ_body rfl Tryd.func62 (by kernel_rfl)).trans (f62_eq ..)

/- internal/strconv.ParseUint: a loop; 0: t1 base, 1: t8 base0, 2: t9 s0, 3: t10 cutoff, 4: t11 maxVal, 5: t12 underscores, 6: t13 n, 7: t99 , 8: t100 , 9: t101  -/
def f72_l1 (callf : CallF) (N : Nat) (v : List T) (s : St) : Option (JO × St) :=
  bd (aBin .lss (v.getD 9 .any) (v.getD 8 .any)) fun t102 =>
  br t102 (jn (bd (aIndexSl 1 (v.getD 7 .any) (v.getD 9 .any)) fun t103 =>
  bd (aLoad1 t103 s.get) fun t104 =>
  jn (bd (aBin .eql t104 (I .u8 95)) fun t108 =>
  bd (gT (gd t108 true) (some (v.getD 1 .any))) fun t110 =>
  bd (aPick t108 t110 (B false)) fun t111 =>
  br t111 (some (.exit 4 [(v.getD 0 .any), (v.getD 1 .any), (v.getD 2 .any), (v.getD 3 .any), (v.getD 4 .any), (B true), (v.getD 6 .any), (v.getD 7 .any), (v.getD 8 .any), (v.getD 9 .any)], s))
  (bd (aBin .leq (I .u8 48) t104) fun t114 =>
  bd (gT (gd t114 true) (some t104)) fun t116 =>
  bd (gT (gd t114 true) (aBin .leq t116 (I .u8 57))) fun t117 =>
  bd (aPick t114 t117 (B false)) fun t118 =>
  jn (br t118 (bd (aBin .sub t104 (I .u8 48)) fun t120 =>
  some (.normal [(v.getD 0 .any), (v.getD 1 .any), (v.getD 2 .any), (v.getD 3 .any), (v.getD 4 .any), (v.getD 5 .any), (v.getD 6 .any), t120, (v.getD 7 .any), (v.getD 8 .any), (v.getD 9 .any)], s))
  (bd2 (callf 79 [t104] s) fun t123 s52 =>
  bd (aBin .leq (I .u8 97) t123) fun t124 =>
  bd (gT (gd t124 true) (some t104)) fun t126 =>
  bd2 (gS (gd t124 true) s52 (callf 79 [t126] s52)) fun t127 s53 =>
  bd (gT (gd t124 true) (aBin .leq t127 (I .u8 122))) fun t128 =>
  bd (aPick t124 t128 (B false)) fun t129 =>
  br t129 (bd2 (callf 79 [t104] s53) fun t131 s54 =>
  bd (aBin .sub t131 (I .u8 97)) fun t132 =>
  bd (aBin .add t132 (I .u8 10)) fun t133 =>
  some (.normal [(v.getD 0 .any), (v.getD 1 .any), (v.getD 2 .any), (v.getD 3 .any), (v.getD 4 .any), (v.getD 5 .any), (v.getD 6 .any), t133, (v.getD 7 .any), (v.getD 8 .any), (v.getD 9 .any)], s54))
  (bd ((none : Option T)) fun t105 =>
  bd (retT [(I .u64 0), t105]) fun r55 =>
  some (.ret r55, s53))))
  (fun v56 s57 => some (.normal [(v56.getD 0 .any), (v56.getD 1 .any), (v56.getD 2 .any), (v56.getD 3 .any), (v56.getD 4 .any), (v56.getD 5 .any), (v56.getD 6 .any), (v56.getD 7 .any), (v56.getD 8 .any), (v56.getD 9 .any), (v56.getD 10 .any)], s57))
  (fun i58 v56 s57 => if i58 = 5 then some (.normal v56, s57) else some (.exit i58 v56, s57))
  (fun r59 s57 => some (.ret r59, s57))))
  (fun v60 s61 => bd (aConv .u8 (v60.getD 0 .any)) fun t136 =>
  bd (aBin .geq (v60.getD 7 .any) t136) fun t137 =>
  br t137 (bd ((none : Option T)) fun t138 =>
  bd (retT [(I .u64 0), t138]) fun r64 =>
  some (.ret r64, s61))
  (bd (aBin .geq (v60.getD 6 .any) (v60.getD 3 .any)) fun t141 =>
  br t141 (bd ((none : Option T)) fun t143 =>
  bd (retT [(v60.getD 4 .any), t143]) fun r65 =>
  some (.ret r65, s61))
  (bd (aConv .u64 (v60.getD 0 .any)) fun t146 =>
  bd (aBin .mul (v60.getD 6 .any) t146) fun t147 =>
  bd (aConv .u64 (v60.getD 7 .any)) fun t150 =>
  bd (aBin .add t147 t150) fun t151 =>
  bd (aBin .lss t151 t147) fun t154 =>
  bd (gT (gd t154 false) (some t151)) fun t156 =>
  bd (gT (gd t154 false) (some (v60.getD 4 .any))) fun t157 =>
  bd (gT (gd t154 false) (aBin .gtr t156 t157)) fun t158 =>
  bd (aPick t154 (B true) t158) fun t159 =>
  br t159 (bd ((none : Option T)) fun t161 =>
  bd (retT [(v60.getD 4 .any), t161]) fun r66 =>
  some (.ret r66, s61))
  (some (.normal [(v60.getD 0 .any), (v60.getD 1 .any), (v60.getD 2 .any), (v60.getD 3 .any), (v60.getD 4 .any), (v60.getD 5 .any), t151, (v60.getD 8 .any), (v60.getD 9 .any), (v60.getD 10 .any)], s61)))))
  (fun i62 v60 s61 => if i62 = 4 then some (.normal v60, s61) else some (.exit i62 v60, s61))
  (fun r63 s61 => some (.ret r63, s61)))
  (fun v67 s68 => bd (aBin .add (v67.getD 9 .any) (I .i64 1)) fun t163 =>
  some (.normal [(v67.getD 0 .any), (v67.getD 1 .any), (v67.getD 2 .any), (v67.getD 3 .any), (v67.getD 4 .any), (v67.getD 5 .any), (v67.getD 6 .any), (v67.getD 7 .any), (v67.getD 8 .any), t163], s68))
  (fun i69 v67 s68 => some (.exit i69 v67, s68))
  (fun r70 s68 => some (.ret r70, s68)))
  (some (.exit 3 [(v.getD 2 .any), (v.getD 5 .any), (v.getD 6 .any)], s))

/- internal/strconv.ParseUint -/
def f72 (callf : CallF) (N : Nat) (a0 : T) (a1 : T) (a2 : T) (s : St) : Option (T × St) :=
  bd (aBin .eql a0 (Z (.str []))) fun t19 =>
  br t19 (bd ((none : Option T)) fun t20 =>
  bd (retT [(I .u64 0), t20]) fun r1 =>
  some (r1, s))
  (bd (aBin .eql a1 (I .i64 0)) fun t22 =>
  jn (bd (aBin .leq (I .i64 2) a1) fun t27 =>
  bd (gT (gd t27 true) (some a1)) fun t29 =>
  bd (gT (gd t27 true) (aBin .leq t29 (I .i64 36))) fun t30 =>
  bd (aPick t27 t30 (B false)) fun t31 =>
  jn (br t31 (some (.normal [a0, a1, a2, t22, a0], s))
  (bd (aBin .eql a1 (I .i64 0)) fun t34 =>
  br t34 (bd (aAtStr a0 (I .i64 0)) fun t36 =>
  bd (aBin .eql t36 (I .u8 48)) fun t37 =>
  jn (br t37 (jn (bd (aLenStr a0) fun t42 =>
  bd (aBin .geq t42 (I .i64 3)) fun t43 =>
  bd (gT (gd t43 true) (some a0)) fun t45 =>
  bd (gT (gd t43 true) (aAtStr t45 (I .i64 1))) fun t46 =>
  bd2 (gS (gd t43 true) s (callf 79 [t46] s)) fun t47 s2 =>
  bd (gT (gd t43 true) (aBin .eql t47 (I .u8 98))) fun t48 =>
  bd (aPick t43 t48 (B false)) fun t49 =>
  jn (br t49 (bd (aPieceStr a0 (some (I .i64 2)) none none) fun t51 =>
  some (.normal [t51, (I .i64 2), a2, t22, a0], s2))
  (bd (aLenStr a0) fun t54 =>
  bd (aBin .geq t54 (I .i64 3)) fun t55 =>
  bd (gT (gd t55 true) (some a0)) fun t57 =>
  bd (gT (gd t55 true) (aAtStr t57 (I .i64 1))) fun t58 =>
  bd2 (gS (gd t55 true) s2 (callf 79 [t58] s2)) fun t59 s3 =>
  bd (gT (gd t55 true) (aBin .eql t59 (I .u8 111))) fun t60 =>
  bd (aPick t55 t60 (B false)) fun t61 =>
  jn (br t61 (bd (aPieceStr a0 (some (I .i64 2)) none none) fun t63 =>
  some (.normal [t63, (I .i64 8), a2, t22, a0], s3))
  (bd (aLenStr a0) fun t66 =>
  bd (aBin .geq t66 (I .i64 3)) fun t67 =>
  bd (gT (gd t67 true) (some a0)) fun t69 =>
  bd (gT (gd t67 true) (aAtStr t69 (I .i64 1))) fun t70 =>
  bd2 (gS (gd t67 true) s3 (callf 79 [t70] s3)) fun t71 s4 =>
  bd (gT (gd t67 true) (aBin .eql t71 (I .u8 120))) fun t72 =>
  bd (aPick t67 t72 (B false)) fun t73 =>
  jn (br t73 (bd (aPieceStr a0 (some (I .i64 2)) none none) fun t75 =>
  some (.normal [t75, (I .i64 16), a2, t22, a0], s4))
  (bd (aPieceStr a0 (some (I .i64 1)) none none) fun t39 =>
  some (.normal [t39, (I .i64 8), a2, t22, a0], s4)))
  (fun v5 s6 => some (.normal [(v5.getD 0 .any), (v5.getD 1 .any), (v5.getD 2 .any), (v5.getD 3 .any), (v5.getD 4 .any)], s6))
  (fun i7 v5 s6 => some (.exit i7 v5, s6))
  (fun r8 s6 => some (.ret r8, s6))))
  (fun v9 s10 => some (.normal [(v9.getD 0 .any), (v9.getD 1 .any), (v9.getD 2 .any), (v9.getD 3 .any), (v9.getD 4 .any)], s10))
  (fun i11 v9 s10 => some (.exit i11 v9, s10))
  (fun r12 s10 => some (.ret r12, s10))))
  (fun v13 s14 => some (.normal [(v13.getD 0 .any), (v13.getD 1 .any), (v13.getD 2 .any), (v13.getD 3 .any), (v13.getD 4 .any)], s14))
  (fun i15 v13 s14 => if i15 = 1 then some (.normal v13, s14) else some (.exit i15 v13, s14))
  (fun r16 s14 => some (.ret r16, s14)))
  (fun v17 s18 => some (.normal [(v17.getD 0 .any), (v17.getD 1 .any), (v17.getD 2 .any), (v17.getD 3 .any), (v17.getD 4 .any)], s18))
  (fun i19 v17 s18 => some (.exit i19 v17, s18))
  (fun r20 s18 => some (.ret r20, s18)))
  (some (.normal [a0, (I .i64 10), a2, t22, a0], s)))
  (fun v21 s22 => some (.normal [(v21.getD 0 .any), (v21.getD 1 .any), (v21.getD 2 .any), (v21.getD 3 .any), (v21.getD 4 .any)], s22))
  (fun i23 v21 s22 => some (.exit i23 v21, s22))
  (fun r24 s22 => some (.ret r24, s22)))
  (bd ((none : Option T)) fun t24 =>
  bd (retT [(I .u64 0), t24]) fun r25 =>
  some (.ret r25, s))))
  (fun v26 s27 => some (.normal [(v26.getD 0 .any), (v26.getD 1 .any), (v26.getD 2 .any), (v26.getD 3 .any), (v26.getD 4 .any)], s27))
  (fun i28 v26 s27 => if i28 = 0 then some (.normal v26, s27) else some (.exit i28 v26, s27))
  (fun r29 s27 => some (.ret r29, s27)))
  (fun v30 s31 => bd (aBin .eql (v30.getD 2 .any) (I .i64 0)) fun t77 =>
  jn (br t77 (some (.normal [(v30.getD 0 .any), (v30.getD 1 .any), (I .i64 64), (v30.getD 3 .any), (v30.getD 4 .any)], s31))
  (bd (aBin .lss (v30.getD 2 .any) (I .i64 0)) fun t79 =>
  bd (gT (gd t79 false) (some (v30.getD 2 .any))) fun t81 =>
  bd (gT (gd t79 false) (aBin .gtr t81 (I .i64 64))) fun t82 =>
  bd (aPick t79 (B true) t82) fun t83 =>
  br t83 (bd ((none : Option T)) fun t84 =>
  bd (retT [(I .u64 0), t84]) fun r34 =>
  some (.ret r34, s31))
  (some (.normal [(v30.getD 0 .any), (v30.getD 1 .any), (v30.getD 2 .any), (v30.getD 3 .any), (v30.getD 4 .any)], s31))))
  (fun v35 s36 => jn (bd (aBin .eql (v35.getD 1 .any) (I .i64 10)) fun t91 =>
  jn (br t91 (some (.normal [(v35.getD 0 .any), (v35.getD 1 .any), (v35.getD 2 .any), (v35.getD 3 .any), (v35.getD 4 .any), (I .u64 1844674407370955162)], s36))
  (bd (aBin .eql (v35.getD 1 .any) (I .i64 16)) fun t93 =>
  jn (br t93 (some (.normal [(v35.getD 0 .any), (v35.getD 1 .any), (v35.getD 2 .any), (v35.getD 3 .any), (v35.getD 4 .any), (I .u64 1152921504606846976)], s36))
  (bd (aConv .u64 (v35.getD 1 .any)) fun t87 =>
  bd (aBin .quo (I .u64 18446744073709551615) t87) fun t88 =>
  bd (aBin .add t88 (I .u64 1)) fun t89 =>
  some (.normal [(v35.getD 0 .any), (v35.getD 1 .any), (v35.getD 2 .any), (v35.getD 3 .any), (v35.getD 4 .any), t89], s36)))
  (fun v39 s40 => some (.normal [(v39.getD 0 .any), (v39.getD 1 .any), (v39.getD 2 .any), (v39.getD 3 .any), (v39.getD 4 .any), (v39.getD 5 .any)], s40))
  (fun i41 v39 s40 => some (.exit i41 v39, s40))
  (fun r42 s40 => some (.ret r42, s40))))
  (fun v43 s44 => some (.normal [(v43.getD 0 .any), (v43.getD 1 .any), (v43.getD 2 .any), (v43.getD 3 .any), (v43.getD 4 .any), (v43.getD 5 .any)], s44))
  (fun i45 v43 s44 => if i45 = 2 then some (.normal v43, s44) else some (.exit i45 v43, s44))
  (fun r46 s44 => some (.ret r46, s44)))
  (fun v47 s48 => bd (aConv .u64 (v47.getD 2 .any)) fun t95 =>
  bd (aBin .shl (I .u64 1) t95) fun t96 =>
  bd (aBin .sub t96 (I .u64 1)) fun t97 =>
  bd2 (aNew s48 (nBytes (v47.getD 0 .any))) fun t99 s51 =>
  bd (aLenSl t99) fun t100 =>
  jn (jn (loops (f72_l1 callf N) N [(v47.getD 1 .any), (v47.getD 3 .any), (v47.getD 4 .any), (v47.getD 5 .any), t97, (B false), (I .u64 0), t99, t100, (I .i64 0)] s51)
  (fun v71 s72 => some (.normal [.any, .any, .any], s72))
  (fun i73 v71 s72 => if i73 = 3 then some (.normal v71, s72) else some (.exit i73 v71, s72))
  (fun r74 s72 => some (.ret r74, s72)))
  (fun v75 s76 => bd (gT (gd (v75.getD 1 .any) true) (some (v75.getD 0 .any))) fun t166 =>
  bd2 (gS (gd (v75.getD 1 .any) true) s76 (callf 80 [t166] s76)) fun t167 s79 =>
  bd (gT (gd (v75.getD 1 .any) true) (aUn .not t167)) fun t168 =>
  bd (aPick (v75.getD 1 .any) t168 (B false)) fun t169 =>
  br t169 (bd ((none : Option T)) fun t170 =>
  bd (retT [(I .u64 0), t170]) fun r80 =>
  some (r80, s79))
  (bd (retT [(v75.getD 2 .any), (Z .nili)]) fun r81 =>
  some (r81, s79)))
  (fun i77 v75 s76 => none)
  (fun r78 s76 => some (r78, s76)))
  (fun i49 v47 s48 => none)
  (fun r50 s48 => some (r50, s48)))
  (fun i37 v35 s36 => none)
  (fun r38 s36 => some (r38, s36)))
  (fun i32 v30 s31 => none)
  (fun r33 s31 => some (r33, s31)))

theorem f72_eq (callf : CallF) (N : Nat) (a0 : T) (a1 : T) (a2 : T) (s : St) : bodyC Tryd.prog callf N Tryd.f72 [a0, a1, a2] s = f72 callf N a0 a1 a2 s := by kernel_rfl

theorem f72_run (d : Nat) (a0 : T) (a1 : T) (a2 : T) (s : St) : R (d + 1) 72 [a0, a1, a2] s = f72 (R d) 8192 a0 a1 a2 s := (runQ_body rfl Tryd.func72 (by kernel_rfl)).trans (f72_eq ..)

end
end Go.Proofs.YtkifcchcofdkaaaDoor


/-
  What functions that the laws reach compute, printed by a program of our own: each text is by definition the run of the code. No conditions.
-/
namespace Go.Proofs.YtkifcchcofdkaaaDoor
open Go Go.Abs Go.Abs.F
set_option linter.unusedVariables false
noncomputable section
/- twinkeep/policy.number -/
def f28 (callf : CallF) (N : Nat) (a0 : T) (s : St) : Option (T × St) :=
  bd (aLenStr a0) fun t7 =>
  bd (aBin .lss t7 (I .i64 1)) fun t8 =>
  bd (gT (gd t8 false) (some a0)) fun t10 =>
  bd (gT (gd t8 false) (aLenStr t10)) fun t11 =>
  bd (gT (gd t8 false) (aBin .gtr t11 (I .i64 13))) fun t12 =>
  bd (aPick t8 (B true) t12) fun t13 =>
  bd (gT (gd t13 false) (some a0)) fun t15 =>
  bd2 (gS (gd t13 false) s (callf 40 [t15, (Z (.str [48, 49, 50, 51, 52, 53, 54, 55, 56, 57]))] s)) fun t16 s1 =>
  bd (gT (gd t13 false) (aBin .neq t16 (Z (.str [])))) fun t17 =>
  bd (aPick t13 (B true) t17) fun t18 =>
  br t18 (bd (retT [(I .i64 0), (B false)]) fun r2 =>
  some (r2, s1))
  (bd2 (callf 41 [a0, (I .i64 10), (I .i64 64)] s1) fun t21 s3 =>
  bd (aExtract t21 0) fun t22 =>
  bd (aExtract t21 1) fun t23 =>
  bd (eqB .i t23 (Z .nili)) fun t26 =>
  bd (retT [t22, t26]) fun r4 =>
  some (r4, s3))

theorem f28_eq (callf : CallF) (N : Nat) (a0 : T) (s : St) : bodyC Tryd.prog callf N Tryd.f28 [a0] s = f28 callf N a0 s := by kernel_rfl

theorem f28_run (d : Nat) (a0 : T) (s : St) : R (d + 1) 28 [a0] s = f28 (R d) 8192 a0 s := (runQ_body rfl Tryd.func28 (by kernel_rfl)).trans (f28_eq ..)

/- twinkeep/policy.names -/
def f12 (callf : CallF) (N : Nat) (s : St) : Option (T × St) :=
  bd2 (aNew s (nSlice 4 (aFill [.str [], .str [], .str [], .str []] [(0, 1, (Z (.str [114, 97, 119]))), (1, 1, (Z (.str [53, 109]))), (2, 1, (Z (.str [49, 104]))), (3, 1, (Z (.str [49, 100])))]))) fun t1 s1 =>
  some (t1, s1)

theorem f12_eq (callf : CallF) (N : Nat) (s : St) : bodyC Tryd.prog callf N Tryd.f12 [] s = f12 callf N s := by kernel_rfl

theorem f12_run (d : Nat) (s : St) : R (d + 1) 12 [] s = f12 (R d) 8192 s := (runQ_body rfl Tryd.func12 (by kernel_rfl)).trans (f12_eq ..)

/- twinkeep/policy.line -/
def f20 (callf : CallF) (N : Nat) (a0 : T) (a1 : T) (s : St) : Option (T × St) :=
  bd (aLenSl a1) fun t11 =>
  bd (aBin .sub t11 (I .i64 1)) fun t12 =>
  bd (aIndexSl 1 a1 t12) fun t13 =>
  bd (aLoad1 t13 s.get) fun t14 =>
  bd2 (callf 28 [t14] s) fun t15 s1 =>
  bd (aExtract t15 0) fun t16 =>
  bd (aExtract t15 1) fun t17 =>
  jn (bd (aIndexSl 1 a1 (I .i64 0)) fun t20 =>
  bd (aLoad1 t20 s1.get) fun t21 =>
  bd (aBin .eql t21 (Z (.str [107, 101, 101, 112]))) fun t22 =>
  bd (gT (gd t22 true) (some a1)) fun t24 =>
  bd (gT (gd t22 true) (aLenSl t24)) fun t25 =>
  bd (gT (gd t22 true) (aBin .eql t25 (I .i64 3))) fun t26 =>
  bd (aPick t22 t26 (B false)) fun t27 =>
  jn (br t27 (bd2 (callf 12 [] s1) fun t28 s2 =>
  bd (aIndexSl 1 a1 (I .i64 1)) fun t30 =>
  bd (aLoad1 t30 s2.get) fun t31 =>
  bd2 (callf 29 [t28, t31] s2) fun t32 s3 =>
  ck ((decide (aLoad1 t30 s1.get = aLoad1 t30 s2.get) && true) && true) (bd (aBin .lss t32 (I .i64 0)) fun t34 =>
  bd (gT (gd t34 false) (some t17)) fun t36 =>
  bd (gT (gd t34 false) (aUn .not t36)) fun t37 =>
  bd (gT (gd t34 false) (some t37)) fun t38 =>
  bd (gT (gd t38 true) (some a1)) fun t39 =>
  bd (gT (gd t38 true) (aIndexSl 1 t39 (I .i64 2))) fun t40 =>
  bd (gT (gd t38 true) (aLoad1 t40 s3.get)) fun t41 =>
  bd (gT (gd t38 true) (aBin .neq t41 (Z (.str [101, 118, 101, 114])))) fun t42 =>
  bd (gT (gd t34 false) (aPick t38 t42 (B false))) fun t43 =>
  bd (aPick t34 (B true) t43) fun t44 =>
  br t44 (some (.ret (B false), s3))
  (bd (aNil a0) fun t48 =>
  bd (aFieldAddr 0 t48) fun t49 =>
  bd (aIndexArr 4 1 t49 t32) fun t50 =>
  bd2 (aStore 1 t50 t16 s3) fun _ s4 =>
  some (.normal [], s4))))
  (bd (aIndexSl 1 a1 (I .i64 0)) fun t53 =>
  bd (aLoad1 t53 s1.get) fun t54 =>
  bd (aBin .eql t54 (Z (.str [115, 101, 97, 108]))) fun t55 =>
  bd (gT (gd t55 true) (some a1)) fun t57 =>
  bd (gT (gd t55 true) (aLenSl t57)) fun t58 =>
  bd (gT (gd t55 true) (aBin .eql t58 (I .i64 2))) fun t59 =>
  bd (aPick t55 t59 (B false)) fun t60 =>
  bd (gT (gd t60 true) (some t17)) fun t62 =>
  bd (aPick t60 t62 (B false)) fun t63 =>
  jn (br t63 (bd (aNil a0) fun t66 =>
  bd (aFieldAddr 4 t66) fun t67 =>
  bd2 (aStore 1 t67 t16 s1) fun _ s5 =>
  some (.normal [], s5))
  (bd (aIndexSl 1 a1 (I .i64 0)) fun t70 =>
  bd (aLoad1 t70 s1.get) fun t71 =>
  bd (aBin .eql t71 (Z (.str [115, 112, 97, 110]))) fun t72 =>
  bd (gT (gd t72 true) (some a1)) fun t74 =>
  bd (gT (gd t72 true) (aLenSl t74)) fun t75 =>
  bd (gT (gd t72 true) (aBin .eql t75 (I .i64 2))) fun t76 =>
  bd (aPick t72 t76 (B false)) fun t77 =>
  bd (gT (gd t77 true) (some t17)) fun t79 =>
  bd (aPick t77 t79 (B false)) fun t80 =>
  br t80 (bd (aNil a0) fun t83 =>
  bd (aFieldAddr 5 t83) fun t84 =>
  bd2 (aStore 1 t84 t16 s1) fun _ s6 =>
  some (.normal [], s6))
  (some (.ret (B false), s1))))
  (fun v7 s8 => some (.normal [], s8))
  (fun i9 v7 s8 => some (.exit i9 v7, s8))
  (fun r10 s8 => some (.ret r10, s8))))
  (fun v11 s12 => some (.normal [], s12))
  (fun i13 v11 s12 => if i13 = 0 then some (.normal v11, s12) else some (.exit i13 v11, s12))
  (fun r14 s12 => some (.ret r14, s12)))
  (fun v15 s16 => some ((B true), s16))
  (fun i17 v15 s16 => none)
  (fun r18 s16 => some (r18, s16))

theorem f20_eq (callf : CallF) (N : Nat) (a0 : T) (a1 : T) (s : St) : bodyC Tryd.prog callf N Tryd.f20 [a0, a1] s = f20 callf N a0 a1 s := by kernel_rfl

theorem f20_run (d : Nat) (a0 : T) (a1 : T) (s : St) : R (d + 1) 20 [a0, a1] s = f20 (R d) 8192 a0 a1 s := (runQ_body rfl Tryd.func20 (by kernel_rfl)).trans (f20_eq ..)

/- twinkeep/policy.May: a loop; 0: t1 p, 1: t7 , 2: t8  -/
def f10_l1 (callf : CallF) (N : Nat) (v : List T) (s : St) : Option (JO × St) :=
  bd (aBin .lss (v.getD 2 .any) (I .i64 4)) fun t9 =>
  br t9 (jn (bd (aAtArr none 4 1 (v.getD 1 .any) (v.getD 2 .any)) fun t11 =>
  bd (aBin .lss t11 (I .i64 0)) fun t13 =>
  bd (gT (gd t13 false) (some t11)) fun t15 =>
  bd (gT (gd t13 false) (aBin .gtr t15 (I .i64 1099511627776))) fun t16 =>
  bd (aPick t13 (B true) t16) fun t17 =>
  br t17 (some (.ret (B false), s))
  (bd (aBin .eql (v.getD 2 .any) (I .i64 0)) fun t19 =>
  br t19 (some (.normal [(v.getD 0 .any), (v.getD 1 .any), (v.getD 2 .any)], s))
  (bd (aBin .sub (v.getD 2 .any) (I .i64 1)) fun t21 =>
  bd (aFieldAddr 0 (v.getD 0 .any)) fun t22 =>
  bd (aIndexArr 4 1 t22 t21) fun t23 =>
  bd (aLoad1 t23 s.get) fun t24 =>
  bd (aBin .neq t11 (I .i64 0)) fun t26 =>
  bd (gT (gd t26 true) (some t11)) fun t28 =>
  bd (gT (gd t26 true) (some t24)) fun t29 =>
  bd (gT (gd t26 true) (aBin .lss t28 t29)) fun t30 =>
  bd (gT (gd t26 true) (some t30)) fun t31 =>
  bd (gT (gd t31 false) (some t24)) fun t32 =>
  bd (gT (gd t31 false) (aBin .eql t32 (I .i64 0))) fun t33 =>
  bd (gT (gd t26 true) (aPick t31 (B true) t33)) fun t34 =>
  bd (aPick t26 t34 (B false)) fun t35 =>
  br t35 (some (.ret (B false), s))
  (some (.normal [(v.getD 0 .any), (v.getD 1 .any), (v.getD 2 .any)], s)))))
  (fun v2 s3 => bd (aBin .add (v2.getD 2 .any) (I .i64 1)) fun t36 =>
  some (.normal [(v2.getD 0 .any), (v2.getD 1 .any), t36], s3))
  (fun i4 v2 s3 => some (.exit i4 v2, s3))
  (fun r5 s3 => some (.ret r5, s3)))
  (some (.exit 0 [(v.getD 0 .any)], s))

/- twinkeep/policy.May -/
def f10 (callf : CallF) (N : Nat) (a0 : T) (s : St) : Option (T × St) :=
  bd2 (aNew s (nBox a0)) fun t1 s1 =>
  bd (aFieldAddr 0 t1) fun t6 =>
  bd (aLoadN 4 t6 s1.get) fun t7 =>
  jn (jn (loops (f10_l1 callf N) N [t1, t7, (I .i64 0)] s1)
  (fun v6 s7 => some (.normal [.any], s7))
  (fun i8 v6 s7 => if i8 = 0 then some (.normal v6, s7) else some (.exit i8 v6, s7))
  (fun r9 s7 => some (.ret r9, s7)))
  (fun v10 s11 => bd (aFieldAddr 0 (v10.getD 0 .any)) fun t37 =>
  bd (aIndexArr 4 1 t37 (I .i64 3)) fun t38 =>
  bd (aLoad1 t38 s11.get) fun t39 =>
  bd (aBin .eql t39 (I .i64 0)) fun t40 =>
  bd (gT (gd t40 true) (aFieldAddr 4 (v10.getD 0 .any))) fun t42 =>
  bd (gT (gd t40 true) (aLoad1 t42 s11.get)) fun t43 =>
  bd (gT (gd t40 true) (aBin .geq t43 (I .i64 1))) fun t44 =>
  bd (aPick t40 t44 (B false)) fun t45 =>
  bd (gT (gd t45 true) (aFieldAddr 4 (v10.getD 0 .any))) fun t47 =>
  bd (gT (gd t45 true) (aLoad1 t47 s11.get)) fun t48 =>
  bd (gT (gd t45 true) (aBin .leq t48 (I .i64 64))) fun t49 =>
  bd (aPick t45 t49 (B false)) fun t50 =>
  bd (gT (gd t50 true) (aFieldAddr 5 (v10.getD 0 .any))) fun t52 =>
  bd (gT (gd t50 true) (aLoad1 t52 s11.get)) fun t53 =>
  bd (gT (gd t50 true) (aBin .geq t53 (I .i64 1))) fun t54 =>
  bd (aPick t50 t54 (B false)) fun t55 =>
  bd (gT (gd t55 true) (aFieldAddr 5 (v10.getD 0 .any))) fun t57 =>
  bd (gT (gd t55 true) (aLoad1 t57 s11.get)) fun t58 =>
  bd (gT (gd t55 true) (aBin .leq t58 (I .i64 200))) fun t59 =>
  bd (aPick t55 t59 (B false)) fun t60 =>
  some (t60, s11))
  (fun i12 v10 s11 => none)
  (fun r13 s11 => some (r13, s11))

theorem f10_eq (callf : CallF) (N : Nat) (a0 : T) (s : St) : bodyC Tryd.prog callf N Tryd.f10 [a0] s = f10 callf N a0 s := by kernel_rfl

theorem f10_run (d : Nat) (a0 : T) (s : St) : R (d + 1) 10 [a0] s = f10 (R d) 8192 a0 s := (runQ_body rfl Tryd.func10 (by kernel_rfl)).trans (f10_eq ..)

/- twinkeep/policy.Parse: a loop; 0: t2 , 1: t5 p, 2: t6 seen, 3: t7 i, 4: t9 l, 5: t15 , 6: t16 , 7: t17 , 8: t29 , 9: t30 , 10: t31  -/
def f11_l2 (callf : CallF) (N : Nat) (v : List T) (s : St) : Option (JO × St) :=
  bd (aBin .lss (v.getD 10 .any) (v.getD 9 .any)) fun t32 =>
  br t32 (jn (bd (aIndexSl 1 (v.getD 8 .any) (v.getD 10 .any)) fun t33 =>
  bd (aLoad1 t33 s.get) fun t34 =>
  bd (aBin .neq t34 (Z (.str []))) fun t36 =>
  jn (br t36 (bd2 (aNew s (nSlice 1 (aFill [.str []] [(0, 1, t34)]))) fun t39 s8 =>
  bd2 (aAppend 1 16 (v.getD 4 .any) t39 s8) fun t40 s9 =>
  some (.normal [(v.getD 0 .any), (v.getD 1 .any), (v.getD 2 .any), (v.getD 3 .any), t40, (v.getD 5 .any), (v.getD 6 .any), (v.getD 7 .any), (v.getD 8 .any), (v.getD 9 .any), (v.getD 10 .any)], s9))
  (some (.normal [(v.getD 0 .any), (v.getD 1 .any), (v.getD 2 .any), (v.getD 3 .any), (v.getD 4 .any), (v.getD 5 .any), (v.getD 6 .any), (v.getD 7 .any), (v.getD 8 .any), (v.getD 9 .any), (v.getD 10 .any)], s)))
  (fun v10 s11 => some (.normal [(v10.getD 0 .any), (v10.getD 1 .any), (v10.getD 2 .any), (v10.getD 3 .any), (v10.getD 4 .any), (v10.getD 5 .any), (v10.getD 6 .any), (v10.getD 7 .any), (v10.getD 8 .any), (v10.getD 9 .any), (v10.getD 10 .any)], s11))
  (fun i12 v10 s11 => if i12 = 3 then some (.normal v10, s11) else some (.exit i12 v10, s11))
  (fun r13 s11 => some (.ret r13, s11)))
  (fun v14 s15 => bd (aBin .add (v14.getD 10 .any) (I .i64 1)) fun t41 =>
  some (.normal [(v14.getD 0 .any), (v14.getD 1 .any), (v14.getD 2 .any), (v14.getD 3 .any), (v14.getD 4 .any), (v14.getD 5 .any), (v14.getD 6 .any), (v14.getD 7 .any), (v14.getD 8 .any), (v14.getD 9 .any), t41], s15))
  (fun i16 v14 s15 => some (.exit i16 v14, s15))
  (fun r17 s15 => some (.ret r17, s15)))
  (some (.exit 2 [(v.getD 0 .any), (v.getD 1 .any), (v.getD 2 .any), (v.getD 3 .any), (v.getD 4 .any), (v.getD 5 .any), (v.getD 6 .any), (v.getD 7 .any)], s))

/- twinkeep/policy.Parse: a loop; 0: t2 , 1: t5 p, 2: t6 seen, 3: t15 , 4: t16 , 5: t17  -/
def f11_l1 (callf : CallF) (N : Nat) (v : List T) (s : St) : Option (JO × St) :=
  bd (aBin .lss (v.getD 5 .any) (v.getD 4 .any)) fun t18 =>
  br t18 (jn (bd (aIndexSl 1 (v.getD 3 .any) (v.getD 5 .any)) fun t20 =>
  bd (aLoad1 t20 s.get) fun t21 =>
  bd2 (callf 18 [t21, (Z (.str [35]))] s) fun t24 s6 =>
  bd (aExtract t24 0) fun t25 =>
  bd (aExtract t24 1) fun t26 =>
  bd (aExtract t24 2) fun t27 =>
  bd2 (callf 17 [t25, (Z (.str [32]))] s6) fun t29 s7 =>
  bd (aLenSl t29) fun t30 =>
  jn (jn (loops (f11_l2 callf N) N [(v.getD 0 .any), (v.getD 1 .any), (v.getD 2 .any), (v.getD 5 .any), (Z .nils), (v.getD 3 .any), (v.getD 4 .any), (v.getD 5 .any), t29, t30, (I .i64 0)] s7)
  (fun v18 s19 => some (.normal [.any, .any, .any, .any, .any, .any, .any, .any], s19))
  (fun i20 v18 s19 => if i20 = 2 then some (.normal v18, s19) else some (.exit i20 v18, s19))
  (fun r21 s19 => some (.ret r21, s19)))
  (fun v22 s23 => bd (aLenSl (v22.getD 4 .any)) fun t43 =>
  bd (aBin .eql t43 (I .i64 0)) fun t44 =>
  br t44 (some (.normal [(v22.getD 0 .any), (v22.getD 1 .any), (v22.getD 2 .any), (v22.getD 5 .any), (v22.getD 6 .any), (v22.getD 7 .any)], s23))
  (bd (aLenSl (v22.getD 4 .any)) fun t47 =>
  bd (aBin .sub t47 (I .i64 1)) fun t48 =>
  bd (aPieceSl 1 (v22.getD 4 .any) none (some t48) none) fun t49 =>
  bd2 (callf 19 [t49, (Z (.str [32]))] s23) fun t50 s26 =>
  bd2 (callf 20 [(v22.getD 1 .any), (v22.getD 4 .any)] s26) fun t52 s27 =>
  bd (aUn .not t52) fun t53 =>
  bd (gT (gd t53 false) (some (v22.getD 2 .any))) fun t55 =>
  bd (gT (gd t53 false) (some t50)) fun t56 =>
  bd2 (gS (gd t53 false) s27 (callf 21 [t55, t56] s27)) fun t57 s28 =>
  bd (aPick t53 (B true) t57) fun t58 =>
  br t58 (bd (asAggT (aFill [.int .i64 0, .int .i64 0, .int .i64 0, .int .i64 0, .int .i64 0, .int .i64 0] [])) fun t59 =>
  bd (aBin .add (v22.getD 3 .any) (I .i64 1)) fun t61 =>
  bd2 (aStore 6 (v22.getD 0 .any) t59 s28) fun _ s29 =>
  bd (rC (aLoadN 6 (v22.getD 0 .any) s29.get) (rT (I .i64 4) (rT t61 (some [])))) fun l30 => bd (retT l30) fun r31 =>
  some (.ret r31, s29))
  (bd2 (aNew s28 (nSlice 1 (aFill [.str []] [(0, 1, t50)]))) fun t64 s32 =>
  bd2 (aAppend 1 16 (v22.getD 2 .any) t64 s32) fun t65 s33 =>
  some (.normal [(v22.getD 0 .any), (v22.getD 1 .any), t65, (v22.getD 5 .any), (v22.getD 6 .any), (v22.getD 7 .any)], s33))))
  (fun i24 v22 s23 => if i24 = 1 then some (.normal v22, s23) else some (.exit i24 v22, s23))
  (fun r25 s23 => some (.ret r25, s23)))
  (fun v34 s35 => bd (aBin .add (v34.getD 5 .any) (I .i64 1)) fun t66 =>
  some (.normal [(v34.getD 0 .any), (v34.getD 1 .any), (v34.getD 2 .any), (v34.getD 3 .any), (v34.getD 4 .any), t66], s35))
  (fun i36 v34 s35 => some (.exit i36 v34, s35))
  (fun r37 s35 => some (.ret r37, s35)))
  (some (.exit 0 [(v.getD 0 .any), (v.getD 1 .any)], s))

/- twinkeep/policy.Parse -/
def f11 (callf : CallF) (N : Nat) (a0 : T) (s : St) : Option (T × St) :=
  bd2 (aNew s (nCells [.int .i64 0, .int .i64 0, .int .i64 0, .int .i64 0, .int .i64 0, .int .i64 0])) fun t2 s1 =>
  bd2 (callf 7 [] s1) fun t13 s2 =>
  bd2 (aNew s2 (nCells [.int .i64 0, .int .i64 0, .int .i64 0, .int .i64 0, .int .i64 0, .int .i64 0])) fun t5 s3 =>
  bd2 (aStore 6 t5 t13 s3) fun _ s4 =>
  bd2 (callf 17 [a0, (Z (.str [10]))] s4) fun t15 s5 =>
  bd (aLenSl t15) fun t16 =>
  jn (jn (loops (f11_l1 callf N) N [t2, t5, (Z .nils), t15, t16, (I .i64 0)] s5)
  (fun v38 s39 => some (.normal [.any, .any], s39))
  (fun i40 v38 s39 => if i40 = 0 then some (.normal v38, s39) else some (.exit i40 v38, s39))
  (fun r41 s39 => some (.ret r41, s39)))
  (fun v42 s43 => bd (aLoadN 6 (v42.getD 1 .any) s43.get) fun t67 =>
  bd2 (callf 10 [t67] s43) fun t68 s46 =>
  bd (aUn .not t68) fun t69 =>
  br t69 (bd (asAggT (aFill [.int .i64 0, .int .i64 0, .int .i64 0, .int .i64 0, .int .i64 0, .int .i64 0] [])) fun t70 =>
  bd2 (aStore 6 (v42.getD 0 .any) t70 s46) fun _ s47 =>
  bd (rC (aLoadN 6 (v42.getD 0 .any) s47.get) (rT (I .i64 5) (rT (I .i64 0) (some [])))) fun l48 => bd (retT l48) fun r49 =>
  some (r49, s47))
  (bd (aLoadN 6 (v42.getD 1 .any) s46.get) fun t71 =>
  bd2 (aStore 6 (v42.getD 0 .any) t71 s46) fun _ s50 =>
  bd (rC (aLoadN 6 (v42.getD 0 .any) s50.get) (rT (I .i64 0) (rT (I .i64 0) (some [])))) fun l51 => bd (retT l51) fun r52 =>
  some (r52, s50)))
  (fun i44 v42 s43 => none)
  (fun r45 s43 => some (r45, s43))

theorem f11_eq (callf : CallF) (N : Nat) (a0 : T) (s : St) : bodyC Tryd.prog callf N Tryd.f11 [a0] s = f11 callf N a0 s := by kernel_rfl

theorem f11_run (d : Nat) (a0 : T) (s : St) : R (d + 1) 11 [a0] s = f11 (R d) 8192 a0 s := (runQ_body rfl Tryd.func11 (by kernel_rfl)).trans (f11_eq ..)

/- twinkeep/policy.Default -/
def f7 (callf : CallF) (N : Nat) (s : St) : Option (T × St) :=
  bd2 (aNew s (nCells [.int .i64 0, .int .i64 0, .int .i64 0, .int .i64 0, .int .i64 0, .int .i64 0])) fun t0 s1 =>
  bd (asAggT (aFill [.int .i64 0, .int .i64 0, .int .i64 0, .int .i64 0] [(0, 1, (I .i64 60)), (1, 1, (I .i64 600)), (2, 1, (I .i64 6000)), (3, 1, (I .i64 0))])) fun t1 =>
  bd (asAggT (aFill [.int .i64 0, .int .i64 0, .int .i64 0, .int .i64 0, .int .i64 0, .int .i64 0] [(0, 4, t1), (4, 1, (I .i64 8)), (5, 1, (I .i64 30))])) fun t2 =>
  bd2 (aStore 6 t0 t2 s1) fun _ s2 =>
  bd (rC (aLoadN 6 t0 s2.get) (some [])) fun l3 => bd (retT l3) fun r4 =>
  some (r4, s2)

theorem f7_eq (callf : CallF) (N : Nat) (s : St) : bodyC Tryd.prog callf N Tryd.f7 [] s = f7 callf N s := by kernel_rfl

theorem f7_run (d : Nat) (s : St) : R (d + 1) 7 [] s = f7 (R d) 8192 s := (runQ_body rfl Tryd.func7 (by kernel_rfl)).trans (f7_eq ..)

/- twinkeep/policy.Print: a loop; 0: t1 p, 1: t4 b, 2: t12 , 3: t13 , 4: t14  -/
def f8_l1 (callf : CallF) (N : Nat) (v : List T) (s : St) : Option (JO × St) :=
  bd (aBin .lss (v.getD 4 .any) (v.getD 3 .any)) fun t15 =>
  br t15 (jn (bd (aIndexSl 1 (v.getD 2 .any) (v.getD 4 .any)) fun t17 =>
  bd (aLoad1 t17 s.get) fun t18 =>
  bd (aFieldAddr 0 (v.getD 0 .any)) fun t20 =>
  bd (aIndexArr 4 1 t20 (v.getD 4 .any)) fun t21 =>
  bd (aLoad1 t21 s.get) fun t22 =>
  bd (aBin .gtr t22 (I .i64 0)) fun t24 =>
  jn (br t24 (bd2 (callf 13 [t22, (I .i64 10)] s) fun t26 s6 =>
  some (.normal [(v.getD 0 .any), (v.getD 1 .any), t18, t26, (v.getD 2 .any), (v.getD 3 .any), (v.getD 4 .any)], s6))
  (some (.normal [(v.getD 0 .any), (v.getD 1 .any), t18, (Z (.str [101, 118, 101, 114])), (v.getD 2 .any), (v.getD 3 .any), (v.getD 4 .any)], s)))
  (fun v7 s8 => bd (aBin .add (Z (.str [107, 101, 101, 112, 32])) (v7.getD 2 .any)) fun t28 =>
  bd (aBin .add t28 (Z (.str [32]))) fun t29 =>
  bd (aBin .add t29 (v7.getD 3 .any)) fun t31 =>
  bd (aBin .add t31 (Z (.str [10]))) fun t32 =>
  bd2 (callf 14 [(v7.getD 1 .any), t32] s8) fun t33 s11 =>
  some (.normal [(v7.getD 0 .any), (v7.getD 1 .any), (v7.getD 4 .any), (v7.getD 5 .any), (v7.getD 6 .any)], s11))
  (fun i9 v7 s8 => if i9 = 1 then some (.normal v7, s8) else some (.exit i9 v7, s8))
  (fun r10 s8 => some (.ret r10, s8)))
  (fun v12 s13 => bd (aBin .add (v12.getD 4 .any) (I .i64 1)) fun t34 =>
  some (.normal [(v12.getD 0 .any), (v12.getD 1 .any), (v12.getD 2 .any), (v12.getD 3 .any), t34], s13))
  (fun i14 v12 s13 => some (.exit i14 v12, s13))
  (fun r15 s13 => some (.ret r15, s13)))
  (some (.exit 0 [(v.getD 0 .any), (v.getD 1 .any)], s))

/- twinkeep/policy.Print -/
def f8 (callf : CallF) (N : Nat) (a0 : T) (s : St) : Option (T × St) :=
  bd2 (aNew s (nBox a0)) fun t1 s1 =>
  bd (aLoadN 6 t1 s1.get) fun t9 =>
  bd2 (callf 10 [t9] s1) fun t10 s2 =>
  bd (aUn .not t10) fun t11 =>
  br t11 (bd (retT [(Z (.str [])), (I .i64 1)]) fun r3 =>
  some (r3, s2))
  (bd2 (aNew s2 (nBld 41 [.nilp, .nils])) fun t4 s4 =>
  bd2 (callf 12 [] s4) fun t12 s5 =>
  bd (aLenSl t12) fun t13 =>
  jn (jn (loops (f8_l1 callf N) N [t1, t4, t12, t13, (I .i64 0)] s5)
  (fun v16 s17 => some (.normal [.any, .any], s17))
  (fun i18 v16 s17 => if i18 = 0 then some (.normal v16, s17) else some (.exit i18 v16, s17))
  (fun r19 s17 => some (.ret r19, s17)))
  (fun v20 s21 => bd (aFieldAddr 4 (v20.getD 0 .any)) fun t35 =>
  bd (aLoad1 t35 s21.get) fun t36 =>
  bd2 (callf 15 [t36] s21) fun t37 s24 =>
  bd (aBin .add (Z (.str [115, 101, 97, 108, 32])) t37) fun t38 =>
  bd (aBin .add t38 (Z (.str [10, 115, 112, 97, 110, 32]))) fun t39 =>
  bd (aFieldAddr 5 (v20.getD 0 .any)) fun t40 =>
  bd (aLoad1 t40 s24.get) fun t41 =>
  bd2 (callf 13 [t41, (I .i64 10)] s24) fun t42 s25 =>
  bd (aBin .add t39 t42) fun t43 =>
  bd (aBin .add t43 (Z (.str [10]))) fun t44 =>
  bd2 (callf 14 [(v20.getD 1 .any), t44] s25) fun t45 s26 =>
  ck ((decide (aLoad1 t40 s21.get = aLoad1 t40 s24.get) && true) && true) (bd2 (callf 16 [(v20.getD 1 .any)] s26) fun t46 s27 =>
  bd (retT [t46, (I .i64 0)]) fun r28 =>
  some (r28, s27)))
  (fun i22 v20 s21 => none)
  (fun r23 s21 => some (r23, s21)))

theorem f8_eq (callf : CallF) (N : Nat) (a0 : T) (s : St) : bodyC Tryd.prog callf N Tryd.f8 [a0] s = f8 callf N a0 s := by kernel_rfl

theorem f8_run (d : Nat) (a0 : T) (s : St) : R (d + 1) 8 [a0] s = f8 (R d) 8192 a0 s := (runQ_body rfl Tryd.func8 (by kernel_rfl)).trans (f8_eq ..)

end
end Go.Proofs.YtkifcchcofdkaaaDoor


/-
  What functions that the laws reach compute, printed by a program of our own: each text is by definition the run of the code. No conditions.
-/
namespace Go.Proofs.YtkifcchcofdkaaaDoor
open Go Go.Abs Go.Abs.F
set_option linter.unusedVariables false
noncomputable section
/- twinkeep/twinkeeplaw5.PolicyAges -/
def f3 (callf : CallF) (N : Nat) (a0 : T) (a1 : T) (a2 : T) (s : St) : Option (T × St) :=
  bd (aConv .u64 a0) fun t16 =>
  bd (aBin .rem t16 (I .u64 21)) fun t17 =>
  bd (aConv .i64 t17) fun t18 =>
  bd (aConv .u64 a1) fun t20 =>
  bd (aBin .rem t20 (I .u64 21)) fun t21 =>
  bd (aConv .i64 t21) fun t22 =>
  bd (aConv .u64 a2) fun t24 =>
  bd (aBin .rem t24 (I .u64 21)) fun t25 =>
  bd (aConv .i64 t25) fun t26 =>
  bd2 (callf 7 [] s) fun t27 s1 =>
  bd2 (aNew s1 (nCells [.int .i64 0, .int .i64 0, .int .i64 0, .int .i64 0, .int .i64 0, .int .i64 0])) fun t10 s2 =>
  bd2 (aStore 6 t10 t27 s2) fun _ s3 =>
  bd (asAggT (aFill [.int .i64 0, .int .i64 0, .int .i64 0, .int .i64 0] [(0, 1, t18), (1, 1, t22), (2, 1, t26), (3, 1, (I .i64 0))])) fun t31 =>
  bd (aFieldAddr 0 t10) fun t32 =>
  bd2 (aStore 4 t32 t31 s3) fun _ s4 =>
  bd (aBin .eql t18 (I .i64 0)) fun t34 =>
  bd (gT (gd t34 true) (some t22)) fun t36 =>
  bd (gT (gd t34 true) (aBin .neq t36 (I .i64 0))) fun t37 =>
  bd (gT (gd t34 true) (some t37)) fun t38 =>
  bd (gT (gd t38 false) (some t26)) fun t39 =>
  bd (gT (gd t38 false) (aBin .neq t39 (I .i64 0))) fun t40 =>
  bd (gT (gd t34 true) (aPick t38 (B true) t40)) fun t41 =>
  bd (aPick t34 t41 (B false)) fun t42 =>
  bd (gT (gd t42 false) (some t22)) fun t44 =>
  bd (gT (gd t42 false) (aBin .eql t44 (I .i64 0))) fun t45 =>
  bd (gT (gd t42 false) (some t45)) fun t46 =>
  bd (gT (gd t46 true) (some t26)) fun t47 =>
  bd (gT (gd t46 true) (aBin .neq t47 (I .i64 0))) fun t48 =>
  bd (gT (gd t42 false) (aPick t46 t48 (B false))) fun t49 =>
  bd (aPick t42 (B true) t49) fun t50 =>
  jn (br t50 (some (.normal [t18, t22, t26, t10, (B false)], s4))
  (some (.normal [t18, t22, t26, t10, (B true)], s4)))
  (fun v5 s6 => bd (aBin .neq (v5.getD 1 .any) (I .i64 0)) fun t52 =>
  bd (gT (gd t52 true) (some (v5.getD 1 .any))) fun t54 =>
  bd (gT (gd t52 true) (some (v5.getD 0 .any))) fun t55 =>
  bd (gT (gd t52 true) (aBin .lss t54 t55)) fun t56 =>
  bd (aPick t52 t56 (B false)) fun t57 =>
  bd (gT (gd t57 false) (some (v5.getD 2 .any))) fun t59 =>
  bd (gT (gd t57 false) (aBin .neq t59 (I .i64 0))) fun t60 =>
  bd (gT (gd t57 false) (some t60)) fun t61 =>
  bd (gT (gd t61 true) (some (v5.getD 2 .any))) fun t62 =>
  bd (gT (gd t61 true) (some (v5.getD 1 .any))) fun t63 =>
  bd (gT (gd t61 true) (aBin .lss t62 t63)) fun t64 =>
  bd (gT (gd t57 false) (aPick t61 t64 (B false))) fun t65 =>
  bd (aPick t57 (B true) t65) fun t66 =>
  jn (br t66 (some (.normal [(v5.getD 3 .any), (B false)], s6))
  (some (.normal [(v5.getD 3 .any), (v5.getD 4 .any)], s6)))
  (fun v9 s10 => bd (aLoadN 6 (v9.getD 0 .any) s10.get) fun t67 =>
  bd2 (aNew s10 (nCells [.int .i64 0, .int .i64 0, .int .i64 0, .int .i64 0, .int .i64 0, .int .i64 0])) fun t12 s13 =>
  bd2 (aStore 6 t12 t67 s13) fun _ s14 =>
  bd (aFieldAddr 0 t12) fun t68 =>
  bd (aIndexArr 4 1 t68 (I .i64 3)) fun t69 =>
  bd2 (aStore 1 t69 (I .i64 100) s14) fun _ s15 =>
  bd (aLoadN 6 (v9.getD 0 .any) s15.get) fun t71 =>
  bd2 (callf 8 [t71] s15) fun t72 s16 =>
  bd (aExtract t72 0) fun t73 =>
  bd (aExtract t72 1) fun t74 =>
  bd2 (callf 9 [] s16) fun t75 s17 =>
  bd (gT (gd t75 true) (aLoadN 6 (v9.getD 0 .any) s17.get)) fun t77 =>
  bd2 (gS (gd t75 true) s17 (callf 10 [t77] s17)) fun t78 s18 =>
  bd (gT (gd t75 true) (some (v9.getD 1 .any))) fun t79 =>
  bd (gT (gd t75 true) (eqB .b t78 t79)) fun t80 =>
  bd (aPick t75 t80 (B false)) fun t81 =>
  bd (gT (gd t81 true) (aLoadN 6 t12 s18.get)) fun t83 =>
  bd2 (gS (gd t81 true) s18 (callf 10 [t83] s18)) fun t84 s19 =>
  bd (gT (gd t81 true) (aUn .not t84)) fun t85 =>
  bd (aPick t81 t85 (B false)) fun t86 =>
  bd (gT (gd t86 true) (some t74)) fun t88 =>
  bd (gT (gd t86 true) (aBin .eql t88 (I .i64 0))) fun t89 =>
  bd (gT (gd t86 true) (some (v9.getD 1 .any))) fun t90 =>
  bd (gT (gd t86 true) (eqB .b t89 t90)) fun t91 =>
  bd (aPick t86 t91 (B false)) fun t92 =>
  bd (gT (gd t92 true) (some t73)) fun t94 =>
  bd (gT (gd t92 true) (aLenStr t94)) fun t95 =>
  bd (gT (gd t92 true) (aBin .gtr t95 (I .i64 0))) fun t96 =>
  bd (gT (gd t92 true) (some (v9.getD 1 .any))) fun t97 =>
  bd (gT (gd t92 true) (eqB .b t96 t97)) fun t98 =>
  bd (aPick t92 t98 (B false)) fun t99 =>
  some (t99, s19))
  (fun i11 v9 s10 => none)
  (fun r12 s10 => some (r12, s10)))
  (fun i7 v5 s6 => none)
  (fun r8 s6 => some (r8, s6))

/- twinkeep/twinkeeplaw5.PolicyBack: a loop; 0: t5 p, 1: t11 q, 2: t12 turn -/
def f4_l1 (callf : CallF) (N : Nat) (v : List T) (s : St) : Option (JO × St) :=
  bd (aBin .lss (v.getD 2 .any) (I .i64 2)) fun t59 =>
  br t59 (jn (bd (aLoadN 6 (v.getD 1 .any) s.get) fun t63 =>
  bd2 (callf 8 [t63] s) fun t64 s10 =>
  bd (aExtract t64 0) fun t65 =>
  bd (aExtract t64 1) fun t66 =>
  bd (aLoadN 6 (v.getD 1 .any) s10.get) fun t67 =>
  bd2 (callf 10 [t67] s10) fun t68 s11 =>
  bd (aBin .eql t66 (I .i64 0)) fun t70 =>
  bd (neB .b t68 t70) fun t71 =>
  br t71 (some (.ret (B false), s11))
  (bd (aBin .eql t66 (I .i64 0)) fun t73 =>
  jn (br t73 (bd2 (callf 11 [t65] s11) fun t76 s12 =>
  bd (aExtract t76 0) fun t77 =>
  bd (aExtract t76 1) fun t78 =>
  bd (aExtract t76 2) fun t79 =>
  bd2 (aNew s12 (nCells [.int .i64 0, .int .i64 0, .int .i64 0, .int .i64 0, .int .i64 0, .int .i64 0])) fun t15 s13 =>
  bd2 (aStore 6 t15 t77 s13) fun _ s14 =>
  bd (aBin .neq t78 (I .i64 0)) fun t81 =>
  bd (gT (gd t81 false) (aLoadN 6 t15 s14.get)) fun t83 =>
  bd (gT (gd t81 false) (aLoadN 6 (v.getD 1 .any) s14.get)) fun t84 =>
  bd (gT (gd t81 false) (neB (.a 6 [(0, .i), (1, .i), (2, .i), (3, .i), (4, .i), (5, .i)]) t83 t84)) fun t85 =>
  bd (aPick t81 (B true) t85) fun t86 =>
  br t86 (some (.ret (B false), s14))
  (some (.normal [(v.getD 0 .any), (v.getD 1 .any), (v.getD 2 .any)], s14)))
  (some (.normal [(v.getD 0 .any), (v.getD 1 .any), (v.getD 2 .any)], s11)))
  (fun v15 s16 => bd (aLoadN 6 (v15.getD 0 .any) s16.get) fun t87 =>
  bd2 (aStore 6 (v15.getD 1 .any) t87 s16) fun _ s19 =>
  some (.normal [(v15.getD 0 .any), (v15.getD 1 .any), (v15.getD 2 .any)], s19))
  (fun i17 v15 s16 => if i17 = 1 then some (.normal v15, s16) else some (.exit i17 v15, s16))
  (fun r18 s16 => some (.ret r18, s16))))
  (fun v20 s21 => bd (aBin .add (v20.getD 2 .any) (I .i64 1)) fun t61 =>
  some (.normal [(v20.getD 0 .any), (v20.getD 1 .any), t61], s21))
  (fun i22 v20 s21 => some (.exit i22 v20, s21))
  (fun r23 s21 => some (.ret r23, s21)))
  (some (.exit 0 [], s))

/- twinkeep/twinkeeplaw5.PolicyBack -/
def f4 (callf : CallF) (N : Nat) (a0 : T) (a1 : T) (a2 : T) (a3 : T) (a4 : T) (s : St) : Option (T × St) :=
  bd2 (aNew s (nBox a0)) fun t5 s1 =>
  bd (aConv .u64 a1) fun t19 =>
  bd (aBin .rem t19 (I .u64 1000)) fun t20 =>
  bd (aConv .i64 t20) fun t21 =>
  bd (asAggT (aFill [.int .i64 0, .int .i64 0, .int .i64 0, .int .i64 0] [(0, 1, t21), (1, 1, (I .i64 0)), (2, 1, (I .i64 0)), (3, 1, (I .i64 0))])) fun t22 =>
  bd (aConv .u64 a4) fun t24 =>
  bd (aBin .rem t24 (I .u64 64)) fun t25 =>
  bd (aConv .i64 t25) fun t26 =>
  bd (aBin .add (I .i64 1) t26) fun t27 =>
  bd (aConv .u64 a4) fun t29 =>
  bd (aBin .rem t29 (I .u64 200)) fun t30 =>
  bd (aConv .i64 t30) fun t31 =>
  bd (aBin .add (I .i64 1) t31) fun t32 =>
  bd (asAggT (aFill [.int .i64 0, .int .i64 0, .int .i64 0, .int .i64 0, .int .i64 0, .int .i64 0] [(0, 4, t22), (4, 1, t27), (5, 1, t32)])) fun t33 =>
  bd2 (aNew s1 (nCells [.int .i64 0, .int .i64 0, .int .i64 0, .int .i64 0, .int .i64 0, .int .i64 0])) fun t11 s2 =>
  bd2 (aStore 6 t11 t33 s2) fun _ s3 =>
  bd (aFieldAddr 0 t11) fun t34 =>
  bd (aIndexArr 4 1 t34 (I .i64 0)) fun t35 =>
  bd (aLoad1 t35 s3.get) fun t36 =>
  bd (aBin .gtr t36 (I .i64 0)) fun t37 =>
  jn (br t37 (bd (aFieldAddr 0 t11) fun t38 =>
  bd (aIndexArr 4 1 t38 (I .i64 0)) fun t39 =>
  bd (aLoad1 t39 s3.get) fun t40 =>
  bd (aConv .u64 a2) fun t42 =>
  bd (aBin .rem t42 (I .u64 1000)) fun t43 =>
  bd (aConv .i64 t43) fun t44 =>
  bd (aBin .add t40 t44) fun t45 =>
  bd (aFieldAddr 0 t11) fun t46 =>
  bd (aIndexArr 4 1 t46 (I .i64 1)) fun t47 =>
  bd2 (aStore 1 t47 t45 s3) fun _ s4 =>
  bd (aFieldAddr 0 t11) fun t48 =>
  bd (aIndexArr 4 1 t48 (I .i64 1)) fun t49 =>
  bd (aLoad1 t49 s4.get) fun t50 =>
  bd (aConv .u64 a3) fun t52 =>
  bd (aBin .rem t52 (I .u64 1000)) fun t53 =>
  bd (aConv .i64 t53) fun t54 =>
  bd (aBin .add t50 t54) fun t55 =>
  bd (aFieldAddr 0 t11) fun t56 =>
  bd (aIndexArr 4 1 t56 (I .i64 2)) fun t57 =>
  bd2 (aStore 1 t57 t55 s4) fun _ s5 =>
  some (.normal [t5, t11], s5))
  (some (.normal [t5, t11], s3)))
  (fun v6 s7 => jn (jn (loops (f4_l1 callf N) N [(v6.getD 0 .any), (v6.getD 1 .any), (I .i64 0)] s7)
  (fun v24 s25 => some (.normal [], s25))
  (fun i26 v24 s25 => if i26 = 0 then some (.normal v24, s25) else some (.exit i26 v24, s25))
  (fun r27 s25 => some (.ret r27, s25)))
  (fun v28 s29 => bd2 (callf 9 [] s29) fun t88 s32 =>
  some (t88, s32))
  (fun i30 v28 s29 => none)
  (fun r31 s29 => some (r31, s29)))
  (fun i8 v6 s7 => none)
  (fun r9 s7 => some (r9, s7))

theorem f4_eq (callf : CallF) (N : Nat) (a0 : T) (a1 : T) (a2 : T) (a3 : T) (a4 : T) (s : St) : bodyC Tryd.prog callf N Tryd.f4 [a0, a1, a2, a3, a4] s = f4 callf N a0 a1 a2 a3 a4 s := by kernel_rfl

theorem f4_run (d : Nat) (a0 : T) (a1 : T) (a2 : T) (a3 : T) (a4 : T) (s : St) : R (d + 1) 4 [a0, a1, a2, a3, a4] s = f4 (R d) 8192 a0 a1 a2 a3 a4 s := (runQ_body rfl Tryd.func4 (by kernel_rfl)).trans (f4_eq ..)

/- twinkeep/twinkeeplaw5.PolicyOrders: a loop; 0: t1 twice, 1: t5 l, 2: t6 k, 3: t7 s, 4: t8 n, 5: t9 left -/
def f5_l1 (callf : CallF) (N : Nat) (v : List T) (s : St) : Option (JO × St) :=
  bd (aLenSl (v.getD 5 .any)) fun t24 =>
  bd (aBin .gtr t24 (I .i64 0)) fun t25 =>
  br t25 (jn (bd (aLenSl (v.getD 5 .any)) fun t28 =>
  bd (aConv .u64 t28) fun t29 =>
  bd (aBin .rem (v.getD 2 .any) t29) fun t30 =>
  bd (aConv .i64 t30) fun t31 =>
  bd (aLenSl (v.getD 5 .any)) fun t34 =>
  bd (aConv .u64 t34) fun t35 =>
  bd (aBin .quo (v.getD 2 .any) t35) fun t36 =>
  bd (aIndexSl 1 (v.getD 5 .any) t31) fun t40 =>
  bd (aLoad1 t40 s.get) fun t41 =>
  bd (aBin .add (v.getD 3 .any) t41) fun t42 =>
  bd (aBin .add t42 (Z (.str [10]))) fun t43 =>
  bd (aPieceSl 1 (v.getD 5 .any) none (some t31) (some t31)) fun t47 =>
  bd (aBin .add t31 (I .i64 1)) fun t50 =>
  bd (aPieceSl 1 (v.getD 5 .any) (some t50) none none) fun t51 =>
  bd2 (aAppend 1 16 t47 t51 s) fun t52 s4 =>
  bd (aBin .add (v.getD 4 .any) (I .i64 1)) fun t54 =>
  bd (aBin .gtr t54 (I .i64 4)) fun t56 =>
  br t56 (some (.ret (B false), s4))
  (some (.normal [(v.getD 0 .any), (v.getD 1 .any), t36, t43, t54, t52], s4)))
  (fun v5 s6 => some (.normal [(v5.getD 0 .any), (v5.getD 1 .any), (v5.getD 2 .any), (v5.getD 3 .any), (v5.getD 4 .any), (v5.getD 5 .any)], s6))
  (fun i7 v5 s6 => some (.exit i7 v5, s6))
  (fun r8 s6 => some (.ret r8, s6)))
  (some (.exit 0 [(v.getD 0 .any), (v.getD 1 .any), (v.getD 3 .any)], s))

/- twinkeep/twinkeeplaw5.PolicyOrders -/
def f5 (callf : CallF) (N : Nat) (a0 : T) (a1 : T) (s : St) : Option (T × St) :=
  bd2 (aNew s (nSlice 4 (aFill [.str [], .str [], .str [], .str []] [(0, 1, (Z (.str [107, 101, 101, 112, 32, 114, 97, 119, 32, 49, 48]))), (1, 1, (Z (.str [107, 101, 101, 112, 32, 53, 109, 32, 50, 48]))), (2, 1, (Z (.str [115, 101, 97, 108, 32, 53]))), (3, 1, (Z (.str [115, 112, 97, 110, 32, 57])))]))) fun t17 s1 =>
  bd (aConv .u64 a0) fun t19 =>
  bd2 (aNew s1 (nSlice 0 (aFill [] []))) fun t20 s2 =>
  bd2 (aAppend 1 16 t20 t17 s2) fun t22 s3 =>
  jn (jn (loops (f5_l1 callf N) N [a1, t17, t19, (Z (.str [])), (I .i64 0), t22] s3)
  (fun v9 s10 => some (.normal [.any, .any, .any], s10))
  (fun i11 v9 s10 => if i11 = 0 then some (.normal v9, s10) else some (.exit i11 v9, s10))
  (fun r12 s10 => some (.ret r12, s10)))
  (fun v13 s14 => bd2 (callf 11 [(v13.getD 2 .any)] s14) fun t59 s17 =>
  bd (aExtract t59 0) fun t60 =>
  bd (aExtract t59 1) fun t61 =>
  bd (aExtract t59 2) fun t62 =>
  bd2 (aNew s17 (nCells [.int .i64 0, .int .i64 0, .int .i64 0, .int .i64 0, .int .i64 0, .int .i64 0])) fun t11 s18 =>
  bd2 (aStore 6 t11 t60 s18) fun _ s19 =>
  bd (aBin .add (v13.getD 2 .any) (Z (.str [32]))) fun t65 =>
  bd (aConv .u64 (v13.getD 0 .any)) fun t68 =>
  bd (aBin .rem t68 (I .u64 4)) fun t69 =>
  bd (aIndexSl 1 (v13.getD 1 .any) t69) fun t70 =>
  bd (aLoad1 t70 s19.get) fun t71 =>
  bd (aBin .add t65 t71) fun t72 =>
  bd (aBin .add t72 (Z (.str [32, 35, 32, 97, 103, 97, 105, 110]))) fun t73 =>
  bd2 (callf 11 [t73] s19) fun t74 s20 =>
  bd (aExtract t74 0) fun t75 =>
  bd (aExtract t74 1) fun t76 =>
  bd (aExtract t74 2) fun t77 =>
  bd2 (aNew s20 (nCells [.int .i64 0, .int .i64 0, .int .i64 0, .int .i64 0, .int .i64 0, .int .i64 0])) fun t14 s21 =>
  bd2 (aStore 6 t14 t75 s21) fun _ s22 =>
  bd2 (callf 9 [] s22) fun t78 s23 =>
  bd (gT (gd t78 true) (some t61)) fun t80 =>
  bd (gT (gd t78 true) (aBin .eql t80 (I .i64 0))) fun t81 =>
  bd (aPick t78 t81 (B false)) fun t82 =>
  bd (gT (gd t82 true) (aFieldAddr 0 t11)) fun t84 =>
  bd (gT (gd t82 true) (aIndexArr 4 1 t84 (I .i64 0))) fun t85 =>
  bd (gT (gd t82 true) (aLoad1 t85 s23.get)) fun t86 =>
  bd (gT (gd t82 true) (aBin .eql t86 (I .i64 10))) fun t87 =>
  bd (aPick t82 t87 (B false)) fun t88 =>
  bd (gT (gd t88 true) (aFieldAddr 0 t11)) fun t90 =>
  bd (gT (gd t88 true) (aIndexArr 4 1 t90 (I .i64 1))) fun t91 =>
  bd (gT (gd t88 true) (aLoad1 t91 s23.get)) fun t92 =>
  bd (gT (gd t88 true) (aBin .eql t92 (I .i64 20))) fun t93 =>
  bd (aPick t88 t93 (B false)) fun t94 =>
  bd (gT (gd t94 true) (aFieldAddr 4 t11)) fun t96 =>
  bd (gT (gd t94 true) (aLoad1 t96 s23.get)) fun t97 =>
  bd (gT (gd t94 true) (aBin .eql t97 (I .i64 5))) fun t98 =>
  bd (aPick t94 t98 (B false)) fun t99 =>
  bd (gT (gd t99 true) (aFieldAddr 5 t11)) fun t101 =>
  bd (gT (gd t99 true) (aLoad1 t101 s23.get)) fun t102 =>
  bd (gT (gd t99 true) (aBin .eql t102 (I .i64 9))) fun t103 =>
  bd (aPick t99 t103 (B false)) fun t104 =>
  bd (gT (gd t104 true) (aFieldAddr 0 t11)) fun t106 =>
  bd (gT (gd t104 true) (aIndexArr 4 1 t106 (I .i64 2))) fun t107 =>
  bd (gT (gd t104 true) (aLoad1 t107 s23.get)) fun t108 =>
  bd2 (gS (gd t104 true) s23 (callf 7 [] s23)) fun t109 s24 =>
  bd (gT (gd t104 true) (aField (some 4) 0 t109)) fun t110 =>
  bd (gT (gd t104 true) (aAtArr none 4 1 t110 (I .i64 2))) fun t111 =>
  bd (gT (gd t104 true) (aBin .eql t108 t111)) fun t112 =>
  bd (aPick t104 t112 (B false)) fun t113 =>
  bd (gT (gd t113 true) (some t76)) fun t115 =>
  bd (gT (gd t113 true) (aBin .eql t115 (I .i64 4))) fun t116 =>
  bd (aPick t113 t116 (B false)) fun t117 =>
  bd (gT (gd t117 true) (some t77)) fun t119 =>
  bd (gT (gd t117 true) (aBin .eql t119 (I .i64 5))) fun t120 =>
  bd (aPick t117 t120 (B false)) fun t121 =>
  ck ((wq (gd t104 true) (decide (aLoad1 t107 s24.get = aLoad1 t107 s23.get)) && true) && true) (some (t121, s24)))
  (fun i15 v13 s14 => none)
  (fun r16 s14 => some (r16, s14))

/- twinkeep/twinkeeplaw5.PolicyLines: a loop; 0: t5 l, 1: t6 k, 2: t7 n, 3: t8 s, 4: t9 t, 5: t10 i -/
/- twinkeep/twinkeeplaw5.PolicyLines: a loop; 0: t5 l, 1: t6 k, 2: t7 n, 3: t8 s, 4: t9 t, 5: t11 i -/
/- twinkeep/twinkeeplaw5.PolicyLines -/
end
end Go.Proofs.YtkifcchcofdkaaaDoor


/-
  What functions that the laws reach compute, printed by a program of our own: each text is by definition the run of the code. No conditions.
-/
namespace Go.Proofs.YtkifcchcofdkaaaDoor
end Go.Proofs.YtkifcchcofdkaaaDoor


/-
  Pieces of texts: what strings.Split, Cut, slices.Index and Contains compute, in any store. No conditions but those named in each line.
-/
namespace Go.Proofs.YtkifcchcofdkaaaDoor
open Go Go.Abs Go.Abs.F
set_option linter.unusedVariables false
section
variable {s t : St} {x y : S} {l : Bs} {c : UInt8}

theorem index_run (d : Nat) : R (d + 1) 37 [Z (.str l), Z (.str [c])] s = some (I .i64 (ixB c l 0), s) := runQ_prim (prim_ix (by decide))
theorem index2_run (d : Nat) : R (d + 1) 38 [Z (.str l), Z (.str [c])] s = some (I .i64 (ixB c l 0), s) := runQ_prim (prim_ix (by decide))
theorem count_run (d : Nat) : R (d + 1) 36 [Z (.str l), Z (.str [c])] s = some (I .i64 (cntB c l : Nat), s) := runQ_prim prim_cnt

theorem cut_run (d : Nat) (hl : l.length ≤ 100000) : R (d + 3) 18 [Z (.str l), Z (.str [c])] s = some (.tup [.s (.str (l.takeWhile fun b => !Nat.beq b.toNat c.toNat)), .s (.str (match ixB c l 0 with | .ofNat m => l.drop (m + 1) | _ => [])), .s (.bool (decide (0 ≤ ixB c l 0)))], s) := by
  have key : R (d + 2) 26 [Z (.str l), Z (.str [c])] s = some (.tup [.s (.str (l.takeWhile fun b => !Nat.beq b.toNat c.toNat)), .s (.str (match ixB c l 0 with | .ofNat m => l.drop (m + 1) | _ => [])), .s (.bool (decide (0 ≤ ixB c l 0)))], s) := by
    rw [f26_run]
    unfold f26
    have e := index2_run (s := s) (l := l) (c := c) d
    rcases cut_first c l with ⟨h1, h2⟩ | ⟨m, h0, h1, h2⟩
    · rw [h1] at e ⊢
      have c0 : ¬ (0 : Int) ≤ -1 := by decide
      simp [e, c0, h2, retT, allV]
    · rw [h1] at e ⊢
      have c0 : (0 : Int) ≤ (m : Int) := by omega
      have w1 : IntKind.i64.wrap ((m : Int) + 1) = ((m + 1 : Nat) : Int) := by rw [wrap_in _ (by omega) (by omega)]; omega
      have p1 := aPieceStr_hi (l := l) (m := m) (n := (m : Int)) rfl (by omega)
      have p2 := aPieceStr_lo (l := l) (m := m + 1) (n := ((m + 1 : Nat) : Int)) rfl (by omega)
      generalize ((m + 1 : Nat) : Int) = M1 at w1 p2
      have hd : (match ((m : Nat) : Int) with | .ofNat m => l.drop (m + 1) | _ => []) = l.drop (m + 1) := rfl
      rw [hd]
      generalize ((m : Nat) : Int) = M at *
      simp [e, c0, h2, p1, w1, p2, retT, allV]
  rw [f18_run]
  unfold f18
  simp [key, aExtract, retT, allV]

theorem splitLoop (r : CallF) (hix : ∀ (l : Bs) (u : St), r 37 [Z (.str l), Z (.str [c])] u = some (I .i64 (ixB c l 0), u)) (hl : l.length ≤ 8000) (wf : s.wf) :
    ∃ (m : Bs) (done : List Bs) (τ : St), loops (f25_l1 r 8192) 8192 [Z (.str l), Z (.str [c]), I .i64 0, I .i64 (cntB c l : Nat), Z (.sl s.size 0 (cntB c l + 1) (.known (cntB c l + 1))), I .i64 0] (s.push (.cells true (List.replicate (cntB c l + 1) (.str [])))) =
        some (.exit 0 [Z (.str m), Z (.sl s.size 0 (cntB c l + 1) (.known (cntB c l + 1))), I .i64 (cntB c l : Nat)], τ) ∧ τ.wf ∧ τ.size = s.size + 1 ∧ (∀ b, b < s.size → τ.get b = s.get b) ∧ done ++ [m] = splitB c l ∧ done.length = cntB c l ∧
        τ.get s.size = some (.cells true (strS done ++ [.str []])) := by
  obtain ⟨n, hn⟩ : ∃ n, n = cntB c l := ⟨_, rfl⟩
  have hnl := cntB_le c l
  rw [← hn] at hnl
  rw [← hn]
  obtain ⟨j, τ, lp, m, done, rfl, q1, q2, q3, q4, q5, q6⟩ := loops_inv (f := f25_l1 r 8192) (fun q v u => ∃ (m : Bs) (done : List Bs), q + done.length = n ∧ v = [Z (.str m), Z (.str [c]), I .i64 0, I .i64 (n : Nat), Z (.sl s.size 0 (n + 1) (.known (n + 1))), I .i64 (done.length : Nat)] ∧ u.wf ∧ u.size = s.size + 1 ∧ (∀ b, b < s.size → u.get b = s.get b) ∧
      done ++ splitB c m = splitB c l ∧ cntB c m = q ∧ m.length ≤ l.length ∧ u.get s.size = some (.cells true (strS done ++ List.replicate (n + 1 - done.length) (.str []))))
    (fun j u => ∃ (m : Bs) (done : List Bs), j = .exit 0 [Z (.str m), Z (.sl s.size 0 (n + 1) (.known (n + 1))), I .i64 (n : Nat)] ∧ u.wf ∧ u.size = s.size + 1 ∧ (∀ b, b < s.size → u.get b = s.get b) ∧ done ++ [m] = splitB c l ∧ done.length = n ∧ u.get s.size = some (.cells true (strS done ++ [.str []]))) (by
    rintro q v u ⟨m, done, hq, rfl, h1, h2, h3, h4, h5, h6, h7⟩
    rcases split_first c m with ⟨k1, k2, k3⟩ | ⟨i, k0, k1, k2, k3⟩
    · right
      have : q = 0 := by omega
      subst this
      have hd : done.length = n := by omega
      have c0 : ¬ ((n : Int) < (n : Int)) := by omega
      refine ⟨_, u, ?_, (fun v hv => by cases hv), m, done, rfl, h1, h2, h3, by rw [← h4, k3], hd, ?_⟩
      · unfold f25_l1
        rw [hd]
        simp [c0]
      · rw [h7, hd, show n + 1 - n = 1 by omega]
        rfl
    · left
      have hdl : done.length < n := by omega
      have c0 : ((done.length : Nat) : Int) < (n : Int) := by omega
      have c1 : ¬ ((i : Nat) : Int) < 0 := by omega
      have w0 : IntKind.i64.wrap ((i : Nat) : Int) = ((i : Nat) : Int) := wrap_in _ (by omega) (by omega)
      have w1 : IntKind.i64.wrap ((i : Int) + 1) = ((i + 1 : Nat) : Int) := by rw [wrap_in _ (by omega) (by omega)]; omega
      have w2 : IntKind.i64.wrap (((done.length : Nat) : Int) + 1) = ((done.length + 1 : Nat) : Int) := by rw [wrap_in _ (by omega) (by omega)]; omega
      have p1 := aPieceStr_hi (l := m) (m := i) (n := ((i : Nat) : Int)) rfl (by omega)
      have p2 := aPieceStr_lo (l := m) (m := i + 1) (n := ((i + 1 : Nat) : Int)) rfl (by omega)
      have ix : aIndexSl 1 (Z (.sl s.size 0 (n + 1) (.known (n + 1)))) (I .i64 ((done.length : Nat) : Int)) = some (Z (.ptr s.size done.length)) := by rw [aIndexSl_int (j := done.length) rfl (by omega), Nat.zero_add, Nat.mul_one]
      have hlen : (strS done ++ List.replicate (n + 1 - done.length) (S.str [])).length = n + 1 := by simp; omega
      have st := aStore1_of (σ := u) (i := s.size) (o := done.length) (x := .str (m.take i)) h7 (by omega)
      have hset : setRange (strS done ++ List.replicate (n + 1 - done.length) (S.str [])) done.length [.str (m.take i)] = strS (done ++ [m.take i]) ++ List.replicate (n + 1 - (done ++ [m.take i]).length) (.str []) := by
        rw [setRange_eq _ _ _ (by simp; omega)]
        have e1 : (strS done ++ List.replicate (n + 1 - done.length) (S.str [])).take done.length = strS done := by
          rw [List.take_append_of_le_length (by simp)]
          exact List.take_of_length_le (by simp)
        have e2 : (strS done ++ List.replicate (n + 1 - done.length) (S.str [])).drop (done.length + [S.str (m.take i)].length) = List.replicate (n + 1 - (done.length + 1)) (S.str []) := by
          rw [List.drop_append, List.drop_eq_nil_of_le (by simp), List.nil_append, List.drop_replicate]
          congr 1
          simp
          omega
        rw [e1, e2, strS_append, List.length_append]
        simp [strS]
      rw [hset] at st
      have e := hix m u
      rw [k1] at e
      refine ⟨[Z (.str (m.drop (i + 1))), Z (.str [c]), I .i64 0, I .i64 (n : Nat), Z (.sl s.size 0 (n + 1) (.known (n + 1))), I .i64 ((done.length + 1 : Nat) : Int)], u.set s.size (.cells true (strS (done ++ [m.take i]) ++ List.replicate (n + 1 - (done ++ [m.take i]).length) (.str []))), q - 1, ?_, by omega, m.drop (i + 1), done ++ [m.take i], by simp; omega, by simp, St.wf_set h1 (by omega) _, by simpa using h2, fun b hb => by rw [St.get_set_ne _ _ (by omega)]; exact h3 b hb, by rw [← h4, k2]; simp, by omega, by simp; omega, St.get_set_same _ _ _⟩
      unfold f25_l1
      generalize ((i + 1 : Nat) : Int) = I1 at w1 p2
      generalize ((i : Nat) : Int) = I0 at c1 w0 w1 p1 e
      generalize ((done.length + 1 : Nat) : Int) = D1 at w2 ⊢
      generalize ((done.length : Nat) : Int) = D0 at c0 w2 ix ⊢
      simp [c0, e, c1, w0, w1, p1, ix, st, p2, w2]) 8192 n [Z (.str l), Z (.str [c]), I .i64 0, I .i64 (n : Nat), Z (.sl s.size 0 (n + 1) (.known (n + 1))), I .i64 0] (s.push (.cells true (List.replicate (n + 1) (.str [])))) ⟨l, [], by simp, rfl, St.wf_push wf _, by simp, fun b hb => St.get_push_ne _ _ (by omega), by simp, hn.symm, Nat.le_refl _, by simp [strS]⟩ (by omega)
  exact ⟨m, done, τ, lp, q1, q2, q3, q4, q5, q6⟩

theorem split_run (d : Nat) (wf : s.wf) (hl : l.length ≤ 8000) : ∃ x t, R (d + 3) 17 [Z (.str l), Z (.str [c])] s = some (Z x, t) ∧ FT s t x (splitB c l) := by
  obtain ⟨m, done, τ, lp, q1, q2, q3, q4, q5, q6⟩ := splitLoop (c := c) (R (d + 1)) (fun l u => index_run d) hl wf
  have hnl := cntB_le c l
  have hcnt := count_run (s := s) (l := l) (c := c) d
  have key : R (d + 2) 25 [Z (.str l), Z (.str [c]), I .i64 0, I .i64 (-1)] s = some (Z (.sl s.size 0 (cntB c l + 1) (.known (cntB c l + 1))), τ.set s.size (.cells true (strS (splitB c l)))) := by
    rw [f25_run]
    unfold f25
    obtain ⟨n, hn⟩ : ∃ n, n = cntB c l := ⟨_, rfl⟩
    rw [← hn] at hnl lp q5 hcnt ⊢
    have w1 : IntKind.i64.wrap ((n : Int) + 1) = ((n + 1 : Nat) : Int) := by rw [wrap_in _ (by omega) (by omega)]; omega
    have w2 : IntKind.i64.wrap ((l.length : Int) + 1) = ((l.length + 1 : Nat) : Int) := by rw [wrap_in _ (by omega) (by omega)]; omega
    have hmin : min ((n + 1 : Nat) : Int) ((l.length + 1 : Nat) : Int) = ((n + 1 : Nat) : Int) := by omega
    have w3 : IntKind.i64.wrap (((n + 1 : Nat) : Int) - 1) = (n : Int) := by rw [wrap_in _ (by omega) (by omega)]; omega
    have nw : aNew s (nMake 1 16 [.str []] (I .i64 ((n + 1 : Nat) : Int)) (I .i64 ((n + 1 : Nat) : Int))) = some (Z (.sl s.size 0 (n + 1) (.known (n + 1))), s.push (.cells true (List.replicate (n + 1) (.str [])))) := by
      have h1 : [S.str []].length = 1 ∧ (0 : Int) ≤ ((n + 1 : Nat) : Int) ∧ ((n + 1 : Nat) : Int) ≤ ((n + 1 : Nat) : Int) ∧ ((n + 1 : Nat) : Int) ≤ 2 ^ 62 ∧ ((16 : Nat) : Int) * ((n + 1 : Nat) : Int) ≤ 2 ^ 48 := ⟨rfl, by omega, by omega, by omega, by omega⟩
      simp only [aNew, nMake, if_pos h1, Int.toNat_natCast]
      have hz : ∀ k, zeros k [S.str []] = List.replicate k (.str []) := by
        intro k
        simp [zeros]
      rw [hz]
    have ix : aIndexSl 1 (Z (.sl s.size 0 (n + 1) (.known (n + 1)))) (I .i64 (n : Int)) = some (Z (.ptr s.size n)) := by rw [aIndexSl_int (j := n) rfl (by omega), Nat.zero_add, Nat.mul_one]
    have st := aStore1_of (σ := τ) (i := s.size) (o := n) (x := .str m) q6 (by simp; omega)
    have hset : setRange (strS done ++ [S.str []]) n [.str m] = strS (splitB c l) := by
      rw [setRange_eq _ _ _ (by simp; omega), ← q4, strS_append]
      have e1 : (strS done ++ [S.str []]).take n = strS done := by
        rw [List.take_append_of_le_length (by simp; omega)]
        exact List.take_of_length_le (by simp; omega)
      have e2 : (strS done ++ [S.str []]).drop (n + [S.str m].length) = [] := List.drop_eq_nil_of_le (by simp; omega)
      rw [e1, e2]
      simp [strS]
    rw [hset] at st
    have pc : aPieceSl 1 (Z (.sl s.size 0 (n + 1) (.known (n + 1)))) none (some (I .i64 ((n + 1 : Nat) : Int))) none = some (Z (.sl s.size 0 (n + 1) (.known (n + 1)))) := by
      unfold aPieceSl
      dsimp only
      rw [aBounds_hi (Nat.le_refl _)]
      simp
    have cc : ¬ [c] = ([] : Bs) := by simp
    generalize ((n + 1 : Nat) : Int) = N1 at w1 hmin w3 nw pc
    generalize ((l.length + 1 : Nat) : Int) = L1 at w2 hmin
    simp [hcnt, w1, w2, hmin, nw, w3, lp, ix, st, pc, cc]
  refine ⟨_, _, ?_, ⟨⟨St.wf_set q1 (by omega) _, by simp; omega, fun b hb => by rw [St.get_set_ne _ _ (by omega)]; exact q3 b hb⟩, ⟨by simp, .inr (.inr ⟨s.size, strS (splitB c l), .known (cntB c l + 1), by rw [splitB_len], .inr (by rw [splitB_len]), St.get_set_same _ _ _, by simp, List.take_of_length_le (by simp)⟩)⟩, fun b hb => by cases hb; exact ⟨Nat.le_refl _, by simp; omega⟩⟩⟩
  rw [f17_run]
  unfold f17
  simp [key]

def ixT (v : Bs) : List Bs → Nat → Int
  | [], _ => -1
  | w :: r, k => if v = w then (k : Int) else ixT v r (k + 1)

theorem ixT_contains (v : Bs) : ∀ (l : List Bs) (k : Nat), (0 ≤ ixT v l k) ↔ v ∈ l
  | [], k => by simp [ixT]
  | w :: r, k => by
    unfold ixT
    by_cases h : v = w
    · simp [h]
    · rw [if_neg h, ixT_contains v r (k + 1)]
      simp [h]

theorem ixT_range (v : Bs) : ∀ (l : List Bs) (k : Nat), ixT v l k = -1 ∨ ∃ j, j < l.length ∧ ixT v l k = (k + j : Nat) ∧ l[j]? = some v
  | [], k => .inl rfl
  | w :: r, k => by
    unfold ixT
    by_cases h : v = w
    · exact .inr ⟨0, by simp, by rw [if_pos h]; rfl, by simp [h]⟩
    · rw [if_neg h]
      rcases ixT_range v r (k + 1) with e | ⟨j, h1, h2, h3⟩
      · exact .inl e
      · exact .inr ⟨j + 1, by simp; omega, by rw [h2]; omega, by simpa using h3⟩

theorem ixT_drop (v : Bs) (l : List Bs) (k : Nat) (hk : k ≤ l.length) (hn : ∀ j w, j < k → l[j]? = some w → v ≠ w) : ixT v l 0 = ixT v (l.drop k) k := by
  induction k with
  | zero => rfl
  | succ k ih =>
    rw [ih (by omega) fun j w hj => hn j w (by omega)]
    have hc : l.drop k = l[k] :: l.drop (k + 1) := List.drop_eq_getElem_cons (by omega)
    rw [hc]
    show (if v = l[k] then _ else _) = _
    rw [if_neg (hn k l[k] (by omega) (List.getElem?_eq_getElem (by omega)))]

theorem indexT_run (d : Nat) {ws : List Bs} {v : Bs} (h : RT s x ws) (hl : ws.length ≤ 8000) : R (d + 1) 29 [Z x, Z (.str v)] s = some (I .i64 (ixT v ws 0), s) := by
  rw [f29_run]
  unfold f29
  have hlen := h.lens
  obtain ⟨j, τ, lp, hj, hτ⟩ := loops_inv (f := f29_l1 (R d) 8192) (fun q w u => ∃ k : Nat, q + k = ws.length ∧ w = [Z x, Z (.str v), I .i64 ws.length, I .i64 k] ∧ u = s ∧ ∀ j w, j < k → ws[j]? = some w → v ≠ w)
    (fun j u => (j = .exit 0 [] ∧ ixT v ws 0 = -1 ∨ j = .ret (I .i64 (ixT v ws 0))) ∧ u = s) (by
    rintro q w u ⟨k, hk, rfl, rfl, hn⟩
    have hd := ixT_drop v ws k (by omega) hn
    by_cases hkl : k < ws.length
    · have hc : ws[k]? = some ws[k] := List.getElem?_eq_getElem hkl
      have hdr : ws.drop k = ws[k] :: ws.drop (k + 1) := List.drop_eq_getElem_cons hkl
      obtain ⟨p, ix, ld⟩ := RT.atT h (n := (k : Int)) rfl hc
      have c0 : (k : Int) < (ws.length : Int) := by omega
      have w1 : IntKind.i64.wrap ((k : Int) + 1) = ((k + 1 : Nat) : Int) := by rw [wrap_in _ (by omega) (by omega)]; omega
      by_cases he : v = ws[k]
      · right
        have hx : ixT v ws 0 = k := by rw [hd, hdr]; show (if v = ws[k] then _ else _) = _; rw [if_pos he]
        refine ⟨.ret (I .i64 (ixT v ws 0)), u, ?_, (fun v hv => by cases hv), .inr rfl, rfl⟩
        unfold f29_l1
        rw [hx]
        simp [c0, ix, ld, ← he]
      · left
        refine ⟨[Z x, Z (.str v), I .i64 ws.length, I .i64 ((k + 1 : Nat) : Int)], u, q - 1, ?_, by omega, k + 1, by omega, rfl, rfl, fun j w hj hw => ?_⟩
        · unfold f29_l1
          generalize ((k + 1 : Nat) : Int) = K1 at w1 ⊢
          simp [c0, ix, ld, he, w1]
        · by_cases hjk : j = k
          · subst hjk; rw [hc] at hw; cases hw; exact he
          · exact hn j w (by omega) hw
    · right
      have hk' : k = ws.length := by omega
      have c0 : ¬ (k : Int) < (ws.length : Int) := by omega
      refine ⟨.exit 0 [], u, ?_, (fun v hv => by cases hv), .inl ⟨rfl, ?_⟩, rfl⟩
      · unfold f29_l1
        simp [c0]
      · rw [hd, hk', List.drop_length]; rfl) 8192 ws.length [Z x, Z (.str v), I .i64 ws.length, I .i64 0] s ⟨0, rfl, rfl, rfl, fun j w hj => by omega⟩ (by omega)
  subst hτ
  rcases hj with ⟨rfl, he⟩ | rfl
  · rw [he]
    simp [hlen, lp]
  · simp [hlen, lp]

theorem containsT_run (d : Nat) {ws : List Bs} {v : Bs} (h : RT s x ws) (hl : ws.length ≤ 8000) : R (d + 2) 21 [Z x, Z (.str v)] s = some (B (decide (v ∈ ws)), s) := by
  rw [f21_run]
  unfold f21
  have e := indexT_run (v := v) d h hl
  have : decide (0 ≤ ixT v ws 0) = decide (v ∈ ws) := decide_eq_decide.2 (ixT_contains v ws 0)
  simp [e, this]
end
end Go.Proofs.YtkifcchcofdkaaaDoor


/-
  A number of digits: what strings.Trim at the digits, strconv.ParseInt at digits, and policy's number compute, in any store. No conditions but those named in each line.
-/
namespace Go.Proofs.YtkifcchcofdkaaaDoor
open Go Go.Abs Go.Abs.F
set_option linter.unusedVariables false

def isDig (b : UInt8) : Bool := Nat.ble 48 b.toNat && Nat.ble b.toNat 57
def digits : Bs := [48, 49, 50, 51, 52, 53, 54, 55, 56, 57]
def digitSet : List S := (List.range 256).map fun c => S.bool (Nat.ble 48 c && Nat.ble c 57)
theorem digitSet_len : digitSet.length = 256 := by simp [digitSet]
theorem digitSet_get (b : UInt8) : digitSet[b.toNat]? = some (.bool (isDig b)) := by
  have := b.toNat_lt
  simp [digitSet, isDig, this]

theorem isDig_iff {b : UInt8} : isDig b = true ↔ 48 ≤ b.toNat ∧ b.toNat ≤ 57 := by
  simp [isDig, Nat.ble_eq]

def trimR (l : Bs) : Bs := (l.reverse.dropWhile isDig).reverse
theorem trimR_snoc (l : Bs) (c : UInt8) : trimR (l ++ [c]) = if isDig c then trimR l else l ++ [c] := by
  unfold trimR
  rw [List.reverse_append, List.reverse_singleton, List.singleton_append, List.dropWhile_cons]
  split <;> simp
theorem trimR_nil : trimR [] = [] := rfl

theorem dropWhile_nil (p : UInt8 → Bool) : ∀ l : Bs, l.dropWhile p = [] ↔ ∀ x ∈ l, p x = true
  | [] => by simp
  | a :: r => by
    have ih := dropWhile_nil p r
    rw [List.dropWhile_cons]
    by_cases h : p a = true
    · rw [if_pos h, ih]; simp [h]
    · rw [if_neg h]; simp [h]
theorem dropWhile_hd (p : UInt8 → Bool) : ∀ (l : Bs) (a : UInt8) (r : Bs), l.dropWhile p = a :: r → p a = false
  | [], a, r, h => by simp at h
  | b :: q, a, r, h => by
    rw [List.dropWhile_cons] at h
    by_cases hb : p b = true
    · rw [if_pos hb] at h; exact dropWhile_hd p q a r h
    · rw [if_neg hb] at h; cases h; simpa using hb

theorem trimD_nil (l : Bs) : (trimR l).dropWhile isDig = [] ↔ l.all isDig = true := by
  unfold trimR
  rw [List.all_eq_true]
  constructor
  · intro h
    have h1 := (dropWhile_nil isDig _).1 h
    have h2 : l.reverse.dropWhile isDig = [] := by
      cases hd : l.reverse.dropWhile isDig with
      | nil => rfl
      | cons a r =>
        exfalso
        have e1 := h1 a (by rw [hd]; simp)
        rw [dropWhile_hd isDig _ a r hd] at e1
        cases e1
    intro x hx
    exact (dropWhile_nil isDig _).1 h2 x (by simpa using hx)
  · intro h
    have h2 : l.reverse.dropWhile isDig = [] := (dropWhile_nil isDig _).2 fun x hx => h x (by simpa using hx)
    rw [h2]
    rfl

def valD (l : Bs) : Nat := l.foldl (fun n b => n * 10 + (b.toNat - 48)) 0
theorem valD_snoc (l : Bs) (c : UInt8) : valD (l ++ [c]) = valD l * 10 + (c.toNat - 48) := by simp [valD]
theorem valD_lt : ∀ (n : Nat) (l : Bs), l.length = n → l.all isDig = true → valD l < 10 ^ n
  | 0, l, h, _ => by
    have : l = [] := List.eq_nil_of_length_eq_zero h
    subst this
    decide
  | n + 1, l, h, ha => by
    rcases List.eq_nil_or_concat l with rfl | ⟨r, c, hl⟩
    · simp at h
    · rw [List.concat_eq_append] at hl
      subst hl
      rw [valD_snoc]
      have hr := valD_lt n r (by simpa using h) (by simp at ha; simpa using ha.1)
      have hc : isDig c = true := by simp at ha; exact ha.2
      rw [isDig_iff] at hc
      rw [Nat.pow_succ]
      omega

def numOk (l : Bs) : Bool := Nat.ble 1 l.length && Nat.ble l.length 13 && l.all isDig
def numV (l : Bs) : Nat := match numOk l with
  | true => valD l
  | false => 0

section
variable {s t : St} {x y : S} {l : Bs} {i : Nat} {w : Bool}

theorem aIndexArr_u8 (n : Nat) (b : UInt8) (h : b.toNat < n) (i o : Nat) : aIndexArr n 1 (Z (.ptr i o)) (I .u8 b.toNat) = some (Z (.ptr i (o + b.toNat))) := by
  have h2 : aIdx (I .u8 (b.toNat : Int)) n = some b.toNat := by simp [aIdx, h]
  simp [aIndexArr, h2]

theorem contains_run (d : Nat) (h : s.get i = some (.cells w digitSet)) (b : UInt8) : R (d + 1) 69 [Z (.ptr i 0), I .u8 b.toNat] s = some (B (isDig b), s) := by
  rw [f69_run]
  unfold f69
  have ix := aIndexArr_u8 256 b b.toNat_lt i 0
  have ld : aLoad1 (Z (.ptr i (0 + b.toNat))) s.get = some (B (isDig b)) := aLoad1_of h (by rw [Nat.zero_add]; exact digitSet_get b)
  simp only [aNil_ptr, bd_some, ix, ld]

theorem trimRight_run (d : Nat) (h : s.get i = some (.cells w digitSet)) (hl : l.length ≤ 8000) : R (d + 2) 59 [Z (.str l), Z (.ptr i 0)] s = some (Z (.str (trimR l)), s) := by
  rw [f59_run]
  unfold f59
  obtain ⟨j, τ, lp, hj, hτ⟩ := loops_inv (f := f59_l1 (R (d + 1)) 8192) (fun q v u => ∃ m : Bs, q = m.length ∧ v = [Z (.str m), Z (.ptr i 0)] ∧ u = s ∧ trimR m = trimR l ∧ m.length ≤ l.length)
    (fun j u => j = .exit 0 [Z (.str (trimR l))] ∧ u = s) (by
    rintro q v u ⟨m, rfl, rfl, rfl, hm, hml⟩
    rcases List.eq_nil_or_concat m with rfl | ⟨r, c, hmr⟩
    · right
      refine ⟨_, u, ?_, (fun v hv => by cases hv), rfl, rfl⟩
      unfold f59_l1
      rw [← hm]
      simp [trimR_nil]
    · rw [List.concat_eq_append] at hmr
      have hlen : m.length = r.length + 1 := by rw [hmr]; simp
      have c0 : 0 < m.length := by omega
      have w1 : IntKind.i64.wrap ((m.length : Int) - 1) = (r.length : Int) := by rw [wrap_in _ (by omega) (by omega)]; omega
      have hat : aAtStr (Z (.str m)) (I .i64 (r.length : Int)) = some (I .u8 c.toNat) := at_str rfl (by rw [hmr]; simp)
      have hc := contains_run d h c
      have pc := aPieceStr_hi (l := m) (m := r.length) (n := (r.length : Int)) rfl (by omega)
      have htk : m.take r.length = r := by rw [hmr]; simp
      rw [htk] at pc
      have hs := trimR_snoc r c
      rw [← hmr, hm] at hs
      cases hd : isDig c with
      | true =>
        left
        rw [hd] at hs hc
        refine ⟨[Z (.str r), Z (.ptr i 0)], u, r.length, ?_, by omega, r, rfl, rfl, rfl, by simpa using hs.symm, by omega⟩
        unfold f59_l1
        simp [c0, w1, hat, hc, pc]
      | false =>
        right
        rw [hd] at hs hc
        refine ⟨.exit 0 [Z (.str (trimR l))], u, ?_, (fun v hv => by cases hv), rfl, rfl⟩
        unfold f59_l1
        have : trimR l = m := by rw [hs, hmr]; simp
        rw [this]
        simp [c0, w1, hat, hc]) 8192 l.length [Z (.str l), Z (.ptr i 0)] s ⟨l, rfl, rfl, rfl, rfl, Nat.le_refl _⟩ (by omega)
  subst hτ; subst hj
  simp [lp]

theorem trimLeft_run (d : Nat) (h : s.get i = some (.cells w digitSet)) (hl : l.length ≤ 8000) : R (d + 2) 58 [Z (.str l), Z (.ptr i 0)] s = some (Z (.str (l.dropWhile isDig)), s) := by
  rw [f58_run]
  unfold f58
  obtain ⟨j, τ, lp, hj, hτ⟩ := loops_inv (f := f58_l1 (R (d + 1)) 8192) (fun q v u => ∃ m : Bs, q = m.length ∧ v = [Z (.str m), Z (.ptr i 0)] ∧ u = s ∧ m.dropWhile isDig = l.dropWhile isDig ∧ m.length ≤ l.length)
    (fun j u => j = .exit 0 [Z (.str (l.dropWhile isDig))] ∧ u = s) (by
    rintro q v u ⟨m, rfl, rfl, rfl, hm, hml⟩
    cases m with
    | nil =>
      right
      refine ⟨_, u, ?_, (fun v hv => by cases hv), rfl, rfl⟩
      unfold f58_l1
      rw [← hm]
      simp
    | cons c r =>
      have hat : aAtStr (Z (.str (c :: r))) (I .i64 0) = some (I .u8 c.toNat) := at_str (j := 0) rfl rfl
      have hc := contains_run d h c
      have pc := aPieceStr_lo (l := c :: r) (m := 1) (n := 1) rfl (by simp)
      rw [List.dropWhile_cons] at hm
      cases hd : isDig c with
      | true =>
        left
        rw [hd] at hm hc
        refine ⟨[Z (.str r), Z (.ptr i 0)], u, r.length, ?_, by simp, r, rfl, rfl, rfl, by simpa using hm, by simp at hml; omega⟩
        unfold f58_l1
        simp [hat, hc, pc]
      | false =>
        right
        rw [hd] at hm hc
        refine ⟨.exit 0 [Z (.str (l.dropWhile isDig))], u, ?_, (fun v hv => by cases hv), rfl, rfl⟩
        unfold f58_l1
        have : l.dropWhile isDig = c :: r := by rw [← hm]; simp
        rw [this]
        simp [hat, hc]) 8192 l.length [Z (.str l), Z (.ptr i 0)] s ⟨l, rfl, rfl, rfl, rfl, Nat.le_refl _⟩ (by omega)
  subst hτ; subst hj
  simp [lp]

theorem setRange_all {vs xs : List S} (h : vs.length = xs.length) : setRange vs 0 xs = xs := by
  rw [setRange_eq _ _ _ (by omega), List.take_zero, List.nil_append, List.drop_eq_nil_of_le (by omega), List.append_nil]

theorem makeSet_run (d : Nat) : R (d + 1) 57 [Z (.str digits)] s = some (.tup [.agg digitSet, .s (.bool true)], s) := runQ_prim (prim_set _)

set_option maxRecDepth 100000 in
theorem trim_run (d : Nat) (wf : s.wf) (h0 : l ≠ []) (hl : l.length ≤ 8000) : ∃ t, R (d + 4) 40 [Z (.str l), Z (.str digits)] s = some (Z (.str ((trimR l).dropWhile isDig)), t) ∧ Gr s t := by
  rw [f40_run]
  unfold f40
  generalize hq : nCells _ = q
  obtain ⟨z, rfl, hz⟩ : ∃ z : List S, q = nCells z ∧ z.length = 256 := ⟨_, hq.symm, rfl⟩
  clear hq
  have e1 := makeSet_run (s := s) (d + 2)
  have nw : aNew s (nCells z) = some (Z (.ptr s.size 0), s.push (.cells true z)) := rfl
  have hb : (V.agg digitSet).cells.length = 256 ∧ 0 + 256 ≤ z.length := ⟨digitSet_len, by omega⟩
  obtain ⟨t, ht⟩ : ∃ t, t = (s.push (.cells true z)).set s.size (.cells true digitSet) := ⟨_, rfl⟩
  have st : aStore 256 (Z (.ptr s.size 0)) (.v (.agg digitSet)) (s.push (.cells true z)) = some (tt, t) := by
    simp only [aStore, St.get_push_same, if_pos hb]
    rw [show (V.agg digitSet).cells = digitSet from rfl, setRange_all (by rw [hz, digitSet_len]), ← ht]
  have g : Gr s t := by
    rw [ht]
    exact ⟨St.wf_set (St.wf_push wf _) (by simp) _, by simp, fun b hb => by rw [St.get_set_ne _ _ (by omega), St.get_push_ne _ _ (by omega)]⟩
  have gn : t.get s.size = some (.cells true digitSet) := by rw [ht]; exact St.get_set_same _ _ _
  have r1 := trimRight_run (l := l) (d + 1) gn hl
  have hl2 : (trimR l).length ≤ 8000 := by
    have : (trimR l).length ≤ l.length := by
      unfold trimR
      rw [List.length_reverse]
      have := (List.dropWhile_sublist (p := isDig) (l := l.reverse)).length_le
      simpa using this
    omega
  have r2 := trimLeft_run (l := trimR l) (d + 1) gn hl2
  have hd : ¬ digits = [] := by decide
  have hdl : (digits.length : Int) = 10 := rfl
  refine ⟨t, ?_, g⟩
  simp only [Nat.add_assoc, Nat.reduceAdd] at e1 r1 r2
  generalize R (d + 3) = r at *
  generalize digits = dg at *
  simp [h0, hd, hdl, e1, aExtract, nw, st, r1, r2]

theorem parseUint_run (d : Nat) (wf : s.wf) (h0 : l ≠ []) (hl : l.length ≤ 13) (hd : l.all isDig = true) : ∃ t, R (d + 1) 72 [Z (.str l), I .i64 10, I .i64 64] s = some (.tup [.s (.int .u64 (valD l)), .s .nili], t) ∧ Gr s t := by
  rw [f72_run]
  unfold f72
  obtain ⟨t, ht⟩ : ∃ t, t = s.push (.cells false (U l)) := ⟨_, rfl⟩
  have nw : aNew s (nBytes (Z (.str l))) = some (Z (.sl s.size 0 l.length (.grown 1)), t) := by rw [ht]; rfl
  have g : Gr s t := by rw [ht]; exact Gr.push wf _
  have rb : RB t (.sl s.size 0 l.length (.grown 1)) l := ⟨by simp, .inr ⟨s.size, 0, _, false, U l, rfl, by rw [ht]; exact St.get_push_same _ _, by simp, by rw [List.drop_zero]; exact List.take_of_length_le (by simp)⟩, rfl⟩
  have hv := valD_lt
  have hdg : ∀ (k : Nat) (b : UInt8), l[k]? = some b → 48 ≤ b.toNat ∧ b.toNat ≤ 57 := fun k b hb => by
    rw [List.all_eq_true] at hd
    exact isDig_iff.1 (hd b (List.mem_of_getElem? hb))
  have hvt : ∀ k, k ≤ 13 → valD (l.take k) < 10000000000000 := fun k hk => by
    have h1 := valD_lt (l.take k).length (l.take k) rfl (by rw [List.all_eq_true] at hd ⊢; exact fun x hx => hd x (List.mem_of_mem_take hx))
    have h2 : 10 ^ (l.take k).length ≤ 10 ^ 13 := Nat.pow_le_pow_right (by omega) (by rw [List.length_take]; omega)
    have h3 : (10 : Nat) ^ 13 = 10000000000000 := by decide
    omega
  obtain ⟨j, τ, lp, hj, hτ⟩ := loops_inv (f := f72_l1 (R d) 8192) (fun q v u => ∃ k : Nat, q + k = l.length ∧ v = [I .i64 10, B false, Z (.str l), I .u64 1844674407370955162, I .u64 18446744073709551615, B false, I .u64 (valD (l.take k)), Z (.sl s.size 0 l.length (.grown 1)), I .i64 l.length, I .i64 k] ∧ u = t)
    (fun j u => j = .exit 3 [Z (.str l), B false, I .u64 (valD l)] ∧ u = t) (by
    rintro q v u ⟨k, hk, rfl, rfl⟩
    by_cases hkl : k < l.length
    · left
      have hc : l[k]? = some l[k] := List.getElem?_eq_getElem hkl
      obtain ⟨p, ix, ld⟩ := RB.atB rb (n := (k : Int)) rfl hc
      obtain ⟨d1, d2⟩ := hdg k _ hc
      have c0 : (k : Int) < (l.length : Int) := by omega
      have w1 : IntKind.i64.wrap ((k : Int) + 1) = ((k + 1 : Nat) : Int) := by rw [wrap_in _ (by omega) (by omega)]; omega
      have hsn : valD (l.take (k + 1)) = valD (l.take k) * 10 + (l[k].toNat - 48) := by rw [List.take_add_one, hc, Option.toList_some, valD_snoc]
      have hb0 := hvt k (by omega)
      have hb1 := hvt (k + 1) (by omega)
      have k1 : ¬ ((l[k].toNat : Int) = 95) := by omega
      have k2 : (48 : Int) ≤ (l[k].toNat : Int) := by omega
      have k3 : (l[k].toNat : Int) ≤ 57 := by omega
      obtain ⟨D, hD⟩ : ∃ D : Int, D = (l[k].toNat : Int) - 48 := ⟨_, rfl⟩
      have w8 : IntKind.u8.wrap ((l[k].toNat : Int) - 48) = D := by
        have := wrap8 (l[k].toNat - 48)
        rw [show (((l[k].toNat - 48 : Nat)) : Int) = (l[k].toNat : Int) - 48 by omega] at this
        rw [this, hD]
        omega
      have w10 : IntKind.u8.wrap 10 = 10 := rfl
      have w10' : IntKind.u64.wrap 10 = 10 := rfl
      have k4 : ¬ (10 : Int) ≤ D := by omega
      have k5 : ¬ (1844674407370955162 : Int) ≤ (valD (l.take k) : Int) := by omega
      have wm : IntKind.u64.wrap ((valD (l.take k) : Int) * 10) = (valD (l.take k) : Int) * 10 := wrap_u64_in _ (by omega) (by omega)
      have wd : IntKind.u64.wrap D = D := wrap_u64_in _ (by omega) (by omega)
      have wa : IntKind.u64.wrap ((valD (l.take k) : Int) * 10 + D) = (valD (l.take (k + 1)) : Int) := by
        rw [wrap_u64_in _ (by omega) (by omega), hsn]
        omega
      have k6 : ¬ ((valD (l.take (k + 1)) : Int) < (valD (l.take k) : Int) * 10) := by omega
      have k7 : ¬ ((18446744073709551615 : Int) < (valD (l.take (k + 1)) : Int)) := by omega
      refine ⟨[I .i64 10, B false, Z (.str l), I .u64 1844674407370955162, I .u64 18446744073709551615, B false, I .u64 (valD (l.take (k + 1))), Z (.sl s.size 0 l.length (.grown 1)), I .i64 l.length, I .i64 ((k + 1 : Nat) : Int)], u, q - 1, ?_, by omega, k + 1, by omega, rfl, rfl⟩
      unfold f72_l1
      generalize ((k + 1 : Nat) : Int) = K1 at w1 ⊢
      generalize (valD (l.take (k + 1)) : Int) = V1 at wa k6 k7 ⊢
      generalize (valD (l.take k) : Int) = V0 at k5 wm wa k6 ⊢
      generalize (l[k].toNat : Int) = C at ld k1 k2 k3 w8
      generalize (k : Int) = K at *
      generalize (l.length : Int) = L at *
      simp [c0, ix, ld, k1, k2, k3, w8, w10, w10', k4, k5, wm, wd, wa, k6, k7, w1]
    · right
      have hk' : k = l.length := by omega
      subst hk'
      refine ⟨.exit 3 [Z (.str l), B false, I .u64 (valD l)], u, ?_, (fun v hv => by cases hv), rfl, rfl⟩
      unfold f72_l1
      rw [List.take_length]
      simp) 8192 l.length [I .i64 10, B false, Z (.str l), I .u64 1844674407370955162, I .u64 18446744073709551615, B false, I .u64 0, Z (.sl s.size 0 l.length (.grown 1)), I .i64 l.length, I .i64 0] t ⟨0, rfl, rfl, rfl⟩ (by omega)
  subst hτ; subst hj
  refine ⟨τ, ?_, g⟩
  have w64 : IntKind.u64.wrap 64 = 64 := rfl
  have sh : aBin .shl (I .u64 1) (I .u64 64) = some (I .u64 0) := by rfl
  have sb : IntKind.u64.wrap (-1) = 18446744073709551615 := by rfl
  simp [h0, w64, sh, sb, nw, lp, retT, allV]

theorem parseInt_run (d : Nat) (wf : s.wf) (h0 : l ≠ []) (hl : l.length ≤ 13) (hd : l.all isDig = true) : ∃ t, R (d + 3) 41 [Z (.str l), I .i64 10, I .i64 64] s = some (.tup [.s (.int .i64 (valD l)), .s .nili], t) ∧ Gr s t := by
  obtain ⟨t, e, g⟩ := parseUint_run d wf h0 hl hd
  have hv := valD_lt l.length l rfl hd
  have h13 : 10 ^ l.length ≤ 10 ^ 13 := Nat.pow_le_pow_right (by omega) hl
  have h3 : (10 : Nat) ^ 13 = 10000000000000 := by decide
  have key : R (d + 2) 62 [Z (.str l), I .i64 10, I .i64 64] s = some (.tup [.s (.int .i64 (valD l)), .s .nili], t) := by
    rw [f62_run]
    unfold f62
    obtain ⟨c, r, rfl⟩ : ∃ c r, l = c :: r := by cases l with
      | nil => exact absurd rfl h0
      | cons c r => exact ⟨c, r, rfl⟩
    have hat : aAtStr (Z (.str (c :: r))) (I .i64 0) = some (I .u8 c.toNat) := at_str (j := 0) rfl rfl
    have hc : 48 ≤ c.toNat ∧ c.toNat ≤ 57 := isDig_iff.1 (by simp at hd; exact hd.1)
    have k1 : ¬ ((c.toNat : Int) = 43) := by omega
    have k2 : ¬ ((c.toNat : Int) = 45) := by omega
    have n1 : neB .i (Z .nili) (Z .nili) = some (B false) := rfl
    have w63 : IntKind.u64.wrap 63 = 63 := rfl
    have sh : aBin .shl (I .u64 1) (I .u64 63) = some (I .u64 9223372036854775808) := by rfl
    have k3 : ¬ ((9223372036854775808 : Int) ≤ (valD (c :: r) : Int)) := by omega
    have wv : IntKind.i64.wrap (valD (c :: r) : Int) = (valD (c :: r) : Int) := wrap_in _ (by omega) (by omega)
    have w64 : IntKind.i64.wrap 63 = 63 := rfl
    generalize (valD (c :: r) : Int) = V at *
    generalize (c.toNat : Int) = C at *
    generalize R (d + 1) = rr at *
    simp [hat, k1, k2, e, aExtract, n1, w63, w64, sh, k3, wv, retT, allV]
  refine ⟨t, ?_, g⟩
  rw [f41_run]
  unfold f41
  have n1 : neB .i (Z .nili) (Z .nili) = some (B false) := rfl
  simp [key, aExtract, n1, retT, allV]

theorem number_run (d : Nat) (wf : s.wf) : ∃ t, R (d + 5) 28 [Z (.str l)] s = some (.tup [.s (.int .i64 (numV l)), .s (.bool (numOk l))], t) ∧ Gr s t := by
  rw [f28_run]
  unfold f28
  by_cases h1 : 1 ≤ l.length
  · by_cases h2 : l.length ≤ 13
    · have hne : l ≠ [] := fun e => by rw [e] at h1; simp at h1
      obtain ⟨t, e1, g1⟩ := trim_run d wf hne (by omega)
      have c1 : ¬ ((l.length : Int) < 1) := by omega
      have c2 : ¬ ((13 : Int) < (l.length : Int)) := by omega
      have hb1 : Nat.ble 1 l.length = true := Nat.ble_eq_true_of_le h1
      have hb2 : Nat.ble l.length 13 = true := Nat.ble_eq_true_of_le h2
      by_cases hall : l.all isDig = true
      · have hnil := (trimD_nil l).2 hall
        rw [hnil] at e1
        obtain ⟨t2, e2, g2⟩ := parseInt_run (l := l) (d + 1) g1.wf hne h2 hall
        have hok : numOk l = true := by simp [numOk, hb1, hb2, hall]
        have hv : numV l = valD l := by simp [numV, hok]
        have n1 : eqB .i (Z .nili) (Z .nili) = some (B true) := rfl
        refine ⟨t2, ?_, g1.trans g2⟩
        rw [hok, hv]
        simp only [digits] at e1
        generalize R (d + 4) = r at *
        simp [c1, c2, e1, e2, aExtract, n1, retT, allV]
      · have hnn : ¬ ((trimR l).dropWhile isDig = []) := fun e => hall ((trimD_nil l).1 e)
        have hok : numOk l = false := by simp only [numOk, hb1, hb2, Bool.true_and]; simpa using hall
        have hv : numV l = 0 := by simp [numV, hok]
        refine ⟨t, ?_, g1⟩
        rw [hok, hv]
        simp only [digits] at e1
        generalize R (d + 4) = r at *
        simp [c1, c2, e1, hnn, retT, allV]
    · have c1 : ¬ ((l.length : Int) < 1) := by omega
      have c2 : (13 : Int) < (l.length : Int) := by omega
      have hok : numOk l = false := by
        have : Nat.ble l.length 13 = false := by
          rw [Bool.eq_false_iff]
          intro h
          exact h2 (Nat.le_of_ble_eq_true h)
        simp [numOk, this]
      have hv : numV l = 0 := by simp [numV, hok]
      refine ⟨s, ?_, Gr.refl wf⟩
      rw [hok, hv]
      simp [c1, c2, retT, allV]
  · have c1 : ((l.length : Int) < 1) := by omega
    have hok : numOk l = false := by
      have : Nat.ble 1 l.length = false := by
        rw [Bool.eq_false_iff]
        intro h
        exact h1 (Nat.le_of_ble_eq_true h)
      simp [numOk, this]
    have hv : numV l = 0 := by simp [numV, hok]
    refine ⟨s, ?_, Gr.refl wf⟩
    rw [hok, hv]
    simp [c1, retT, allV]
end
end Go.Proofs.YtkifcchcofdkaaaDoor


/-
  Policies: what policy.Default, May, line and Parse compute, in any store. No conditions but those named in each line.
-/
namespace Go.Proofs.YtkifcchcofdkaaaDoor
open Go Go.Abs Go.Abs.F
set_option linter.unusedVariables false

structure Pol where
  a0 : Int
  a1 : Int
  a2 : Int
  a3 : Int
  c : Int
  n : Int
  deriving DecidableEq

def cP (p : Pol) : List S := [.int .i64 p.a0, .int .i64 p.a1, .int .i64 p.a2, .int .i64 p.a3, .int .i64 p.c, .int .i64 p.n]
abbrev AP (p : Pol) : T := .v (.agg (cP p))
def pol0 : Pol := ⟨0, 0, 0, 0, 0, 0⟩
def polD : Pol := ⟨60, 600, 6000, 0, 8, 30⟩

def ageOk (n : Int) : Bool := decide (0 ≤ n) && decide (n ≤ 1099511627776)
def nxtOk (was n : Int) : Bool := decide (n = 0) || (decide (was ≤ n) && !decide (was = 0))
def agesOk (p : Pol) : Bool := ageOk p.a0 && (ageOk p.a1 && nxtOk p.a0 p.a1) && (ageOk p.a2 && nxtOk p.a1 p.a2) && (ageOk p.a3 && nxtOk p.a2 p.a3)
def mayP (p : Pol) : Bool := agesOk p && decide (p.a3 = 0) && decide (1 ≤ p.c) && decide (p.c ≤ 64) && decide (1 ≤ p.n) && decide (p.n ≤ 200)

section
variable {s t : St} {x y : S} {l : Bs} {i : Nat}

theorem store6 {i : Nat} {vs : List S} {p : Pol} (h : s.get i = some (.cells true vs)) (hv : vs.length = 6) : aStore 6 (Z (.ptr i 0)) (AP p) s = some (tt, s.set i (.cells true (cP p))) := by
  have hb : (V.agg (cP p)).cells.length = 6 ∧ 0 + 6 ≤ vs.length := ⟨rfl, by omega⟩
  simp only [aStore, h, if_pos hb]
  rw [show (V.agg (cP p)).cells = cP p from rfl, setRange_all (by rw [hv]; rfl)]
theorem load6 {i : Nat} {w : Bool} {p : Pol} {g : Mem} (h : g i = some (.cells w (cP p))) : aLoadN 6 (Z (.ptr i 0)) g = some (AP p) := by
  simp [aLoadN, h, cP]
theorem agg6 : asAggT (aFill [.int .i64 0, .int .i64 0, .int .i64 0, .int .i64 0, .int .i64 0, .int .i64 0] []) = some (AP pol0) := rfl

theorem gtt (b : Bool) : gd tt b = some false := rfl

theorem default_run (d : Nat) (wf : s.wf) : ∃ t, R (d + 1) 7 [] s = some (AP polD, t) ∧ Gr s t := by
  rw [f7_run]
  unfold f7
  have e1 : asAggT (aFill [.int .i64 0, .int .i64 0, .int .i64 0, .int .i64 0] [(0, 1, (I .i64 60)), (1, 1, (I .i64 600)), (2, 1, (I .i64 6000)), (3, 1, (I .i64 0))]) = some (.v (.agg [.int .i64 60, .int .i64 600, .int .i64 6000, .int .i64 0])) := rfl
  have e2 : asAggT (aFill [.int .i64 0, .int .i64 0, .int .i64 0, .int .i64 0, .int .i64 0, .int .i64 0] [(0, 4, .v (.agg [.int .i64 60, .int .i64 600, .int .i64 6000, .int .i64 0])), (4, 1, (I .i64 8)), (5, 1, (I .i64 30))]) = some (AP polD) := rfl
  obtain ⟨s1, hs1⟩ : ∃ s1, s1 = s.push (.cells true (cP pol0)) := ⟨_, rfl⟩
  have nw : aNew s (nCells [.int .i64 0, .int .i64 0, .int .i64 0, .int .i64 0, .int .i64 0, .int .i64 0]) = some (Z (.ptr s.size 0), s1) := by rw [hs1]; rfl
  have h1 : s1.get s.size = some (.cells true (cP pol0)) := by rw [hs1]; exact St.get_push_same _ _
  obtain ⟨s2, hs2⟩ : ∃ s2, s2 = s1.set s.size (.cells true (cP polD)) := ⟨_, rfl⟩
  have st := store6 (p := polD) h1 rfl
  rw [← hs2] at st
  have h2 : s2.get s.size = some (.cells true (cP polD)) := by rw [hs2]; exact St.get_set_same _ _ _
  have ld := load6 (g := s2.get) h2
  refine ⟨s2, ?_, ?_⟩
  · simp [nw, e1, e2, st, ld, rC, retT]
  · rw [hs2, hs1]
    exact ⟨St.wf_set (St.wf_push wf _) (by simp) _, by simp, fun b hb => by rw [St.get_set_ne _ _ (by omega), St.get_push_ne _ _ (by omega)]⟩

def ageAt (p : Pol) : Nat → Int
  | 0 => p.a0
  | 1 => p.a1
  | 2 => p.a2
  | _ => p.a3
def okAt (p : Pol) : Nat → Bool
  | 0 => ageOk p.a0
  | 1 => ageOk p.a1 && nxtOk p.a0 p.a1
  | 2 => ageOk p.a2 && nxtOk p.a1 p.a2
  | _ => ageOk p.a3 && nxtOk p.a2 p.a3
theorem agesOk_iff (p : Pol) : agesOk p = true ↔ ∀ j, j < 4 → okAt p j = true := by
  constructor
  · intro h j hj
    simp only [agesOk, Bool.and_eq_true] at h
    match j, hj with
    | 0, _ => exact h.1.1.1
    | 1, _ => simp only [okAt, Bool.and_eq_true]; exact h.1.1.2
    | 2, _ => simp only [okAt, Bool.and_eq_true]; exact h.1.2
    | 3, _ => simp only [okAt, Bool.and_eq_true]; exact h.2
  · intro h
    have h0 := h 0 (by omega)
    have h1 := h 1 (by omega)
    have h2 := h 2 (by omega)
    have h3 := h 3 (by omega)
    simp only [okAt] at h0 h1 h2 h3
    simp only [agesOk, h0, h1, h2, h3, Bool.and_self]

theorem may_run (d : Nat) (wf : s.wf) (p : Pol) : ∃ t, R (d + 1) 10 [AP p] s = some (B (mayP p), t) ∧ Gr s t := by
  rw [f10_run]
  unfold f10
  obtain ⟨s1, hs1⟩ : ∃ s1, s1 = s.push (.cells true (cP p)) := ⟨_, rfl⟩
  have nw : aNew s (nBox (AP p)) = some (Z (.ptr s.size 0), s1) := by rw [hs1]; rfl
  have h1 : s1.get s.size = some (.cells true (cP p)) := by rw [hs1]; exact St.get_push_same _ _
  have g : Gr s s1 := by rw [hs1]; exact Gr.push wf _
  have l4 : aLoadN 4 (Z (.ptr s.size 0)) s1.get = some (.v (.agg [.int .i64 p.a0, .int .i64 p.a1, .int .i64 p.a2, .int .i64 p.a3])) := by simp [aLoadN, h1, cP]
  have ld : ∀ j, j < 4 → aLoad1 (Z (.ptr s.size j)) s1.get = some (I .i64 (ageAt p j)) := fun j hj => by
    match j, hj with
    | 0, _ => exact aLoad1_of h1 rfl
    | 1, _ => exact aLoad1_of h1 rfl
    | 2, _ => exact aLoad1_of h1 rfl
    | 3, _ => exact aLoad1_of h1 rfl
  have ld4 : aLoad1 (Z (.ptr s.size 4)) s1.get = some (I .i64 p.c) := aLoad1_of h1 rfl
  have ld5 : aLoad1 (Z (.ptr s.size 5)) s1.get = some (I .i64 p.n) := aLoad1_of h1 rfl
  have at4 : ∀ j, j < 4 → aAtArr none 4 1 (.v (.agg [.int .i64 p.a0, .int .i64 p.a1, .int .i64 p.a2, .int .i64 p.a3])) (I .i64 (j : Nat)) = some (I .i64 (ageAt p j)) := fun j hj => by
    match j, hj with
    | 0, _ => rfl
    | 1, _ => rfl
    | 2, _ => rfl
    | 3, _ => rfl
  have ix : ∀ j : Nat, j < 4 → aIndexArr 4 1 (Z (.ptr s.size 0)) (I .i64 (j : Nat)) = some (Z (.ptr s.size j)) := fun j hj => by
    match j, hj with
    | 0, _ => rfl
    | 1, _ => rfl
    | 2, _ => rfl
    | 3, _ => rfl
  obtain ⟨j, τ, lp, hj, hτ⟩ := loops_inv (f := f10_l1 (R d) 8192) (fun q v u => ∃ k : Nat, q + k = 4 ∧ v = [Z (.ptr s.size 0), .v (.agg [.int .i64 p.a0, .int .i64 p.a1, .int .i64 p.a2, .int .i64 p.a3]), I .i64 k] ∧ u = s1 ∧ ∀ j, j < k → okAt p j = true)
    (fun j u => (j = .exit 0 [Z (.ptr s.size 0)] ∧ agesOk p = true ∨ j = .ret (B false) ∧ agesOk p = false) ∧ u = s1) (by
    rintro q v u ⟨k, hk, rfl, rfl, hok⟩
    by_cases hk4 : k < 4
    · have bad : okAt p k = false → agesOk p = false := fun h => by
        rw [Bool.eq_false_iff]
        intro h2
        rw [(agesOk_iff p).1 h2 k hk4] at h
        cases h
      have next : okAt p k = true → ∀ j, j < k + 1 → okAt p j = true := fun h j hj => by
        by_cases e : j = k
        · subst e; exact h
        · exact hok j (by omega)
      have c0 : (k : Int) < 4 := by omega
      have w1 : IntKind.i64.wrap ((k : Int) + 1) = ((k + 1 : Nat) : Int) := by rw [wrap_in _ (by omega) (by omega)]; omega
      have hat := at4 k hk4
      obtain ⟨a, ha⟩ : ∃ a, a = ageAt p k := ⟨_, rfl⟩
      rw [← ha] at hat
      have hage : okAt p k = (ageOk a && (decide (k = 0) || nxtOk (ageAt p (k - 1)) a)) := by
        rw [ha]
        match k, hk4 with
        | 0, _ => simp [okAt, ageAt]
        | 1, _ => simp [okAt, ageAt]
        | 2, _ => simp [okAt, ageAt]
        | 3, _ => simp [okAt, ageAt]
      by_cases c1 : a < 0
      · right
        have : okAt p k = false := by
          have : ¬ 0 ≤ a := by omega
          rw [hage]; simp [ageOk, this]
        refine ⟨.ret (B false), u, ?_, (fun v hv => by cases hv), .inr ⟨rfl, bad this⟩, rfl⟩
        unfold f10_l1
        simp [c0, hat, c1]
      · by_cases c2 : 1099511627776 < a
        · right
          have : okAt p k = false := by
            have : ¬ a ≤ 1099511627776 := by omega
            rw [hage]; simp [ageOk, this]
          refine ⟨.ret (B false), u, ?_, (fun v hv => by cases hv), .inr ⟨rfl, bad this⟩, rfl⟩
          unfold f10_l1
          simp [c0, hat, c1, c2]
        · have hA : ageOk a = true := by
            have h1 : 0 ≤ a := by omega
            have h2 : a ≤ 1099511627776 := by omega
            simp [ageOk, h1, h2]
          by_cases k0 : k = 0
          · left
            have : okAt p k = true := by rw [hage]; simp [hA, k0]
            refine ⟨[Z (.ptr s.size 0), .v (.agg [.int .i64 p.a0, .int .i64 p.a1, .int .i64 p.a2, .int .i64 p.a3]), I .i64 ((k + 1 : Nat) : Int)], u, q - 1, ?_, by omega, k + 1, by omega, rfl, rfl, next this⟩
            unfold f10_l1
            subst k0
            have hat0 : aAtArr none 4 1 (.v (.agg [.int .i64 p.a0, .int .i64 p.a1, .int .i64 p.a2, .int .i64 p.a3])) (I .i64 0) = some (I .i64 a) := hat
            have w0 : IntKind.i64.wrap 1 = 1 := rfl
            simp [hat0, c1, c2, w0]
          · obtain ⟨b, hb⟩ : ∃ b, b = ageAt p (k - 1) := ⟨_, rfl⟩
            rw [← hb] at hage
            have ck0 : ¬ (k : Int) = 0 := by omega
            have w2 : IntKind.i64.wrap ((k : Int) - 1) = ((k - 1 : Nat) : Int) := by rw [wrap_in _ (by omega) (by omega)]; omega
            have ix1 := ix (k - 1) (by omega)
            have ld1 := ld (k - 1) (by omega)
            rw [← hb] at ld1
            by_cases c3 : a = 0
            · left
              have : okAt p k = true := by rw [hage, hA]; simp [nxtOk, c3]
              refine ⟨[Z (.ptr s.size 0), .v (.agg [.int .i64 p.a0, .int .i64 p.a1, .int .i64 p.a2, .int .i64 p.a3]), I .i64 ((k + 1 : Nat) : Int)], u, q - 1, ?_, by omega, k + 1, by omega, rfl, rfl, next this⟩
              unfold f10_l1
              subst c3
              generalize ((k + 1 : Nat) : Int) = K1 at w1 ⊢
              generalize ((k - 1 : Nat) : Int) = K0 at w2 ix1
              generalize (k : Int) = K at *
              simp [c0, hat, ck0, w2, ix1, ld1, w1, gtt]
            · by_cases c4 : a < b
              · right
                have : okAt p k = false := by
                  have h1 : ¬ b ≤ a := by omega
                  rw [hage]; simp [hA, nxtOk, c3, h1, k0]
                refine ⟨.ret (B false), u, ?_, (fun v hv => by cases hv), .inr ⟨rfl, bad this⟩, rfl⟩
                unfold f10_l1
                generalize ((k - 1 : Nat) : Int) = K0 at w2 ix1
                generalize (k : Int) = K at *
                simp [c0, hat, c1, c2, ck0, w2, ix1, ld1, c3, c4]
              · by_cases c5 : b = 0
                · right
                  have : okAt p k = false := by rw [hage]; simp [hA, nxtOk, c3, c5, k0]
                  refine ⟨.ret (B false), u, ?_, (fun v hv => by cases hv), .inr ⟨rfl, bad this⟩, rfl⟩
                  unfold f10_l1
                  generalize ((k - 1 : Nat) : Int) = K0 at w2 ix1
                  generalize (k : Int) = K at *
                  simp [c0, hat, c1, c2, ck0, w2, ix1, ld1, c3, c4, c5]
                · left
                  have : okAt p k = true := by
                    have h1 : b ≤ a := by omega
                    rw [hage]; simp [hA, nxtOk, h1, c5]
                  refine ⟨[Z (.ptr s.size 0), .v (.agg [.int .i64 p.a0, .int .i64 p.a1, .int .i64 p.a2, .int .i64 p.a3]), I .i64 ((k + 1 : Nat) : Int)], u, q - 1, ?_, by omega, k + 1, by omega, rfl, rfl, next this⟩
                  unfold f10_l1
                  generalize ((k + 1 : Nat) : Int) = K1 at w1 ⊢
                  generalize ((k - 1 : Nat) : Int) = K0 at w2 ix1
                  generalize (k : Int) = K at *
                  simp [c0, hat, c1, c2, ck0, w2, ix1, ld1, c3, c4, c5, w1]
    · right
      have hk' : k = 4 := by omega
      subst hk'
      refine ⟨.exit 0 [Z (.ptr s.size 0)], u, ?_, (fun v hv => by cases hv), .inl ⟨rfl, (agesOk_iff p).2 hok⟩, rfl⟩
      unfold f10_l1
      simp) 8192 4 [Z (.ptr s.size 0), .v (.agg [.int .i64 p.a0, .int .i64 p.a1, .int .i64 p.a2, .int .i64 p.a3]), I .i64 0] s1 ⟨0, rfl, rfl, rfl, fun j hj => by omega⟩ (by omega)
  subst hτ
  refine ⟨τ, ?_, g⟩
  have ix3 : aIndexArr 4 1 (Z (.ptr s.size 0)) (I .i64 3) = some (Z (.ptr s.size 3)) := rfl
  have ld3 := ld 3 (by omega)
  generalize (T.v (.agg [.int .i64 p.a0, .int .i64 p.a1, .int .i64 p.a2, .int .i64 p.a3])) = L at l4 lp
  rcases hj with ⟨rfl, ha⟩ | ⟨rfl, ha⟩
  · have hm : mayP p = (decide (p.a3 = 0) && decide (1 ≤ p.c) && decide (p.c ≤ 64) && decide (1 ≤ p.n) && decide (p.n ≤ 200)) := by simp [mayP, ha]
    rw [hm]
    by_cases d1 : p.a3 = 0
    · by_cases d2 : 1 ≤ p.c
      · by_cases d3 : p.c ≤ 64
        · by_cases d4 : 1 ≤ p.n
          · simp [nw, l4, lp, ix3, ld3, ld4, ld5, ageAt, d1, d2, d3, d4]
          · simp [nw, l4, lp, ix3, ld3, ld4, ld5, ageAt, d1, d2, d3, d4]
        · simp [nw, l4, lp, ix3, ld3, ld4, ld5, ageAt, d1, d2, d3]
      · simp [nw, l4, lp, ix3, ld3, ld4, ld5, ageAt, d1, d2]
    · simp [nw, l4, lp, ix3, ld3, ageAt, d1]
  · have hm : mayP p = false := by simp [mayP, ha]
    rw [hm]
    simp [nw, l4, lp]

/-! ### A line -/

def tNames : List Bs := [[114, 97, 119], [53, 109], [49, 104], [49, 100]]
def kKeep : Bs := [107, 101, 101, 112]
def kSeal : Bs := [115, 101, 97, 108]
def kSpan : Bs := [115, 112, 97, 110]
def kEver : Bs := [101, 118, 101, 114]

theorem names_run (d : Nat) (wf : s.wf) : ∃ x t, R (d + 1) 12 [] s = some (Z x, t) ∧ FT s t x tNames := by
  rw [f12_run]
  unfold f12
  refine ⟨.sl s.size 0 4 (.known 4), s.push (.cells true (strS tNames)), ?_, Fr.lit 1 wf rfl⟩
  simp [aNew, nSlice, aFill, V.cells, setRange, strS, tNames]

def setAge (p : Pol) (k : Int) (n : Int) : Pol :=
  if k = 0 then { p with a0 := n } else if k = 1 then { p with a1 := n } else if k = 2 then { p with a2 := n } else { p with a3 := n }

def lineP (p : Pol) (ws : List Bs) : Option Pol :=
  let last := ws.getD (ws.length - 1) []
  if ws.getD 0 [] = kKeep ∧ ws.length = 3 then
    if ixT (ws.getD 1 []) tNames 0 < 0 ∨ (numOk last = false ∧ ws.getD 2 [] ≠ kEver) then none else some (setAge p (ixT (ws.getD 1 []) tNames 0) (numV last))
  else if ws.getD 0 [] = kSeal ∧ ws.length = 2 ∧ numOk last = true then some { p with c := numV last }
  else if ws.getD 0 [] = kSpan ∧ ws.length = 2 ∧ numOk last = true then some { p with n := numV last }
  else none

def But (i : Nat) (s t : St) : Prop := t.wf ∧ s.size ≤ t.size ∧ ∀ b, b < s.size → b ≠ i → t.get b = s.get b
theorem Gr.but {s t : St} (h : Gr s t) (i : Nat) : But i s t := ⟨h.1, h.2.1, fun b hb _ => h.2.2 b hb⟩
theorem But.trans {i : Nat} {a b c : St} (h : But i a b) (k : But i b c) : But i a c := ⟨k.1, Nat.le_trans h.2.1 k.2.1, fun x hx hi => by rw [k.2.2 x (Nat.lt_of_lt_of_le hx h.2.1) hi, h.2.2 x hx hi]⟩
theorem But.set {i : Nat} {s : St} (wf : s.wf) (hi : i < s.size) (b : Blk) : But i s (s.set i b) := ⟨St.wf_set wf hi _, by simp, fun c hc hne => St.get_set_ne _ _ hne⟩

theorem set_age {p : Pol} {j : Nat} {n : Int} (hj : j < 4) : setRange (cP p) j [.int .i64 n] = cP (setAge p (j : Nat) n) := by
  match j, hj with
  | 0, _ => rfl
  | 1, _ => rfl
  | 2, _ => rfl
  | 3, _ => rfl

theorem line_run (d : Nat) (wf : s.wf) {p : Pol} {ws : List Bs} (hp : s.get i = some (.cells true (cP p))) (hx : RT s x ws) (hox : ∀ c, own x = some c → c < s.size ∧ c ≠ i) (hne : ws ≠ []) (hl : ws.length ≤ 100000) :
    ∃ t, R (d + 6) 20 [Z (.ptr i 0), Z x] s = some (B (lineP p ws).isSome, t) ∧ But i s t ∧ t.get i = some (.cells true (cP ((lineP p ws).getD p))) := by
  rw [f20_run]
  unfold f20
  have hi := wf.lt hp
  have hpos : 0 < ws.length := by
    cases ws with
    | nil => exact absurd rfl hne
    | cons _ _ => simp
  have at_ : ∀ (u : St), Gr s u → ∀ j : Nat, j < ws.length → ∃ q, aIndexSl 1 (Z x) (I .i64 (j : Nat)) = some q ∧ aLoad1 q u.get = some (Z (.str (ws.getD j []))) := fun u g j hj => by
    have hx' : RT u x ws := hx.gr (fun c hc => (hox c hc).1) g
    exact RT.atT hx' rfl (by simp [List.getD, hj])
  have fixp : ∀ (u v : St) j, j < ws.length → ∀ q, aIndexSl 1 (Z x) (I .i64 ((j : Nat) : Int)) = some q → Gr s u → aLoad1 q u.get = some (Z (.str (ws.getD j []))) := fun u v j hj q hq g => by
    obtain ⟨q', h1, h2⟩ := at_ u g j hj
    rw [hq] at h1
    cases h1
    exact h2
  have hlen := hx.lens
  have w1 : IntKind.i64.wrap ((ws.length : Int) - 1) = ((ws.length - 1 : Nat) : Int) := by rw [wrap_in _ (by omega) (by omega)]; omega
  obtain ⟨ql, ixl, ldl⟩ := at_ s (Gr.refl wf) (ws.length - 1) (by omega)
  obtain ⟨s1, e1, g1⟩ := number_run (l := ws.getD (ws.length - 1) []) d wf
  obtain ⟨last, hlast⟩ : ∃ last, last = ws.getD (ws.length - 1) [] := ⟨_, rfl⟩
  rw [← hlast] at ldl e1
  obtain ⟨q0, ix0, ld0⟩ := at_ s1 g1 0 hpos
  obtain ⟨w0, hw0⟩ : ∃ w, w = ws.getD 0 [] := ⟨_, rfl⟩
  rw [← hw0] at ld0
  have hp1 : s1.get i = some (.cells true (cP p)) := by rw [g1.2.2 i hi]; exact hp
  have hi1 : i < s1.size := Nat.lt_of_lt_of_le hi g1.2.1
  have hdef : lineP p ws = if w0 = kKeep ∧ ws.length = 3 then
    if ixT (ws.getD 1 []) tNames 0 < 0 ∨ (numOk last = false ∧ ws.getD 2 [] ≠ kEver) then none else some (setAge p (ixT (ws.getD 1 []) tNames 0) (numV last))
      else if w0 = kSeal ∧ ws.length = 2 ∧ numOk last = true then some { p with c := numV last }
      else if w0 = kSpan ∧ ws.length = 2 ∧ numOk last = true then some { p with n := numV last } else none := by rw [hw0, hlast]; rfl
  rw [hdef]
  have k1 : (Z (.str [107, 101, 101, 112]) : T) = Z (.str kKeep) := rfl
  have k2 : (Z (.str [115, 101, 97, 108]) : T) = Z (.str kSeal) := rfl
  have k3 : (Z (.str [115, 112, 97, 110]) : T) = Z (.str kSpan) := rfl
  have k4 : (Z (.str [101, 118, 101, 114]) : T) = Z (.str kEver) := rfl
  rw [k1, k2, k3, k4]
  have ix0' : aIndexSl 1 (Z x) (I .i64 0) = some q0 := ix0
  by_cases hk : w0 = kKeep ∧ ws.length = 3
  · rw [if_pos hk]
    obtain ⟨hk0, hk3⟩ := hk
    obtain ⟨y, s2, e2, f2⟩ := names_run (d + 4) g1.wf
    have g2 := g1.trans f2.gr
    obtain ⟨q1, ix1, ld1⟩ := at_ s2 g2 1 (by omega)
    have ld1' := fixp s1 s1 1 (by omega) q1 ix1 g1
    obtain ⟨q2, ix2, ld2⟩ := at_ s2 g2 2 (by omega)
    obtain ⟨w1', hw1⟩ : ∃ w, w = ws.getD 1 [] := ⟨_, rfl⟩
    obtain ⟨w2', hw2⟩ : ∃ w, w = ws.getD 2 [] := ⟨_, rfl⟩
    rw [← hw1] at ld1 ld1' ⊢
    rw [← hw2] at ld2 ⊢
    have e3 := indexT_run (v := w1') (d + 4) f2.rd (by decide)
    have ix1' : aIndexSl 1 (Z x) (I .i64 1) = some q1 := ix1
    have ix2' : aIndexSl 1 (Z x) (I .i64 2) = some q2 := ix2
    have hp2 : s2.get i = some (.cells true (cP p)) := by rw [f2.gr.2.2 i hi1]; exact hp1
    have c3 : (ws.length : Int) = 3 := by omega
    have ckk : decide (aLoad1 q1 s1.get = aLoad1 q1 s2.get) = true := decide_eq_true (by rw [ld1, ld1'])
    simp only [Nat.add_assoc, Nat.reduceAdd] at e2 e3
    generalize R (d + 5) = r at *
    rcases ixT_range w1' tNames 0 with hx1 | ⟨j, hj1, hj2, _⟩
    · rw [hx1] at e3 ⊢
      refine ⟨s2, ?_, Gr.but g2 i, by simp; exact hp2⟩
      generalize ((ws.length - 1 : Nat) : Int) = L1 at *
      have w1c : IntKind.i64.wrap 2 = L1 := by rw [c3] at w1; exact w1
      simp [hlen, w1c, ixl, ldl, e1, aExtract, ix0', ld0, hk0, c3, e2, ix1', ld1, ld1', e3, gtt]
    · rw [hj2] at e3 ⊢
      rw [Nat.zero_add] at e3 ⊢
      have c4 : ¬ ((j : Nat) : Int) < 0 := by omega
      have hj4 : j < 4 := hj1
      by_cases hbad : numOk last = false ∧ w2' ≠ kEver
      · rw [if_pos (.inr hbad)]
        refine ⟨s2, ?_, Gr.but g2 i, by simp; exact hp2⟩
        generalize ((ws.length - 1 : Nat) : Int) = L1 at *
        generalize ((j : Nat) : Int) = J at *
        have w1c : IntKind.i64.wrap 2 = L1 := by rw [c3] at w1; exact w1
        simp [hlen, w1c, ixl, ldl, e1, aExtract, ix0', ld0, hk0, c3, e2, ix1', ld1, ld1', e3, gtt, c4, hbad.1, ix2', ld2, hbad.2]
      · have hn : ¬ (((j : Nat) : Int) < 0 ∨ (numOk last = false ∧ w2' ≠ kEver)) := fun h => h.elim c4 hbad
        rw [if_neg hn]
        obtain ⟨s3, hs3⟩ : ∃ s3, s3 = s2.set i (.cells true (cP (setAge p (j : Nat) (numV last)))) := ⟨_, rfl⟩
        have ixa : aIndexArr 4 1 (Z (.ptr i 0)) (I .i64 (j : Nat)) = some (Z (.ptr i j)) := by
          match j, hj4 with
          | 0, _ => rfl
          | 1, _ => rfl
          | 2, _ => rfl
          | 3, _ => rfl
        have st := aStore1_of (σ := s2) (i := i) (o := j) (x := .int .i64 (numV last)) hp2 (by simp [cP]; omega)
        rw [set_age hj4, ← hs3] at st
        refine ⟨s3, ?_, (Gr.but g2 i).trans (by rw [hs3]; exact But.set (Gr.wf g2) (Nat.lt_of_lt_of_le hi g2.2.1) _), by rw [hs3]; exact St.get_set_same _ _ _⟩
        generalize ((ws.length - 1 : Nat) : Int) = L1 at *
        generalize ((j : Nat) : Int) = J at *
        have w1c : IntKind.i64.wrap 2 = L1 := by rw [c3] at w1; exact w1
        cases hno : numOk last with
        | true =>
          rw [hno] at e1
          simp [hlen, w1c, ixl, ldl, e1, aExtract, ix0', ld0, hk0, c3, e2, ix1', ld1, ld1', e3, gtt, c4, ixa, st]
        | false =>
          rw [hno] at e1
          have hev : w2' = kEver := by
            apply Classical.byContradiction
            intro h
            exact hbad ⟨hno, h⟩
          simp [hlen, w1c, ixl, ldl, e1, aExtract, ix0', ld0, hk0, c3, e2, ix1', ld1, ld1', e3, gtt, c4, ix2', ld2, hev, ixa, st]
  · rw [if_neg hk]
    have hkk : w0 = kKeep → ¬ (ws.length : Int) = 3 := fun h h2 => hk ⟨h, by omega⟩
    by_cases hs : w0 = kSeal ∧ ws.length = 2 ∧ numOk last = true
    · rw [if_pos hs]
      obtain ⟨a1, a2, a3⟩ := hs
      have c2 : (ws.length : Int) = 2 := by omega
      have n1 : ¬ kSeal = kKeep := by decide
      have st := aStore1_of (σ := s1) (i := i) (o := 4) (x := .int .i64 (numV last)) hp1 (by simp [cP])
      refine ⟨s1.set i (.cells true (cP { p with c := numV last })), ?_, (Gr.but g1 i).trans (But.set (Gr.wf g1) hi1 _), by simp⟩
      have hset : setRange (cP p) 4 [.int .i64 (numV last)] = cP { p with c := numV last } := rfl
      rw [hset] at st
      rw [a3] at e1
      generalize R (d + 5) = r at *
      generalize ((ws.length - 1 : Nat) : Int) = L1 at *
      have w1c : IntKind.i64.wrap 1 = L1 := by rw [c2] at w1; exact w1
      simp [hlen, w1c, ixl, ldl, e1, aExtract, ix0', ld0, a1, n1, c2, st]
    · rw [if_neg hs]
      by_cases hq : w0 = kSpan ∧ ws.length = 2 ∧ numOk last = true
      · rw [if_pos hq]
        obtain ⟨a1, a2, a3⟩ := hq
        have c2 : (ws.length : Int) = 2 := by omega
        have n1 : ¬ kSpan = kKeep := by decide
        have n2 : ¬ kSpan = kSeal := by decide
        have st := aStore1_of (σ := s1) (i := i) (o := 5) (x := .int .i64 (numV last)) hp1 (by simp [cP])
        refine ⟨s1.set i (.cells true (cP { p with n := numV last })), ?_, (Gr.but g1 i).trans (But.set (Gr.wf g1) hi1 _), by simp⟩
        have hset : setRange (cP p) 5 [.int .i64 (numV last)] = cP { p with n := numV last } := rfl
        rw [hset] at st
        rw [a3] at e1
        generalize R (d + 5) = r at *
        generalize ((ws.length - 1 : Nat) : Int) = L1 at *
        have w1c : IntKind.i64.wrap 1 = L1 := by rw [c2] at w1; exact w1
        simp [hlen, w1c, ixl, ldl, e1, aExtract, ix0', ld0, a1, n1, n2, c2, st]
      · rw [if_neg hq]
        refine ⟨s1, ?_, Gr.but g1 i, by simp; exact hp1⟩
        have hss : w0 = kSeal → (ws.length : Int) = 2 → numOk last = false := fun h h2 => by
          cases hn : numOk last with
          | false => rfl
          | true => exact absurd ⟨h, by omega, hn⟩ hs
        have hqq : w0 = kSpan → (ws.length : Int) = 2 → numOk last = false := fun h h2 => by
          cases hn : numOk last with
          | false => rfl
          | true => exact absurd ⟨h, by omega, hn⟩ hq
        generalize R (d + 5) = r at *
        generalize ((ws.length - 1 : Nat) : Int) = L1 at *
        have n1 : ¬ kSeal = kKeep := by decide
        have n2 : ¬ kSpan = kKeep := by decide
        have n3 : ¬ kSpan = kSeal := by decide
        have n4 : ¬ kSeal = kSpan := by decide
        have n5 : ¬ kKeep = kSpan := by decide
        have n6 : ¬ kKeep = kSeal := by decide
        by_cases b1 : w0 = kKeep
        · have c3 := hkk b1
          simp [hlen, w1, ixl, ldl, e1, aExtract, ix0', ld0, b1, c3, n5, n6]
        · by_cases b2 : w0 = kSeal
          · by_cases c2 : (ws.length : Int) = 2
            · have := hss b2 c2
              have w1c : IntKind.i64.wrap 1 = L1 := by rw [c2] at w1; exact w1
              simp [hlen, w1c, ixl, ldl, e1, aExtract, ix0', ld0, b2, n1, n4, c2, this]
            · simp [hlen, w1, ixl, ldl, e1, aExtract, ix0', ld0, b2, n1, n4, c2]
          · by_cases b3 : w0 = kSpan
            · by_cases c2 : (ws.length : Int) = 2
              · have := hqq b3 c2
                have w1c : IntKind.i64.wrap 1 = L1 := by rw [c2] at w1; exact w1
                simp [hlen, w1c, ixl, ldl, e1, aExtract, ix0', ld0, b3, n2, n3, c2, this]
              · simp [hlen, w1, ixl, ldl, e1, aExtract, ix0', ld0, b3, n2, n3, c2]
            · simp [hlen, w1, ixl, ldl, e1, aExtract, ix0', ld0, b1, b2, b3]
end
end Go.Proofs.YtkifcchcofdkaaaDoor


/-
  What policy.Parse computes, in any store. No conditions but those named in each line.
-/
namespace Go.Proofs.YtkifcchcofdkaaaDoor
open Go Go.Abs Go.Abs.F
set_option linter.unusedVariables false

def wordsOf (x : Bs) : List Bs := (splitB 32 (x.takeWhile fun b => !Nat.beq b.toNat (35 : UInt8).toNat)).filter fun w => !decide (w = [])

def parseGo : Pol → List Bs → Nat → List Bs → Pol × Int × Int
  | p, _, _, [] => if mayP p then (p, 0, 0) else (pol0, 5, 0)
  | p, seen, k, x :: r => if wordsOf x = [] then parseGo p seen (k + 1) r else
    match lineP p (wordsOf x) with
    | none => (pol0, 4, k + 1)
    | some p' => if joinB [32] (wordsOf x).dropLast ∈ seen then (pol0, 4, k + 1) else parseGo p' (seen ++ [joinB [32] (wordsOf x).dropLast]) (k + 1) r
def parseP (l : Bs) : Pol × Int × Int := parseGo polD [] 0 (splitB 10 l)

section
variable {s t : St} {x y : S} {l : Bs} {i : Nat}

theorem wordsOf_len (x : Bs) : (wordsOf x).length ≤ x.length + 1 := by
  unfold wordsOf
  refine Nat.le_trans (List.length_filter_le _ _) ?_
  rw [splitB_len]
  have h1 := cntB_le 32 (x.takeWhile fun b => !Nat.beq b.toNat (35 : UInt8).toNat)
  have h2 := (List.takeWhile_sublist (p := fun b : UInt8 => !Nat.beq b.toNat (35 : UInt8).toNat) (l := x)).length_le
  omega

theorem total_sublist : ∀ {a b : List Bs}, a.Sublist b → totalLen a ≤ totalLen b := by
  intro a b h
  induction h with
  | slnil => exact Nat.le_refl _
  | cons x _ ih => simp only [totalLen]; omega
  | cons_cons x _ ih => simp only [totalLen]; omega

theorem wordsOf_total (x : Bs) : totalLen (wordsOf x).dropLast ≤ x.length := by
  have h1 := total_sublist (List.dropLast_sublist (wordsOf x))
  have h2 := total_sublist (List.filter_sublist (l := splitB 32 (x.takeWhile fun b => !Nat.beq b.toNat (35 : UInt8).toNat)) (p := fun w => !decide (w = [])))
  have h3 : totalLen (splitB 32 (x.takeWhile fun b => !Nat.beq b.toNat (35 : UInt8).toNat)) ≤ (x.takeWhile fun b => !Nat.beq b.toNat (35 : UInt8).toNat).length := by rw [totalLen_sum]; exact splitB_sum _ _
  have h4 := (List.takeWhile_sublist (p := fun b : UInt8 => !Nat.beq b.toNat (35 : UInt8).toNat) (l := x)).length_le
  unfold wordsOf at h1 ⊢
  exact Nat.le_trans h1 (Nat.le_trans h2 (Nat.le_trans h3 h4))

theorem words_loop (r : CallF) (v0 v1 v2 v3 v5 v6 v7 : T) {ps : List Bs} (hx : RT s x ps) (hox : ∀ c, own x = some c → c < s.size) (wf : s.wf) (hl : ps.length ≤ 8001) :
    ∃ (y : S) (τ : St), loops (f11_l2 r 8192) 8192 [v0, v1, v2, v3, Z .nils, v5, v6, v7, Z x, I .i64 ps.length, I .i64 0] s = some (.exit 2 [v0, v1, v2, v3, Z y, v5, v6, v7], τ) ∧ FT s τ y (ps.filter fun w => !decide (w = [])) := by
  obtain ⟨j, τ, lp, y, rfl, hf⟩ := loops_inv (f := f11_l2 r 8192) (fun q v u => ∃ (k : Nat) (y : S), q + k = ps.length ∧ v = [v0, v1, v2, v3, Z y, v5, v6, v7, Z x, I .i64 ps.length, I .i64 k] ∧ FT s u y ((ps.take k).filter fun w => !decide (w = [])))
    (fun j u => ∃ y, j = .exit 2 [v0, v1, v2, v3, Z y, v5, v6, v7] ∧ FT s u y (ps.filter fun w => !decide (w = []))) (by
    rintro q v u ⟨k, y, hk, rfl, hf⟩
    by_cases hkl : k < ps.length
    · left
      have hc : ps[k]? = some ps[k] := List.getElem?_eq_getElem hkl
      have hx' : RT u x ps := hx.gr hox hf.gr
      obtain ⟨p, ix, ld⟩ := RT.atT hx' (n := (k : Int)) rfl hc
      have c0 : (k : Int) < (ps.length : Int) := by omega
      have w1 : IntKind.i64.wrap ((k : Int) + 1) = ((k + 1 : Nat) : Int) := by rw [wrap_in _ (by omega) (by omega)]; omega
      have htk : ps.take (k + 1) = ps.take k ++ [ps[k]] := by rw [List.take_add_one, hc]; rfl
      by_cases he : ps[k] = []
      · refine ⟨[v0, v1, v2, v3, Z y, v5, v6, v7, Z x, I .i64 ps.length, I .i64 ((k + 1 : Nat) : Int)], u, q - 1, ?_, by omega, k + 1, y, by omega, rfl, ?_⟩
        · unfold f11_l2
          rw [he] at ld
          generalize ((k + 1 : Nat) : Int) = K1 at w1 ⊢
          generalize (k : Int) = K at *
          simp [c0, ix, ld, w1]
        · rw [htk, List.filter_append, he]
          simpa using hf
      · have hlen : ((ps.take k).filter fun w => !decide (w = [])).length ≤ 1000000 := by
          refine Nat.le_trans (List.length_filter_le _ _) ?_
          rw [List.length_take]
          omega
        obtain ⟨y', t, ⟨s', nw, ap⟩, hf', _⟩ := FT.lit (c := ps[k]) hf hlen
        refine ⟨[v0, v1, v2, v3, Z y', v5, v6, v7, Z x, I .i64 ps.length, I .i64 ((k + 1 : Nat) : Int)], t, q - 1, ?_, by omega, k + 1, y', by omega, rfl, ?_⟩
        · unfold f11_l2
          generalize ((k + 1 : Nat) : Int) = K1 at w1 ⊢
          generalize (k : Int) = K at *
          simp [c0, ix, ld, he, nw, ap, w1]
        · rw [htk, List.filter_append]
          simpa [he] using hf'
    · right
      have hk' : k = ps.length := by omega
      subst hk'
      refine ⟨.exit 2 [v0, v1, v2, v3, Z y, v5, v6, v7], u, ?_, (fun v hv => by cases hv), y, rfl, by rwa [List.take_length] at hf⟩
      unfold f11_l2
      simp) 8192 ps.length [v0, v1, v2, v3, Z .nils, v5, v6, v7, Z x, I .i64 ps.length, I .i64 0] s ⟨0, .nils, by omega, rfl, by simpa [FT, strS] using Fr.nil 1 wf⟩ (by omega)
  exact ⟨y, τ, lp, hf⟩

theorem parse_run (d : Nat) (wf : s.wf) (hl : l.length ≤ 8000) : ∃ t, R (d + 7) 11 [Z (.str l)] s = some (.tup [.agg (cP (parseP l).1), .s (.int .i64 (parseP l).2.1), .s (.int .i64 (parseP l).2.2)], t) ∧ Gr s t := by
  rw [f11_run]
  unfold f11
  obtain ⟨s1, hs1⟩ : ∃ s1, s1 = s.push (.cells true (cP pol0)) := ⟨_, rfl⟩
  have g1 : Gr s s1 := by rw [hs1]; exact Gr.push wf _
  have z1 : s1.size = s.size + 1 := by rw [hs1]; rfl
  have hr1 : s1.get s.size = some (.cells true (cP pol0)) := by rw [hs1]; exact St.get_push_same _ _
  have nw1 : aNew s (nCells [.int .i64 0, .int .i64 0, .int .i64 0, .int .i64 0, .int .i64 0, .int .i64 0]) = some (Z (.ptr s.size 0), s1) := by rw [hs1]; rfl
  obtain ⟨s2, e2, g2⟩ := default_run (d + 5) g1.wf
  obtain ⟨s3, hs3⟩ : ∃ s3, s3 = s2.push (.cells true (cP pol0)) := ⟨_, rfl⟩
  have g3 : Gr s2 s3 := by rw [hs3]; exact Gr.push g2.wf _
  have nw3 : aNew s2 (nCells [.int .i64 0, .int .i64 0, .int .i64 0, .int .i64 0, .int .i64 0, .int .i64 0]) = some (Z (.ptr s2.size 0), s3) := by rw [hs3]; rfl
  have hp3 : s3.get s2.size = some (.cells true (cP pol0)) := by rw [hs3]; exact St.get_push_same _ _
  have z3 : s3.size = s2.size + 1 := by rw [hs3]; rfl
  obtain ⟨s4, hs4⟩ : ∃ s4, s4 = s3.set s2.size (.cells true (cP polD)) := ⟨_, rfl⟩
  have st4 := store6 (p := polD) hp3 rfl
  rw [← hs4] at st4
  have f4 : s4.wf := by rw [hs4]; exact St.wf_set g3.wf (by omega) _
  have z4 : s4.size = s2.size + 1 := by rw [hs4]; simpa using z3
  have hp4 : s4.get s2.size = some (.cells true (cP polD)) := by rw [hs4]; exact St.get_set_same _ _ _
  have old4 : ∀ b, b < s2.size → s4.get b = s2.get b := fun b hb => by rw [hs4, St.get_set_ne _ _ (by omega), g3.2.2 b hb]
  have hle2 : s.size + 1 ≤ s2.size := by have := g2.2.1; omega
  have hr4 : s4.get s.size = some (.cells true (cP pol0)) := by rw [old4 _ (by omega), g2.2.2 _ (by omega)]; exact hr1
  have olds4 : ∀ b, b < s.size → s4.get b = s.get b := fun b hb => by rw [old4 b (by omega), g2.2.2 b (by omega), g1.2.2 b hb]
  obtain ⟨x, s5, e5, f5⟩ := split_run (l := l) (c := 10) (d + 3) f4 hl
  obtain ⟨ps, hps⟩ : ∃ ps, ps = splitB 10 l := ⟨_, rfl⟩
  rw [← hps] at f5
  have hcount : ps.length ≤ 8001 := by rw [hps, splitB_len]; have := cntB_le 10 l; omega
  have hmem : ∀ w ∈ ps, w.length ≤ 8000 := fun w hw => by have := splitB_mem 10 l w (by rw [← hps]; exact hw); omega
  have hresult : parseP l = parseGo polD [] 0 ps := by rw [hps]; rfl
  rw [hresult]
  obtain ⟨rp, hrp⟩ : ∃ rp, rp = s.size := ⟨_, rfl⟩
  obtain ⟨pp, hpp⟩ : ∃ pp, pp = s2.size := ⟨_, rfl⟩
  rw [← hrp] at nw1 hr4
  rw [← hpp] at nw3 st4 hp4
  obtain ⟨j, τ, lp, hj⟩ := loops_inv (f := f11_l1 (R (d + 6)) 8192)
    (fun q v u => ∃ (k : Nat) (p : Pol) (y : S) (seen : List Bs), q + k = ps.length ∧ v = [Z (.ptr rp 0), Z (.ptr pp 0), Z y, Z x, I .i64 ps.length, I .i64 k] ∧ u.wf ∧ s5.size ≤ u.size ∧ u.get rp = some (.cells true (cP pol0)) ∧ u.get pp = some (.cells true (cP p)) ∧
      (∀ b, b < s5.size → b ≠ pp → u.get b = s5.get b) ∧ Ow 1 u y seen.length (strS seen) ∧ (∀ c, own y = some c → s5.size ≤ c ∧ c < u.size) ∧ seen.length ≤ k ∧ parseGo p seen k (ps.drop k) = parseGo polD [] 0 ps)
    (fun j u => u.wf ∧ s5.size ≤ u.size ∧ (∀ b, b < s5.size → b ≠ pp → b ≠ rp → u.get b = s5.get b) ∧
      ((∃ p, j = .exit 0 [Z (.ptr rp 0), Z (.ptr pp 0)] ∧ u.get rp = some (.cells true (cP pol0)) ∧ u.get pp = some (.cells true (cP p)) ∧ parseGo polD [] 0 ps = if mayP p then (p, 0, 0) else (pol0, 5, 0)) ∨
       ∃ k : Nat, j = .ret (.tup [.agg (cP pol0), .s (.int .i64 4), .s (.int .i64 ((k + 1 : Nat) : Int))]) ∧ parseGo polD [] 0 ps = (pol0, 4, (k : Int) + 1))) (by
    rintro q v u ⟨k, p, y, seen, hk, rfl, wfu, hzu, hru, hpu, hou, hy, hyo, hsl, hgo⟩
    have hne : rp ≠ pp := by omega
    have hrp5 : rp < s5.size := by have := f5.gr.2.1; omega
    have hpp5 : pp < s5.size := by have := f5.gr.2.1; omega
    by_cases hkl : k < ps.length
    · have hc : ps[k]? = some ps[k] := List.getElem?_eq_getElem hkl
      have hdr : ps.drop k = ps[k] :: ps.drop (k + 1) := List.drop_eq_getElem_cons hkl
      obtain ⟨w, hw⟩ : ∃ w, w = ps[k] := ⟨_, rfl⟩
      rw [← hw] at hc hdr
      rw [hdr] at hgo
      have hwl : w.length ≤ 8000 := hmem w (List.mem_of_getElem? hc)
      have hx' : RT u x ps := f5.rd.keep fun c hc' => hou c (f5.new c hc').2 (by have := (f5.new c hc').1; omega)
      obtain ⟨pi, ix, ld⟩ := RT.atT hx' (n := (k : Int)) rfl hc
      have c0 : (k : Int) < (ps.length : Int) := by omega
      have w1 : IntKind.i64.wrap ((k : Int) + 1) = ((k + 1 : Nat) : Int) := by rw [wrap_in _ (by omega) (by omega)]; omega
      have ec := cut_run (s := u) (l := w) (c := 35) (d + 3) (by omega)
      obtain ⟨cw, hcw⟩ : ∃ cw, cw = w.takeWhile fun b => !Nat.beq b.toNat (35 : UInt8).toNat := ⟨_, rfl⟩
      rw [← hcw] at ec
      have hcl : cw.length ≤ w.length := by rw [hcw]; exact (List.takeWhile_sublist _).length_le
      obtain ⟨x2, u2, es, fs⟩ := split_run (l := cw) (c := 32) (d + 3) wfu (by omega)
      have hl2 : (splitB 32 cw).length ≤ 8001 := by rw [splitB_len]; have := cntB_le 32 cw; omega
      have hl2' := fs.rd.lens
      obtain ⟨y3, u3, lp2, f3⟩ := words_loop (R (d + 6)) (Z (.ptr rp 0)) (Z (.ptr pp 0)) (Z y) (I .i64 k) (Z x) (I .i64 ps.length) (I .i64 k) fs.rd (fun c hc' => (fs.new c hc').2) fs.gr.wf hl2
      have hws : ((splitB 32 cw).filter fun w => !decide (w = [])) = wordsOf w := by rw [hcw]; rfl
      rw [hws] at f3
      have g23 : Gr u u3 := fs.gr.trans f3.gr
      have hru3 : u3.get rp = some (.cells true (cP pol0)) := by rw [g23.2.2 rp (by omega)]; exact hru
      have hpu3 : u3.get pp = some (.cells true (cP p)) := by rw [g23.2.2 pp (by omega)]; exact hpu
      have hou3 : ∀ b, b < s5.size → b ≠ pp → u3.get b = s5.get b := fun b hb hb2 => by rw [g23.2.2 b (by omega)]; exact hou b hb hb2
      have hy3 : Ow 1 u3 y seen.length (strS seen) := hy.gr wfu g23
      have hyo3 : ∀ c, own y = some c → s5.size ≤ c ∧ c < u3.size := fun c hc' => ⟨(hyo c hc').1, Nat.lt_of_lt_of_le (hyo c hc').2 g23.2.1⟩
      have hz3 : s5.size ≤ u3.size := Nat.le_trans hzu g23.2.1
      have hl3 := f3.rd.lens
      simp only [Nat.add_assoc, Nat.reduceAdd] at ec es lp2
      by_cases hnil : wordsOf w = []
      · left
        rw [hnil] at hl3
        refine ⟨[Z (.ptr rp 0), Z (.ptr pp 0), Z y, Z x, I .i64 ps.length, I .i64 ((k + 1 : Nat) : Int)], u3, q - 1, ?_, by omega, k + 1, p, y, seen, by omega, rfl, g23.wf, hz3, hru3, hpu3, hou3, hy3, hyo3, by omega, ?_⟩
        · unfold f11_l1
          generalize R (d + 6) = r at *
          generalize ((k + 1 : Nat) : Int) = K1 at w1 ⊢
          generalize (k : Int) = K at *
          generalize ((splitB 32 cw).length : Int) = SL at *
          simp [c0, ix, ld, ec, aExtract, es, hl2', lp2, hl3, w1]
        · rw [← hgo]
          show _ = (if wordsOf w = [] then _ else _)
          rw [if_pos hnil]
      · -- a line that says something
        obtain ⟨n, hn⟩ : ∃ n, (wordsOf w).length = n + 1 := by
          cases hq : wordsOf w with
          | nil => exact absurd hq hnil
          | cons a b => exact ⟨b.length, rfl⟩
        have hwn : (wordsOf w).length ≤ 8001 := Nat.le_trans (wordsOf_len w) (by omega)
        rw [hn] at hl3
        have cl : ¬ (((n + 1 : Nat) : Int) = 0) := by omega
        have wl : IntKind.i64.wrap (((n + 1 : Nat) : Int) - 1) = ((n : Nat) : Int) := by rw [wrap_in _ (by omega) (by omega)]; omega
        obtain ⟨y4, pc, rd4, own4⟩ := f3.rd.upto (hi := n) (by omega)
        have htk : (strS (wordsOf w)).take (n * 1) = strS (wordsOf w).dropLast := by rw [Nat.mul_one, strS_take, List.dropLast_eq_take, hn, Nat.add_sub_cancel]
        have hdl : (wordsOf w).dropLast.length = n := by rw [List.length_dropLast, hn, Nat.add_sub_cancel]
        rw [htk] at rd4
        have rd4' : RT u3 y4 (wordsOf w).dropLast := by unfold RT; rw [hdl]; exact rd4
        have ej : R (d + 6) 19 [Z y4, Z (.str [32])] u3 = some (Z (.str (joinB [32] (wordsOf w).dropLast)), u3) := runQ_prim (prim_join rd4' (by have := wordsOf_total w; simp; omega) (by omega))
        obtain ⟨said, hsaid⟩ : ∃ said, said = joinB [32] (wordsOf w).dropLast := ⟨_, rfl⟩
        rw [← hsaid] at ej
        have hrdw : RT u3 y3 (wordsOf w) := f3.rd
        obtain ⟨u4, e4, b4, hp4'⟩ := line_run (i := pp) d g23.wf (ws := wordsOf w) hpu3 hrdw (fun c hc' => ⟨(f3.new c hc').2, by have := (f3.new c hc').1; have := fs.gr.2.1; omega⟩) hnil (by omega)
        have hz4 : s5.size ≤ u4.size := Nat.le_trans hz3 b4.2.1
        have hru4 : u4.get rp = some (.cells true (cP pol0)) := by rw [b4.2.2 rp (by omega) hne]; exact hru3
        have hou4 : ∀ b, b < s5.size → b ≠ pp → u4.get b = s5.get b := fun b hb hb2 => by rw [b4.2.2 b (by omega) hb2]; exact hou3 b hb hb2
        have hy4 : Ow 1 u4 y seen.length (strS seen) := hy3.keep fun c hc' => b4.2.2 c (hyo3 c hc').2 (by have := (hyo3 c hc').1; omega)
        have hyo4 : ∀ c, own y = some c → s5.size ≤ c ∧ c < u4.size := fun c hc' => ⟨(hyo3 c hc').1, Nat.lt_of_lt_of_le (hyo3 c hc').2 b4.2.1⟩
        have econ := containsT_run (s := u4) (x := y) (ws := seen) (v := said) (d + 4) hy4.rd (by omega)
        have hgo2 : (match lineP p (wordsOf w) with
          | none => (pol0, 4, (k : Int) + 1)
          | some p' => if said ∈ seen then (pol0, 4, (k : Int) + 1) else parseGo p' (seen ++ [said]) (k + 1) (ps.drop (k + 1))) = parseGo polD [] 0 ps := by
          rw [← hgo]
          show _ = (if wordsOf w = [] then _ else _)
          rw [if_neg hnil, hsaid]
        have store_r : ∀ u' : St, u'.get rp = some (.cells true (cP pol0)) → aStore 6 (Z (.ptr rp 0)) (AP pol0) u' = some (tt, u'.set rp (.cells true (cP pol0))) := fun u' h => store6 h rfl
        have load_r : ∀ u' : St, aLoadN 6 (Z (.ptr rp 0)) (u'.set rp (.cells true (cP pol0))).get = some (AP pol0) := fun u' => load6 (St.get_set_same _ _ _)
        simp only [Nat.add_assoc, Nat.reduceAdd] at e4 econ
        cases hlp : lineP p (wordsOf w) with
        | none =>
          right
          rw [hlp] at e4 hgo2
          simp only [Option.isSome_none] at e4
          refine ⟨.ret (.tup [.agg (cP pol0), .s (.int .i64 4), .s (.int .i64 ((k + 1 : Nat) : Int))]), u4.set rp (.cells true (cP pol0)), ?_, (fun v hv => by cases hv), St.wf_set b4.1 (by omega) _, by simpa using hz4, fun b hb h1 h2 => by rw [St.get_set_ne _ _ h2]; exact hou4 b hb h1, .inr ⟨k, rfl, hgo2.symm⟩⟩
          unfold f11_l1
          have sr := store_r u4 hru4
          have lr := load_r u4
          generalize u4.set rp (.cells true (cP pol0)) = u5 at *
          generalize R (d + 6) = r at *
          generalize ((k + 1 : Nat) : Int) = K1 at w1 ⊢
          generalize (k : Int) = K at *
          generalize ((splitB 32 cw).length : Int) = SL at *
          generalize ((n + 1 : Nat) : Int) = N1 at *
          generalize ((n : Nat) : Int) = N0 at *
          simp [c0, ix, ld, ec, aExtract, es, hl2', lp2, hl3, cl, wl, pc, ej, e4, gtt, agg6, sr, lr, w1, rC, rT, retT, allV]
        | some p' =>
          rw [hlp] at e4 hgo2 hp4'
          simp only [Option.isSome_some] at e4
          by_cases hin : said ∈ seen
          · right
            simp only [if_pos hin] at hgo2
            rw [decide_eq_true hin] at econ
            refine ⟨.ret (.tup [.agg (cP pol0), .s (.int .i64 4), .s (.int .i64 ((k + 1 : Nat) : Int))]), u4.set rp (.cells true (cP pol0)), ?_, (fun v hv => by cases hv), St.wf_set b4.1 (by omega) _, by simpa using hz4, fun b hb h1 h2 => by rw [St.get_set_ne _ _ h2]; exact hou4 b hb h1, .inr ⟨k, rfl, hgo2.symm⟩⟩
            unfold f11_l1
            have sr := store_r u4 hru4
            have lr := load_r u4
            generalize u4.set rp (.cells true (cP pol0)) = u5 at *
            generalize R (d + 6) = r at *
            generalize ((k + 1 : Nat) : Int) = K1 at w1 ⊢
            generalize (k : Int) = K at *
            generalize ((splitB 32 cw).length : Int) = SL at *
            generalize ((n + 1 : Nat) : Int) = N1 at *
            generalize ((n : Nat) : Int) = N0 at *
            simp [c0, ix, ld, ec, aExtract, es, hl2', lp2, hl3, cl, wl, pc, ej, e4, econ, agg6, sr, lr, w1, rC, rT, retT, allV]
          · left
            simp only [if_neg hin] at hgo2
            rw [decide_eq_false hin] at econ
            have hfr : Fr 1 u4 u4 y seen.length (strS seen) → True := fun _ => trivial
            have L := Fr.lit 1 b4.1 (n := 1) (vs := strS [said]) (by simp)
            obtain ⟨y5, u5, ap, wf5, z5, ow5, old5, new5⟩ := (hy4.gr b4.1 L.gr).append (by_ := 16) L.gr.wf (by omega) L.rd.src (by simp) (by omega)
            have nw : aNew u4 (nSlice 1 (aFill [.str []] [(0, 1, Z (.str said))])) = some (Z (.sl u4.size 0 1 (.known 1)), u4.push (.cells true (strS [said]))) := by simp [aNew, nSlice, aFill, V.cells, setRange, strS]
            have zl : u4.size < (u4.push (.cells true (strS [said]))).size := by simp
            have keep5 : ∀ b, b < s5.size → u5.get b = u4.get b := fun b hb => by
              rw [old5 b (by omega) (fun e => by have := (hyo4 b e).1; omega), L.gr.2.2 b (by omega)]
            refine ⟨[Z (.ptr rp 0), Z (.ptr pp 0), Z y5, Z x, I .i64 ps.length, I .i64 ((k + 1 : Nat) : Int)], u5, q - 1, ?_, by omega, k + 1, p', y5, seen ++ [said], by omega, rfl, wf5, by omega, by rw [keep5 rp hrp5]; exact hru4, by rw [keep5 pp hpp5]; exact hp4',
              fun b hb h1 => by rw [keep5 b hb]; exact hou4 b hb h1, by rw [strS_append, List.length_append]; exact ow5, fun c hc' => ?_, by simp; omega, by rw [hgo2]⟩
            · unfold f11_l1
              generalize u4.push (.cells true (strS [said])) = u6 at *
              generalize R (d + 6) = r at *
              generalize ((k + 1 : Nat) : Int) = K1 at w1 ⊢
              generalize (k : Int) = K at *
              generalize ((splitB 32 cw).length : Int) = SL at *
              generalize ((n + 1 : Nat) : Int) = N1 at *
              generalize ((n : Nat) : Int) = N0 at *
              simp [c0, ix, ld, ec, aExtract, es, hl2', lp2, hl3, cl, wl, pc, ej, e4, econ, nw, ap, w1]
            · have hlt := ow5.lt wf5 hc'
              rcases new5 with e | e | ⟨c', e, hc2⟩
              · rw [e] at hc'; cases hc'
              · rw [e] at hc'; exact ⟨(hyo4 c hc').1, hlt⟩
              · rw [e] at hc'; cases hc'; exact ⟨by omega, hlt⟩
    · right
      have hk' : k = ps.length := by omega
      refine ⟨.exit 0 [Z (.ptr rp 0), Z (.ptr pp 0)], u, ?_, (fun v hv => by cases hv), wfu, hzu, fun b hb h1 h2 => hou b hb h1, .inl ⟨p, rfl, hru, hpu, ?_⟩⟩
      · have c0 : ¬ (k : Int) < (ps.length : Int) := by omega
        unfold f11_l1
        simp [c0]
      · rw [← hgo, List.drop_eq_nil_of_le (by omega)]
        rfl) 8192 ps.length [Z (.ptr rp 0), Z (.ptr pp 0), Z .nils, Z x, I .i64 ps.length, I .i64 0] s5
    ⟨0, polD, .nils, [], by omega, rfl, f5.gr.wf, Nat.le_refl _, by rw [f5.gr.2.2 rp (by omega)]; exact hr4, by rw [f5.gr.2.2 pp (by omega)]; exact hp4, fun b hb h1 => rfl, by simpa [strS] using Ow.nil 1 s5, (fun c hc => by cases hc), by simp, rfl⟩ (by omega)
  have hlen5 := f5.rd.lens
  simp only [Nat.add_assoc, Nat.reduceAdd] at e2 e5
  obtain ⟨wfτ, zτ, oldτ, hcase⟩ := hj
  have h45 := f5.gr.2.1
  have oldsτ : ∀ b, b < s.size → τ.get b = s.get b := fun b hb => by rw [oldτ b (by omega) (by omega) (by omega), f5.gr.2.2 b (by omega)]; exact olds4 b hb
  rcases hcase with ⟨p, rfl, hrτ, hpτ, hres⟩ | ⟨k, rfl, hres⟩
  · have lp6 := load6 (g := τ.get) hpτ
    obtain ⟨s6, em, g6⟩ := may_run (d + 5) wfτ p
    have hr6 : s6.get rp = some (.cells true (cP pol0)) := by rw [g6.2.2 rp (by omega)]; exact hrτ
    have hp6 : s6.get pp = some (.cells true (cP p)) := by rw [g6.2.2 pp (by omega)]; exact hpτ
    have ld6 := load6 (g := s6.get) hp6
    have olds6 : ∀ b, b < s.size → s6.get b = s.get b := fun b hb => by rw [g6.2.2 b (by omega)]; exact oldsτ b hb
    have hsz : s.size ≤ s6.size := by have := g6.2.1; omega
    have hrp6 : rp < s6.size := by have := g6.2.1; omega
    cases hm : mayP p with
    | true =>
      rw [hm] at em hres
      rw [hres]
      have st6 := store6 (p := p) hr6 rfl
      obtain ⟨s7, hs7⟩ : ∃ s7, s7 = s6.set rp (.cells true (cP p)) := ⟨_, rfl⟩
      rw [← hs7] at st6
      have ld7 : aLoadN 6 (Z (.ptr rp 0)) s7.get = some (AP p) := load6 (by rw [hs7]; exact St.get_set_same _ _ _)
      refine ⟨s7, ?_, by rw [hs7]; exact St.wf_set g6.wf (by omega) _, by rw [hs7]; simpa using hsz, fun b hb => by rw [hs7, St.get_set_ne _ _ (by omega)]; exact olds6 b hb⟩
      generalize R (d + 6) = r at *
      generalize (ps.length : Int) = PL at *
      simp [nw1, e2, nw3, st4, e5, hlen5, lp, lp6, em, ld6, st6, ld7, rC, rT, retT, allV]
    | false =>
      rw [hm] at em hres
      rw [hres]
      have st6 := store6 (p := pol0) hr6 rfl
      obtain ⟨s7, hs7⟩ : ∃ s7, s7 = s6.set rp (.cells true (cP pol0)) := ⟨_, rfl⟩
      rw [← hs7] at st6
      have ld7 : aLoadN 6 (Z (.ptr rp 0)) s7.get = some (AP pol0) := load6 (by rw [hs7]; exact St.get_set_same _ _ _)
      refine ⟨s7, ?_, by rw [hs7]; exact St.wf_set g6.wf (by omega) _, by rw [hs7]; simpa using hsz, fun b hb => by rw [hs7, St.get_set_ne _ _ (by omega)]; exact olds6 b hb⟩
      generalize R (d + 6) = r at *
      generalize (ps.length : Int) = PL at *
      simp [nw1, e2, nw3, st4, e5, hlen5, lp, lp6, em, agg6, st6, ld7, rC, rT, retT, allV]
  · rw [hres]
    refine ⟨τ, ?_, wfτ, by omega, oldsτ⟩
    generalize R (d + 6) = r at *
    generalize (ps.length : Int) = PL at *
    have hk1 : ((k + 1 : Nat) : Int) = (k : Int) + 1 := by omega
    rw [hk1] at lp
    simp [nw1, e2, nw3, st4, e5, hlen5, lp]
end
end Go.Proofs.YtkifcchcofdkaaaDoor


/-
  A policy's text, and that it is read as that policy: plain law, no program in sight. No conditions.
-/
namespace Go.Proofs.YtkifcchcofdkaaaDoor
open Go Go.Abs Go.Abs.F
set_option linter.unusedVariables false

def ageW (n : Int) : Bs := if 0 < n then itoaF n else kEver
def lineA (m : Bs) (n : Int) : Bs := kKeep ++ [32] ++ m ++ [32] ++ ageW n
def lineN (k : Bs) (n : Int) : Bs := k ++ [32] ++ itoaF n
def printP (p : Pol) : Bs :=
  (lineA [114, 97, 119] p.a0 ++ [10]) ++ ((lineA [53, 109] p.a1 ++ [10]) ++ ((lineA [49, 104] p.a2 ++ [10]) ++ ((lineA [49, 100] p.a3 ++ [10]) ++ ((lineN kSeal p.c ++ [10]) ++ (lineN kSpan p.n ++ [10])))))

/-! ### Digits -/

theorem digit_dig (u : Nat) (h : u < 10) : isDig (UInt8.ofNat (48 + u)) = true := by
  rw [isDig_iff, UInt8.toNat_ofNat']
  omega
theorem digit_val (u : Nat) (h : u < 10) : (UInt8.ofNat (48 + u)).toNat - 48 = u := by
  rw [UInt8.toNat_ofNat']
  omega

theorem decF_all : ∀ (f u : Nat), (decF f u).all isDig = true
  | 0, u => rfl
  | f + 1, u => by
    unfold decF
    cases hb : Nat.ble 10 u with
    | true =>
      simp only [List.all_append, decF_all f (u / 10), List.all_cons, List.all_nil, Bool.and_true, Bool.true_and]
      exact digit_dig _ (by omega)
    | false =>
      have h10 : ¬ 10 ≤ u := fun h' => by rw [Nat.ble_eq_true_of_le h'] at hb; cases hb
      simp only [List.all_cons, List.all_nil, Bool.and_true]
      exact digit_dig _ (by omega)

theorem decF_val : ∀ (f u : Nat), u < 10 ^ f → 0 < f → valD (decF f u) = u
  | 0, u, _, h => by omega
  | f + 1, u, h, _ => by
    unfold decF
    cases hb : Nat.ble 10 u with
    | true =>
      have h10 := Nat.le_of_ble_eq_true hb
      have hf : 0 < f := by
        rcases Nat.eq_zero_or_pos f with h0 | h0
        · subst h0; simp at h; omega
        · exact h0
      dsimp only
      rw [valD_snoc, decF_val f (u / 10) (by rw [Nat.pow_succ] at h; omega) hf, digit_val _ (by omega)]
      omega
    | false =>
      have h10 : ¬ 10 ≤ u := fun h' => by rw [Nat.ble_eq_true_of_le h'] at hb; cases hb
      show valD ([] ++ [UInt8.ofNat (48 + u)]) = u
      rw [valD_snoc, digit_val _ (by omega)]
      show 0 * 10 + u = u
      omega

theorem decF_len : ∀ (f k u : Nat), u < 10 ^ k → 0 < k → (decF f u).length ≤ k
  | 0, k, u, _, _ => by simp [decF]
  | f + 1, k, u, h, hk => by
    unfold decF
    cases hb : Nat.ble 10 u with
    | true =>
      have h10 := Nat.le_of_ble_eq_true hb
      obtain ⟨k', rfl⟩ : ∃ k', k = k' + 1 := ⟨k - 1, by omega⟩
      have hk' : 0 < k' := by
        rcases Nat.eq_zero_or_pos k' with h0 | h0
        · subst h0; simp at h; omega
        · exact h0
      have := decF_len f k' (u / 10) (by rw [Nat.pow_succ] at h; omega) hk'
      simp
      omega
    | false => simpa using (show 1 ≤ k by omega)

theorem decF_pos (f u : Nat) : 1 ≤ (decF (f + 1) u).length := by
  unfold decF
  split <;> simp

theorem itoaF_nat (u : Nat) : itoaF (u : Int) = decF 20 u := rfl

theorem num_itoa (u : Nat) (h : u < 10000000000000) : numOk (itoaF (u : Int)) = true ∧ numV (itoaF (u : Int)) = u := by
  rw [itoaF_nat]
  have h1 : numOk (decF 20 u) = true := by
    unfold numOk
    rw [decF_all, Nat.ble_eq_true_of_le (decF_pos 19 u), Nat.ble_eq_true_of_le (decF_len 20 13 u (by omega) (by omega))]
    rfl
  refine ⟨h1, ?_⟩
  unfold numV
  rw [h1]
  exact decF_val 20 u (by omega) (by omega)

/-! ### Lines and words -/

theorem split_app (c : UInt8) : ∀ (x r : Bs), c ∉ x → splitB c (x ++ [c] ++ r) = x :: splitB c r
  | [], r, _ => by
    show splitB c (c :: r) = _
    rw [splitB_cons, beq_byte.2 rfl]
  | b :: x, r, h => by
    have hb : b ≠ c := fun e => h (by rw [e]; simp)
    have ih := split_app c x r (fun h' => h (List.mem_cons_of_mem _ h'))
    show splitB c (b :: (x ++ [c] ++ r)) = _
    rw [splitB_cons, beq_byte_ne.2 hb, ih]
    rfl

theorem split_one (c : UInt8) : ∀ (x : Bs), c ∉ x → splitB c x = [x]
  | [], _ => rfl
  | b :: x, h => by
    have hb : b ≠ c := fun e => h (by rw [e]; simp)
    have ih := split_one c x (fun h' => h (List.mem_cons_of_mem _ h'))
    rw [splitB_cons, beq_byte_ne.2 hb, ih]
    rfl

theorem take_all (p : UInt8 → Bool) : ∀ x : Bs, (∀ b ∈ x, p b = true) → x.takeWhile p = x
  | [], _ => rfl
  | b :: x, h => by
    rw [List.takeWhile_cons, if_pos (h b (by simp)), take_all p x fun c hc => h c (List.mem_cons_of_mem _ hc)]

def wordB (b : UInt8) : Bool := !Nat.beq b.toNat 32 && !Nat.beq b.toNat 35 && !Nat.beq b.toNat 10
theorem wordB_ne {b : UInt8} (h : wordB b = true) : b ≠ 32 ∧ b ≠ 35 ∧ b ≠ 10 := by
  simp only [wordB, Bool.and_eq_true, Bool.not_eq_true'] at h
  exact ⟨fun e => by rw [e] at h; exact absurd h.1.1 (by decide), fun e => by rw [e] at h; exact absurd h.1.2 (by decide), fun e => by rw [e] at h; exact absurd h.2 (by decide)⟩
theorem dig_word {b : UInt8} (h : isDig b = true) : wordB b = true := by
  have h := isDig_iff.1 h
  have n1 : Nat.beq b.toNat 32 = false := by rw [← Bool.not_eq_true, Nat.beq_eq]; omega
  have n2 : Nat.beq b.toNat 35 = false := by rw [← Bool.not_eq_true, Nat.beq_eq]; omega
  have n3 : Nat.beq b.toNat 10 = false := by rw [← Bool.not_eq_true, Nat.beq_eq]; omega
  simp [wordB, n1, n2, n3]
abbrev Word (x : Bs) : Prop := x ≠ [] ∧ x.all wordB = true
theorem Word.no32 {x : Bs} (h : x.all wordB = true) : (32 : UInt8) ∉ x := fun hm => (wordB_ne (List.all_eq_true.1 h _ hm)).1 rfl
theorem Word.itoa (u : Nat) : Word (itoaF (u : Int)) := by
  rw [itoaF_nat]
  refine ⟨fun e => by have := decF_pos 19 u; rw [e] at this; simp at this, List.all_eq_true.2 fun b hb => dig_word (List.all_eq_true.1 (decF_all 20 u) b hb)⟩
theorem Word.age (n : Int) (h : 0 ≤ n) : Word (ageW n) := by
  unfold ageW
  split
  · obtain ⟨u, rfl⟩ : ∃ u : Nat, n = u := ⟨n.toNat, by omega⟩
    exact Word.itoa u
  · exact ⟨by decide, by decide⟩

theorem no10_line {x : Bs} (h : ∀ b ∈ x, wordB b = true ∨ b = 32) : (10 : UInt8) ∉ x := fun hm => by
  rcases h _ hm with h | h
  · exact (wordB_ne h).2.2 rfl
  · exact absurd h (by decide)
theorem cut_line {x : Bs} (h : ∀ b ∈ x, wordB b = true ∨ b = 32) : x.takeWhile (fun b => !Nat.beq b.toNat (35 : UInt8).toNat) = x :=
  take_all _ x fun b hb => by
    rcases h b hb with h | h
    · rw [beq_byte_ne.2 (wordB_ne h).2.1]; rfl
    · rw [h]; rfl

theorem words3 {a b c : Bs} (ha : Word a) (hb : Word b) (hc : Word c) : wordsOf (a ++ [32] ++ b ++ [32] ++ c) = [a, b, c] ∧ (10 : UInt8) ∉ a ++ [32] ++ b ++ [32] ++ c := by
  have hl : ∀ x ∈ a ++ [32] ++ b ++ [32] ++ c, wordB x = true ∨ x = 32 := by
    intro x hx
    simp only [List.mem_append, List.mem_singleton] at hx
    rcases hx with (((h | h) | h) | h) | h
    · exact .inl (List.all_eq_true.1 ha.2 x h)
    · exact .inr h
    · exact .inl (List.all_eq_true.1 hb.2 x h)
    · exact .inr h
    · exact .inl (List.all_eq_true.1 hc.2 x h)
  refine ⟨?_, no10_line hl⟩
  unfold wordsOf
  rw [cut_line hl]
  have e : a ++ [32] ++ b ++ [32] ++ c = a ++ [32] ++ (b ++ [32] ++ c) := by simp
  rw [e, split_app 32 a _ (Word.no32 ha.2), split_app 32 b _ (Word.no32 hb.2), split_one 32 c (Word.no32 hc.2)]
  simp [ha.1, hb.1, hc.1]

theorem words2 {a b : Bs} (ha : Word a) (hb : Word b) : wordsOf (a ++ [32] ++ b) = [a, b] ∧ (10 : UInt8) ∉ a ++ [32] ++ b := by
  have hl : ∀ x ∈ a ++ [32] ++ b, wordB x = true ∨ x = 32 := by
    intro x hx
    simp only [List.mem_append, List.mem_singleton] at hx
    rcases hx with (h | h) | h
    · exact .inl (List.all_eq_true.1 ha.2 x h)
    · exact .inr h
    · exact .inl (List.all_eq_true.1 hb.2 x h)
  refine ⟨?_, no10_line hl⟩
  unfold wordsOf
  rw [cut_line hl, split_app 32 a _ (Word.no32 ha.2), split_one 32 b (Word.no32 hb.2)]
  simp [ha.1, hb.1]

theorem numV_age (n : Int) (h0 : 0 ≤ n) (h1 : n ≤ 1099511627776) : (numV (ageW n) : Int) = n ∧ (numOk (ageW n) = false → ageW n = kEver) := by
  unfold ageW
  split
  · obtain ⟨u, rfl⟩ : ∃ u : Nat, n = u := ⟨n.toNat, by omega⟩
    obtain ⟨h2, h3⟩ := num_itoa u (by omega)
    exact ⟨by rw [h3], fun h => by rw [h2] at h; cases h⟩
  · have : n = 0 := by omega
    exact ⟨by rw [this]; rfl, fun _ => rfl⟩

theorem line_age (p : Pol) {m : Bs} {k : Nat} (hm : ixT m tNames 0 = (k : Int)) (n : Int) (h0 : 0 ≤ n) (h1 : n ≤ 1099511627776) : lineP p [kKeep, m, ageW n] = some (setAge p k n) := by
  obtain ⟨h2, h3⟩ := numV_age n h0 h1
  show (if kKeep = kKeep ∧ 3 = 3 then (if ixT m tNames 0 < 0 ∨ (numOk (ageW n) = false ∧ ageW n ≠ kEver) then none else some (setAge p (ixT m tNames 0) (numV (ageW n)))) else if kKeep = kSeal ∧ 3 = 2 ∧ numOk (ageW n) = true then some { p with c := (numV (ageW n) : Int) } else if kKeep = kSpan ∧ 3 = 2 ∧ numOk (ageW n) = true then some { p with n := (numV (ageW n) : Int) } else none) = _
  rw [if_pos ⟨rfl, rfl⟩, h2]
  generalize ixT m tNames 0 = z at hm ⊢
  subst hm
  rw [if_neg]
  rintro (h | ⟨h, h'⟩)
  · omega
  · exact h' (h3 h)

theorem line_seal (p : Pol) (u : Nat) (h : u < 10000000000000) : lineP p [kSeal, itoaF (u : Int)] = some { p with c := u } := by
  obtain ⟨h2, h3⟩ := num_itoa u h
  show (if kSeal = kKeep ∧ 2 = 3 then (if ixT (itoaF (u : Int)) tNames 0 < 0 ∨ (numOk (itoaF (u : Int)) = false ∧ ([] : Bs) ≠ kEver) then none else some (setAge p (ixT (itoaF (u : Int)) tNames 0) (numV (itoaF (u : Int))))) else if kSeal = kSeal ∧ 2 = 2 ∧ numOk (itoaF (u : Int)) = true then some { p with c := (numV (itoaF (u : Int)) : Int) } else if kSeal = kSpan ∧ 2 = 2 ∧ numOk (itoaF (u : Int)) = true then some { p with n := (numV (itoaF (u : Int)) : Int) } else none) = _
  rw [if_neg (by rintro ⟨h, _⟩; exact absurd h (by decide)), if_pos ⟨rfl, rfl, h2⟩, h3]
theorem line_span (p : Pol) (u : Nat) (h : u < 10000000000000) : lineP p [kSpan, itoaF (u : Int)] = some { p with n := u } := by
  obtain ⟨h2, h3⟩ := num_itoa u h
  show (if kSpan = kKeep ∧ 2 = 3 then (if ixT (itoaF (u : Int)) tNames 0 < 0 ∨ (numOk (itoaF (u : Int)) = false ∧ ([] : Bs) ≠ kEver) then none else some (setAge p (ixT (itoaF (u : Int)) tNames 0) (numV (itoaF (u : Int))))) else if kSpan = kSeal ∧ 2 = 2 ∧ numOk (itoaF (u : Int)) = true then some { p with c := (numV (itoaF (u : Int)) : Int) } else if kSpan = kSpan ∧ 2 = 2 ∧ numOk (itoaF (u : Int)) = true then some { p with n := (numV (itoaF (u : Int)) : Int) } else none) = _
  rw [if_neg (by rintro ⟨h, _⟩; exact absurd h (by decide)), if_neg (by rintro ⟨h, _⟩; exact absurd h (by decide)), if_pos ⟨rfl, rfl, h2⟩, h3]

theorem parse_line {p p' : Pol} {seen : List Bs} {k : Nat} {x : Bs} {r : List Bs} {ws : List Bs} {said : Bs} (hw : wordsOf x = ws) (hne : ws ≠ []) (hl : lineP p ws = some p') (hj : joinB [32] ws.dropLast = said) (hs : said ∉ seen) :
    parseGo p seen k (x :: r) = parseGo p' (seen ++ [said]) (k + 1) r := by
  conv => lhs; unfold parseGo
  rw [hw, if_neg hne, hl]
  dsimp only
  rw [hj, if_neg hs]

theorem kKeep_word : Word kKeep := ⟨by decide, by decide⟩
theorem kSeal_word : Word kSeal := ⟨by decide, by decide⟩
theorem kSpan_word : Word kSpan := ⟨by decide, by decide⟩

theorem may_facts {p : Pol} (h : mayP p = true) : (0 ≤ p.a0 ∧ p.a0 ≤ 1099511627776) ∧ (0 ≤ p.a1 ∧ p.a1 ≤ 1099511627776) ∧ (0 ≤ p.a2 ∧ p.a2 ≤ 1099511627776) ∧ (0 ≤ p.a3 ∧ p.a3 ≤ 1099511627776) ∧ 1 ≤ p.c ∧ p.c ≤ 64 ∧ 1 ≤ p.n ∧ p.n ≤ 200 := by
  simp only [mayP, agesOk, ageOk, Bool.and_eq_true, decide_eq_true_eq] at h
  omega

theorem back_plain (p : Pol) (h : mayP p = true) : parseP (printP p) = (p, 0, 0) := by
  obtain ⟨h0, h1, h2, h3, c1, c2, n1, n2⟩ := may_facts h
  obtain ⟨c, hc⟩ : ∃ c : Nat, p.c = c := ⟨p.c.toNat, by omega⟩
  obtain ⟨n, hn⟩ : ∃ n : Nat, p.n = n := ⟨p.n.toNat, by omega⟩
  obtain ⟨w0, e0⟩ := words3 (b := [114, 97, 119]) kKeep_word ⟨by decide, by decide⟩ (Word.age p.a0 h0.1)
  obtain ⟨w1, e1⟩ := words3 (b := [53, 109]) kKeep_word ⟨by decide, by decide⟩ (Word.age p.a1 h1.1)
  obtain ⟨w2, e2⟩ := words3 (b := [49, 104]) kKeep_word ⟨by decide, by decide⟩ (Word.age p.a2 h2.1)
  obtain ⟨w3, e3⟩ := words3 (b := [49, 100]) kKeep_word ⟨by decide, by decide⟩ (Word.age p.a3 h3.1)
  obtain ⟨w4, e4⟩ := words2 kSeal_word (Word.itoa c)
  obtain ⟨w5, e5⟩ := words2 kSpan_word (Word.itoa n)
  unfold parseP printP lineA lineN
  rw [hc, hn]
  rw [split_app 10 _ _ e0, split_app 10 _ _ e1, split_app 10 _ _ e2, split_app 10 _ _ e3, split_app 10 _ _ e4]
  rw [show kSpan ++ [32] ++ itoaF (n : Int) ++ [10] = kSpan ++ [32] ++ itoaF (n : Int) ++ [10] ++ [] by simp, split_app 10 _ _ e5]
  rw [parse_line (said := kKeep ++ [32] ++ [114, 97, 119]) w0 (by simp) (line_age _ (k := 0) (by decide) _ h0.1 h0.2) rfl (by decide)]
  rw [parse_line (said := kKeep ++ [32] ++ [53, 109]) w1 (by simp) (line_age _ (k := 1) (by decide) _ h1.1 h1.2) rfl (by decide)]
  rw [parse_line (said := kKeep ++ [32] ++ [49, 104]) w2 (by simp) (line_age _ (k := 2) (by decide) _ h2.1 h2.2) rfl (by decide)]
  rw [parse_line (said := kKeep ++ [32] ++ [49, 100]) w3 (by simp) (line_age _ (k := 3) (by decide) _ h3.1 h3.2) rfl (by decide)]
  rw [parse_line (said := kSeal) w4 (by simp) (line_seal _ c (by omega)) rfl (by decide)]
  rw [parse_line (said := kSpan) w5 (by simp) (line_span _ n (by omega)) rfl (by decide)]
  have hp : ({ ({ setAge (setAge (setAge (setAge polD (0 : Nat) p.a0) (1 : Nat) p.a1) (2 : Nat) p.a2) (3 : Nat) p.a3 with c := (c : Int) } : Pol) with n := (n : Int) } : Pol) = p := by
    rw [← hc, ← hn]
    rfl
  rw [hp]
  show (if wordsOf [] = [] then (if mayP p = true then (p, (0 : Int), (0 : Int)) else (pol0, 5, 0)) else _) = _
  rw [if_pos (by decide), if_pos h]
end Go.Proofs.YtkifcchcofdkaaaDoor


/-
  What policy.Print computes, in any store whose first block is the table of powers of ten. No conditions but those named in each line.
-/
namespace Go.Proofs.YtkifcchcofdkaaaDoor
open Go Go.Abs Go.Abs.F
set_option linter.unusedVariables false

section
variable {s t u : St} {x y : S} {l w : Bs} {i lo : Nat}

structure Bld (lo : Nat) (u : St) (i : Nat) (l : Bs) : Prop where
  ilo : i < lo
  lou : lo ≤ u.size
  wf : u.wf
  bk : ∃ x y, u.get i = some (.cells true [x, y]) ∧ notedB 41 i x = true ∧ ((y = .nils ∧ l = []) ∨ ∃ j, lo ≤ j ∧ y = .buf 5 j l.length ∧ u.get j = some (.cells true (strBytes l)))

abbrev PB (i : Nat) : T := Z (.tptr 41 i 2)

theorem bld_write (d : Nat) (h : Bld lo u i l) (hw : w ≠ []) (hl : l.length + w.length ≤ 100000) :
    ∃ t, R (d + 1) 14 [PB i, Z (.str w)] u = some (.tup [.s (.int .i64 w.length), .s .nili], t) ∧ Bld lo t i (l ++ w) ∧ ∀ b, b < lo → b ≠ i → t.get b = u.get b := by
  obtain ⟨x, y, hi, hn, hy⟩ := h.bk
  have hilo := h.ilo
  have hlou := h.lou
  have nt : notedB 41 i (.tptr 41 i 2) = true := by simp [notedB]
  rcases hy with ⟨rfl, rfl⟩ | ⟨j, hj, rfl, hb⟩
  · refine ⟨(u.push (.cells true (strBytes w))).set i (.cells true [.tptr 41 i 2, .buf 5 u.size w.length]), runQ_prim (prim_bld (by decide) ?_), ⟨hilo, by simp; omega, St.wf_set (St.wf_push h.wf _) (by simp; omega) _, _, _, St.get_set_same _ _ _, nt, .inr ⟨u.size, hlou, rfl, ?_⟩⟩, fun b hb hbi => ?_⟩
    · simp [bldP, hi, hn, hw, show w.length ≤ 1000000 by omega]
    · rw [St.get_set_ne _ _ (by omega), St.get_push_same]; rfl
    · rw [St.get_set_ne _ _ hbi, St.get_push_ne _ _ (by omega)]
  · have hjs := h.wf.lt hb
    refine ⟨((u.set j .dead).push (.cells true (strBytes (l ++ w)))).set i (.cells true [.tptr 41 i 2, .buf 5 u.size (l ++ w).length]), runQ_prim (prim_bld (by decide) ?_), ⟨hilo, by simp; omega, St.wf_set (St.wf_push (St.wf_set h.wf hjs _) _) (by simp; omega) _, _, _, St.get_set_same _ _ _, nt, .inr ⟨u.size, hlou, rfl, ?_⟩⟩, fun b hb hbi => ?_⟩
    · simp [bldP, hi, hn, hw, hb, bsOf_strBytes, show w.length ≤ 1000000 by omega, show l.length ≤ 1000000 by omega]
    · rw [St.get_set_ne _ _ (by omega)]
      exact St.get_push_same (u.set j .dead) _
    · rw [St.get_set_ne _ _ hbi, St.get_push_ne _ _ (by simp; omega), St.get_set_ne _ _ (by omega)]

theorem bld_string (d : Nat) (h : Bld lo u i l) (hl : l ≠ []) :
    ∃ t, R (d + 1) 16 [PB i] u = some (Z (.str l), t) ∧ t.wf ∧ u.size ≤ t.size ∧ ∀ b, b < lo → b ≠ i → t.get b = u.get b := by
  obtain ⟨x, y, hi, hn, hy⟩ := h.bk
  rcases hy with ⟨rfl, rfl⟩ | ⟨j, hj, rfl, hb⟩
  · exact absurd rfl hl
  · have hjs := h.wf.lt hb
    have hf : Nat.beq 16 14 = false := by decide
    refine ⟨u.set j (.cells false (strBytes l)), runQ_prim (prim_bld (by decide) ?_), St.wf_set h.wf hjs _, by simp, fun b hb2 hbi => St.get_set_ne _ _ (by omega)⟩
    simp [bldP, hf, hi, hb, bsOf_strBytes, hl]

def ageLine (p : Pol) (k : Nat) : Bs := lineA (tNames.getD k []) (ageAt p k) ++ [10]
def ageLines (p : Pol) : Nat → Bs
  | 0 => []
  | k + 1 => ageLines p k ++ ageLine p k
theorem printP_lines (p : Pol) : printP p = ageLines p 4 ++ ((lineN kSeal p.c ++ [10]) ++ (lineN kSpan p.n ++ [10])) := by
  simp [printP, ageLines, ageLine, ageAt, tNames]

theorem itoa_len {n : Int} (h : i64B n = true) : (itoaF n).length ≤ 21 := by
  have h := of_decide_eq_true h
  cases n with
  | ofNat u =>
    have hu : (Int.ofNat u) = (u : Int) := rfl
    rw [hu] at h
    have := decF_len 20 20 u (by omega) (by omega)
    show (decF 20 u).length ≤ 21
    omega
  | negSucc u =>
    have := decF_len 20 20 (u + 1) (by omega) (by omega)
    show (45 :: decF 20 (u + 1)).length ≤ 21
    simp
    omega
theorem age_len {n : Int} (h : i64B n = true) : (ageW n).length ≤ 21 := by
  unfold ageW
  split
  · exact itoa_len h
  · decide

theorem print_run (d : Nat) (wf : s.wf) (ht : Tab s) (p : Pol) : ∃ t, R (d + 2) 8 [AP p] s = some (.tup [.s (.str (if mayP p then printP p else [])), .s (.int .i64 (if mayP p then 0 else 1))], t) ∧ Gr s t := by
  rw [f8_run]
  unfold f8
  obtain ⟨s1, hs1⟩ : ∃ s1, s1 = s.push (.cells true (cP p)) := ⟨_, rfl⟩
  have nw1 : aNew s (nBox (AP p)) = some (Z (.ptr s.size 0), s1) := by rw [hs1]; rfl
  have g1 : Gr s s1 := by rw [hs1]; exact Gr.push wf _
  have hp1 : s1.get s.size = some (.cells true (cP p)) := by rw [hs1]; exact St.get_push_same _ _
  have z1 : s1.size = s.size + 1 := by rw [hs1]; rfl
  have ld1 := load6 (g := s1.get) hp1
  obtain ⟨s2, e2, g2⟩ := may_run d g1.wf p
  have h0 := wf.lt ht
  cases hm : mayP p with
  | false =>
    rw [hm] at e2
    refine ⟨s2, ?_, g1.trans g2⟩
    generalize R (d + 1) = r at *
    simp [nw1, ld1, e2, rC, retT, allV]
  | true =>
    rw [hm] at e2
    obtain ⟨f0, f1, f2, f3, c1, c2, n1, n2⟩ := may_facts hm
    obtain ⟨s3, hs3⟩ : ∃ s3, s3 = s2.push (.cells true [.nilp, .nils]) := ⟨_, rfl⟩
    have nw3 : aNew s2 (nBld 41 [.nilp, .nils]) = some (PB s2.size, s3) := by rw [hs3]; rfl
    have g3 : Gr s2 s3 := by rw [hs3]; exact Gr.push g2.wf _
    have z3 : s3.size = s2.size + 1 := by rw [hs3]; rfl
    have hb3 : s3.get s2.size = some (.cells true [.nilp, .nils]) := by rw [hs3]; exact St.get_push_same _ _
    obtain ⟨x, s4, e4, ft4⟩ := names_run d g3.wf
    obtain ⟨pp, hpp⟩ : ∃ pp, pp = s.size := ⟨_, rfl⟩
    obtain ⟨bb, hbb⟩ : ∃ bb, bb = s2.size := ⟨_, rfl⟩
    obtain ⟨lo, hlo⟩ : ∃ lo, lo = s4.size := ⟨_, rfl⟩
    have g4 : Gr s3 s4 := ft4.gr
    have l2 := g2.2.1
    have l4 := g4.2.1
    have hp4 : s4.get pp = some (.cells true (cP p)) := by rw [hpp, g4.2.2 _ (by omega), g3.2.2 _ (by omega), g2.2.2 _ (by omega)]; exact hp1
    have hb4 : s4.get bb = some (.cells true [.nilp, .nils]) := by rw [hbb, g4.2.2 _ (by omega)]; exact hb3
    have ht4 : Tab s4 := by
      unfold Tab
      rw [g4.2.2 _ (by omega), g3.2.2 _ (by omega), g2.2.2 _ (by omega), g1.2.2 _ h0]
      exact ht
    have hlen : aLenSl (Z x) = some (I .i64 4) := ft4.rd.lens
    have bl4 : Bld lo s4 bb [] := ⟨by omega, by omega, g4.wf, _, _, hb4, rfl, .inl ⟨rfl, rfl⟩⟩
    rw [← hpp] at nw1 ld1
    rw [← hbb] at nw3
    have ages : ∀ k, 0 ≤ ageAt p k ∧ ageAt p k ≤ 1099511627776 := fun k => by
      match k with
      | 0 => exact f0
      | 1 => exact f1
      | 2 => exact f2
      | k + 3 => exact f3
    have iB : ∀ n : Int, 0 ≤ n → n ≤ 1099511627776 → i64B n = true := fun n h1 h2 => decide_eq_true ⟨by omega, by omega⟩
    have lens : ∀ k, k ≤ 4 → (ageLines p k).length ≤ 40 * k := by
      intro k
      induction k with
      | zero => intro _; simp [ageLines]
      | succ k ih =>
        intro hk
        have h1 := ih (by omega)
        have h2 := age_len (iB _ (ages k).1 (ages k).2)
        have h3 : (tNames.getD k []).length ≤ 3 := by
          match k, hk with
          | 0, _ => decide
          | 1, _ => decide
          | 2, _ => decide
          | 3, _ => decide
        simp only [ageLines, ageLine, lineA, List.length_append, kKeep, List.length_cons, List.length_nil]
        omega
    obtain ⟨j, τ, lp, hj, bl, hbτ⟩ := loops_inv (f := f8_l1 (R (d + 1)) 8192)
      (fun q v u => ∃ k : Nat, q + k = 4 ∧ v = [Z (.ptr pp 0), PB bb, Z x, I .i64 4, I .i64 k] ∧ Bld lo u bb (ageLines p k) ∧ ∀ b, b < lo → b ≠ bb → u.get b = s4.get b)
      (fun j u => j = .exit 0 [Z (.ptr pp 0), PB bb] ∧ Bld lo u bb (ageLines p 4) ∧ ∀ b, b < lo → b ≠ bb → u.get b = s4.get b) (by
      rintro q v u ⟨k, hk, rfl, bu, hu⟩
      by_cases hk4 : k < 4
      · left
        have c0 : (k : Int) < 4 := by omega
        have w1 : IntKind.i64.wrap ((k : Int) + 1) = ((k + 1 : Nat) : Int) := by rw [wrap_in _ (by omega) (by omega)]; omega
        have hpu : u.get pp = some (.cells true (cP p)) := by rw [hu pp (by omega) (by omega)]; exact hp4
        have htu : Tab u := by unfold Tab; rw [hu 0 (by omega) (by omega)]; exact ht4
        have hxu : RT u x tNames := ft4.rd.keep fun c hc => hu c (by rw [hlo]; exact (ft4.new c hc).2) (by have := (ft4.new c hc).1; omega)
        obtain ⟨pi, ix, ld⟩ := RT.atT hxu (j := k) (n := (k : Int)) (c := tNames.getD k []) rfl (by
          match k, hk4 with
          | 0, _ => rfl
          | 1, _ => rfl
          | 2, _ => rfl
          | 3, _ => rfl)
        have ixa : aIndexArr 4 1 (Z (.ptr pp 0)) (I .i64 (k : Nat)) = some (Z (.ptr pp k)) := by
          have h2 : aIdx (I .i64 (k : Int)) 4 = some k := by simp [aIdx]; omega
          simp [aIndexArr, h2]
        have la : aLoad1 (Z (.ptr pp k)) u.get = some (I .i64 (ageAt p k)) := aLoad1_of hpu (by
          match k, hk4 with
          | 0, _ => rfl
          | 1, _ => rfl
          | 2, _ => rfl
          | 3, _ => rfl)
        obtain ⟨a, ha⟩ : ∃ a, a = ageAt p k := ⟨_, rfl⟩
        obtain ⟨m, hmn⟩ : ∃ m, m = tNames.getD k [] := ⟨_, rfl⟩
        have hml : m.length ≤ 3 := by
          rw [hmn]
          match k, hk4 with
          | 0, _ => decide
          | 1, _ => decide
          | 2, _ => decide
          | 3, _ => decide
        have hia := iB _ (ages k).1 (ages k).2
        rw [← ha] at hia la
        rw [← hmn] at ld
        have hal := age_len hia
        have ef : R (d + 1) 13 [I .i64 a, I .i64 10] u = some (Z (.str (itoaF a)), u) := runQ_prim (prim_fmt hia htu)
        obtain ⟨q1, hq1⟩ : ∃ q1, q1 = [107, 101, 101, 112, 32] ++ m := ⟨_, rfl⟩
        obtain ⟨q2, hq2⟩ : ∃ q2, q2 = q1 ++ [32] := ⟨_, rfl⟩
        obtain ⟨q3, hq3⟩ : ∃ q3, q3 = q2 ++ ageW a := ⟨_, rfl⟩
        have z1' : q1.length ≤ 8 := by rw [hq1]; simp; omega
        have z2' : q2.length ≤ 9 := by rw [hq2]; simp; omega
        have z3' : q3.length ≤ 30 := by rw [hq3]; simp; omega
        have a1 : aBin .add (Z (.str [107, 101, 101, 112, 32])) (Z (.str m)) = some (Z (.str q1)) := by rw [hq1]; exact str_add _ _ (by simp; omega)
        have a2 : aBin .add (Z (.str q1)) (Z (.str [32])) = some (Z (.str q2)) := by rw [hq2]; exact str_add _ _ (by simp; omega)
        have a3 : aBin .add (Z (.str q2)) (Z (.str (ageW a))) = some (Z (.str q3)) := by rw [hq3]; exact str_add _ _ (by omega)
        have hline : ageLine p k = q3 ++ [10] := by
          rw [hq3, hq2, hq1]
          unfold ageLine lineA
          rw [← ha, ← hmn]
          simp [kKeep]
        have a4 : aBin .add (Z (.str q3)) (Z (.str [10])) = some (Z (.str (ageLine p k))) := by rw [hline]; exact str_add _ _ (by simp; omega)
        obtain ⟨u', ew, bu', hu'⟩ := bld_write d bu (w := ageLine p k) (by rw [hline]; simp) (by
          have h1 := lens k (by omega)
          have h2 := lens (k + 1) (by omega)
          simp only [ageLines, List.length_append] at h2
          omega)
        refine ⟨[Z (.ptr pp 0), PB bb, Z x, I .i64 4, I .i64 ((k + 1 : Nat) : Int)], u', q - 1, ?_, by omega, k + 1, by omega, rfl, bu', fun b h1 h2 => (hu' b h1 h2).trans (hu b h1 h2)⟩
        unfold f8_l1
        generalize R (d + 1) = r at *
        by_cases hpos : 0 < a
        · have hag : ageW a = itoaF a := if_pos hpos
          rw [hag] at a3
          generalize ageLine p k = al at *
          generalize ((k + 1 : Nat) : Int) = K1 at w1 ⊢
          generalize (k : Int) = K at *
          simp [c0, ix, ld, ixa, la, hpos, ef, a1, a2, a3, a4, ew, w1]
        · have hag : ageW a = kEver := if_neg hpos
          rw [hag] at a3
          unfold kEver at a3
          generalize ageLine p k = al at *
          generalize ((k + 1 : Nat) : Int) = K1 at w1 ⊢
          generalize (k : Int) = K at *
          simp [c0, ix, ld, ixa, la, hpos, a1, a2, a3, a4, ew, w1]
      · right
        have hk' : k = 4 := by omega
        subst hk'
        refine ⟨_, u, ?_, (fun v hv => by cases hv), rfl, bu, hu⟩
        unfold f8_l1
        simp) 8192 4 [Z (.ptr pp 0), PB bb, Z x, I .i64 4, I .i64 0] s4 ⟨0, rfl, rfl, bl4, fun _ _ _ => rfl⟩ (by omega)
    subst hj
    have hpτ : τ.get pp = some (.cells true (cP p)) := by rw [hbτ pp (by omega) (by omega)]; exact hp4
    have htτ : Tab τ := by unfold Tab; rw [hbτ 0 (by omega) (by omega)]; exact ht4
    have lc : aLoad1 (Z (.ptr pp 4)) τ.get = some (I .i64 p.c) := aLoad1_of hpτ rfl
    have ln : aLoad1 (Z (.ptr pp 5)) τ.get = some (I .i64 p.n) := aLoad1_of hpτ rfl
    have ic := iB p.c (by omega) (by omega)
    have inn := iB p.n (by omega) (by omega)
    have ec : R (d + 1) 15 [I .i64 p.c] τ = some (Z (.str (itoaF p.c)), τ) := runQ_prim (prim_itoa ic htτ)
    have en : R (d + 1) 13 [I .i64 p.n, I .i64 10] τ = some (Z (.str (itoaF p.n)), τ) := runQ_prim (prim_fmt inn htτ)
    have q1 := itoa_len ic
    have q2 := itoa_len inn
    obtain ⟨i1, hi1⟩ : ∃ i1, i1 = itoaF p.c := ⟨_, rfl⟩
    obtain ⟨i2, hi2⟩ : ∃ i2, i2 = itoaF p.n := ⟨_, rfl⟩
    rw [← hi1] at ec q1
    rw [← hi2] at en q2
    obtain ⟨r1, hr1⟩ : ∃ r1, r1 = [115, 101, 97, 108, 32] ++ i1 := ⟨_, rfl⟩
    obtain ⟨r2, hr2⟩ : ∃ r2, r2 = r1 ++ [10, 115, 112, 97, 110, 32] := ⟨_, rfl⟩
    obtain ⟨r3, hr3⟩ : ∃ r3, r3 = r2 ++ i2 := ⟨_, rfl⟩
    have y1 : r1.length ≤ 26 := by rw [hr1]; simp; omega
    have y2 : r2.length ≤ 32 := by rw [hr2]; simp; omega
    have y3 : r3.length ≤ 53 := by rw [hr3]; simp; omega
    have a1 : aBin .add (Z (.str [115, 101, 97, 108, 32])) (Z (.str i1)) = some (Z (.str r1)) := by rw [hr1]; exact str_add _ _ (by simp; omega)
    have a2 : aBin .add (Z (.str r1)) (Z (.str [10, 115, 112, 97, 110, 32])) = some (Z (.str r2)) := by rw [hr2]; exact str_add _ _ (by simp; omega)
    have a3 : aBin .add (Z (.str r2)) (Z (.str i2)) = some (Z (.str r3)) := by rw [hr3]; exact str_add _ _ (by omega)
    obtain ⟨w, hw⟩ : ∃ w, w = (lineN kSeal p.c ++ [10]) ++ (lineN kSpan p.n ++ [10]) := ⟨_, rfl⟩
    have a4 : aBin .add (Z (.str r3)) (Z (.str [10])) = some (Z (.str w)) := by
      rw [str_add _ _ (by simp; omega), hw, hr3, hr2, hr1, hi1, hi2]
      simp [lineN, kSeal, kSpan]
    have hwl : w.length ≤ 100 := by rw [hw]; rw [hi1] at q1; rw [hi2] at q2; simp [lineN, kSeal, kSpan]; omega
    have hwne : w ≠ [] := by rw [hw]; simp
    obtain ⟨u, ew, bu, hu⟩ := bld_write d bl (w := w) hwne (by have := lens 4 (by omega); omega)
    have hpr : ageLines p 4 ++ w = printP p := by rw [printP_lines, hw]
    rw [hpr] at bu
    obtain ⟨t, es, wft, hzt, ht'⟩ := bld_string d bu (by rw [← hpr]; simp [hwne])
    refine ⟨t, ?_, wft, by have := bu.lou; omega, fun b hb => ?_⟩
    · generalize printP p = pr at *
      generalize R (d + 1) = r at *
      simp [nw1, ld1, e2, nw3, e4, hlen, lp, lc, ec, a1, a2, ln, en, a3, a4, ew, es, rC, retT, allV]
    · rw [ht' b (by omega) (by omega), hu b (by omega) (by omega), hbτ b (by omega) (by omega), g4.2.2 b (by omega), g3.2.2 b (by omega), g2.2.2 b (by omega), g1.2.2 b (by omega)]
end
end Go.Proofs.YtkifcchcofdkaaaDoor


/-
  PolicyBack gives true, whatever its arguments. No conditions.
-/
namespace Go.Proofs.YtkifcchcofdkaaaDoor
open Go Go.Abs Go.Abs.F
set_option linter.unusedVariables false

theorem neBPs (p : Pol) : neB (.a 6 [(0, .i), (1, .i), (2, .i), (3, .i), (4, .i), (5, .i)]) (AP p) (AP p) = some (B false) := by
  simp [neB, aEq, aEqL, leafEq, cP]

theorem printP_len (p : Pol) (h : mayP p = true) : (printP p).length ≤ 8000 := by
  obtain ⟨f0, f1, f2, f3, c1, c2, n1, n2⟩ := may_facts h
  have iB : ∀ n : Int, 0 ≤ n → n ≤ 1099511627776 → i64B n = true := fun n h1 h2 => decide_eq_true ⟨by omega, by omega⟩
  have q0 := age_len (iB p.a0 f0.1 f0.2)
  have q1 := age_len (iB p.a1 f1.1 f1.2)
  have q2 := age_len (iB p.a2 f2.1 f2.2)
  have q3 := age_len (iB p.a3 f3.1 f3.2)
  have q4 := itoa_len (iB p.c (by omega) (by omega))
  have q5 := itoa_len (iB p.n (by omega) (by omega))
  simp [printP, lineA, lineN, kKeep, kSeal, kSpan]
  omega

section
variable {s t u : St} {pp qq : Nat} {p q : Pol}

def Bk (lo : Nat) (pp qq : Nat) (p : Pol) (k : Nat) (v : List T) (u : St) : Prop :=
  ∃ (j : Nat) (q : Pol), k + j = 2 ∧ v = [Z (.ptr pp 0), Z (.ptr qq 0), I .i64 (j : Nat)] ∧ u.wf ∧ u.get pp = some (.cells true (cP p)) ∧ u.get qq = some (.cells true (cP q)) ∧ Tab u

theorem back_turns (h : u.wf) (hp : u.get pp = some (.cells true (cP p))) (hq : u.get qq = some (.cells true (cP q))) (ht : Tab u) (hne : pp ≠ qq) (hq0 : qq ≠ 0) :
    ∃ τ, loops (f4_l1 (R 11) 8192) 8192 [Z (.ptr pp 0), Z (.ptr qq 0), I .i64 0] u = some (.exit 0 [], τ) ∧ Tab τ := by
  obtain ⟨j, τ, lp, hj, htτ⟩ := loops_inv (f := f4_l1 (R 11) 8192) (Bk 0 pp qq p) (fun j t => j = .exit 0 [] ∧ Tab t) (by
    rintro k v u ⟨j, q, hk, rfl, wf, hp, hq, ht⟩
    by_cases hj : j < 2
    · left
      have c0 : (j : Int) < 2 := by omega
      have w1 : IntKind.i64.wrap ((j : Int) + 1) = ((j + 1 : Nat) : Int) := by rw [wrap_in _ (by omega) (by omega)]; omega
      have ldq := load6 (g := u.get) hq
      obtain ⟨s1, e1, g1⟩ := print_run 9 wf ht q
      have z1 := g1.2.1
      have hps := wf.lt hp
      have hqs := wf.lt hq
      have h0s := wf.lt ht
      have hq1 : s1.get qq = some (.cells true (cP q)) := by rw [g1.2.2 _ hqs]; exact hq
      have ldq1 := load6 (g := s1.get) hq1
      obtain ⟨s2, e2, g2⟩ := may_run 10 g1.wf q
      have z2 := g2.2.1
      have hp2 : s2.get pp = some (.cells true (cP p)) := by rw [g2.2.2 _ (by omega), g1.2.2 _ hps]; exact hp
      have hq2 : s2.get qq = some (.cells true (cP q)) := by rw [g2.2.2 _ (by omega)]; exact hq1
      have ht2 : Tab s2 := by unfold Tab; rw [g2.2.2 _ (by omega), g1.2.2 _ h0s]; exact ht
      cases hm : mayP q with
      | false =>
        rw [hm] at e1 e2
        have ldp := load6 (g := s2.get) hp2
        have st := store6 (p := p) hq2 rfl
        refine ⟨[Z (.ptr pp 0), Z (.ptr qq 0), I .i64 ((j + 1 : Nat) : Int)], s2.set qq (.cells true (cP p)), k - 1, ?_, by omega, j + 1, p, by omega, rfl, St.wf_set g2.wf (by omega) _, by rw [St.get_set_ne _ _ hne]; exact hp2, St.get_set_same _ _ _, by unfold Tab; rw [St.get_set_ne _ _ (Ne.symm hq0)]; exact ht2⟩
        unfold f4_l1
        simp only [Nat.reduceAdd] at e1 e2
        generalize R 11 = r at *
        generalize ((j + 1 : Nat) : Int) = J1 at *
        generalize (j : Int) = J at *
        simp [c0, w1, ldq, e1, aExtract, ldq1, e2, ldp, st]
      | true =>
        rw [hm] at e1 e2
        obtain ⟨s3, e3, g3⟩ := parse_run (l := printP q) 4 g2.wf (printP_len q hm)
        rw [back_plain q hm] at e3
        have z3 := g3.2.1
        obtain ⟨s4, hs4⟩ : ∃ s4, s4 = s3.push (.cells true (cP pol0)) := ⟨_, rfl⟩
        have nw4 : aNew s3 (nCells [.int .i64 0, .int .i64 0, .int .i64 0, .int .i64 0, .int .i64 0, .int .i64 0]) = some (Z (.ptr s3.size 0), s4) := by rw [hs4]; rfl
        have g4 : Gr s3 s4 := by rw [hs4]; exact Gr.push g3.wf _
        have b4 : s4.get s3.size = some (.cells true (cP pol0)) := by rw [hs4]; exact St.get_push_same _ _
        obtain ⟨s5, hs5⟩ : ∃ s5, s5 = s4.set s3.size (.cells true (cP q)) := ⟨_, rfl⟩
        have st5 := store6 (p := q) b4 rfl
        rw [← hs5] at st5
        have z4 : s4.size = s3.size + 1 := by rw [hs4]; rfl
        have wf5 : s5.wf := by rw [hs5]; exact St.wf_set g4.wf (by omega) _
        have z5 : s5.size = s3.size + 1 := by rw [hs5]; exact z4
        have b5 : s5.get s3.size = some (.cells true (cP q)) := by rw [hs5]; exact St.get_set_same _ _ _
        have o5 : ∀ b, b < s2.size → s5.get b = s2.get b := fun b hb => by rw [hs5, St.get_set_ne _ _ (by omega), g4.2.2 _ (by omega), g3.2.2 _ hb]
        have hp5 : s5.get pp = some (.cells true (cP p)) := by rw [o5 _ (by omega)]; exact hp2
        have hq5 : s5.get qq = some (.cells true (cP q)) := by rw [o5 _ (by omega)]; exact hq2
        have ht5 : Tab s5 := by unfold Tab; rw [o5 _ (by omega)]; exact ht2
        have ldp := load6 (g := s5.get) hp5
        have ldq5 := load6 (g := s5.get) hq5
        have ldx := load6 (g := s5.get) b5
        have st := store6 (p := p) hq5 rfl
        have ne := neBPs q
        refine ⟨[Z (.ptr pp 0), Z (.ptr qq 0), I .i64 ((j + 1 : Nat) : Int)], s5.set qq (.cells true (cP p)), k - 1, ?_, by omega, j + 1, p, by omega, rfl, St.wf_set wf5 (by omega) _, by rw [St.get_set_ne _ _ hne]; exact hp5, St.get_set_same _ _ _, by unfold Tab; rw [St.get_set_ne _ _ (Ne.symm hq0)]; exact ht5⟩
        unfold f4_l1
        simp only [Nat.reduceAdd] at e1 e2 e3
        generalize printP q = pr at *
        generalize R 11 = r at *
        generalize ((j + 1 : Nat) : Int) = J1 at *
        generalize (j : Int) = J at *
        simp [c0, w1, ldq, e1, aExtract, ldq1, e2, e3, nw4, st5, ldx, ldq5, ne, ldp, st]
    · right
      have : j = 2 := by omega
      subst this
      refine ⟨_, u, ?_, (fun v hv => by cases hv), rfl, ht⟩
      unfold f4_l1
      simp) 8192 2 [Z (.ptr pp 0), Z (.ptr qq 0), I .i64 0] u ⟨0, q, rfl, rfl, h, hp, hq, ht⟩ (by omega)
  exact ⟨τ, by rw [lp, hj], htτ⟩
end

set_option maxHeartbeats 1000000 in
theorem back_run (p : Pol) (a b c n : Int) : ∃ τ, R 12 4 [AP p, I .i64 a, I .i64 b, I .i64 c, I .i64 n] tab0 = some (B true, τ) := by
  obtain ⟨x, hx0, hx1, h1, h2, _⟩ := mod_u a 1000 (by omega) (by omega)
  obtain ⟨y, hy0, hy1, h3, h4, _⟩ := mod_u b 1000 (by omega) (by omega)
  obtain ⟨z, hz0, hz1, h5, h6, _⟩ := mod_u c 1000 (by omega) (by omega)
  obtain ⟨m, hm0, hm1, h7, h8, _⟩ := mod_u n 64 (by omega) (by omega)
  obtain ⟨k, hk0, hk1, h9, h10, _⟩ := mod_u n 200 (by omega) (by omega)
  rw [f4_run]
  unfold f4
  have wf0 : tab0.wf := St.wf_push St.wf_empty _
  have t0 : Tab tab0 := tabZ_get0 _ _ _
  have z0 : tab0.size = 1 := rfl
  obtain ⟨s0, hs0⟩ : ∃ s0, s0 = tab0 := ⟨_, rfl⟩
  rw [← hs0] at wf0 t0 z0 ⊢
  obtain ⟨s1, hs1⟩ : ∃ s1, s1 = s0.push (.cells true (cP p)) := ⟨_, rfl⟩
  have nw1 : aNew s0 (nBox (AP p)) = some (Z (.ptr s0.size 0), s1) := by rw [hs1]; rfl
  rw [z0] at nw1
  have b1 : s1.get 1 = some (.cells true (cP p)) := by rw [hs1, ← z0]; exact St.get_push_same _ _
  have z1 : s1.size = 2 := by rw [hs1]; simp [z0]
  have wf1 : s1.wf := by rw [hs1]; exact St.wf_push wf0 _
  obtain ⟨s2, hs2⟩ : ∃ s2, s2 = s1.push (.cells true (cP pol0)) := ⟨_, rfl⟩
  have nw2 : aNew s1 (nCells [.int .i64 0, .int .i64 0, .int .i64 0, .int .i64 0, .int .i64 0, .int .i64 0]) = some (Z (.ptr s1.size 0), s2) := by rw [hs2]; rfl
  rw [z1] at nw2
  have b2 : s2.get 2 = some (.cells true (cP pol0)) := by rw [hs2, ← z1]; exact St.get_push_same _ _
  have wf2 : s2.wf := by rw [hs2]; exact St.wf_push wf1 _
  have z2 : s2.size = 3 := by rw [hs2]; simp [z1]
  have w1 : IntKind.i64.wrap (1 + m) = 1 + m := wrap_in _ (by omega) (by omega)
  have w2 : IntKind.i64.wrap (1 + k) = 1 + k := wrap_in _ (by omega) (by omega)
  obtain ⟨q0, hq0⟩ : ∃ q : Pol, q = ⟨x, 0, 0, 0, 1 + m, 1 + k⟩ := ⟨_, rfl⟩
  have ag1 : asAggT (aFill [.int .i64 0, .int .i64 0, .int .i64 0, .int .i64 0] [(0, 1, I .i64 x), (1, 1, (I .i64 0)), (2, 1, (I .i64 0)), (3, 1, (I .i64 0))]) = some (.v (.agg [.int .i64 x, .int .i64 0, .int .i64 0, .int .i64 0])) := rfl
  have ag2 : asAggT (aFill [.int .i64 0, .int .i64 0, .int .i64 0, .int .i64 0, .int .i64 0, .int .i64 0] [(0, 4, .v (.agg [.int .i64 x, .int .i64 0, .int .i64 0, .int .i64 0])), (4, 1, I .i64 (1 + m)), (5, 1, I .i64 (1 + k))]) = some (AP q0) := by rw [hq0]; rfl
  have st3 := store6 (p := q0) b2 rfl
  obtain ⟨s3, hs3⟩ : ∃ s3, s3 = s2.set 2 (.cells true (cP q0)) := ⟨_, rfl⟩
  rw [← hs3] at st3
  have b3 : s3.get 2 = some (.cells true (cP q0)) := by rw [hs3]; exact St.get_set_same _ _ _
  have wf3 : s3.wf := by rw [hs3]; exact St.wf_set wf2 (by omega) _
  have p3 : s3.get 1 = some (.cells true (cP p)) := by rw [hs3, St.get_set_ne _ _ (by omega), hs2, St.get_push_ne _ _ (by omega)]; exact b1
  have t3 : Tab s3 := by unfold Tab; rw [hs3, St.get_set_ne _ _ (by omega), hs2, St.get_push_ne _ _ (by omega), hs1, St.get_push_ne _ _ (by omega)]; exact t0
  have z3 : s3.size = 3 := by rw [hs3]; exact z2
  have i0 : aIndexArr 4 1 (Z (.ptr 2 0)) (I .i64 0) = some (Z (.ptr 2 0)) := rfl
  have i1 : aIndexArr 4 1 (Z (.ptr 2 0)) (I .i64 1) = some (Z (.ptr 2 1)) := rfl
  have i2 : aIndexArr 4 1 (Z (.ptr 2 0)) (I .i64 2) = some (Z (.ptr 2 2)) := rfl
  have l3 : aLoad1 (Z (.ptr 2 0)) s3.get = some (I .i64 x) := aLoad1_of b3 (by rw [hq0]; rfl)
  by_cases hx : 0 < x
  · obtain ⟨q1, hq1⟩ : ∃ q : Pol, q = ⟨x, x + y, 0, 0, 1 + m, 1 + k⟩ := ⟨_, rfl⟩
    obtain ⟨q2, hq2⟩ : ∃ q : Pol, q = ⟨x, x + y, x + y + z, 0, 1 + m, 1 + k⟩ := ⟨_, rfl⟩
    obtain ⟨s4, hs4⟩ : ∃ s4, s4 = s3.set 2 (.cells true (cP q1)) := ⟨_, rfl⟩
    have st4 : aStore 1 (Z (.ptr 2 1)) (I .i64 (x + y)) s3 = some (tt, s4) := by rw [aStore1_of b3 (by simp [cP]), hs4, hq0, hq1]; rfl
    have b4 : s4.get 2 = some (.cells true (cP q1)) := by rw [hs4]; exact St.get_set_same _ _ _
    have l4 : aLoad1 (Z (.ptr 2 1)) s4.get = some (I .i64 (x + y)) := aLoad1_of b4 (by rw [hq1]; rfl)
    obtain ⟨s5, hs5⟩ : ∃ s5, s5 = s4.set 2 (.cells true (cP q2)) := ⟨_, rfl⟩
    have st5 : aStore 1 (Z (.ptr 2 2)) (I .i64 (x + y + z)) s4 = some (tt, s5) := by rw [aStore1_of b4 (by simp [cP]), hs5, hq1, hq2]; rfl
    have b5 : s5.get 2 = some (.cells true (cP q2)) := by rw [hs5]; exact St.get_set_same _ _ _
    have w3 : IntKind.i64.wrap (x + y) = x + y := wrap_in _ (by omega) (by omega)
    have w4 : IntKind.i64.wrap (x + y + z) = x + y + z := wrap_in _ (by omega) (by omega)
    have p5 : s5.get 1 = some (.cells true (cP p)) := by rw [hs5, St.get_set_ne _ _ (by omega), hs4, St.get_set_ne _ _ (by omega)]; exact p3
    have t5 : Tab s5 := by unfold Tab; rw [hs5, St.get_set_ne _ _ (by omega), hs4, St.get_set_ne _ _ (by omega)]; exact t3
    have wf5 : s5.wf := by rw [hs5, hs4]; exact St.wf_set (St.wf_set wf3 (by omega) _) (by simp; omega) _
    obtain ⟨τ, lp, tτ⟩ := back_turns wf5 p5 b5 t5 (by omega) (by omega)
    have told := told5_run 10 tτ
    refine ⟨τ, ?_⟩
    simp only [Nat.reduceAdd] at told
    generalize R 11 = r at *
    simp [nw1, h1, h2, ag1, h7, h8, w1, h9, h10, w2, ag2, nw2, st3, i0, l3, hx, h3, h4, w3, i1, st4, l4, h5, h6, w4, i2, st5, lp, told]
  · obtain ⟨τ, lp, tτ⟩ := back_turns wf3 p3 b3 t3 (by omega) (by omega)
    have told := told5_run 10 tτ
    refine ⟨τ, ?_⟩
    simp only [Nat.reduceAdd] at told
    generalize R 11 = r at *
    simp [nw1, h1, h2, ag1, h7, h8, w1, h9, h10, w2, ag2, nw2, st3, i0, l3, hx, lp, told]
end Go.Proofs.YtkifcchcofdkaaaDoor

