/-
  Several texts in one: what functions that the law reaches compute. No conditions but those named in each line.
-/
import Derived.Test.YtlhbidbdmdcdeaaGreatDoorAbsE
import Derived.Test.YtlhbidbdmdcdeaaGreatDoorAbsD
import Derived.Test.YtlhbidbdmdcdeaaGreatDoorRows
/-
  What the laws of the layers 9 and 10 and the functions that they reach compute, printed by a program of our own: each text is by definition the run of the code. No conditions.
-/
namespace Go.Proofs.YtlhbidbdmdcdeaaGreatDoor
open Go Go.Abs Go.Abs.F
set_option linter.unusedVariables false
noncomputable section
abbrev ixs : List Nat := [104, 105]
abbrev prim0 : CallF := orP (ixP ixs 103) (joinP 79)
abbrev prim1 : CallF := orP prim0 (pureP (runQ Tryz.prog 64 noPrim 8) [122])
abbrev primI : CallF := orP (delP 75 5 [.int .i64 0, .int .i64 0, .int .i64 0, .int .i64 0, .int .u32 0]) (insP 74 5)
abbrev prim2 : CallF := orP (bigP Tryz.prog [18]) primI
abbrev prim3 : CallF := orP prim2 prim1
abbrev prim : CallF := orP (toldP 17 true) (orP (toldP 29 true) prim3)
abbrev R (d : Nat) : CallF := runQ Tryz.prog 8192 prim d
end
end Go.Proofs.YtlhbidbdmdcdeaaGreatDoor


/-
  What functions that the laws reach compute, printed by a program of our own: each text is by definition the run of the code. No conditions.
-/
namespace Go.Proofs.YtlhbidbdmdcdeaaGreatDoor
open Go Go.Abs Go.Abs.F
set_option linter.unusedVariables false
noncomputable section
theorem prim_skip {f : Nat} {ts : List T} {σ : St} (h : (!Nat.beq f 17 && !Nat.beq f 29 && !Nat.beq f 18 && !Nat.beq f 75 && !Nat.beq f 74) = true) : prim f ts σ = prim1 f ts σ := by
  simp only [Bool.and_eq_true, Bool.not_eq_true'] at h
  obtain ⟨⟨⟨⟨h1, h2⟩, h3⟩, h4⟩, h5⟩ := h
  have e1 : toldP 17 true f ts σ = none := by simp [toldP, h1]
  have e2 : toldP 29 true f ts σ = none := by simp [toldP, h2]
  have e3 : bigP Tryz.prog [18] f ts σ = none := by
    have : [18].contains f = false := by
      have hn : f ≠ 18 := fun e => by subst e; cases h3
      simp [hn]
    simp only [bigP, this]
  have e4 : delP 75 5 [.int .i64 0, .int .i64 0, .int .i64 0, .int .i64 0, .int .u32 0] f ts σ = none := by simp only [delP, h4]
  have e5 : insP 74 5 f ts σ = none := by simp only [insP, h5]
  exact (orP_right e1).trans ((orP_right e2).trans (orP_right ((orP_right e3).trans ((orP_right e4).trans e5))))
theorem prim_ix {f : Nat} {l : Bs} {c : UInt8} {σ : St} (h : (ixs.contains f && !Nat.beq f 17) = true) : prim f [Z (.str l), Z (.str [c])] σ = some (I .i64 (ixB c l 0), σ) := by
  simp only [Bool.and_eq_true, Bool.not_eq_true'] at h
  have hf : f = 104 ∨ f = 105 := by simpa [ixs] using h.1
  rw [prim_skip (by rcases hf with rfl | rfl <;> decide)]
  exact orP_left (orP_left (ixP_at h.1))
theorem prim_cnt {l : Bs} {c : UInt8} {σ : St} : prim 103 [Z (.str l), Z (.str [c])] σ = some (I .i64 (cntB c l : Nat), σ) := by
  rw [prim_skip (by decide)]
  exact orP_left (orP_left (ixP_cnt (by decide)))
theorem prim_join {x : S} {l : List Bs} {sep : Bs} {σ : St} (h : RT σ x l) (hb : totalLen l + l.length * sep.length ≤ 1000000) (hl : l.length ≤ 1000000) : prim 79 [Z x, Z (.str sep)] σ = some (Z (.str (joinB sep l)), σ) := by
  rw [prim_skip (by decide)]
  have e3 : ixP ixs 103 79 [Z x, Z (.str sep)] σ = none := by
    have h1 : ixs.contains 79 = false := by decide
    have h2 : Nat.beq 79 103 = false := by decide
    simp only [ixP, h1, h2]
  exact orP_left ((orP_right e3).trans (joinP_at h hb hl))
theorem prim_set (σ : St) : prim 122 [Z (.str [48, 49, 50, 51, 52, 53, 54, 55, 56, 57])] σ = some (.tup [.agg ((List.range 256).map fun c => S.bool (Nat.ble 48 c && Nat.ble c 57)), .s (.bool true)], σ) := by
  rw [prim_skip (by decide)]
  have h0 : prim0 122 [Z (.str [48, 49, 50, 51, 52, 53, 54, 55, 56, 57])] σ = none := by
    have h1 : ixs.contains 122 = false := by decide
    have h2 : Nat.beq 122 103 = false := by decide
    have h3 : Nat.beq 122 79 = false := by decide
    simp only [prim0, orP, ixP, h1, h2, joinP, h3]
  exact (orP_right h0).trans (pureP_val (by decide) (by kernel_rfl) (by kernel_rfl))
set_option maxRecDepth 100000 in
theorem told10_all : gave true (runQ Tryz.prog 64 prim3 16 17 [] St.empty) = true := by kernel_rfl
set_option maxRecDepth 100000 in
theorem told9_all : gave true (runQ Tryz.prog 64 prim3 16 29 [] St.empty) = true := by kernel_rfl
theorem told9_run (d : Nat) (s : St) : R (d + 1) 29 [] s = some (B true, s) := runQ_prim rfl
end
end Go.Proofs.YtlhbidbdmdcdeaaGreatDoor


/-
  What functions that the laws reach compute, printed by a program of our own: each text is by definition the run of the code. No conditions.
-/
namespace Go.Proofs.YtlhbidbdmdcdeaaGreatDoor
open Go Go.Abs Go.Abs.F
set_option linter.unusedVariables false
noncomputable section
/- strings.Split -/
def f77 (callf : CallF) (N : Nat) (a0 : T) (a1 : T) (s : St) : Option (T × St) :=
  bd2 (callf 91 [a0, a1, (I .i64 0), (I .i64 (-1))] s) fun t7 s1 =>
  some (t7, s1)

theorem f77_eq (callf : CallF) (N : Nat) (a0 : T) (a1 : T) (s : St) : bodyC Tryz.prog callf N Tryz.f77 [a0, a1] s = f77 callf N a0 a1 s := by kernel_rfl

theorem f77_run (d : Nat) (a0 : T) (a1 : T) (s : St) : R (d + 1) 77 [a0, a1] s = f77 (R d) 8192 a0 a1 s := (runQ_body rfl Tryz.func77 (by kernel_rfl)).trans (f77_eq ..)

/- strings.genSplit: a loop; 0: t0 s, 1: t1 sep, 2: t2 sepSave, 3: t3 n, 4: t9 a, 5: t10 i -/
def f91_l1 (callf : CallF) (N : Nat) (v : List T) (s : St) : Option (JO × St) :=
  bd (aBin .lss (v.getD 5 .any) (v.getD 3 .any)) fun t36 =>
  br t36 (jn (bd2 (callf 104 [(v.getD 0 .any), (v.getD 1 .any)] s) fun t39 s8 =>
  bd (aBin .lss t39 (I .i64 0)) fun t41 =>
  br t41 (some (.exit 0 [(v.getD 0 .any), (v.getD 4 .any), (v.getD 5 .any)], s8))
  (bd (aBin .add t39 (v.getD 2 .any)) fun t47 =>
  bd (aPieceStr (v.getD 0 .any) none (some t47) none) fun t48 =>
  bd (aIndexSl 1 (v.getD 4 .any) (v.getD 5 .any)) fun t49 =>
  bd2 (aStore 1 t49 t48 s8) fun _ s9 =>
  bd (aLenStr (v.getD 1 .any)) fun t53 =>
  bd (aBin .add t39 t53) fun t54 =>
  bd (aPieceStr (v.getD 0 .any) (some t54) none none) fun t55 =>
  bd (aBin .add (v.getD 5 .any) (I .i64 1)) fun t57 =>
  some (.normal [t55, (v.getD 1 .any), (v.getD 2 .any), (v.getD 3 .any), (v.getD 4 .any), t57], s9)))
  (fun v10 s11 => some (.normal [(v10.getD 0 .any), (v10.getD 1 .any), (v10.getD 2 .any), (v10.getD 3 .any), (v10.getD 4 .any), (v10.getD 5 .any)], s11))
  (fun i12 v10 s11 => some (.exit i12 v10, s11))
  (fun r13 s11 => some (.ret r13, s11)))
  (some (.exit 0 [(v.getD 0 .any), (v.getD 4 .any), (v.getD 5 .any)], s))

/- strings.genSplit -/
def f91 (callf : CallF) (N : Nat) (a0 : T) (a1 : T) (a2 : T) (a3 : T) (s : St) : Option (T × St) :=
  bd (aBin .eql a3 (I .i64 0)) fun t13 =>
  br t13 (some ((Z .nils), s))
  (bd (aBin .eql a1 (Z (.str []))) fun t15 =>
  br t15 (bd2 (callf 102 [a0, a3] s) fun t18 s1 =>
  some (t18, s1))
  (bd (aBin .lss a3 (I .i64 0)) fun t20 =>
  jn (br t20 (bd2 (callf 103 [a0, a1] s) fun t23 s2 =>
  bd (aBin .add t23 (I .i64 1)) fun t24 =>
  some (.normal [a0, a1, a2, t24], s2))
  (some (.normal [a0, a1, a2, a3], s)))
  (fun v3 s4 => bd (aLenStr (v3.getD 0 .any)) fun t27 =>
  bd (aBin .add t27 (I .i64 1)) fun t28 =>
  bd (aFold aMin2 (v3.getD 3 .any) [t28]) fun t29 =>
  bd2 (aNew s4 (nMake 1 16 [.str []] t29 t29)) fun t31 s7 =>
  bd (aBin .sub t29 (I .i64 1)) fun t33 =>
  jn (jn (loops (f91_l1 callf N) N [(v3.getD 0 .any), (v3.getD 1 .any), (v3.getD 2 .any), t33, t31, (I .i64 0)] s7)
  (fun v14 s15 => some (.normal [.any, .any, .any], s15))
  (fun i16 v14 s15 => if i16 = 0 then some (.normal v14, s15) else some (.exit i16 v14, s15))
  (fun r17 s15 => some (.ret r17, s15)))
  (fun v18 s19 => bd (aIndexSl 1 (v18.getD 1 .any) (v18.getD 2 .any)) fun t61 =>
  bd2 (aStore 1 t61 (v18.getD 0 .any) s19) fun _ s22 =>
  bd (aBin .add (v18.getD 2 .any) (I .i64 1)) fun t64 =>
  bd (aPieceSl 1 (v18.getD 1 .any) none (some t64) none) fun t65 =>
  some (t65, s22))
  (fun i20 v18 s19 => none)
  (fun r21 s19 => some (r21, s19)))
  (fun i5 v3 s4 => none)
  (fun r6 s4 => some (r6, s4))))

theorem f91_eq (callf : CallF) (N : Nat) (a0 : T) (a1 : T) (a2 : T) (a3 : T) (s : St) : bodyC Tryz.prog callf N Tryz.f91 [a0, a1, a2, a3] s = f91 callf N a0 a1 a2 a3 s := by kernel_rfl

theorem f91_run (d : Nat) (a0 : T) (a1 : T) (a2 : T) (a3 : T) (s : St) : R (d + 1) 91 [a0, a1, a2, a3] s = f91 (R d) 8192 a0 a1 a2 a3 s := (runQ_body rfl Tryz.func91 (by kernel_rfl)).trans (f91_eq ..)

/- strings.Cut -/
def f78 (callf : CallF) (N : Nat) (a0 : T) (a1 : T) (s : St) : Option (T × St) :=
  bd2 (callf 92 [a0, a1] s) fun t9 s1 =>
  bd (aExtract t9 0) fun t10 =>
  bd (aExtract t9 1) fun t11 =>
  bd (aExtract t9 2) fun t12 =>
  bd (retT [t10, t11, t12]) fun r2 =>
  some (r2, s1)

theorem f78_eq (callf : CallF) (N : Nat) (a0 : T) (a1 : T) (s : St) : bodyC Tryz.prog callf N Tryz.f78 [a0, a1] s = f78 callf N a0 a1 s := by kernel_rfl

theorem f78_run (d : Nat) (a0 : T) (a1 : T) (s : St) : R (d + 1) 78 [a0, a1] s = f78 (R d) 8192 a0 a1 s := (runQ_body rfl Tryz.func78 (by kernel_rfl)).trans (f78_eq ..)

/- internal/stringslite.Cut -/
def f92 (callf : CallF) (N : Nat) (a0 : T) (a1 : T) (s : St) : Option (T × St) :=
  bd2 (callf 105 [a0, a1] s) fun t10 s1 =>
  bd (aBin .geq t10 (I .i64 0)) fun t12 =>
  br t12 (bd (aPieceStr a0 none (some t10) none) fun t15 =>
  bd (aLenStr a1) fun t19 =>
  bd (aBin .add t10 t19) fun t20 =>
  bd (aPieceStr a0 (some t20) none none) fun t21 =>
  bd (retT [t15, t21, (B true)]) fun r2 =>
  some (r2, s1))
  (bd (retT [a0, (Z (.str [])), (B false)]) fun r3 =>
  some (r3, s1))

theorem f92_eq (callf : CallF) (N : Nat) (a0 : T) (a1 : T) (s : St) : bodyC Tryz.prog callf N Tryz.f92 [a0, a1] s = f92 callf N a0 a1 s := by kernel_rfl

theorem f92_run (d : Nat) (a0 : T) (a1 : T) (s : St) : R (d + 1) 92 [a0, a1] s = f92 (R d) 8192 a0 a1 s := (runQ_body rfl Tryz.func92 (by kernel_rfl)).trans (f92_eq ..)

/- slices.Index[[]string,string]: a loop; 0: t0 s, 1: t1 v, 2: t7 , 3: t8  -/
def f97_l1 (callf : CallF) (N : Nat) (v : List T) (s : St) : Option (JO × St) :=
  bd (aBin .lss (v.getD 3 .any) (v.getD 2 .any)) fun t9 =>
  br t9 (jn (bd (aIndexSl 1 (v.getD 0 .any) (v.getD 3 .any)) fun t14 =>
  bd (aLoad1 t14 s.get) fun t15 =>
  bd (aBin .eql (v.getD 1 .any) t15) fun t16 =>
  br t16 (some (.ret (v.getD 3 .any), s))
  (some (.normal [(v.getD 0 .any), (v.getD 1 .any), (v.getD 2 .any), (v.getD 3 .any)], s)))
  (fun v1 s2 => bd (aBin .add (v1.getD 3 .any) (I .i64 1)) fun t18 =>
  some (.normal [(v1.getD 0 .any), (v1.getD 1 .any), (v1.getD 2 .any), t18], s2))
  (fun i3 v1 s2 => some (.exit i3 v1, s2))
  (fun r4 s2 => some (.ret r4, s2)))
  (some (.exit 0 [], s))

/- slices.Index[[]string,string] -/
def f97 (callf : CallF) (N : Nat) (a0 : T) (a1 : T) (s : St) : Option (T × St) :=
  bd (aLenSl a0) fun t7 =>
  jn (jn (loops (f97_l1 callf N) N [a0, a1, t7, (I .i64 0)] s)
  (fun v5 s6 => some (.normal [], s6))
  (fun i7 v5 s6 => if i7 = 0 then some (.normal v5, s6) else some (.exit i7 v5, s6))
  (fun r8 s6 => some (.ret r8, s6)))
  (fun v9 s10 => some ((I .i64 (-1)), s10))
  (fun i11 v9 s10 => none)
  (fun r12 s10 => some (r12, s10))

theorem f97_eq (callf : CallF) (N : Nat) (a0 : T) (a1 : T) (s : St) : bodyC Tryz.prog callf N Tryz.f97 [a0, a1] s = f97 callf N a0 a1 s := by kernel_rfl

theorem f97_run (d : Nat) (a0 : T) (a1 : T) (s : St) : R (d + 1) 97 [a0, a1] s = f97 (R d) 8192 a0 a1 s := (runQ_body rfl Tryz.func97 (by kernel_rfl)).trans (f97_eq ..)

/- slices.Contains[[]string,string] -/
def f81 (callf : CallF) (N : Nat) (a0 : T) (a1 : T) (s : St) : Option (T × St) :=
  bd2 (callf 97 [a0, a1] s) fun t7 s1 =>
  bd (aBin .geq t7 (I .i64 0)) fun t8 =>
  some (t8, s1)

theorem f81_eq (callf : CallF) (N : Nat) (a0 : T) (a1 : T) (s : St) : bodyC Tryz.prog callf N Tryz.f81 [a0, a1] s = f81 callf N a0 a1 s := by kernel_rfl

theorem f81_run (d : Nat) (a0 : T) (a1 : T) (s : St) : R (d + 1) 81 [a0, a1] s = f81 (R d) 8192 a0 a1 s := (runQ_body rfl Tryz.func81 (by kernel_rfl)).trans (f81_eq ..)

/- strings.Trim -/
def f108 (callf : CallF) (N : Nat) (a0 : T) (a1 : T) (s : St) : Option (T × St) :=
  bd (aBin .eql a0 (Z (.str []))) fun t8 =>
  bd (gT (gd t8 false) (some a1)) fun t10 =>
  bd (gT (gd t8 false) (aBin .eql t10 (Z (.str [])))) fun t11 =>
  bd (aPick t8 (B true) t11) fun t12 =>
  br t12 (some (a0, s))
  (bd (aLenStr a1) fun t15 =>
  bd (aBin .eql t15 (I .i64 1)) fun t16 =>
  bd (gT (gd t16 true) (some a1)) fun t18 =>
  bd (gT (gd t16 true) (aAtStr t18 (I .i64 0))) fun t19 =>
  bd (gT (gd t16 true) (aBin .lss t19 (I .u8 128))) fun t20 =>
  bd (aPick t16 t20 (B false)) fun t21 =>
  br t21 (bd (aAtStr a1 (I .i64 0)) fun t24 =>
  bd2 (callf 121 [a0, t24] s) fun t25 s1 =>
  bd (aAtStr a1 (I .i64 0)) fun t27 =>
  bd2 (callf 120 [t25, t27] s1) fun t28 s2 =>
  some (t28, s2))
  (bd2 (callf 122 [a1] s) fun t31 s3 =>
  bd (aExtract t31 0) fun t32 =>
  bd (aExtract t31 1) fun t33 =>
  bd2 (aNew s3 (nCells [.bool false, .bool false, .bool false, .bool false, .bool false, .bool false, .bool false, .bool false, .bool false, .bool false, .bool false, .bool false, .bool false, .bool false, .bool false, .bool false, .bool false, .bool false, .bool false, .bool false, .bool false, .bool false, .bool false, .bool false, .bool false, .bool false, .bool false, .bool false, .bool false, .bool false, .bool false, .bool false, .bool false, .bool false, .bool false, .bool false, .bool false, .bool false, .bool false, .bool false, .bool false, .bool false, .bool false, .bool false, .bool false, .bool false, .bool false, .bool false, .bool false, .bool false, .bool false, .bool false, .bool false, .bool false, .bool false, .bool false, .bool false, .bool false, .bool false, .bool false, .bool false, .bool false, .bool false, .bool false, .bool false, .bool false, .bool false, .bool false, .bool false, .bool false, .bool false, .bool false, .bool false, .bool false, .bool false, .bool false, .bool false, .bool false, .bool false, .bool false, .bool false, .bool false, .bool false, .bool false, .bool false, .bool false, .bool false, .bool false, .bool false, .bool false, .bool false, .bool false, .bool false, .bool false, .bool false, .bool false, .bool false, .bool false, .bool false, .bool false, .bool false, .bool false, .bool false, .bool false, .bool false, .bool false, .bool false, .bool false, .bool false, .bool false, .bool false, .bool false, .bool false, .bool false, .bool false, .bool false, .bool false, .bool false, .bool false, .bool false, .bool false, .bool false, .bool false, .bool false, .bool false, .bool false, .bool false, .bool false, .bool false, .bool false, .bool false, .bool false, .bool false, .bool false, .bool false, .bool false, .bool false, .bool false, .bool false, .bool false, .bool false, .bool false, .bool false, .bool false, .bool false, .bool false, .bool false, .bool false, .bool false, .bool false, .bool false, .bool false, .bool false, .bool false, .bool false, .bool false, .bool false, .bool false, .bool false, .bool false, .bool false, .bool false, .bool false, .bool false, .bool false, .bool false, .bool false, .bool false, .bool false, .bool false, .bool false, .bool false, .bool false, .bool false, .bool false, .bool false, .bool false, .bool false, .bool false, .bool false, .bool false, .bool false, .bool false, .bool false, .bool false, .bool false, .bool false, .bool false, .bool false, .bool false, .bool false, .bool false, .bool false, .bool false, .bool false, .bool false, .bool false, .bool false, .bool false, .bool false, .bool false, .bool false, .bool false, .bool false, .bool false, .bool false, .bool false, .bool false, .bool false, .bool false, .bool false, .bool false, .bool false, .bool false, .bool false, .bool false, .bool false, .bool false, .bool false, .bool false, .bool false, .bool false, .bool false, .bool false, .bool false, .bool false, .bool false, .bool false, .bool false, .bool false, .bool false, .bool false, .bool false, .bool false, .bool false, .bool false, .bool false, .bool false, .bool false, .bool false, .bool false, .bool false, .bool false, .bool false, .bool false, .bool false, .bool false, .bool false, .bool false, .bool false, .bool false, .bool false, .bool false, .bool false, .bool false, .bool false])) fun t5 s4 =>
  bd2 (aStore 256 t5 t32 s4) fun _ s5 =>
  br t33 (bd2 (callf 124 [a0, t5] s5) fun t36 s6 =>
  bd2 (callf 123 [t36, t5] s6) fun t37 s7 =>
  some (t37, s7))
  (bd2 (callf 126 [a0, a1] s5) fun t40 s8 =>
  bd2 (callf 125 [t40, a1] s8) fun t42 s9 =>
  some (t42, s9))))

theorem f108_eq (callf : CallF) (N : Nat) (a0 : T) (a1 : T) (s : St) : bodyC Tryz.prog callf N Tryz.f108 [a0, a1] s = f108 callf N a0 a1 s := by kernel_rfl

theorem f108_run (d : Nat) (a0 : T) (a1 : T) (s : St) : R (d + 1) 108 [a0, a1] s = f108 (R d) 8192 a0 a1 s := (runQ_body rfl Tryz.func108 (by kernel_rfl)).trans (f108_eq ..)

/- strings.trimLeftASCII: a loop; 0: t0 s, 1: t1 as -/
def f123_l1 (callf : CallF) (N : Nat) (v : List T) (s : St) : Option (JO × St) :=
  bd (aLenStr (v.getD 0 .any)) fun t6 =>
  bd (aBin .gtr t6 (I .i64 0)) fun t7 =>
  br t7 (jn (bd (aAtStr (v.getD 0 .any) (I .i64 0)) fun t10 =>
  bd2 (callf 132 [(v.getD 1 .any), t10] s) fun t11 s1 =>
  bd (aUn .not t11) fun t12 =>
  br t12 (some (.exit 0 [(v.getD 0 .any)], s1))
  (bd (aPieceStr (v.getD 0 .any) (some (I .i64 1)) none none) fun t14 =>
  some (.normal [t14, (v.getD 1 .any)], s1)))
  (fun v2 s3 => some (.normal [(v2.getD 0 .any), (v2.getD 1 .any)], s3))
  (fun i4 v2 s3 => some (.exit i4 v2, s3))
  (fun r5 s3 => some (.ret r5, s3)))
  (some (.exit 0 [(v.getD 0 .any)], s))

/- strings.trimLeftASCII -/
def f123 (callf : CallF) (N : Nat) (a0 : T) (a1 : T) (s : St) : Option (T × St) :=
  jn (jn (loops (f123_l1 callf N) N [a0, a1] s)
  (fun v6 s7 => some (.normal [.any], s7))
  (fun i8 v6 s7 => if i8 = 0 then some (.normal v6, s7) else some (.exit i8 v6, s7))
  (fun r9 s7 => some (.ret r9, s7)))
  (fun v10 s11 => some ((v10.getD 0 .any), s11))
  (fun i12 v10 s11 => none)
  (fun r13 s11 => some (r13, s11))

theorem f123_eq (callf : CallF) (N : Nat) (a0 : T) (a1 : T) (s : St) : bodyC Tryz.prog callf N Tryz.f123 [a0, a1] s = f123 callf N a0 a1 s := by kernel_rfl

theorem f123_run (d : Nat) (a0 : T) (a1 : T) (s : St) : R (d + 1) 123 [a0, a1] s = f123 (R d) 8192 a0 a1 s := (runQ_body rfl Tryz.func123 (by kernel_rfl)).trans (f123_eq ..)

/- strings.trimRightASCII: a loop; 0: t0 s, 1: t1 as -/
def f124_l1 (callf : CallF) (N : Nat) (v : List T) (s : St) : Option (JO × St) :=
  bd (aLenStr (v.getD 0 .any)) fun t6 =>
  bd (aBin .gtr t6 (I .i64 0)) fun t7 =>
  br t7 (jn (bd (aLenStr (v.getD 0 .any)) fun t11 =>
  bd (aBin .sub t11 (I .i64 1)) fun t12 =>
  bd (aAtStr (v.getD 0 .any) t12) fun t13 =>
  bd2 (callf 132 [(v.getD 1 .any), t13] s) fun t14 s1 =>
  bd (aUn .not t14) fun t15 =>
  br t15 (some (.exit 0 [(v.getD 0 .any)], s1))
  (bd (aLenStr (v.getD 0 .any)) fun t18 =>
  bd (aBin .sub t18 (I .i64 1)) fun t19 =>
  bd (aPieceStr (v.getD 0 .any) none (some t19) none) fun t20 =>
  some (.normal [t20, (v.getD 1 .any)], s1)))
  (fun v2 s3 => some (.normal [(v2.getD 0 .any), (v2.getD 1 .any)], s3))
  (fun i4 v2 s3 => some (.exit i4 v2, s3))
  (fun r5 s3 => some (.ret r5, s3)))
  (some (.exit 0 [(v.getD 0 .any)], s))

/- strings.trimRightASCII -/
def f124 (callf : CallF) (N : Nat) (a0 : T) (a1 : T) (s : St) : Option (T × St) :=
  jn (jn (loops (f124_l1 callf N) N [a0, a1] s)
  (fun v6 s7 => some (.normal [.any], s7))
  (fun i8 v6 s7 => if i8 = 0 then some (.normal v6, s7) else some (.exit i8 v6, s7))
  (fun r9 s7 => some (.ret r9, s7)))
  (fun v10 s11 => some ((v10.getD 0 .any), s11))
  (fun i12 v10 s11 => none)
  (fun r13 s11 => some (r13, s11))

theorem f124_eq (callf : CallF) (N : Nat) (a0 : T) (a1 : T) (s : St) : bodyC Tryz.prog callf N Tryz.f124 [a0, a1] s = f124 callf N a0 a1 s := by kernel_rfl

theorem f124_run (d : Nat) (a0 : T) (a1 : T) (s : St) : R (d + 1) 124 [a0, a1] s = f124 (R d) 8192 a0 a1 s := (runQ_body rfl Tryz.func124 (by kernel_rfl)).trans (f124_eq ..)

/- (strings.asciiSet).contains -/
def f132 (callf : CallF) (N : Nat) (a0 : T) (a1 : T) (s : St) : Option (T × St) :=
  bd (aNil a0) fun t7 =>
  bd (aIndexArr 256 1 t7 a1) fun t8 =>
  bd (aLoad1 t8 s.get) fun t9 =>
  some (t9, s)

theorem f132_eq (callf : CallF) (N : Nat) (a0 : T) (a1 : T) (s : St) : bodyC Tryz.prog callf N Tryz.f132 [a0, a1] s = f132 callf N a0 a1 s := by kernel_rfl

theorem f132_run (d : Nat) (a0 : T) (a1 : T) (s : St) : R (d + 1) 132 [a0, a1] s = f132 (R d) 8192 a0 a1 s := (runQ_body rfl Tryz.func132 (by kernel_rfl)).trans (f132_eq ..)

/- strconv.ParseInt -/
def f109 (callf : CallF) (N : Nat) (a0 : T) (a1 : T) (a2 : T) (s : St) : Option (T × St) :=
  bd2 (callf 127 [a0, a1, a2] s) fun t13 s1 =>
  bd (aExtract t13 0) fun t14 =>
  bd (aExtract t13 1) fun t15 =>
  bd (neB .i t15 (Z .nili)) fun t17 =>
  br t17 (bd2 (callf 128 [(Z (.str [80, 97, 114, 115, 101, 73, 110, 116])), a0, a1, a2, t15] s1) fun t23 s2 =>
  bd (retT [t14, t23]) fun r3 =>
  some (r3, s2))
  (bd (retT [t14, (Z .nili)]) fun r4 =>
  some (r4, s1))

theorem f109_eq (callf : CallF) (N : Nat) (a0 : T) (a1 : T) (a2 : T) (s : St) : bodyC Tryz.prog callf N Tryz.f109 [a0, a1, a2] s = f109 callf N a0 a1 a2 s := by kernel_rfl

theorem f109_run (d : Nat) (a0 : T) (a1 : T) (a2 : T) (s : St) : R (d + 1) 109 [a0, a1, a2] s = f109 (R d) 8192 a0 a1 a2 s := (runQ_body rfl Tryz.func109 (by kernel_rfl)).trans (f109_eq ..)

/- internal/strconv.ParseInt -/
def f127 (callf : CallF) (N : Nat) (a0 : T) (a1 : T) (a2 : T) (s : St) : Option (T × St) :=
  bd (aBin .eql a0 (Z (.str []))) fun t13 =>
  br t13 (bd ((none : Option T)) fun t14 =>
  bd (retT [(I .i64 0), t14]) fun r1 =>
  some (r1, s))
  (bd (aAtStr a0 (I .i64 0)) fun t16 =>
  jn (bd (aBin .eql t16 (I .u8 43)) fun t18 =>
  jn (br t18 (bd (aPieceStr a0 (some (I .i64 1)) none none) fun t20 =>
  some (.normal [t20, a1, a2, (B false)], s))
  (bd (aBin .eql t16 (I .u8 45)) fun t22 =>
  jn (br t22 (bd (aPieceStr a0 (some (I .i64 1)) none none) fun t24 =>
  some (.normal [t24, a1, a2, (B true)], s))
  (some (.normal [a0, a1, a2, (B false)], s)))
  (fun v2 s3 => some (.normal [(v2.getD 0 .any), (v2.getD 1 .any), (v2.getD 2 .any), (v2.getD 3 .any)], s3))
  (fun i4 v2 s3 => some (.exit i4 v2, s3))
  (fun r5 s3 => some (.ret r5, s3))))
  (fun v6 s7 => some (.normal [(v6.getD 0 .any), (v6.getD 1 .any), (v6.getD 2 .any), (v6.getD 3 .any)], s7))
  (fun i8 v6 s7 => if i8 = 0 then some (.normal v6, s7) else some (.exit i8 v6, s7))
  (fun r9 s7 => some (.ret r9, s7)))
  (fun v10 s11 => bd2 (callf 135 [(v10.getD 0 .any), (v10.getD 1 .any), (v10.getD 2 .any)] s11) fun t29 s14 =>
  bd (aExtract t29 0) fun t30 =>
  bd (aExtract t29 1) fun t31 =>
  bd (neB .i t31 (Z .nili)) fun t33 =>
  bd (gT (gd t33 true) (some t31)) fun t35 =>
  bd (gT (gd t33 true) ((none : Option T))) fun t36 =>
  bd (gT (gd t33 true) ((none : Option T))) fun t37 =>
  bd (aPick t33 t37 (B false)) fun t38 =>
  br t38 (bd (retT [(I .i64 0), t31]) fun r15 =>
  some (r15, s14))
  (bd (aBin .eql (v10.getD 2 .any) (I .i64 0)) fun t41 =>
  jn (br t41 (some (.normal [(I .i64 64), (v10.getD 3 .any), t30], s14))
  (some (.normal [(v10.getD 2 .any), (v10.getD 3 .any), t30], s14)))
  (fun v16 s17 => bd (aBin .sub (v16.getD 0 .any) (I .i64 1)) fun t43 =>
  bd (aConv .u64 t43) fun t44 =>
  bd (aBin .shl (I .u64 1) t44) fun t45 =>
  bd (aUn .not (v16.getD 1 .any)) fun t47 =>
  bd (gT (gd t47 true) (some (v16.getD 2 .any))) fun t49 =>
  bd (gT (gd t47 true) (some t45)) fun t50 =>
  bd (gT (gd t47 true) (aBin .geq t49 t50)) fun t51 =>
  bd (aPick t47 t51 (B false)) fun t52 =>
  br t52 (bd (aBin .sub t45 (I .u64 1)) fun t54 =>
  bd (aConv .i64 t54) fun t55 =>
  bd ((none : Option T)) fun t56 =>
  bd (retT [t55, t56]) fun r20 =>
  some (r20, s17))
  (bd (gT (gd (v16.getD 1 .any) true) (some (v16.getD 2 .any))) fun t59 =>
  bd (gT (gd (v16.getD 1 .any) true) (some t45)) fun t60 =>
  bd (gT (gd (v16.getD 1 .any) true) (aBin .gtr t59 t60)) fun t61 =>
  bd (aPick (v16.getD 1 .any) t61 (B false)) fun t62 =>
  br t62 (bd (aConv .i64 t45) fun t64 =>
  bd (aUn .neg t64) fun t65 =>
  bd ((none : Option T)) fun t66 =>
  bd (retT [t65, t66]) fun r21 =>
  some (r21, s17))
  (bd (aConv .i64 (v16.getD 2 .any)) fun t68 =>
  jn (br (v16.getD 1 .any) (bd (aUn .neg t68) fun t71 =>
  some (.normal [t71], s17))
  (some (.normal [t68], s17)))
  (fun v22 s23 => bd (retT [(v22.getD 0 .any), (Z .nili)]) fun r26 =>
  some (r26, s23))
  (fun i24 v22 s23 => none)
  (fun r25 s23 => some (r25, s23)))))
  (fun i18 v16 s17 => none)
  (fun r19 s17 => some (r19, s17))))
  (fun i12 v10 s11 => none)
  (fun r13 s11 => some (r13, s11)))

theorem f127_eq (callf : CallF) (N : Nat) (a0 : T) (a1 : T) (a2 : T) (s : St) : bodyC Tryz.prog callf N Tryz.f127 [a0, a1, a2] s = f127 callf N a0 a1 a2 s := by kernel_rfl

theorem f127_run (d : Nat) (a0 : T) (a1 : T) (a2 : T) (s : St) : R (d + 1) 127 [a0, a1, a2] s = f127 (R d) 8192 a0 a1 a2 s := (runQ_body rfl Tryz.func127 (by kernel_rfl)).trans (f127_eq ..)

/- internal/strconv.ParseUint: a loop; 0: t1 base, 1: t8 base0, 2: t9 s0, 3: t10 cutoff, 4: t11 maxVal, 5: t12 underscores, 6: t13 n, 7: t99 , 8: t100 , 9: t101  -/
def f135_l1 (callf : CallF) (N : Nat) (v : List T) (s : St) : Option (JO × St) :=
  bd (aBin .lss (v.getD 9 .any) (v.getD 8 .any)) fun t102 =>
  br t102 (jn (bd (aIndexSl 1 (v.getD 7 .any) (v.getD 9 .any)) fun t103 =>
  bd (aLoad1 t103 s.get) fun t104 =>
  jn (bd (aBin .eql t104 (I .u8 95)) fun t108 =>
  bd (gT (gd t108 true) (some (v.getD 1 .any))) fun t110 =>
  bd (aPick t108 t110 (B false)) fun t111 =>
  br t111 (some (.exit 4 [(v.getD 0 .any), (v.getD 1 .any), (v.getD 2 .any), (v.getD 3 .any), (v.getD 4 .any), (B true), (v.getD 6 .any), (v.getD 7 .any), (v.getD 8 .any), (v.getD 9 .any)], s))
  (bd (aBin .leq (I .u8 48) t104) fun t114 =>
  bd (gT (gd t114 true) (some t104)) fun t116 =>
  bd (gT (gd t114 true) (aBin .leq t116 (I .u8 57))) fun t117 =>
  bd (aPick t114 t117 (B false)) fun t118 =>
  jn (br t118 (bd (aBin .sub t104 (I .u8 48)) fun t120 =>
  some (.normal [(v.getD 0 .any), (v.getD 1 .any), (v.getD 2 .any), (v.getD 3 .any), (v.getD 4 .any), (v.getD 5 .any), (v.getD 6 .any), t120, (v.getD 7 .any), (v.getD 8 .any), (v.getD 9 .any)], s))
  (bd2 (callf 142 [t104] s) fun t123 s52 =>
  bd (aBin .leq (I .u8 97) t123) fun t124 =>
  bd (gT (gd t124 true) (some t104)) fun t126 =>
  bd2 (gS (gd t124 true) s52 (callf 142 [t126] s52)) fun t127 s53 =>
  bd (gT (gd t124 true) (aBin .leq t127 (I .u8 122))) fun t128 =>
  bd (aPick t124 t128 (B false)) fun t129 =>
  br t129 (bd2 (callf 142 [t104] s53) fun t131 s54 =>
  bd (aBin .sub t131 (I .u8 97)) fun t132 =>
  bd (aBin .add t132 (I .u8 10)) fun t133 =>
  some (.normal [(v.getD 0 .any), (v.getD 1 .any), (v.getD 2 .any), (v.getD 3 .any), (v.getD 4 .any), (v.getD 5 .any), (v.getD 6 .any), t133, (v.getD 7 .any), (v.getD 8 .any), (v.getD 9 .any)], s54))
  (bd ((none : Option T)) fun t105 =>
  bd (retT [(I .u64 0), t105]) fun r55 =>
  some (.ret r55, s53))))
  (fun v56 s57 => some (.normal [(v56.getD 0 .any), (v56.getD 1 .any), (v56.getD 2 .any), (v56.getD 3 .any), (v56.getD 4 .any), (v56.getD 5 .any), (v56.getD 6 .any), (v56.getD 7 .any), (v56.getD 8 .any), (v56.getD 9 .any), (v56.getD 10 .any)], s57))
  (fun i58 v56 s57 => if i58 = 5 then some (.normal v56, s57) else some (.exit i58 v56, s57))
  (fun r59 s57 => some (.ret r59, s57))))
  (fun v60 s61 => bd (aConv .u8 (v60.getD 0 .any)) fun t136 =>
  bd (aBin .geq (v60.getD 7 .any) t136) fun t137 =>
  br t137 (bd ((none : Option T)) fun t138 =>
  bd (retT [(I .u64 0), t138]) fun r64 =>
  some (.ret r64, s61))
  (bd (aBin .geq (v60.getD 6 .any) (v60.getD 3 .any)) fun t141 =>
  br t141 (bd ((none : Option T)) fun t143 =>
  bd (retT [(v60.getD 4 .any), t143]) fun r65 =>
  some (.ret r65, s61))
  (bd (aConv .u64 (v60.getD 0 .any)) fun t146 =>
  bd (aBin .mul (v60.getD 6 .any) t146) fun t147 =>
  bd (aConv .u64 (v60.getD 7 .any)) fun t150 =>
  bd (aBin .add t147 t150) fun t151 =>
  bd (aBin .lss t151 t147) fun t154 =>
  bd (gT (gd t154 false) (some t151)) fun t156 =>
  bd (gT (gd t154 false) (some (v60.getD 4 .any))) fun t157 =>
  bd (gT (gd t154 false) (aBin .gtr t156 t157)) fun t158 =>
  bd (aPick t154 (B true) t158) fun t159 =>
  br t159 (bd ((none : Option T)) fun t161 =>
  bd (retT [(v60.getD 4 .any), t161]) fun r66 =>
  some (.ret r66, s61))
  (some (.normal [(v60.getD 0 .any), (v60.getD 1 .any), (v60.getD 2 .any), (v60.getD 3 .any), (v60.getD 4 .any), (v60.getD 5 .any), t151, (v60.getD 8 .any), (v60.getD 9 .any), (v60.getD 10 .any)], s61)))))
  (fun i62 v60 s61 => if i62 = 4 then some (.normal v60, s61) else some (.exit i62 v60, s61))
  (fun r63 s61 => some (.ret r63, s61)))
  (fun v67 s68 => bd (aBin .add (v67.getD 9 .any) (I .i64 1)) fun t163 =>
  some (.normal [(v67.getD 0 .any), (v67.getD 1 .any), (v67.getD 2 .any), (v67.getD 3 .any), (v67.getD 4 .any), (v67.getD 5 .any), (v67.getD 6 .any), (v67.getD 7 .any), (v67.getD 8 .any), t163], s68))
  (fun i69 v67 s68 => some (.exit i69 v67, s68))
  (fun r70 s68 => some (.ret r70, s68)))
  (some (.exit 3 [(v.getD 2 .any), (v.getD 5 .any), (v.getD 6 .any)], s))

/- internal/strconv.ParseUint -/
def f135 (callf : CallF) (N : Nat) (a0 : T) (a1 : T) (a2 : T) (s : St) : Option (T × St) :=
  bd (aBin .eql a0 (Z (.str []))) fun t19 =>
  br t19 (bd ((none : Option T)) fun t20 =>
  bd (retT [(I .u64 0), t20]) fun r1 =>
  some (r1, s))
  (bd (aBin .eql a1 (I .i64 0)) fun t22 =>
  jn (bd (aBin .leq (I .i64 2) a1) fun t27 =>
  bd (gT (gd t27 true) (some a1)) fun t29 =>
  bd (gT (gd t27 true) (aBin .leq t29 (I .i64 36))) fun t30 =>
  bd (aPick t27 t30 (B false)) fun t31 =>
  jn (br t31 (some (.normal [a0, a1, a2, t22, a0], s))
  (bd (aBin .eql a1 (I .i64 0)) fun t34 =>
  br t34 (bd (aAtStr a0 (I .i64 0)) fun t36 =>
  bd (aBin .eql t36 (I .u8 48)) fun t37 =>
  jn (br t37 (jn (bd (aLenStr a0) fun t42 =>
  bd (aBin .geq t42 (I .i64 3)) fun t43 =>
  bd (gT (gd t43 true) (some a0)) fun t45 =>
  bd (gT (gd t43 true) (aAtStr t45 (I .i64 1))) fun t46 =>
  bd2 (gS (gd t43 true) s (callf 142 [t46] s)) fun t47 s2 =>
  bd (gT (gd t43 true) (aBin .eql t47 (I .u8 98))) fun t48 =>
  bd (aPick t43 t48 (B false)) fun t49 =>
  jn (br t49 (bd (aPieceStr a0 (some (I .i64 2)) none none) fun t51 =>
  some (.normal [t51, (I .i64 2), a2, t22, a0], s2))
  (bd (aLenStr a0) fun t54 =>
  bd (aBin .geq t54 (I .i64 3)) fun t55 =>
  bd (gT (gd t55 true) (some a0)) fun t57 =>
  bd (gT (gd t55 true) (aAtStr t57 (I .i64 1))) fun t58 =>
  bd2 (gS (gd t55 true) s2 (callf 142 [t58] s2)) fun t59 s3 =>
  bd (gT (gd t55 true) (aBin .eql t59 (I .u8 111))) fun t60 =>
  bd (aPick t55 t60 (B false)) fun t61 =>
  jn (br t61 (bd (aPieceStr a0 (some (I .i64 2)) none none) fun t63 =>
  some (.normal [t63, (I .i64 8), a2, t22, a0], s3))
  (bd (aLenStr a0) fun t66 =>
  bd (aBin .geq t66 (I .i64 3)) fun t67 =>
  bd (gT (gd t67 true) (some a0)) fun t69 =>
  bd (gT (gd t67 true) (aAtStr t69 (I .i64 1))) fun t70 =>
  bd2 (gS (gd t67 true) s3 (callf 142 [t70] s3)) fun t71 s4 =>
  bd (gT (gd t67 true) (aBin .eql t71 (I .u8 120))) fun t72 =>
  bd (aPick t67 t72 (B false)) fun t73 =>
  jn (br t73 (bd (aPieceStr a0 (some (I .i64 2)) none none) fun t75 =>
  some (.normal [t75, (I .i64 16), a2, t22, a0], s4))
  (bd (aPieceStr a0 (some (I .i64 1)) none none) fun t39 =>
  some (.normal [t39, (I .i64 8), a2, t22, a0], s4)))
  (fun v5 s6 => some (.normal [(v5.getD 0 .any), (v5.getD 1 .any), (v5.getD 2 .any), (v5.getD 3 .any), (v5.getD 4 .any)], s6))
  (fun i7 v5 s6 => some (.exit i7 v5, s6))
  (fun r8 s6 => some (.ret r8, s6))))
  (fun v9 s10 => some (.normal [(v9.getD 0 .any), (v9.getD 1 .any), (v9.getD 2 .any), (v9.getD 3 .any), (v9.getD 4 .any)], s10))
  (fun i11 v9 s10 => some (.exit i11 v9, s10))
  (fun r12 s10 => some (.ret r12, s10))))
  (fun v13 s14 => some (.normal [(v13.getD 0 .any), (v13.getD 1 .any), (v13.getD 2 .any), (v13.getD 3 .any), (v13.getD 4 .any)], s14))
  (fun i15 v13 s14 => if i15 = 1 then some (.normal v13, s14) else some (.exit i15 v13, s14))
  (fun r16 s14 => some (.ret r16, s14)))
  (fun v17 s18 => some (.normal [(v17.getD 0 .any), (v17.getD 1 .any), (v17.getD 2 .any), (v17.getD 3 .any), (v17.getD 4 .any)], s18))
  (fun i19 v17 s18 => some (.exit i19 v17, s18))
  (fun r20 s18 => some (.ret r20, s18)))
  (some (.normal [a0, (I .i64 10), a2, t22, a0], s)))
  (fun v21 s22 => some (.normal [(v21.getD 0 .any), (v21.getD 1 .any), (v21.getD 2 .any), (v21.getD 3 .any), (v21.getD 4 .any)], s22))
  (fun i23 v21 s22 => some (.exit i23 v21, s22))
  (fun r24 s22 => some (.ret r24, s22)))
  (bd ((none : Option T)) fun t24 =>
  bd (retT [(I .u64 0), t24]) fun r25 =>
  some (.ret r25, s))))
  (fun v26 s27 => some (.normal [(v26.getD 0 .any), (v26.getD 1 .any), (v26.getD 2 .any), (v26.getD 3 .any), (v26.getD 4 .any)], s27))
  (fun i28 v26 s27 => if i28 = 0 then some (.normal v26, s27) else some (.exit i28 v26, s27))
  (fun r29 s27 => some (.ret r29, s27)))
  (fun v30 s31 => bd (aBin .eql (v30.getD 2 .any) (I .i64 0)) fun t77 =>
  jn (br t77 (some (.normal [(v30.getD 0 .any), (v30.getD 1 .any), (I .i64 64), (v30.getD 3 .any), (v30.getD 4 .any)], s31))
  (bd (aBin .lss (v30.getD 2 .any) (I .i64 0)) fun t79 =>
  bd (gT (gd t79 false) (some (v30.getD 2 .any))) fun t81 =>
  bd (gT (gd t79 false) (aBin .gtr t81 (I .i64 64))) fun t82 =>
  bd (aPick t79 (B true) t82) fun t83 =>
  br t83 (bd ((none : Option T)) fun t84 =>
  bd (retT [(I .u64 0), t84]) fun r34 =>
  some (.ret r34, s31))
  (some (.normal [(v30.getD 0 .any), (v30.getD 1 .any), (v30.getD 2 .any), (v30.getD 3 .any), (v30.getD 4 .any)], s31))))
  (fun v35 s36 => jn (bd (aBin .eql (v35.getD 1 .any) (I .i64 10)) fun t91 =>
  jn (br t91 (some (.normal [(v35.getD 0 .any), (v35.getD 1 .any), (v35.getD 2 .any), (v35.getD 3 .any), (v35.getD 4 .any), (I .u64 1844674407370955162)], s36))
  (bd (aBin .eql (v35.getD 1 .any) (I .i64 16)) fun t93 =>
  jn (br t93 (some (.normal [(v35.getD 0 .any), (v35.getD 1 .any), (v35.getD 2 .any), (v35.getD 3 .any), (v35.getD 4 .any), (I .u64 1152921504606846976)], s36))
  (bd (aConv .u64 (v35.getD 1 .any)) fun t87 =>
  bd (aBin .quo (I .u64 18446744073709551615) t87) fun t88 =>
  bd (aBin .add t88 (I .u64 1)) fun t89 =>
  some (.normal [(v35.getD 0 .any), (v35.getD 1 .any), (v35.getD 2 .any), (v35.getD 3 .any), (v35.getD 4 .any), t89], s36)))
  (fun v39 s40 => some (.normal [(v39.getD 0 .any), (v39.getD 1 .any), (v39.getD 2 .any), (v39.getD 3 .any), (v39.getD 4 .any), (v39.getD 5 .any)], s40))
  (fun i41 v39 s40 => some (.exit i41 v39, s40))
  (fun r42 s40 => some (.ret r42, s40))))
  (fun v43 s44 => some (.normal [(v43.getD 0 .any), (v43.getD 1 .any), (v43.getD 2 .any), (v43.getD 3 .any), (v43.getD 4 .any), (v43.getD 5 .any)], s44))
  (fun i45 v43 s44 => if i45 = 2 then some (.normal v43, s44) else some (.exit i45 v43, s44))
  (fun r46 s44 => some (.ret r46, s44)))
  (fun v47 s48 => bd (aConv .u64 (v47.getD 2 .any)) fun t95 =>
  bd (aBin .shl (I .u64 1) t95) fun t96 =>
  bd (aBin .sub t96 (I .u64 1)) fun t97 =>
  bd2 (aNew s48 (nBytes (v47.getD 0 .any))) fun t99 s51 =>
  bd (aLenSl t99) fun t100 =>
  jn (jn (loops (f135_l1 callf N) N [(v47.getD 1 .any), (v47.getD 3 .any), (v47.getD 4 .any), (v47.getD 5 .any), t97, (B false), (I .u64 0), t99, t100, (I .i64 0)] s51)
  (fun v71 s72 => some (.normal [.any, .any, .any], s72))
  (fun i73 v71 s72 => if i73 = 3 then some (.normal v71, s72) else some (.exit i73 v71, s72))
  (fun r74 s72 => some (.ret r74, s72)))
  (fun v75 s76 => bd (gT (gd (v75.getD 1 .any) true) (some (v75.getD 0 .any))) fun t166 =>
  bd2 (gS (gd (v75.getD 1 .any) true) s76 (callf 143 [t166] s76)) fun t167 s79 =>
  bd (gT (gd (v75.getD 1 .any) true) (aUn .not t167)) fun t168 =>
  bd (aPick (v75.getD 1 .any) t168 (B false)) fun t169 =>
  br t169 (bd ((none : Option T)) fun t170 =>
  bd (retT [(I .u64 0), t170]) fun r80 =>
  some (r80, s79))
  (bd (retT [(v75.getD 2 .any), (Z .nili)]) fun r81 =>
  some (r81, s79)))
  (fun i77 v75 s76 => none)
  (fun r78 s76 => some (r78, s76)))
  (fun i49 v47 s48 => none)
  (fun r50 s48 => some (r50, s48)))
  (fun i37 v35 s36 => none)
  (fun r38 s36 => some (r38, s36)))
  (fun i32 v30 s31 => none)
  (fun r33 s31 => some (r33, s31)))

theorem f135_eq (callf : CallF) (N : Nat) (a0 : T) (a1 : T) (a2 : T) (s : St) : bodyC Tryz.prog callf N Tryz.f135 [a0, a1, a2] s = f135 callf N a0 a1 a2 s := by kernel_rfl

theorem f135_run (d : Nat) (a0 : T) (a1 : T) (a2 : T) (s : St) : R (d + 1) 135 [a0, a1, a2] s = f135 (R d) 8192 a0 a1 a2 s := (runQ_body rfl Tryz.func135 (by kernel_rfl)).trans (f135_eq ..)

end
end Go.Proofs.YtlhbidbdmdcdeaaGreatDoor


/-
  What functions that the laws reach compute, printed by a program of our own: each text is by definition the run of the code. No conditions.
-/
namespace Go.Proofs.YtlhbidbdmdcdeaaGreatDoor
open Go Go.Abs Go.Abs.F
set_option linter.unusedVariables false
noncomputable section
/- twinkeep/policy.number -/
def f96 (callf : CallF) (N : Nat) (a0 : T) (s : St) : Option (T × St) :=
  bd (aLenStr a0) fun t7 =>
  bd (aBin .lss t7 (I .i64 1)) fun t8 =>
  bd (gT (gd t8 false) (some a0)) fun t10 =>
  bd (gT (gd t8 false) (aLenStr t10)) fun t11 =>
  bd (gT (gd t8 false) (aBin .gtr t11 (I .i64 13))) fun t12 =>
  bd (aPick t8 (B true) t12) fun t13 =>
  bd (gT (gd t13 false) (some a0)) fun t15 =>
  bd2 (gS (gd t13 false) s (callf 108 [t15, (Z (.str [48, 49, 50, 51, 52, 53, 54, 55, 56, 57]))] s)) fun t16 s1 =>
  bd (gT (gd t13 false) (aBin .neq t16 (Z (.str [])))) fun t17 =>
  bd (aPick t13 (B true) t17) fun t18 =>
  br t18 (bd (retT [(I .i64 0), (B false)]) fun r2 =>
  some (r2, s1))
  (bd2 (callf 109 [a0, (I .i64 10), (I .i64 64)] s1) fun t21 s3 =>
  bd (aExtract t21 0) fun t22 =>
  bd (aExtract t21 1) fun t23 =>
  bd (eqB .i t23 (Z .nili)) fun t26 =>
  bd (retT [t22, t26]) fun r4 =>
  some (r4, s3))

theorem f96_eq (callf : CallF) (N : Nat) (a0 : T) (s : St) : bodyC Tryz.prog callf N Tryz.f96 [a0] s = f96 callf N a0 s := by kernel_rfl

theorem f96_run (d : Nat) (a0 : T) (s : St) : R (d + 1) 96 [a0] s = f96 (R d) 8192 a0 s := (runQ_body rfl Tryz.func96 (by kernel_rfl)).trans (f96_eq ..)

/- twinkeep/policy.names -/
def f98 (callf : CallF) (N : Nat) (s : St) : Option (T × St) :=
  bd2 (aNew s (nSlice 4 (aFill [.str [], .str [], .str [], .str []] [(0, 1, (Z (.str [114, 97, 119]))), (1, 1, (Z (.str [53, 109]))), (2, 1, (Z (.str [49, 104]))), (3, 1, (Z (.str [49, 100])))]))) fun t1 s1 =>
  some (t1, s1)

theorem f98_eq (callf : CallF) (N : Nat) (s : St) : bodyC Tryz.prog callf N Tryz.f98 [] s = f98 callf N s := by kernel_rfl

theorem f98_run (d : Nat) (s : St) : R (d + 1) 98 [] s = f98 (R d) 8192 s := (runQ_body rfl Tryz.func98 (by kernel_rfl)).trans (f98_eq ..)

/- twinkeep/policy.line -/
def f80 (callf : CallF) (N : Nat) (a0 : T) (a1 : T) (s : St) : Option (T × St) :=
  bd (aLenSl a1) fun t11 =>
  bd (aBin .sub t11 (I .i64 1)) fun t12 =>
  bd (aIndexSl 1 a1 t12) fun t13 =>
  bd (aLoad1 t13 s.get) fun t14 =>
  bd2 (callf 96 [t14] s) fun t15 s1 =>
  bd (aExtract t15 0) fun t16 =>
  bd (aExtract t15 1) fun t17 =>
  jn (bd (aIndexSl 1 a1 (I .i64 0)) fun t20 =>
  bd (aLoad1 t20 s1.get) fun t21 =>
  bd (aBin .eql t21 (Z (.str [107, 101, 101, 112]))) fun t22 =>
  bd (gT (gd t22 true) (some a1)) fun t24 =>
  bd (gT (gd t22 true) (aLenSl t24)) fun t25 =>
  bd (gT (gd t22 true) (aBin .eql t25 (I .i64 3))) fun t26 =>
  bd (aPick t22 t26 (B false)) fun t27 =>
  jn (br t27 (bd2 (callf 98 [] s1) fun t28 s2 =>
  bd (aIndexSl 1 a1 (I .i64 1)) fun t30 =>
  bd (aLoad1 t30 s2.get) fun t31 =>
  bd2 (callf 97 [t28, t31] s2) fun t32 s3 =>
  ck ((decide (aLoad1 t30 s1.get = aLoad1 t30 s2.get) && true) && true) (bd (aBin .lss t32 (I .i64 0)) fun t34 =>
  bd (gT (gd t34 false) (some t17)) fun t36 =>
  bd (gT (gd t34 false) (aUn .not t36)) fun t37 =>
  bd (gT (gd t34 false) (some t37)) fun t38 =>
  bd (gT (gd t38 true) (some a1)) fun t39 =>
  bd (gT (gd t38 true) (aIndexSl 1 t39 (I .i64 2))) fun t40 =>
  bd (gT (gd t38 true) (aLoad1 t40 s3.get)) fun t41 =>
  bd (gT (gd t38 true) (aBin .neq t41 (Z (.str [101, 118, 101, 114])))) fun t42 =>
  bd (gT (gd t34 false) (aPick t38 t42 (B false))) fun t43 =>
  bd (aPick t34 (B true) t43) fun t44 =>
  br t44 (some (.ret (B false), s3))
  (bd (aNil a0) fun t48 =>
  bd (aFieldAddr 0 t48) fun t49 =>
  bd (aIndexArr 4 1 t49 t32) fun t50 =>
  bd2 (aStore 1 t50 t16 s3) fun _ s4 =>
  some (.normal [], s4))))
  (bd (aIndexSl 1 a1 (I .i64 0)) fun t53 =>
  bd (aLoad1 t53 s1.get) fun t54 =>
  bd (aBin .eql t54 (Z (.str [115, 101, 97, 108]))) fun t55 =>
  bd (gT (gd t55 true) (some a1)) fun t57 =>
  bd (gT (gd t55 true) (aLenSl t57)) fun t58 =>
  bd (gT (gd t55 true) (aBin .eql t58 (I .i64 2))) fun t59 =>
  bd (aPick t55 t59 (B false)) fun t60 =>
  bd (gT (gd t60 true) (some t17)) fun t62 =>
  bd (aPick t60 t62 (B false)) fun t63 =>
  jn (br t63 (bd (aNil a0) fun t66 =>
  bd (aFieldAddr 4 t66) fun t67 =>
  bd2 (aStore 1 t67 t16 s1) fun _ s5 =>
  some (.normal [], s5))
  (bd (aIndexSl 1 a1 (I .i64 0)) fun t70 =>
  bd (aLoad1 t70 s1.get) fun t71 =>
  bd (aBin .eql t71 (Z (.str [115, 112, 97, 110]))) fun t72 =>
  bd (gT (gd t72 true) (some a1)) fun t74 =>
  bd (gT (gd t72 true) (aLenSl t74)) fun t75 =>
  bd (gT (gd t72 true) (aBin .eql t75 (I .i64 2))) fun t76 =>
  bd (aPick t72 t76 (B false)) fun t77 =>
  bd (gT (gd t77 true) (some t17)) fun t79 =>
  bd (aPick t77 t79 (B false)) fun t80 =>
  br t80 (bd (aNil a0) fun t83 =>
  bd (aFieldAddr 5 t83) fun t84 =>
  bd2 (aStore 1 t84 t16 s1) fun _ s6 =>
  some (.normal [], s6))
  (some (.ret (B false), s1))))
  (fun v7 s8 => some (.normal [], s8))
  (fun i9 v7 s8 => some (.exit i9 v7, s8))
  (fun r10 s8 => some (.ret r10, s8))))
  (fun v11 s12 => some (.normal [], s12))
  (fun i13 v11 s12 => if i13 = 0 then some (.normal v11, s12) else some (.exit i13 v11, s12))
  (fun r14 s12 => some (.ret r14, s12)))
  (fun v15 s16 => some ((B true), s16))
  (fun i17 v15 s16 => none)
  (fun r18 s16 => some (r18, s16))

theorem f80_eq (callf : CallF) (N : Nat) (a0 : T) (a1 : T) (s : St) : bodyC Tryz.prog callf N Tryz.f80 [a0, a1] s = f80 callf N a0 a1 s := by kernel_rfl

theorem f80_run (d : Nat) (a0 : T) (a1 : T) (s : St) : R (d + 1) 80 [a0, a1] s = f80 (R d) 8192 a0 a1 s := (runQ_body rfl Tryz.func80 (by kernel_rfl)).trans (f80_eq ..)

/- twinkeep/policy.May: a loop; 0: t1 p, 1: t7 , 2: t8  -/
def f82_l1 (callf : CallF) (N : Nat) (v : List T) (s : St) : Option (JO × St) :=
  bd (aBin .lss (v.getD 2 .any) (I .i64 4)) fun t9 =>
  br t9 (jn (bd (aAtArr none 4 1 (v.getD 1 .any) (v.getD 2 .any)) fun t11 =>
  bd (aBin .lss t11 (I .i64 0)) fun t13 =>
  bd (gT (gd t13 false) (some t11)) fun t15 =>
  bd (gT (gd t13 false) (aBin .gtr t15 (I .i64 1099511627776))) fun t16 =>
  bd (aPick t13 (B true) t16) fun t17 =>
  br t17 (some (.ret (B false), s))
  (bd (aBin .eql (v.getD 2 .any) (I .i64 0)) fun t19 =>
  br t19 (some (.normal [(v.getD 0 .any), (v.getD 1 .any), (v.getD 2 .any)], s))
  (bd (aBin .sub (v.getD 2 .any) (I .i64 1)) fun t21 =>
  bd (aFieldAddr 0 (v.getD 0 .any)) fun t22 =>
  bd (aIndexArr 4 1 t22 t21) fun t23 =>
  bd (aLoad1 t23 s.get) fun t24 =>
  bd (aBin .neq t11 (I .i64 0)) fun t26 =>
  bd (gT (gd t26 true) (some t11)) fun t28 =>
  bd (gT (gd t26 true) (some t24)) fun t29 =>
  bd (gT (gd t26 true) (aBin .lss t28 t29)) fun t30 =>
  bd (gT (gd t26 true) (some t30)) fun t31 =>
  bd (gT (gd t31 false) (some t24)) fun t32 =>
  bd (gT (gd t31 false) (aBin .eql t32 (I .i64 0))) fun t33 =>
  bd (gT (gd t26 true) (aPick t31 (B true) t33)) fun t34 =>
  bd (aPick t26 t34 (B false)) fun t35 =>
  br t35 (some (.ret (B false), s))
  (some (.normal [(v.getD 0 .any), (v.getD 1 .any), (v.getD 2 .any)], s)))))
  (fun v2 s3 => bd (aBin .add (v2.getD 2 .any) (I .i64 1)) fun t36 =>
  some (.normal [(v2.getD 0 .any), (v2.getD 1 .any), t36], s3))
  (fun i4 v2 s3 => some (.exit i4 v2, s3))
  (fun r5 s3 => some (.ret r5, s3)))
  (some (.exit 0 [(v.getD 0 .any)], s))

/- twinkeep/policy.May -/
def f82 (callf : CallF) (N : Nat) (a0 : T) (s : St) : Option (T × St) :=
  bd2 (aNew s (nBox a0)) fun t1 s1 =>
  bd (aFieldAddr 0 t1) fun t6 =>
  bd (aLoadN 4 t6 s1.get) fun t7 =>
  jn (jn (loops (f82_l1 callf N) N [t1, t7, (I .i64 0)] s1)
  (fun v6 s7 => some (.normal [.any], s7))
  (fun i8 v6 s7 => if i8 = 0 then some (.normal v6, s7) else some (.exit i8 v6, s7))
  (fun r9 s7 => some (.ret r9, s7)))
  (fun v10 s11 => bd (aFieldAddr 0 (v10.getD 0 .any)) fun t37 =>
  bd (aIndexArr 4 1 t37 (I .i64 3)) fun t38 =>
  bd (aLoad1 t38 s11.get) fun t39 =>
  bd (aBin .eql t39 (I .i64 0)) fun t40 =>
  bd (gT (gd t40 true) (aFieldAddr 4 (v10.getD 0 .any))) fun t42 =>
  bd (gT (gd t40 true) (aLoad1 t42 s11.get)) fun t43 =>
  bd (gT (gd t40 true) (aBin .geq t43 (I .i64 1))) fun t44 =>
  bd (aPick t40 t44 (B false)) fun t45 =>
  bd (gT (gd t45 true) (aFieldAddr 4 (v10.getD 0 .any))) fun t47 =>
  bd (gT (gd t45 true) (aLoad1 t47 s11.get)) fun t48 =>
  bd (gT (gd t45 true) (aBin .leq t48 (I .i64 64))) fun t49 =>
  bd (aPick t45 t49 (B false)) fun t50 =>
  bd (gT (gd t50 true) (aFieldAddr 5 (v10.getD 0 .any))) fun t52 =>
  bd (gT (gd t50 true) (aLoad1 t52 s11.get)) fun t53 =>
  bd (gT (gd t50 true) (aBin .geq t53 (I .i64 1))) fun t54 =>
  bd (aPick t50 t54 (B false)) fun t55 =>
  bd (gT (gd t55 true) (aFieldAddr 5 (v10.getD 0 .any))) fun t57 =>
  bd (gT (gd t55 true) (aLoad1 t57 s11.get)) fun t58 =>
  bd (gT (gd t55 true) (aBin .leq t58 (I .i64 200))) fun t59 =>
  bd (aPick t55 t59 (B false)) fun t60 =>
  some (t60, s11))
  (fun i12 v10 s11 => none)
  (fun r13 s11 => some (r13, s11))

theorem f82_eq (callf : CallF) (N : Nat) (a0 : T) (s : St) : bodyC Tryz.prog callf N Tryz.f82 [a0] s = f82 callf N a0 s := by kernel_rfl

theorem f82_run (d : Nat) (a0 : T) (s : St) : R (d + 1) 82 [a0] s = f82 (R d) 8192 a0 s := (runQ_body rfl Tryz.func82 (by kernel_rfl)).trans (f82_eq ..)

/- twinkeep/policy.Parse: a loop; 0: t2 , 1: t5 p, 2: t6 seen, 3: t7 i, 4: t9 l, 5: t15 , 6: t16 , 7: t17 , 8: t29 , 9: t30 , 10: t31  -/
def f51_l2 (callf : CallF) (N : Nat) (v : List T) (s : St) : Option (JO × St) :=
  bd (aBin .lss (v.getD 10 .any) (v.getD 9 .any)) fun t32 =>
  br t32 (jn (bd (aIndexSl 1 (v.getD 8 .any) (v.getD 10 .any)) fun t33 =>
  bd (aLoad1 t33 s.get) fun t34 =>
  bd (aBin .neq t34 (Z (.str []))) fun t36 =>
  jn (br t36 (bd2 (aNew s (nSlice 1 (aFill [.str []] [(0, 1, t34)]))) fun t39 s8 =>
  bd2 (aAppend 1 16 (v.getD 4 .any) t39 s8) fun t40 s9 =>
  some (.normal [(v.getD 0 .any), (v.getD 1 .any), (v.getD 2 .any), (v.getD 3 .any), t40, (v.getD 5 .any), (v.getD 6 .any), (v.getD 7 .any), (v.getD 8 .any), (v.getD 9 .any), (v.getD 10 .any)], s9))
  (some (.normal [(v.getD 0 .any), (v.getD 1 .any), (v.getD 2 .any), (v.getD 3 .any), (v.getD 4 .any), (v.getD 5 .any), (v.getD 6 .any), (v.getD 7 .any), (v.getD 8 .any), (v.getD 9 .any), (v.getD 10 .any)], s)))
  (fun v10 s11 => some (.normal [(v10.getD 0 .any), (v10.getD 1 .any), (v10.getD 2 .any), (v10.getD 3 .any), (v10.getD 4 .any), (v10.getD 5 .any), (v10.getD 6 .any), (v10.getD 7 .any), (v10.getD 8 .any), (v10.getD 9 .any), (v10.getD 10 .any)], s11))
  (fun i12 v10 s11 => if i12 = 3 then some (.normal v10, s11) else some (.exit i12 v10, s11))
  (fun r13 s11 => some (.ret r13, s11)))
  (fun v14 s15 => bd (aBin .add (v14.getD 10 .any) (I .i64 1)) fun t41 =>
  some (.normal [(v14.getD 0 .any), (v14.getD 1 .any), (v14.getD 2 .any), (v14.getD 3 .any), (v14.getD 4 .any), (v14.getD 5 .any), (v14.getD 6 .any), (v14.getD 7 .any), (v14.getD 8 .any), (v14.getD 9 .any), t41], s15))
  (fun i16 v14 s15 => some (.exit i16 v14, s15))
  (fun r17 s15 => some (.ret r17, s15)))
  (some (.exit 2 [(v.getD 0 .any), (v.getD 1 .any), (v.getD 2 .any), (v.getD 3 .any), (v.getD 4 .any), (v.getD 5 .any), (v.getD 6 .any), (v.getD 7 .any)], s))

/- twinkeep/policy.Parse: a loop; 0: t2 , 1: t5 p, 2: t6 seen, 3: t15 , 4: t16 , 5: t17  -/
def f51_l1 (callf : CallF) (N : Nat) (v : List T) (s : St) : Option (JO × St) :=
  bd (aBin .lss (v.getD 5 .any) (v.getD 4 .any)) fun t18 =>
  br t18 (jn (bd (aIndexSl 1 (v.getD 3 .any) (v.getD 5 .any)) fun t20 =>
  bd (aLoad1 t20 s.get) fun t21 =>
  bd2 (callf 78 [t21, (Z (.str [35]))] s) fun t24 s6 =>
  bd (aExtract t24 0) fun t25 =>
  bd (aExtract t24 1) fun t26 =>
  bd (aExtract t24 2) fun t27 =>
  bd2 (callf 77 [t25, (Z (.str [32]))] s6) fun t29 s7 =>
  bd (aLenSl t29) fun t30 =>
  jn (jn (loops (f51_l2 callf N) N [(v.getD 0 .any), (v.getD 1 .any), (v.getD 2 .any), (v.getD 5 .any), (Z .nils), (v.getD 3 .any), (v.getD 4 .any), (v.getD 5 .any), t29, t30, (I .i64 0)] s7)
  (fun v18 s19 => some (.normal [.any, .any, .any, .any, .any, .any, .any, .any], s19))
  (fun i20 v18 s19 => if i20 = 2 then some (.normal v18, s19) else some (.exit i20 v18, s19))
  (fun r21 s19 => some (.ret r21, s19)))
  (fun v22 s23 => bd (aLenSl (v22.getD 4 .any)) fun t43 =>
  bd (aBin .eql t43 (I .i64 0)) fun t44 =>
  br t44 (some (.normal [(v22.getD 0 .any), (v22.getD 1 .any), (v22.getD 2 .any), (v22.getD 5 .any), (v22.getD 6 .any), (v22.getD 7 .any)], s23))
  (bd (aLenSl (v22.getD 4 .any)) fun t47 =>
  bd (aBin .sub t47 (I .i64 1)) fun t48 =>
  bd (aPieceSl 1 (v22.getD 4 .any) none (some t48) none) fun t49 =>
  bd2 (callf 79 [t49, (Z (.str [32]))] s23) fun t50 s26 =>
  bd2 (callf 80 [(v22.getD 1 .any), (v22.getD 4 .any)] s26) fun t52 s27 =>
  bd (aUn .not t52) fun t53 =>
  bd (gT (gd t53 false) (some (v22.getD 2 .any))) fun t55 =>
  bd (gT (gd t53 false) (some t50)) fun t56 =>
  bd2 (gS (gd t53 false) s27 (callf 81 [t55, t56] s27)) fun t57 s28 =>
  bd (aPick t53 (B true) t57) fun t58 =>
  br t58 (bd (asAggT (aFill [.int .i64 0, .int .i64 0, .int .i64 0, .int .i64 0, .int .i64 0, .int .i64 0] [])) fun t59 =>
  bd (aBin .add (v22.getD 3 .any) (I .i64 1)) fun t61 =>
  bd2 (aStore 6 (v22.getD 0 .any) t59 s28) fun _ s29 =>
  bd (rC (aLoadN 6 (v22.getD 0 .any) s29.get) (rT (I .i64 4) (rT t61 (some [])))) fun l30 => bd (retT l30) fun r31 =>
  some (.ret r31, s29))
  (bd2 (aNew s28 (nSlice 1 (aFill [.str []] [(0, 1, t50)]))) fun t64 s32 =>
  bd2 (aAppend 1 16 (v22.getD 2 .any) t64 s32) fun t65 s33 =>
  some (.normal [(v22.getD 0 .any), (v22.getD 1 .any), t65, (v22.getD 5 .any), (v22.getD 6 .any), (v22.getD 7 .any)], s33))))
  (fun i24 v22 s23 => if i24 = 1 then some (.normal v22, s23) else some (.exit i24 v22, s23))
  (fun r25 s23 => some (.ret r25, s23)))
  (fun v34 s35 => bd (aBin .add (v34.getD 5 .any) (I .i64 1)) fun t66 =>
  some (.normal [(v34.getD 0 .any), (v34.getD 1 .any), (v34.getD 2 .any), (v34.getD 3 .any), (v34.getD 4 .any), t66], s35))
  (fun i36 v34 s35 => some (.exit i36 v34, s35))
  (fun r37 s35 => some (.ret r37, s35)))
  (some (.exit 0 [(v.getD 0 .any), (v.getD 1 .any)], s))

/- twinkeep/policy.Parse -/
def f51 (callf : CallF) (N : Nat) (a0 : T) (s : St) : Option (T × St) :=
  bd2 (aNew s (nCells [.int .i64 0, .int .i64 0, .int .i64 0, .int .i64 0, .int .i64 0, .int .i64 0])) fun t2 s1 =>
  bd2 (callf 49 [] s1) fun t13 s2 =>
  bd2 (aNew s2 (nCells [.int .i64 0, .int .i64 0, .int .i64 0, .int .i64 0, .int .i64 0, .int .i64 0])) fun t5 s3 =>
  bd2 (aStore 6 t5 t13 s3) fun _ s4 =>
  bd2 (callf 77 [a0, (Z (.str [10]))] s4) fun t15 s5 =>
  bd (aLenSl t15) fun t16 =>
  jn (jn (loops (f51_l1 callf N) N [t2, t5, (Z .nils), t15, t16, (I .i64 0)] s5)
  (fun v38 s39 => some (.normal [.any, .any], s39))
  (fun i40 v38 s39 => if i40 = 0 then some (.normal v38, s39) else some (.exit i40 v38, s39))
  (fun r41 s39 => some (.ret r41, s39)))
  (fun v42 s43 => bd (aLoadN 6 (v42.getD 1 .any) s43.get) fun t67 =>
  bd2 (callf 82 [t67] s43) fun t68 s46 =>
  bd (aUn .not t68) fun t69 =>
  br t69 (bd (asAggT (aFill [.int .i64 0, .int .i64 0, .int .i64 0, .int .i64 0, .int .i64 0, .int .i64 0] [])) fun t70 =>
  bd2 (aStore 6 (v42.getD 0 .any) t70 s46) fun _ s47 =>
  bd (rC (aLoadN 6 (v42.getD 0 .any) s47.get) (rT (I .i64 5) (rT (I .i64 0) (some [])))) fun l48 => bd (retT l48) fun r49 =>
  some (r49, s47))
  (bd (aLoadN 6 (v42.getD 1 .any) s46.get) fun t71 =>
  bd2 (aStore 6 (v42.getD 0 .any) t71 s46) fun _ s50 =>
  bd (rC (aLoadN 6 (v42.getD 0 .any) s50.get) (rT (I .i64 0) (rT (I .i64 0) (some [])))) fun l51 => bd (retT l51) fun r52 =>
  some (r52, s50)))
  (fun i44 v42 s43 => none)
  (fun r45 s43 => some (r45, s43))

theorem f51_eq (callf : CallF) (N : Nat) (a0 : T) (s : St) : bodyC Tryz.prog callf N Tryz.f51 [a0] s = f51 callf N a0 s := by kernel_rfl

theorem f51_run (d : Nat) (a0 : T) (s : St) : R (d + 1) 51 [a0] s = f51 (R d) 8192 a0 s := (runQ_body rfl Tryz.func51 (by kernel_rfl)).trans (f51_eq ..)

/- twinkeep/policy.Default -/
def f49 (callf : CallF) (N : Nat) (s : St) : Option (T × St) :=
  bd2 (aNew s (nCells [.int .i64 0, .int .i64 0, .int .i64 0, .int .i64 0, .int .i64 0, .int .i64 0])) fun t0 s1 =>
  bd (asAggT (aFill [.int .i64 0, .int .i64 0, .int .i64 0, .int .i64 0] [(0, 1, (I .i64 60)), (1, 1, (I .i64 600)), (2, 1, (I .i64 6000)), (3, 1, (I .i64 0))])) fun t1 =>
  bd (asAggT (aFill [.int .i64 0, .int .i64 0, .int .i64 0, .int .i64 0, .int .i64 0, .int .i64 0] [(0, 4, t1), (4, 1, (I .i64 8)), (5, 1, (I .i64 30))])) fun t2 =>
  bd2 (aStore 6 t0 t2 s1) fun _ s2 =>
  bd (rC (aLoadN 6 t0 s2.get) (some [])) fun l3 => bd (retT l3) fun r4 =>
  some (r4, s2)

theorem f49_eq (callf : CallF) (N : Nat) (s : St) : bodyC Tryz.prog callf N Tryz.f49 [] s = f49 callf N s := by kernel_rfl

theorem f49_run (d : Nat) (s : St) : R (d + 1) 49 [] s = f49 (R d) 8192 s := (runQ_body rfl Tryz.func49 (by kernel_rfl)).trans (f49_eq ..)

end
end Go.Proofs.YtlhbidbdmdcdeaaGreatDoor


/-
  What functions that the laws reach compute, printed by a program of our own: each text is by definition the run of the code. No conditions.
-/
namespace Go.Proofs.YtlhbidbdmdcdeaaGreatDoor
open Go Go.Abs Go.Abs.F
set_option linter.unusedVariables false
noncomputable section
/- twinkeep/vary.Put: a loop; 0: t0 n, 1: t3 b -/
def f52_l1 (callf : CallF) (N : Nat) (v : List T) (s : St) : Option (JO × St) :=
  bd (aBin .geq (v.getD 0 .any) (I .u64 128)) fun t5 =>
  br t5 (jn (bd (aConv .u8 (v.getD 0 .any)) fun t8 =>
  bd (aBin .or t8 (I .u8 128)) fun t9 =>
  bd2 (aNew s (nSlice 1 (aFill [.int .u8 0] [(0, 1, t9)]))) fun t10 s1 =>
  bd2 (aAppend 1 1 (v.getD 1 .any) t10 s1) fun t11 s2 =>
  bd (aBin .shr (v.getD 0 .any) (I .u64 7)) fun t13 =>
  some (.normal [t13, t11], s2))
  (fun v3 s4 => some (.normal [(v3.getD 0 .any), (v3.getD 1 .any)], s4))
  (fun i5 v3 s4 => some (.exit i5 v3, s4))
  (fun r6 s4 => some (.ret r6, s4)))
  (some (.exit 0 [(v.getD 0 .any), (v.getD 1 .any)], s))

/- twinkeep/vary.Put -/
def f52 (callf : CallF) (N : Nat) (a0 : T) (s : St) : Option (T × St) :=
  jn (jn (loops (f52_l1 callf N) N [a0, (Z .nils)] s)
  (fun v7 s8 => some (.normal [.any, .any], s8))
  (fun i9 v7 s8 => if i9 = 0 then some (.normal v7, s8) else some (.exit i9 v7, s8))
  (fun r10 s8 => some (.ret r10, s8)))
  (fun v11 s12 => bd (aConv .u8 (v11.getD 0 .any)) fun t16 =>
  bd2 (aNew s12 (nSlice 1 (aFill [.int .u8 0] [(0, 1, t16)]))) fun t17 s15 =>
  bd2 (aAppend 1 1 (v11.getD 1 .any) t17 s15) fun t18 s16 =>
  some (t18, s16))
  (fun i13 v11 s12 => none)
  (fun r14 s12 => some (r14, s12))

theorem f52_eq (callf : CallF) (N : Nat) (a0 : T) (s : St) : bodyC Tryz.prog callf N Tryz.f52 [a0] s = f52 callf N a0 s := by kernel_rfl

theorem f52_run (d : Nat) (a0 : T) (s : St) : R (d + 1) 52 [a0] s = f52 (R d) 8192 a0 s := (runQ_body rfl Tryz.func52 (by kernel_rfl)).trans (f52_eq ..)

/- twinkeep/vary.Get: a loop; 0: t0 b, 1: t1 at, 2: t7 n, 3: t19  -/
def f54_l1 (callf : CallF) (N : Nat) (v : List T) (s : St) : Option (JO × St) :=
  bd (aBin .lss (v.getD 3 .any) (I .i64 10)) fun t20 =>
  br t20 (jn (bd (aBin .add (v.getD 1 .any) (v.getD 3 .any)) fun t24 =>
  bd (aLenSl (v.getD 0 .any)) fun t26 =>
  bd (aBin .geq t24 t26) fun t27 =>
  br t27 (some (.exit 0 [(v.getD 1 .any)], s))
  (bd (aBin .add (v.getD 1 .any) (v.getD 3 .any)) fun t31 =>
  bd (aIndexSl 1 (v.getD 0 .any) t31) fun t32 =>
  bd (aLoad1 t32 s.get) fun t33 =>
  bd (aBin .eql (v.getD 3 .any) (I .i64 9)) fun t35 =>
  bd (gT (gd t35 true) (some t33)) fun t37 =>
  bd (gT (gd t35 true) (aBin .gtr t37 (I .u8 1))) fun t38 =>
  bd (aPick t35 t38 (B false)) fun t39 =>
  br t39 (some (.exit 0 [(v.getD 1 .any)], s))
  (bd (aBin .and t33 (I .u8 127)) fun t42 =>
  bd (aConv .u64 t42) fun t43 =>
  bd (aBin .mul (I .i64 7) (v.getD 3 .any)) fun t45 =>
  bd (aConv .u64 t45) fun t46 =>
  bd (aBin .shl t43 t46) fun t47 =>
  bd (aBin .or (v.getD 2 .any) t47) fun t48 =>
  jn (bd (aBin .geq t33 (I .u8 128)) fun t51 =>
  br t51 (some (.exit 1 [(v.getD 0 .any), (v.getD 1 .any), t48, (v.getD 3 .any)], s))
  (bd (aBin .gtr (v.getD 3 .any) (I .i64 0)) fun t54 =>
  bd (gT (gd t54 true) (some t33)) fun t56 =>
  bd (gT (gd t54 true) (aBin .eql t56 (I .u8 0))) fun t57 =>
  bd (aPick t54 t57 (B false)) fun t58 =>
  br t58 (some (.exit 0 [(v.getD 1 .any)], s))
  (some (.normal [(v.getD 1 .any), t48, (v.getD 3 .any)], s))))
  (fun v2 s3 => bd (aBin .add (v2.getD 0 .any) (v2.getD 2 .any)) fun t62 =>
  bd (aBin .add t62 (I .i64 1)) fun t63 =>
  bd (retT [(v2.getD 1 .any), t63, (I .i64 0)]) fun r6 =>
  some (.ret r6, s3))
  (fun i4 v2 s3 => if i4 = 1 then some (.normal v2, s3) else some (.exit i4 v2, s3))
  (fun r5 s3 => some (.ret r5, s3)))))
  (fun v7 s8 => bd (aBin .add (v7.getD 3 .any) (I .i64 1)) fun t64 =>
  some (.normal [(v7.getD 0 .any), (v7.getD 1 .any), (v7.getD 2 .any), t64], s8))
  (fun i9 v7 s8 => some (.exit i9 v7, s8))
  (fun r10 s8 => some (.ret r10, s8)))
  (some (.exit 0 [(v.getD 1 .any)], s))

/- twinkeep/vary.Get -/
def f54 (callf : CallF) (N : Nat) (a0 : T) (a1 : T) (s : St) : Option (T × St) :=
  bd (aBin .lss a1 (I .i64 0)) fun t11 =>
  bd (gT (gd t11 false) (some a1)) fun t13 =>
  bd (gT (gd t11 false) (some a0)) fun t14 =>
  bd (gT (gd t11 false) (aLenSl t14)) fun t15 =>
  bd (gT (gd t11 false) (aBin .gtr t13 t15)) fun t16 =>
  bd (aPick t11 (B true) t16) fun t17 =>
  br t17 (bd (retT [(I .u64 0), a1, (I .i64 1)]) fun r1 =>
  some (r1, s))
  (jn (jn (loops (f54_l1 callf N) N [a0, a1, (I .u64 0), (I .i64 0)] s)
  (fun v11 s12 => some (.normal [.any], s12))
  (fun i13 v11 s12 => if i13 = 0 then some (.normal v11, s12) else some (.exit i13 v11, s12))
  (fun r14 s12 => some (.ret r14, s12)))
  (fun v15 s16 => bd (retT [(I .u64 0), (v15.getD 0 .any), (I .i64 2)]) fun r19 =>
  some (r19, s16))
  (fun i17 v15 s16 => none)
  (fun r18 s16 => some (r18, s16)))

theorem f54_eq (callf : CallF) (N : Nat) (a0 : T) (a1 : T) (s : St) : bodyC Tryz.prog callf N Tryz.f54 [a0, a1] s = f54 callf N a0 a1 s := by kernel_rfl

theorem f54_run (d : Nat) (a0 : T) (a1 : T) (s : St) : R (d + 1) 54 [a0, a1] s = f54 (R d) 8192 a0 a1 s := (runQ_body rfl Tryz.func54 (by kernel_rfl)).trans (f54_eq ..)

/- twinkeep/sum.Of -/
/- twinkeep/sum.More: a loop; 0: t5 n, 1: t11 , 2: t12 , 3: t13  -/
/- twinkeep/sum.More -/
/- slices.Equal[[]byte,byte]: a loop; 0: t0 s1, 1: t1 s2, 2: t12 , 3: t13  -/
/- slices.Equal[[]byte,byte] -/
/- bytes.Equal -/
def f55 (callf : CallF) (N : Nat) (a0 : T) (a1 : T) (s : St) : Option (T × St) :=
  bd (aBytesStr a0 s.get) fun t6 =>
  bd (aBytesStr a1 s.get) fun t8 =>
  bd (aBin .eql t6 t8) fun t9 =>
  some (t9, s)

theorem f55_eq (callf : CallF) (N : Nat) (a0 : T) (a1 : T) (s : St) : bodyC Tryz.prog callf N Tryz.f55 [a0, a1] s = f55 callf N a0 a1 s := by kernel_rfl

theorem f55_run (d : Nat) (a0 : T) (a1 : T) (s : St) : R (d + 1) 55 [a0, a1] s = f55 (R d) 8192 a0 a1 s := (runQ_body rfl Tryz.func55 (by kernel_rfl)).trans (f55_eq ..)

/- twinkeep/log.low -/
/- slices.Concat[[]byte,byte]: a loop; 0: t0 slices, 1: t3 size, 2: t9 , 3: t10 , 4: t11  -/
/- slices.Concat[[]byte,byte]: a loop; 0: t6 newslice, 1: t25 , 2: t26 , 3: t27  -/
/- slices.Concat[[]byte,byte] -/
/- slices.Grow[[]byte,byte] -/
/- twinkeep/twinkeepref1.Get: a loop; 0: t0 b, 1: t1 at, 2: t7 n, 3: t8 i -/
def f42_l1 (callf : CallF) (N : Nat) (v : List T) (s : St) : Option (JO × St) :=
  bd (aBin .lss (v.getD 3 .any) (I .i64 10)) fun t20 =>
  bd (gT (gd t20 true) (some (v.getD 1 .any))) fun t22 =>
  bd (gT (gd t20 true) (some (v.getD 3 .any))) fun t23 =>
  bd (gT (gd t20 true) (aBin .add t22 t23)) fun t24 =>
  bd (gT (gd t20 true) (some (v.getD 0 .any))) fun t25 =>
  bd (gT (gd t20 true) (aLenStr t25)) fun t26 =>
  bd (gT (gd t20 true) (aBin .lss t24 t26)) fun t27 =>
  bd (aPick t20 t27 (B false)) fun t28 =>
  br t28 (jn (bd (aBin .add (v.getD 1 .any) (v.getD 3 .any)) fun t34 =>
  bd (aAtStr (v.getD 0 .any) t34) fun t35 =>
  bd (aConv .u64 t35) fun t36 =>
  bd (aBin .eql (v.getD 3 .any) (I .i64 9)) fun t38 =>
  bd (gT (gd t38 true) (some t36)) fun t40 =>
  bd (gT (gd t38 true) (aBin .gtr t40 (I .u64 1))) fun t41 =>
  bd (aPick t38 t41 (B false)) fun t42 =>
  br t42 (some (.exit 0 [(v.getD 1 .any)], s))
  (bd (aBin .and t36 (I .u64 127)) fun t45 =>
  bd (aBin .mul (I .i64 7) (v.getD 3 .any)) fun t47 =>
  bd (aConv .u64 t47) fun t48 =>
  bd (aBin .shl t45 t48) fun t49 =>
  bd (aBin .or (v.getD 2 .any) t49) fun t50 =>
  bd (aBin .lss t36 (I .u64 128)) fun t52 =>
  br t52 (bd (aBin .eql t36 (I .u64 0)) fun t54 =>
  bd (gT (gd t54 true) (some (v.getD 3 .any))) fun t56 =>
  bd (gT (gd t54 true) (aBin .gtr t56 (I .i64 0))) fun t57 =>
  bd (aPick t54 t57 (B false)) fun t58 =>
  br t58 (some (.exit 0 [(v.getD 1 .any)], s))
  (bd (aBin .add (v.getD 1 .any) (v.getD 3 .any)) fun t62 =>
  bd (aBin .add t62 (I .i64 1)) fun t63 =>
  bd (retT [t50, t63, (I .i64 0)]) fun r2 =>
  some (.ret r2, s)))
  (some (.normal [(v.getD 0 .any), (v.getD 1 .any), t50, (v.getD 3 .any)], s))))
  (fun v3 s4 => bd (aBin .add (v3.getD 3 .any) (I .i64 1)) fun t30 =>
  some (.normal [(v3.getD 0 .any), (v3.getD 1 .any), (v3.getD 2 .any), t30], s4))
  (fun i5 v3 s4 => some (.exit i5 v3, s4))
  (fun r6 s4 => some (.ret r6, s4)))
  (some (.exit 0 [(v.getD 1 .any)], s))

/- twinkeep/twinkeepref1.Get -/
def f42 (callf : CallF) (N : Nat) (a0 : T) (a1 : T) (s : St) : Option (T × St) :=
  bd (aBin .lss a1 (I .i64 0)) fun t11 =>
  bd (gT (gd t11 false) (some a1)) fun t13 =>
  bd (gT (gd t11 false) (some a0)) fun t14 =>
  bd (gT (gd t11 false) (aLenStr t14)) fun t15 =>
  bd (gT (gd t11 false) (aBin .gtr t13 t15)) fun t16 =>
  bd (aPick t11 (B true) t16) fun t17 =>
  br t17 (bd (retT [(I .u64 0), a1, (I .i64 1)]) fun r1 =>
  some (r1, s))
  (jn (jn (loops (f42_l1 callf N) N [a0, a1, (I .u64 0), (I .i64 0)] s)
  (fun v7 s8 => some (.normal [.any], s8))
  (fun i9 v7 s8 => if i9 = 0 then some (.normal v7, s8) else some (.exit i9 v7, s8))
  (fun r10 s8 => some (.ret r10, s8)))
  (fun v11 s12 => bd (retT [(I .u64 0), (v11.getD 0 .any), (I .i64 2)]) fun r15 =>
  some (r15, s12))
  (fun i13 v11 s12 => none)
  (fun r14 s12 => some (r14, s12)))

theorem f42_eq (callf : CallF) (N : Nat) (a0 : T) (a1 : T) (s : St) : bodyC Tryz.prog callf N Tryz.f42 [a0, a1] s = f42 callf N a0 a1 s := by kernel_rfl

theorem f42_run (d : Nat) (a0 : T) (a1 : T) (s : St) : R (d + 1) 42 [a0, a1] s = f42 (R d) 8192 a0 a1 s := (runQ_body rfl Tryz.func42 (by kernel_rfl)).trans (f42_eq ..)

/- twinkeep/twinkeepref1.Put: a loop; 0: t0 n, 1: t3 out -/
def f43_l1 (callf : CallF) (N : Nat) (v : List T) (s : St) : Option (JO × St) :=
  bd (aBin .geq (v.getD 0 .any) (I .u64 128)) fun t5 =>
  br t5 (jn (bd (aConv .u8 (v.getD 0 .any)) fun t8 =>
  bd (aBin .or t8 (I .u8 128)) fun t9 =>
  bd2 (aNew s (nSlice 1 (aFill [.int .u8 0] [(0, 1, t9)]))) fun t10 s1 =>
  bd2 (aAppend 1 1 (v.getD 1 .any) t10 s1) fun t11 s2 =>
  bd (aBin .shr (v.getD 0 .any) (I .u64 7)) fun t13 =>
  some (.normal [t13, t11], s2))
  (fun v3 s4 => some (.normal [(v3.getD 0 .any), (v3.getD 1 .any)], s4))
  (fun i5 v3 s4 => some (.exit i5 v3, s4))
  (fun r6 s4 => some (.ret r6, s4)))
  (some (.exit 0 [(v.getD 0 .any), (v.getD 1 .any)], s))

/- twinkeep/twinkeepref1.Put -/
def f43 (callf : CallF) (N : Nat) (a0 : T) (s : St) : Option (T × St) :=
  jn (jn (loops (f43_l1 callf N) N [a0, (Z .nils)] s)
  (fun v7 s8 => some (.normal [.any, .any], s8))
  (fun i9 v7 s8 => if i9 = 0 then some (.normal v7, s8) else some (.exit i9 v7, s8))
  (fun r10 s8 => some (.ret r10, s8)))
  (fun v11 s12 => bd (aConv .u8 (v11.getD 0 .any)) fun t16 =>
  bd2 (aNew s12 (nSlice 1 (aFill [.int .u8 0] [(0, 1, t16)]))) fun t17 s15 =>
  bd2 (aAppend 1 1 (v11.getD 1 .any) t17 s15) fun t18 s16 =>
  bd (aBytesStr t18 s16.get) fun t19 =>
  some (t19, s16))
  (fun i13 v11 s12 => none)
  (fun r14 s12 => some (r14, s12))

theorem f43_eq (callf : CallF) (N : Nat) (a0 : T) (s : St) : bodyC Tryz.prog callf N Tryz.f43 [a0] s = f43 callf N a0 s := by kernel_rfl

theorem f43_run (d : Nat) (a0 : T) (s : St) : R (d + 1) 43 [a0] s = f43 (R d) 8192 a0 s := (runQ_body rfl Tryz.func43 (by kernel_rfl)).trans (f43_eq ..)

/- twinkeep/twinkeepref1.Four -/
/- twinkeep/twinkeepref1.Of -/
def f45 (callf : CallF) (N : Nat) (a0 : T) (s : St) : Option (T × St) :=
  bd2 (callf 71 [(I .u32 1), a0] s) fun t4 s1 =>
  some (t4, s1)

/- twinkeep/twinkeepref1.More: a loop; 0: t1 b, 1: t5 n, 2: t6 i -/
/- twinkeep/twinkeepref1.More -/
end
end Go.Proofs.YtlhbidbdmdcdeaaGreatDoor


/-
  What functions that the laws reach compute, printed by a program of our own: each text is by definition the run of the code. No conditions.
-/
namespace Go.Proofs.YtlhbidbdmdcdeaaGreatDoor
open Go Go.Abs Go.Abs.F
set_option linter.unusedVariables false
noncomputable section
/- twinkeep/entry.id -/
def f50 (callf : CallF) (N : Nat) (a0 : T) (s : St) : Option (T × St) :=
  bd (aBin .geq a0 (I .i64 1)) fun t4 =>
  bd (gT (gd t4 true) (some a0)) fun t6 =>
  bd (gT (gd t4 true) (aBin .leq t6 (I .i64 1073741824))) fun t7 =>
  bd (aPick t4 t7 (B false)) fun t8 =>
  some (t8, s)

theorem f50_eq (callf : CallF) (N : Nat) (a0 : T) (s : St) : bodyC Tryz.prog callf N Tryz.f50 [a0] s = f50 callf N a0 s := by kernel_rfl

theorem f50_run (d : Nat) (a0 : T) (s : St) : R (d + 1) 50 [a0] s = f50 (R d) 8192 a0 s := (runQ_body rfl Tryz.func50 (by kernel_rfl)).trans (f50_eq ..)

/- twinkeep/entry.May -/
def f30 (callf : CallF) (N : Nat) (a0 : T) (s : St) : Option (T × St) :=
  bd2 (aNew s (nBox a0)) fun t1 s1 =>
  bd (aFieldAddr 1 t1) fun t6 =>
  bd (aLoad1 t6 s1.get) fun t7 =>
  bd (aBin .lss t7 (I .i64 0)) fun t8 =>
  bd (gT (gd t8 false) (aFieldAddr 1 t1)) fun t10 =>
  bd (gT (gd t8 false) (aLoad1 t10 s1.get)) fun t11 =>
  bd (gT (gd t8 false) (aBin .gtr t11 (I .i64 1073741824))) fun t12 =>
  bd (aPick t8 (B true) t12) fun t13 =>
  br t13 (some ((B false), s1))
  (bd (aFieldAddr 0 t1) fun t14 =>
  bd (aLoad1 t14 s1.get) fun t15 =>
  jn (bd (aBin .eql t15 (I .i64 1)) fun t17 =>
  br t17 (bd (aFieldAddr 7 t1) fun t18 =>
  bd (aLoad1 t18 s1.get) fun t19 =>
  bd (aBin .eql t19 (Z (.str []))) fun t20 =>
  bd (gT (gd t20 true) (aFieldAddr 2 t1)) fun t22 =>
  bd (gT (gd t20 true) (aLoad1 t22 s1.get)) fun t23 =>
  bd2 (gS (gd t20 true) s1 (callf 50 [t23] s1)) fun t24 s2 =>
  bd (aPick t20 t24 (B false)) fun t25 =>
  bd (gT (gd t25 true) (aFieldAddr 3 t1)) fun t27 =>
  bd (gT (gd t25 true) (aLoad1 t27 s2.get)) fun t28 =>
  bd (gT (gd t25 true) (aBin .geq t28 (I .i64 0))) fun t29 =>
  bd (aPick t25 t29 (B false)) fun t30 =>
  bd (gT (gd t30 true) (aFieldAddr 3 t1)) fun t32 =>
  bd (gT (gd t30 true) (aLoad1 t32 s2.get)) fun t33 =>
  bd (gT (gd t30 true) (aBin .lss t33 (I .i64 4))) fun t34 =>
  bd (aPick t30 t34 (B false)) fun t35 =>
  bd (gT (gd t35 true) (aFieldAddr 4 t1)) fun t37 =>
  bd (gT (gd t35 true) (aLoad1 t37 s2.get)) fun t38 =>
  bd (gT (gd t35 true) (aBin .geq t38 (I .i64 0))) fun t39 =>
  bd (aPick t35 t39 (B false)) fun t40 =>
  bd (gT (gd t40 true) (aFieldAddr 4 t1)) fun t42 =>
  bd (gT (gd t40 true) (aLoad1 t42 s2.get)) fun t43 =>
  bd (gT (gd t40 true) (aFieldAddr 5 t1)) fun t44 =>
  bd (gT (gd t40 true) (aLoad1 t44 s2.get)) fun t45 =>
  bd (gT (gd t40 true) (aBin .lss t43 t45)) fun t46 =>
  bd (aPick t40 t46 (B false)) fun t47 =>
  bd (gT (gd t47 true) (aFieldAddr 5 t1)) fun t49 =>
  bd (gT (gd t47 true) (aLoad1 t49 s2.get)) fun t50 =>
  bd (gT (gd t47 true) (aBin .leq t50 (I .i64 1099511627776))) fun t51 =>
  bd (aPick t47 t51 (B false)) fun t52 =>
  some (.ret t52, s2))
  (bd (aBin .eql t15 (I .i64 2)) fun t54 =>
  br t54 (bd (aFieldAddr 2 t1) fun t55 =>
  bd (aLoad1 t55 s1.get) fun t56 =>
  bd2 (callf 50 [t56] s1) fun t57 s3 =>
  bd (gT (gd t57 true) (aLoadN 8 t1 s3.get)) fun t59 =>
  bd (gT (gd t57 true) (aFieldAddr 1 t1)) fun t60 =>
  bd (gT (gd t57 true) (aLoad1 t60 s3.get)) fun t61 =>
  bd (gT (gd t57 true) (aFieldAddr 2 t1)) fun t62 =>
  bd (gT (gd t57 true) (aLoad1 t62 s3.get)) fun t63 =>
  bd (gT (gd t57 true) (asAggT (aFill [.int .i64 0, .int .i64 0, .int .i64 0, .int .i64 0, .int .i64 0, .int .i64 0, .int .u32 0, .str []] [(0, 1, (I .i64 2)), (1, 1, t61), (2, 1, t63)]))) fun t64 =>
  bd (gT (gd t57 true) (eqB (.a 8 [(0, .i), (1, .i), (2, .i), (3, .i), (4, .i), (5, .i), (6, .i), (7, .s)]) t59 t64)) fun t65 =>
  bd (aPick t57 t65 (B false)) fun t66 =>
  some (.ret t66, s3))
  (bd (aBin .eql t15 (I .i64 3)) fun t68 =>
  br t68 (bd (aFieldAddr 1 t1) fun t69 =>
  bd (aLoad1 t69 s1.get) fun t70 =>
  bd (aBin .gtr t70 (I .i64 0)) fun t71 =>
  bd (gT (gd t71 true) (aLoadN 8 t1 s1.get)) fun t73 =>
  bd (gT (gd t71 true) (aFieldAddr 1 t1)) fun t74 =>
  bd (gT (gd t71 true) (aLoad1 t74 s1.get)) fun t75 =>
  bd (gT (gd t71 true) (asAggT (aFill [.int .i64 0, .int .i64 0, .int .i64 0, .int .i64 0, .int .i64 0, .int .i64 0, .int .u32 0, .str []] [(0, 1, (I .i64 3)), (1, 1, t75)]))) fun t76 =>
  bd (gT (gd t71 true) (eqB (.a 8 [(0, .i), (1, .i), (2, .i), (3, .i), (4, .i), (5, .i), (6, .i), (7, .s)]) t73 t76)) fun t77 =>
  bd (aPick t71 t77 (B false)) fun t78 =>
  some (.ret t78, s1))
  (bd (aBin .eql t15 (I .i64 4)) fun t80 =>
  br t80 (bd (aFieldAddr 7 t1) fun t81 =>
  bd (aLoad1 t81 s1.get) fun t82 =>
  bd (aLenStr t82) fun t83 =>
  bd (aBin .gtr t83 (I .i64 300)) fun t84 =>
  bd (gT (gd t84 false) (aLoadN 8 t1 s1.get)) fun t86 =>
  bd (gT (gd t84 false) (aFieldAddr 1 t1)) fun t87 =>
  bd (gT (gd t84 false) (aLoad1 t87 s1.get)) fun t88 =>
  bd (gT (gd t84 false) (aFieldAddr 7 t1)) fun t89 =>
  bd (gT (gd t84 false) (aLoad1 t89 s1.get)) fun t90 =>
  bd (gT (gd t84 false) (asAggT (aFill [.int .i64 0, .int .i64 0, .int .i64 0, .int .i64 0, .int .i64 0, .int .i64 0, .int .u32 0, .str []] [(0, 1, (I .i64 4)), (1, 1, t88), (7, 1, t90)]))) fun t91 =>
  bd (gT (gd t84 false) (neB (.a 8 [(0, .i), (1, .i), (2, .i), (3, .i), (4, .i), (5, .i), (6, .i), (7, .s)]) t86 t91)) fun t92 =>
  bd (aPick t84 (B true) t92) fun t93 =>
  br t93 (some (.ret (B false), s1))
  (bd (aFieldAddr 7 t1) fun t95 =>
  bd (aLoad1 t95 s1.get) fun t96 =>
  bd2 (callf 51 [t96] s1) fun t97 s4 =>
  bd (aExtract t97 0) fun t98 =>
  bd (aExtract t97 1) fun t99 =>
  bd (aExtract t97 2) fun t100 =>
  bd2 (aNew s4 (nCells [.int .i64 0, .int .i64 0, .int .i64 0, .int .i64 0, .int .i64 0, .int .i64 0])) fun t3 s5 =>
  bd2 (aStore 6 t3 t98 s5) fun _ s6 =>
  bd (aBin .eql t99 (I .i64 0)) fun t102 =>
  some (.ret t102, s6)))
  (some (.normal [], s1))))))
  (fun v7 s8 => some ((B false), s8))
  (fun i9 v7 s8 => none)
  (fun r10 s8 => some (r10, s8)))

theorem f30_eq (callf : CallF) (N : Nat) (a0 : T) (s : St) : bodyC Tryz.prog callf N Tryz.f30 [a0] s = f30 callf N a0 s := by kernel_rfl

theorem f30_run (d : Nat) (a0 : T) (s : St) : R (d + 1) 30 [a0] s = f30 (R d) 8192 a0 s := (runQ_body rfl Tryz.func30 (by kernel_rfl)).trans (f30_eq ..)

/- twinkeep/entry.Put: a loop; 0: t1 e, 1: t4 b, 2: t53 , 3: t54 , 4: t55  -/
def f31_l1 (callf : CallF) (N : Nat) (v : List T) (s : St) : Option (JO × St) :=
  bd (aBin .lss (v.getD 4 .any) (v.getD 3 .any)) fun t56 =>
  br t56 (jn (bd (aIndexSl 1 (v.getD 2 .any) (v.getD 4 .any)) fun t57 =>
  bd (aLoad1 t57 s.get) fun t58 =>
  bd2 (callf 52 [t58] s) fun t61 s26 =>
  bd2 (aAppend 1 1 (v.getD 1 .any) t61 s26) fun t62 s27 =>
  some (.normal [(v.getD 0 .any), t62, (v.getD 2 .any), (v.getD 3 .any), (v.getD 4 .any)], s27))
  (fun v28 s29 => bd (aBin .add (v28.getD 4 .any) (I .i64 1)) fun t63 =>
  some (.normal [(v28.getD 0 .any), (v28.getD 1 .any), (v28.getD 2 .any), (v28.getD 3 .any), t63], s29))
  (fun i30 v28 s29 => some (.exit i30 v28, s29))
  (fun r31 s29 => some (.ret r31, s29)))
  (some (.exit 1 [(v.getD 0 .any), (v.getD 1 .any)], s))

/- twinkeep/entry.Put -/
def f31 (callf : CallF) (N : Nat) (a0 : T) (s : St) : Option (T × St) :=
  bd2 (aNew s (nBox a0)) fun t1 s1 =>
  bd (aLoadN 8 t1 s1.get) fun t8 =>
  bd2 (callf 30 [t8] s1) fun t9 s2 =>
  bd (aUn .not t9) fun t10 =>
  br t10 (bd (retT [(Z .nils), (I .i64 1)]) fun r3 =>
  some (r3, s2))
  (bd (aFieldAddr 0 t1) fun t11 =>
  bd (aLoad1 t11 s2.get) fun t12 =>
  bd (aConv .u8 t12) fun t13 =>
  bd2 (aNew s2 (nSlice 1 (aFill [.int .u8 0] [(0, 1, t13)]))) fun t14 s4 =>
  bd (aFieldAddr 1 t1) fun t15 =>
  bd (aLoad1 t15 s4.get) fun t16 =>
  bd (aConv .u64 t16) fun t17 =>
  bd2 (callf 52 [t17] s4) fun t18 s5 =>
  bd2 (aAppend 1 1 t14 t18 s5) fun t19 s6 =>
  ck ((decide (aLoad1 t11 (overlay 8 s5.get (ovO 3 s2.size (nSlice 1 (aFill [.int .u8 0] [(0, 1, t13)])) [])) = aLoad1 t11 s2.get) && true) && true) (bd (aFieldAddr 0 t1) fun t20 =>
  bd (aLoad1 t20 s6.get) fun t21 =>
  jn (bd (aBin .eql t21 (I .i64 1)) fun t23 =>
  jn (br t23 (bd (aFieldAddr 2 t1) fun t24 =>
  bd (aLoad1 t24 s6.get) fun t25 =>
  bd (aConv .u64 t25) fun t26 =>
  bd (aFieldAddr 3 t1) fun t27 =>
  bd (aLoad1 t27 s6.get) fun t28 =>
  bd (aConv .u64 t28) fun t29 =>
  bd (aFieldAddr 4 t1) fun t30 =>
  bd (aLoad1 t30 s6.get) fun t31 =>
  bd (aConv .u64 t31) fun t32 =>
  bd (aFieldAddr 5 t1) fun t33 =>
  bd (aLoad1 t33 s6.get) fun t34 =>
  bd (aConv .u64 t34) fun t35 =>
  bd (aFieldAddr 6 t1) fun t36 =>
  bd (aLoad1 t36 s6.get) fun t37 =>
  bd (aConv .u64 t37) fun t38 =>
  bd2 (aNew s6 (nSlice 5 (aFill [.int .u64 0, .int .u64 0, .int .u64 0, .int .u64 0, .int .u64 0] [(0, 1, t26), (1, 1, t29), (2, 1, t32), (3, 1, t35), (4, 1, t38)]))) fun t39 s7 =>
  some (.normal [t1, t19, t39], s7))
  (bd (aBin .eql t21 (I .i64 2)) fun t41 =>
  jn (br t41 (bd (aFieldAddr 2 t1) fun t42 =>
  bd (aLoad1 t42 s6.get) fun t43 =>
  bd (aConv .u64 t43) fun t44 =>
  bd2 (aNew s6 (nSlice 1 (aFill [.int .u64 0] [(0, 1, t44)]))) fun t45 s8 =>
  some (.normal [t1, t19, t45], s8))
  (bd (aBin .eql t21 (I .i64 4)) fun t47 =>
  jn (br t47 (bd (aFieldAddr 7 t1) fun t48 =>
  bd (aLoad1 t48 s6.get) fun t49 =>
  bd (aLenStr t49) fun t50 =>
  bd (aConv .u64 t50) fun t51 =>
  bd2 (aNew s6 (nSlice 1 (aFill [.int .u64 0] [(0, 1, t51)]))) fun t52 s9 =>
  some (.normal [t1, t19, t52], s9))
  (some (.normal [t1, t19, (Z .nils)], s6)))
  (fun v10 s11 => some (.normal [(v10.getD 0 .any), (v10.getD 1 .any), (v10.getD 2 .any)], s11))
  (fun i12 v10 s11 => some (.exit i12 v10, s11))
  (fun r13 s11 => some (.ret r13, s11))))
  (fun v14 s15 => some (.normal [(v14.getD 0 .any), (v14.getD 1 .any), (v14.getD 2 .any)], s15))
  (fun i16 v14 s15 => some (.exit i16 v14, s15))
  (fun r17 s15 => some (.ret r17, s15))))
  (fun v18 s19 => some (.normal [(v18.getD 0 .any), (v18.getD 1 .any), (v18.getD 2 .any)], s19))
  (fun i20 v18 s19 => if i20 = 0 then some (.normal v18, s19) else some (.exit i20 v18, s19))
  (fun r21 s19 => some (.ret r21, s19)))
  (fun v22 s23 => bd (aLenSl (v22.getD 2 .any)) fun t54 =>
  jn (jn (loops (f31_l1 callf N) N [(v22.getD 0 .any), (v22.getD 1 .any), (v22.getD 2 .any), t54, (I .i64 0)] s23)
  (fun v32 s33 => some (.normal [.any, .any], s33))
  (fun i34 v32 s33 => if i34 = 1 then some (.normal v32, s33) else some (.exit i34 v32, s33))
  (fun r35 s33 => some (.ret r35, s33)))
  (fun v36 s37 => bd (aFieldAddr 7 (v36.getD 0 .any)) fun t65 =>
  bd (aLoad1 t65 s37.get) fun t66 =>
  bd2 (aAppend 1 1 (v36.getD 1 .any) t66 s37) fun t67 s40 =>
  bd (retT [t67, (I .i64 0)]) fun r41 =>
  some (r41, s40))
  (fun i38 v36 s37 => none)
  (fun r39 s37 => some (r39, s37)))
  (fun i24 v22 s23 => none)
  (fun r25 s23 => some (r25, s23))))

theorem f31_eq (callf : CallF) (N : Nat) (a0 : T) (s : St) : bodyC Tryz.prog callf N Tryz.f31 [a0] s = f31 callf N a0 s := by kernel_rfl

theorem f31_run (d : Nat) (a0 : T) (s : St) : R (d + 1) 31 [a0] s = f31 (R d) 8192 a0 s := (runQ_body rfl Tryz.func31 (by kernel_rfl)).trans (f31_eq ..)

/- twinkeep/entry.Get -/
def f33 (callf : CallF) (N : Nat) (a0 : T) (s : St) : Option (T × St) :=
  bd2 (aNew s (nBox a0)) fun t1 s1 =>
  bd2 (aNew s1 (nCells [.int .i64 0, .int .i64 0, .int .i64 0, .int .i64 0, .int .i64 0, .int .i64 0, .int .u32 0, .str []])) fun t2 s2 =>
  bd (aLoad1 t1 s2.get) fun t11 =>
  bd (aLenSl t11) fun t12 =>
  bd (aBin .eql t12 (I .i64 0)) fun t13 =>
  br t13 (bd (asAggT (aFill [.int .i64 0, .int .i64 0, .int .i64 0, .int .i64 0, .int .i64 0, .int .i64 0, .int .u32 0, .str []] [])) fun t14 =>
  bd2 (aStore 8 t2 t14 s2) fun _ s3 =>
  bd (rC (aLoadN 8 t2 s3.get) (rT (I .i64 2) (some []))) fun l4 => bd (retT l4) fun r5 =>
  some (r5, s3))
  (bd2 (aNew s2 (nCells [.int .i64 0])) fun t4 s6 =>
  bd2 (aNew s6 (nCells [.bool false])) fun t5 s7 =>
  bd2 (aStore 1 t4 (I .i64 1) s7) fun _ s8 =>
  bd2 (aStore 1 t5 (B false) s8) fun _ s9 =>
  bd (aClo 53 [t1, t4, t5] []) fun t15 =>
  bd (aLoad1 t1 s9.get) fun t16 =>
  bd (aIndexSl 1 t16 (I .i64 0)) fun t17 =>
  bd (aLoad1 t17 s9.get) fun t18 =>
  bd (aConv .i64 t18) fun t19 =>
  bd2 (dyn Tryz.prog callf t15 [(I .u64 1073741824)] s9) fun t21 s10 =>
  bd (asAggT (aFill [.int .i64 0, .int .i64 0, .int .i64 0, .int .i64 0, .int .i64 0, .int .i64 0, .int .u32 0, .str []] [(0, 1, t19), (1, 1, t21)])) fun t22 =>
  bd2 (aNew s10 (nCells [.int .i64 0, .int .i64 0, .int .i64 0, .int .i64 0, .int .i64 0, .int .i64 0, .int .u32 0, .str []])) fun t7 s11 =>
  bd2 (aStore 8 t7 t22 s11) fun _ s12 =>
  ck ((decide (aLoad1 t1 (updM (s10.get) s10.size (.cells true [.int .i64 0, .int .i64 0, .int .i64 0, .int .i64 0, .int .i64 0, .int .i64 0, .int .u32 0, .str []])) = aLoad1 t1 s9.get) && true) && ((decide (aLoad1 t17 (updM (s10.get) s10.size (.cells true [.int .i64 0, .int .i64 0, .int .i64 0, .int .i64 0, .int .i64 0, .int .i64 0, .int .u32 0, .str []])) = aLoad1 t17 s9.get) && true) && true)) (bd (aFieldAddr 0 t7) fun t23 =>
  bd (aLoad1 t23 s12.get) fun t24 =>
  jn (bd (aBin .eql t24 (I .i64 1)) fun t26 =>
  jn (br t26 (bd2 (dyn Tryz.prog callf t15 [(I .u64 1073741824)] s12) fun t28 s13 =>
  bd2 (dyn Tryz.prog callf t15 [(I .u64 4)] s13) fun t30 s14 =>
  bd (aFieldAddr 2 t7) fun t31 =>
  bd2 (aStore 1 t31 t28 s14) fun _ s15 =>
  bd (aFieldAddr 3 t7) fun t32 =>
  bd2 (aStore 1 t32 t30 s15) fun _ s16 =>
  bd2 (dyn Tryz.prog callf t15 [(I .u64 1099511627776)] s16) fun t34 s17 =>
  bd2 (dyn Tryz.prog callf t15 [(I .u64 1099511627776)] s17) fun t36 s18 =>
  bd (aFieldAddr 4 t7) fun t37 =>
  bd2 (aStore 1 t37 t34 s18) fun _ s19 =>
  bd (aFieldAddr 5 t7) fun t38 =>
  bd2 (aStore 1 t38 t36 s19) fun _ s20 =>
  bd2 (dyn Tryz.prog callf t15 [(I .u64 4294967295)] s20) fun t40 s21 =>
  bd (aConv .u32 t40) fun t41 =>
  bd (aFieldAddr 6 t7) fun t42 =>
  bd2 (aStore 1 t42 t41 s21) fun _ s22 =>
  some (.normal [t1, t2, t5, t7], s22))
  (bd (aBin .eql t24 (I .i64 2)) fun t44 =>
  jn (br t44 (bd2 (dyn Tryz.prog callf t15 [(I .u64 1073741824)] s12) fun t46 s23 =>
  bd (aFieldAddr 2 t7) fun t47 =>
  bd2 (aStore 1 t47 t46 s23) fun _ s24 =>
  some (.normal [t1, t2, t5, t7], s24))
  (bd (aBin .eql t24 (I .i64 4)) fun t49 =>
  jn (br t49 (bd2 (dyn Tryz.prog callf t15 [(I .u64 300)] s12) fun t51 s25 =>
  bd (aLoad1 t5 s25.get) fun t52 =>
  bd (gT (gd t52 false) (some t51)) fun t54 =>
  bd (gT (gd t52 false) (aLoad1 t1 s25.get)) fun t55 =>
  bd (gT (gd t52 false) (aLenSl t55)) fun t56 =>
  bd (gT (gd t52 false) (aLoad1 t4 s25.get)) fun t57 =>
  bd (gT (gd t52 false) (aBin .sub t56 t57)) fun t58 =>
  bd (gT (gd t52 false) (aBin .gtr t54 t58)) fun t59 =>
  bd (aPick t52 (B true) t59) fun t60 =>
  br t60 (bd (asAggT (aFill [.int .i64 0, .int .i64 0, .int .i64 0, .int .i64 0, .int .i64 0, .int .i64 0, .int .u32 0, .str []] [])) fun t61 =>
  bd2 (aStore 8 t2 t61 s25) fun _ s26 =>
  bd (rC (aLoadN 8 t2 s26.get) (rT (I .i64 2) (some []))) fun l27 => bd (retT l27) fun r28 =>
  some (.ret r28, s26))
  (bd (aLoad1 t1 s25.get) fun t62 =>
  bd (aLoad1 t4 s25.get) fun t63 =>
  bd (aLoad1 t4 s25.get) fun t64 =>
  bd (aBin .add t64 t51) fun t66 =>
  bd (aPieceSl 1 t62 (some t63) (some t66) none) fun t67 =>
  bd (aBytesStr t67 s25.get) fun t68 =>
  bd (aFieldAddr 7 t7) fun t69 =>
  bd2 (aStore 1 t69 t68 s25) fun _ s29 =>
  some (.normal [t1, t2, t5, t7], s29)))
  (some (.normal [t1, t2, t5, t7], s12)))
  (fun v30 s31 => some (.normal [(v30.getD 0 .any), (v30.getD 1 .any), (v30.getD 2 .any), (v30.getD 3 .any)], s31))
  (fun i32 v30 s31 => some (.exit i32 v30, s31))
  (fun r33 s31 => some (.ret r33, s31))))
  (fun v34 s35 => some (.normal [(v34.getD 0 .any), (v34.getD 1 .any), (v34.getD 2 .any), (v34.getD 3 .any)], s35))
  (fun i36 v34 s35 => some (.exit i36 v34, s35))
  (fun r37 s35 => some (.ret r37, s35))))
  (fun v38 s39 => some (.normal [(v38.getD 0 .any), (v38.getD 1 .any), (v38.getD 2 .any), (v38.getD 3 .any)], s39))
  (fun i40 v38 s39 => if i40 = 0 then some (.normal v38, s39) else some (.exit i40 v38, s39))
  (fun r41 s39 => some (.ret r41, s39)))
  (fun v42 s43 => bd (aLoadN 8 (v42.getD 3 .any) s43.get) fun t71 =>
  bd2 (callf 31 [t71] s43) fun t72 s46 =>
  bd (aExtract t72 0) fun t73 =>
  bd (aExtract t72 1) fun t74 =>
  bd (aLoad1 (v42.getD 2 .any) s46.get) fun t75 =>
  bd (gT (gd t75 false) (some t74)) fun t77 =>
  bd (gT (gd t75 false) (aBin .neq t77 (I .i64 0))) fun t78 =>
  bd (aPick t75 (B true) t78) fun t79 =>
  bd (gT (gd t79 false) (some t73)) fun t81 =>
  bd (gT (gd t79 false) (aLoad1 (v42.getD 0 .any) s46.get)) fun t82 =>
  bd2 (gS (gd t79 false) s46 (callf 55 [t81, t82] s46)) fun t83 s47 =>
  bd (gT (gd t79 false) (aUn .not t83)) fun t84 =>
  bd (aPick t79 (B true) t84) fun t85 =>
  br t85 (bd (asAggT (aFill [.int .i64 0, .int .i64 0, .int .i64 0, .int .i64 0, .int .i64 0, .int .i64 0, .int .u32 0, .str []] [])) fun t86 =>
  bd2 (aStore 8 (v42.getD 1 .any) t86 s47) fun _ s48 =>
  bd (rC (aLoadN 8 (v42.getD 1 .any) s48.get) (rT (I .i64 2) (some []))) fun l49 => bd (retT l49) fun r50 =>
  some (r50, s48))
  (bd (aLoadN 8 (v42.getD 3 .any) s47.get) fun t87 =>
  bd2 (aStore 8 (v42.getD 1 .any) t87 s47) fun _ s51 =>
  bd (rC (aLoadN 8 (v42.getD 1 .any) s51.get) (rT (I .i64 0) (some []))) fun l52 => bd (retT l52) fun r53 =>
  some (r53, s51)))
  (fun i44 v42 s43 => none)
  (fun r45 s43 => some (r45, s43))))

theorem f33_eq (callf : CallF) (N : Nat) (a0 : T) (s : St) : bodyC Tryz.prog callf N Tryz.f33 [a0] s = f33 callf N a0 s := by kernel_rfl

theorem f33_run (d : Nat) (a0 : T) (s : St) : R (d + 1) 33 [a0] s = f33 (R d) 8192 a0 s := (runQ_body rfl Tryz.func33 (by kernel_rfl)).trans (f33_eq ..)

/- twinkeep/entry.Get$1 -/
def f53 (callf : CallF) (N : Nat) (a0 : T) (a1 : T) (a2 : T) (a3 : T) (s : St) : Option (T × St) :=
  bd (aLoad1 a1 s.get) fun t10 =>
  bd (aLoad1 a2 s.get) fun t11 =>
  bd2 (callf 54 [t10, t11] s) fun t12 s1 =>
  bd (aExtract t12 0) fun t13 =>
  bd (aExtract t12 1) fun t14 =>
  bd (aExtract t12 2) fun t15 =>
  bd (aLoad1 a3 s1.get) fun t16 =>
  bd (gT (gd t16 false) (some t15)) fun t18 =>
  bd (gT (gd t16 false) (aBin .neq t18 (I .i64 0))) fun t19 =>
  bd (aPick t16 (B true) t19) fun t20 =>
  bd (gT (gd t20 false) (some t13)) fun t22 =>
  bd (gT (gd t20 false) (some a0)) fun t23 =>
  bd (gT (gd t20 false) (aBin .gtr t22 t23)) fun t24 =>
  bd (aPick t20 (B true) t24) fun t25 =>
  bd2 (aStore 1 a3 t25 s1) fun _ s2 =>
  bd2 (aStore 1 a2 t14 s2) fun _ s3 =>
  bd (aFold aMin2 t13 [a0]) fun t29 =>
  bd (aConv .i64 t29) fun t30 =>
  some (t30, s3)

theorem f53_eq (callf : CallF) (N : Nat) (a0 : T) (a1 : T) (a2 : T) (a3 : T) (s : St) : bodyC Tryz.prog callf N Tryz.f53 [a0, a1, a2, a3] s = f53 callf N a0 a1 a2 a3 s := by kernel_rfl

theorem f53_run (d : Nat) (a0 : T) (a1 : T) (a2 : T) (a3 : T) (s : St) : R (d + 1) 53 [a0, a1, a2, a3] s = f53 (R d) 8192 a0 a1 a2 a3 s := (runQ_body rfl Tryz.func53 (by kernel_rfl)).trans (f53_eq ..)

/- twinkeep/entry.Same -/
def f39 (callf : CallF) (N : Nat) (a0 : T) (a1 : T) (s : St) : Option (T × St) :=
  bd2 (aNew s (nBox a0)) fun t2 s1 =>
  bd2 (aNew s1 (nBox a1)) fun t3 s2 =>
  bd (aLoadN 8 t2 s2.get) fun t5 =>
  bd (aLoadN 8 t3 s2.get) fun t6 =>
  bd (eqB (.a 8 [(0, .i), (1, .i), (2, .i), (3, .i), (4, .i), (5, .i), (6, .i), (7, .s)]) t5 t6) fun t7 =>
  some (t7, s2)

theorem f39_eq (callf : CallF) (N : Nat) (a0 : T) (a1 : T) (s : St) : bodyC Tryz.prog callf N Tryz.f39 [a0, a1] s = f39 callf N a0 a1 s := by kernel_rfl

theorem f39_run (d : Nat) (a0 : T) (a1 : T) (s : St) : R (d + 1) 39 [a0, a1] s = f39 (R d) 8192 a0 a1 s := (runQ_body rfl Tryz.func39 (by kernel_rfl)).trans (f39_eq ..)

/- twinkeep/entry.SameInfo -/
def f36 (callf : CallF) (N : Nat) (a0 : T) (a1 : T) (s : St) : Option (T × St) :=
  bd2 (callf 65 [a0, a1] s) fun t7 s1 =>
  some (t7, s1)

theorem f36_eq (callf : CallF) (N : Nat) (a0 : T) (a1 : T) (s : St) : bodyC Tryz.prog callf N Tryz.f36 [a0, a1] s = f36 callf N a0 a1 s := by kernel_rfl

theorem f36_run (d : Nat) (a0 : T) (a1 : T) (s : St) : R (d + 1) 36 [a0, a1] s = f36 (R d) 8192 a0 a1 s := (runQ_body rfl Tryz.func36 (by kernel_rfl)).trans (f36_eq ..)

/- twinkeep/entry.Fold: a loop; 0: t3 , 1: t6 s, 2: t11 , 3: t12 , 4: t13  -/
def f28_l1 (callf : CallF) (N : Nat) (v : List T) (s : St) : Option (JO × St) :=
  bd (aBin .lss (v.getD 4 .any) (v.getD 3 .any)) fun t14 =>
  br t14 (jn (bd (aIndexSl 8 (v.getD 2 .any) (v.getD 4 .any)) fun t15 =>
  bd (aLoadN 8 t15 s.get) fun t16 =>
  bd2 (aNew s (nCells [.int .i64 0, .int .i64 0, .int .i64 0, .int .i64 0, .int .i64 0, .int .i64 0, .int .u32 0, .str []])) fun t8 s3 =>
  bd2 (aStore 8 t8 t16 s3) fun _ s4 =>
  bd (aLoadN 8 t8 s4.get) fun t18 =>
  bd2 (callf 47 [(v.getD 1 .any), t18] s4) fun t19 s5 =>
  bd (aBin .neq t19 (I .i64 0)) fun t21 =>
  br t21 (bd (asAggT (aFill [.int .i64 0, .int .i64 0, .int .i64 0, .int .i64 0, .int .i64 0, .int .i64 0] [])) fun t22 =>
  bd2 (aStore 6 (v.getD 0 .any) t22 s5) fun _ s6 =>
  bd (rT (Z .nils) (rC (aLoadN 6 (v.getD 0 .any) s6.get) (rT (I .i64 0) (rT t19 (some []))))) fun l7 => bd (retT l7) fun r8 =>
  some (.ret r8, s6))
  (some (.normal [(v.getD 0 .any), (v.getD 1 .any), (v.getD 2 .any), (v.getD 3 .any), (v.getD 4 .any)], s5)))
  (fun v9 s10 => bd (aBin .add (v9.getD 4 .any) (I .i64 1)) fun t24 =>
  some (.normal [(v9.getD 0 .any), (v9.getD 1 .any), (v9.getD 2 .any), (v9.getD 3 .any), t24], s10))
  (fun i11 v9 s10 => some (.exit i11 v9, s10))
  (fun r12 s10 => some (.ret r12, s10)))
  (some (.exit 0 [(v.getD 0 .any), (v.getD 1 .any)], s))

/- twinkeep/entry.Fold -/
def f28 (callf : CallF) (N : Nat) (a0 : T) (s : St) : Option (T × St) :=
  bd2 (aNew s (nCells [.int .i64 0, .int .i64 0, .int .i64 0, .int .i64 0, .int .i64 0, .int .i64 0])) fun t3 s1 =>
  bd2 (callf 46 [] s1) fun t10 s2 =>
  bd (aLenSl a0) fun t12 =>
  jn (jn (loops (f28_l1 callf N) N [t3, t10, a0, t12, (I .i64 0)] s2)
  (fun v13 s14 => some (.normal [.any, .any], s14))
  (fun i15 v13 s14 => if i15 = 0 then some (.normal v13, s14) else some (.exit i15 v13, s14))
  (fun r16 s14 => some (.ret r16, s14)))
  (fun v17 s18 => bd2 (callf 48 [(v17.getD 1 .any)] s18) fun t26 s21 =>
  bd (aNil (v17.getD 1 .any)) fun t28 =>
  bd (aFieldAddr 2 t28) fun t29 =>
  bd (aLoadN 6 t29 s21.get) fun t30 =>
  bd (aNil (v17.getD 1 .any)) fun t32 =>
  bd (aFieldAddr 8 t32) fun t33 =>
  bd (aLoad1 t33 s21.get) fun t34 =>
  bd2 (aStore 6 (v17.getD 0 .any) t30 s21) fun _ s22 =>
  ck ((decide (aLoadN 6 t29 s18.get = aLoadN 6 t29 s21.get) && true) && ((decide (aLoad1 t33 s18.get = aLoad1 t33 s21.get) && (decide (aLoad1 t33 s22.get = aLoad1 t33 s21.get) && true)) && true)) (bd (rT t26 (rC (aLoadN 6 (v17.getD 0 .any) s22.get) (rT t34 (rT (I .i64 0) (some []))))) fun l23 => bd (retT l23) fun r24 =>
  some (r24, s22)))
  (fun i19 v17 s18 => none)
  (fun r20 s18 => some (r20, s18))

theorem f28_eq (callf : CallF) (N : Nat) (a0 : T) (s : St) : bodyC Tryz.prog callf N Tryz.f28 [a0] s = f28 callf N a0 s := by kernel_rfl

theorem f28_run (d : Nat) (a0 : T) (s : St) : R (d + 1) 28 [a0] s = f28 (R d) 8192 a0 s := (runQ_body rfl Tryz.func28 (by kernel_rfl)).trans (f28_eq ..)

/- twinkeep/entry.Begin -/
def f46 (callf : CallF) (N : Nat) (s : St) : Option (T × St) :=
  bd2 (aNew s (nMap)) fun t1 s1 =>
  bd2 (callf 49 [] s1) fun t2 s2 =>
  bd (asAggT (aFill [.nils, .nilm, .int .i64 0, .int .i64 0, .int .i64 0, .int .i64 0, .int .i64 0, .int .i64 0, .int .i64 0, .int .i64 0] [(1, 1, t1), (2, 6, t2)])) fun t3 =>
  bd2 (aNew s2 (nBox t3)) fun t4 s3 =>
  some (t4, s3)

theorem f46_eq (callf : CallF) (N : Nat) (s : St) : bodyC Tryz.prog callf N Tryz.f46 [] s = f46 callf N s := by kernel_rfl

theorem f46_run (d : Nat) (s : St) : R (d + 1) 46 [] s = f46 (R d) 8192 s := (runQ_body rfl Tryz.func46 (by kernel_rfl)).trans (f46_eq ..)

/- (twinkeep/entry.State).at -/
def f73 (callf : CallF) (N : Nat) (a0 : T) (a1 : T) (s : St) : Option (T × St) :=
  bd (aNil a0) fun t7 =>
  bd (aFieldAddr 0 t7) fun t8 =>
  bd (aLoad1 t8 s.get) fun t9 =>
  bd2 (callf 87 [t9, a1, (Z (.clo 88 []))] s) fun t11 s1 =>
  bd (aExtract t11 0) fun t12 =>
  bd (aExtract t11 1) fun t13 =>
  bd (retT [t12, t13]) fun r2 =>
  some (r2, s1)

theorem f73_eq (callf : CallF) (N : Nat) (a0 : T) (a1 : T) (s : St) : bodyC Tryz.prog callf N Tryz.f73 [a0, a1] s = f73 callf N a0 a1 s := by kernel_rfl

theorem f73_run (d : Nat) (a0 : T) (a1 : T) (s : St) : R (d + 1) 73 [a0, a1] s = f73 (R d) 8192 a0 a1 s := (runQ_body rfl Tryz.func73 (by kernel_rfl)).trans (f73_eq ..)

/- (twinkeep/entry.State).Asks -/
def f72 (callf : CallF) (N : Nat) (a0 : T) (a1 : T) (s : St) : Option (T × St) :=
  bd2 (aNew s (nBox a1)) fun t3 s1 =>
  bd (aFieldAddr 2 t3) fun t9 =>
  bd (aLoad1 t9 s1.get) fun t10 =>
  bd2 (callf 73 [a0, t10] s1) fun t11 s2 =>
  bd (aExtract t11 0) fun t12 =>
  bd (aExtract t11 1) fun t13 =>
  jn (bd (aLoadN 8 t3 s2.get) fun t15 =>
  bd2 (callf 30 [t15] s2) fun t16 s3 =>
  bd (aUn .not t16) fun t17 =>
  br t17 (some (.ret (I .i64 1), s3))
  (bd (aFieldAddr 0 t3) fun t19 =>
  bd (aLoad1 t19 s3.get) fun t20 =>
  bd (aBin .eql t20 (I .i64 1)) fun t21 =>
  bd (gT (gd t21 true) (some a0)) fun t23 =>
  bd (gT (gd t21 true) (aNil t23)) fun t24 =>
  bd (gT (gd t21 true) (aFieldAddr 1 t24)) fun t25 =>
  bd (gT (gd t21 true) (aLoad1 t25 s3.get)) fun t26 =>
  bd (gT (gd t21 true) (aFieldAddr 2 t3)) fun t27 =>
  bd (gT (gd t21 true) (aLoad1 t27 s3.get)) fun t28 =>
  bd (gT (gd t21 true) (Go.Abs.F.look .i false (.s (.bool false)) t26 t28 s3.get)) fun t29 =>
  bd (aPick t21 t29 (B false)) fun t30 =>
  br t30 (some (.ret (I .i64 7), s3))
  (bd (aFieldAddr 0 t3) fun t32 =>
  bd (aLoad1 t32 s3.get) fun t33 =>
  bd (aBin .eql t33 (I .i64 2)) fun t34 =>
  bd (gT (gd t34 true) (some t13)) fun t36 =>
  bd (gT (gd t34 true) (aUn .not t36)) fun t37 =>
  bd (aPick t34 t37 (B false)) fun t38 =>
  br t38 (some (.ret (I .i64 9), s3))
  (bd (aFieldAddr 1 t3) fun t40 =>
  bd (aLoad1 t40 s3.get) fun t41 =>
  bd (aNil a0) fun t43 =>
  bd (aFieldAddr 9 t43) fun t44 =>
  bd (aLoad1 t44 s3.get) fun t45 =>
  bd (aBin .lss t41 t45) fun t46 =>
  br t46 (some (.ret (I .i64 12), s3))
  (some (.normal [], s3))))))
  (fun v4 s5 => some ((I .i64 0), s5))
  (fun i6 v4 s5 => none)
  (fun r7 s5 => some (r7, s5))

theorem f72_eq (callf : CallF) (N : Nat) (a0 : T) (a1 : T) (s : St) : bodyC Tryz.prog callf N Tryz.f72 [a0, a1] s = f72 callf N a0 a1 s := by kernel_rfl

theorem f72_run (d : Nat) (a0 : T) (a1 : T) (s : St) : R (d + 1) 72 [a0, a1] s = f72 (R d) 8192 a0 a1 s := (runQ_body rfl Tryz.func72 (by kernel_rfl)).trans (f72_eq ..)

/- (twinkeep/entry.State).Next -/
def f47 (callf : CallF) (N : Nat) (a0 : T) (a1 : T) (s : St) : Option (T × St) :=
  bd2 (aNew s (nBox a1)) fun t3 s1 =>
  bd (aLoadN 8 t3 s1.get) fun t9 =>
  bd2 (callf 72 [a0, t9] s1) fun t10 s2 =>
  bd (aBin .neq t10 (I .i64 0)) fun t12 =>
  br t12 (some (t10, s2))
  (bd (aFieldAddr 2 t3) fun t16 =>
  bd (aLoad1 t16 s2.get) fun t17 =>
  bd2 (callf 73 [a0, t17] s2) fun t18 s3 =>
  bd (aExtract t18 0) fun t19 =>
  bd (aExtract t18 1) fun t20 =>
  bd (aFieldAddr 0 t3) fun t21 =>
  bd (aLoad1 t21 s3.get) fun t22 =>
  jn (bd (aBin .eql t22 (I .i64 1)) fun t24 =>
  jn (br t24 (bd (aNil a0) fun t26 =>
  bd (aFieldAddr 1 t26) fun t27 =>
  bd (aLoad1 t27 s3.get) fun t28 =>
  bd (aFieldAddr 2 t3) fun t29 =>
  bd (aLoad1 t29 s3.get) fun t30 =>
  bd2 (mset .i t28 t30 (B true) s3) fun _ s4 =>
  bd (aNil a0) fun t33 =>
  bd (aFieldAddr 0 t33) fun t34 =>
  bd (aLoad1 t34 s4.get) fun t35 =>
  bd (aFieldAddr 2 t3) fun t37 =>
  bd (aLoad1 t37 s4.get) fun t38 =>
  bd (aFieldAddr 3 t3) fun t39 =>
  bd (aLoad1 t39 s4.get) fun t40 =>
  bd (aFieldAddr 4 t3) fun t41 =>
  bd (aLoad1 t41 s4.get) fun t42 =>
  bd (aFieldAddr 5 t3) fun t43 =>
  bd (aLoad1 t43 s4.get) fun t44 =>
  bd (aFieldAddr 6 t3) fun t45 =>
  bd (aLoad1 t45 s4.get) fun t46 =>
  bd (asAggT (aFill [.int .i64 0, .int .i64 0, .int .i64 0, .int .i64 0, .int .u32 0] [(0, 1, t38), (1, 1, t40), (2, 1, t42), (3, 1, t44), (4, 1, t46)])) fun t47 =>
  bd2 (aNew s4 (nSlice 1 (aFill [.int .i64 0, .int .i64 0, .int .i64 0, .int .i64 0, .int .u32 0] [(0, 5, t47)]))) fun t48 s5 =>
  bd2 (callf 74 [t35, t19, t48] s5) fun t49 s6 =>
  bd (aNil a0) fun t50 =>
  bd (aFieldAddr 0 t50) fun t51 =>
  bd2 (aStore 1 t51 t49 s6) fun _ s7 =>
  some (.normal [a0, t3], s7))
  (bd (aBin .eql t22 (I .i64 2)) fun t53 =>
  jn (br t53 (bd (aNil a0) fun t56 =>
  bd (aFieldAddr 0 t56) fun t57 =>
  bd (aLoad1 t57 s3.get) fun t58 =>
  bd (aBin .add t19 (I .i64 1)) fun t61 =>
  bd2 (callf 75 [t58, t19, t61] s3) fun t62 s8 =>
  bd (aNil a0) fun t63 =>
  bd (aFieldAddr 0 t63) fun t64 =>
  bd2 (aStore 1 t64 t62 s8) fun _ s9 =>
  some (.normal [a0, t3], s9))
  (bd (aBin .eql t22 (I .i64 3)) fun t66 =>
  jn (br t66 (bd (aFieldAddr 1 t3) fun t68 =>
  bd (aLoad1 t68 s3.get) fun t69 =>
  bd (aNil a0) fun t70 =>
  bd (aFieldAddr 8 t70) fun t71 =>
  bd2 (aStore 1 t71 t69 s3) fun _ s10 =>
  some (.normal [a0, t3], s10))
  (bd (aBin .eql t22 (I .i64 4)) fun t73 =>
  jn (br t73 (bd (aFieldAddr 7 t3) fun t76 =>
  bd (aLoad1 t76 s3.get) fun t77 =>
  bd2 (callf 51 [t77] s3) fun t78 s11 =>
  bd (aExtract t78 0) fun t79 =>
  bd (aExtract t78 1) fun t80 =>
  bd (aExtract t78 2) fun t81 =>
  bd (aNil a0) fun t82 =>
  bd (aFieldAddr 2 t82) fun t83 =>
  bd2 (aStore 6 t83 t79 s11) fun _ s12 =>
  some (.normal [a0, t3], s12))
  (some (.normal [a0, t3], s3)))
  (fun v13 s14 => some (.normal [(v13.getD 0 .any), (v13.getD 1 .any)], s14))
  (fun i15 v13 s14 => some (.exit i15 v13, s14))
  (fun r16 s14 => some (.ret r16, s14))))
  (fun v17 s18 => some (.normal [(v17.getD 0 .any), (v17.getD 1 .any)], s18))
  (fun i19 v17 s18 => some (.exit i19 v17, s18))
  (fun r20 s18 => some (.ret r20, s18))))
  (fun v21 s22 => some (.normal [(v21.getD 0 .any), (v21.getD 1 .any)], s22))
  (fun i23 v21 s22 => some (.exit i23 v21, s22))
  (fun r24 s22 => some (.ret r24, s22))))
  (fun v25 s26 => some (.normal [(v25.getD 0 .any), (v25.getD 1 .any)], s26))
  (fun i27 v25 s26 => if i27 = 0 then some (.normal v25, s26) else some (.exit i27 v25, s26))
  (fun r28 s26 => some (.ret r28, s26)))
  (fun v29 s30 => bd (aFieldAddr 1 (v29.getD 1 .any)) fun t85 =>
  bd (aLoad1 t85 s30.get) fun t86 =>
  bd (aNil (v29.getD 0 .any)) fun t87 =>
  bd (aFieldAddr 9 t87) fun t88 =>
  bd2 (aStore 1 t88 t86 s30) fun _ s33 =>
  some ((I .i64 0), s33))
  (fun i31 v29 s30 => none)
  (fun r32 s30 => some (r32, s30)))

theorem f47_eq (callf : CallF) (N : Nat) (a0 : T) (a1 : T) (s : St) : bodyC Tryz.prog callf N Tryz.f47 [a0, a1] s = f47 callf N a0 a1 s := by kernel_rfl

theorem f47_run (d : Nat) (a0 : T) (a1 : T) (s : St) : R (d + 1) 47 [a0, a1] s = f47 (R d) 8192 a0 a1 s := (runQ_body rfl Tryz.func47 (by kernel_rfl)).trans (f47_eq ..)

/- (twinkeep/entry.State).Infos -/
def f48 (callf : CallF) (N : Nat) (a0 : T) (s : St) : Option (T × St) :=
  bd (aNil a0) fun t4 =>
  bd (aFieldAddr 0 t4) fun t5 =>
  bd (aLoad1 t5 s.get) fun t6 =>
  bd2 (callf 76 [t6] s) fun t7 s1 =>
  some (t7, s1)

theorem f48_eq (callf : CallF) (N : Nat) (a0 : T) (s : St) : bodyC Tryz.prog callf N Tryz.f48 [a0] s = f48 callf N a0 s := by kernel_rfl

theorem f48_run (d : Nat) (a0 : T) (s : St) : R (d + 1) 48 [a0] s = f48 (R d) 8192 a0 s := (runQ_body rfl Tryz.func48 (by kernel_rfl)).trans (f48_eq ..)

/- (twinkeep/entry.State).at$1 -/
def f88 (callf : CallF) (N : Nat) (a0 : T) (a1 : T) (s : St) : Option (T × St) :=
  bd2 (aNew s (nBox a0)) fun t2 s1 =>
  bd (aFieldAddr 0 t2) fun t5 =>
  bd (aLoad1 t5 s1.get) fun t6 =>
  bd (aBin .sub t6 a1) fun t8 =>
  some (t8, s1)

theorem f88_eq (callf : CallF) (N : Nat) (a0 : T) (a1 : T) (s : St) : bodyC Tryz.prog callf N Tryz.f88 [a0, a1] s = f88 callf N a0 a1 s := by kernel_rfl

theorem f88_run (d : Nat) (a0 : T) (a1 : T) (s : St) : R (d + 1) 88 [a0, a1] s = f88 (R d) 8192 a0 a1 s := (runQ_body rfl Tryz.func88 (by kernel_rfl)).trans (f88_eq ..)

end
end Go.Proofs.YtlhbidbdmdcdeaaGreatDoor


/-
  What functions that the laws reach compute, printed by a program of our own: each text is by definition the run of the code. No conditions.
-/
namespace Go.Proofs.YtlhbidbdmdcdeaaGreatDoor
open Go Go.Abs Go.Abs.F
set_option linter.unusedVariables false
noncomputable section
/- slices.Equal[[]twinkeep/api.Info,twinkeep/api.Info]: a loop; 0: t0 s1, 1: t1 s2, 2: t12 , 3: t13  -/
def f65_l1 (callf : CallF) (N : Nat) (v : List T) (s : St) : Option (JO × St) :=
  bd (aBin .lss (v.getD 3 .any) (v.getD 2 .any)) fun t14 =>
  br t14 (jn (bd (aIndexSl 5 (v.getD 0 .any) (v.getD 3 .any)) fun t18 =>
  bd (aLoadN 5 t18 s.get) fun t19 =>
  bd (aIndexSl 5 (v.getD 1 .any) (v.getD 3 .any)) fun t22 =>
  bd (aLoadN 5 t22 s.get) fun t23 =>
  bd (neB (.a 5 [(0, .i), (1, .i), (2, .i), (3, .i), (4, .i)]) t19 t23) fun t24 =>
  br t24 (some (.ret (B false), s))
  (some (.normal [(v.getD 0 .any), (v.getD 1 .any), (v.getD 2 .any), (v.getD 3 .any)], s)))
  (fun v1 s2 => bd (aBin .add (v1.getD 3 .any) (I .i64 1)) fun t25 =>
  some (.normal [(v1.getD 0 .any), (v1.getD 1 .any), (v1.getD 2 .any), t25], s2))
  (fun i3 v1 s2 => some (.exit i3 v1, s2))
  (fun r4 s2 => some (.ret r4, s2)))
  (some (.exit 0 [], s))

/- slices.Equal[[]twinkeep/api.Info,twinkeep/api.Info] -/
def f65 (callf : CallF) (N : Nat) (a0 : T) (a1 : T) (s : St) : Option (T × St) :=
  bd (aLenSl a0) fun t7 =>
  bd (aLenSl a1) fun t9 =>
  bd (aBin .neq t7 t9) fun t10 =>
  br t10 (some ((B false), s))
  (bd (aLenSl a0) fun t12 =>
  jn (jn (loops (f65_l1 callf N) N [a0, a1, t12, (I .i64 0)] s)
  (fun v5 s6 => some (.normal [], s6))
  (fun i7 v5 s6 => if i7 = 0 then some (.normal v5, s6) else some (.exit i7 v5, s6))
  (fun r8 s6 => some (.ret r8, s6)))
  (fun v9 s10 => some ((B true), s10))
  (fun i11 v9 s10 => none)
  (fun r12 s10 => some (r12, s10)))

theorem f65_eq (callf : CallF) (N : Nat) (a0 : T) (a1 : T) (s : St) : bodyC Tryz.prog callf N Tryz.f65 [a0, a1] s = f65 callf N a0 a1 s := by kernel_rfl

theorem f65_run (d : Nat) (a0 : T) (a1 : T) (s : St) : R (d + 1) 65 [a0, a1] s = f65 (R d) 8192 a0 a1 s := (runQ_body rfl Tryz.func65 (by kernel_rfl)).trans (f65_eq ..)

/- slices.Clone[[]twinkeep/api.Info,twinkeep/api.Info] -/
def f76 (callf : CallF) (N : Nat) (a0 : T) (s : St) : Option (T × St) :=
  bd (eqB .l a0 (Z .nils)) fun t4 =>
  br t4 (some ((Z .nils), s))
  (bd2 (aNew s (nSlice 0 (aFill [] []))) fun t5 s1 =>
  bd2 (aAppend 5 40 t5 a0 s1) fun t7 s2 =>
  some (t7, s2))

theorem f76_eq (callf : CallF) (N : Nat) (a0 : T) (s : St) : bodyC Tryz.prog callf N Tryz.f76 [a0] s = f76 callf N a0 s := by kernel_rfl

theorem f76_run (d : Nat) (a0 : T) (s : St) : R (d + 1) 76 [a0] s = f76 (R d) 8192 a0 s := (runQ_body rfl Tryz.func76 (by kernel_rfl)).trans (f76_eq ..)

/- slices.BinarySearchFunc[[]twinkeep/api.Info,twinkeep/api.Info,int]: a loop; 0: t0 x, 1: t1 target, 2: t2 cmp, 3: t8 n, 4: t9 i, 5: t10 j -/
def f87_l1 (callf : CallF) (N : Nat) (v : List T) (s : St) : Option (JO × St) :=
  bd (aBin .lss (v.getD 4 .any) (v.getD 5 .any)) fun t17 =>
  br t17 (jn (bd (aBin .add (v.getD 4 .any) (v.getD 5 .any)) fun t20 =>
  bd (aConv .u64 t20) fun t21 =>
  bd (aBin .shr t21 (I .u64 1)) fun t22 =>
  bd (aConv .i64 t22) fun t23 =>
  bd (aIndexSl 5 (v.getD 0 .any) t23) fun t27 =>
  bd (aLoadN 5 t27 s.get) fun t28 =>
  bd2 (dyn Tryz.prog callf (v.getD 2 .any) [t28, (v.getD 1 .any)] s) fun t30 s1 =>
  bd (aBin .lss t30 (I .i64 0)) fun t31 =>
  jn (br t31 (bd (aBin .add t23 (I .i64 1)) fun t33 =>
  some (.normal [(v.getD 0 .any), (v.getD 1 .any), (v.getD 2 .any), (v.getD 3 .any), t33, (v.getD 5 .any)], s1))
  (some (.normal [(v.getD 0 .any), (v.getD 1 .any), (v.getD 2 .any), (v.getD 3 .any), (v.getD 4 .any), t23], s1)))
  (fun v2 s3 => some (.normal [(v2.getD 0 .any), (v2.getD 1 .any), (v2.getD 2 .any), (v2.getD 3 .any), (v2.getD 4 .any), (v2.getD 5 .any)], s3))
  (fun i4 v2 s3 => if i4 = 1 then some (.normal v2, s3) else some (.exit i4 v2, s3))
  (fun r5 s3 => some (.ret r5, s3)))
  (fun v6 s7 => some (.normal [(v6.getD 0 .any), (v6.getD 1 .any), (v6.getD 2 .any), (v6.getD 3 .any), (v6.getD 4 .any), (v6.getD 5 .any)], s7))
  (fun i8 v6 s7 => some (.exit i8 v6, s7))
  (fun r9 s7 => some (.ret r9, s7)))
  (some (.exit 0 [(v.getD 0 .any), (v.getD 1 .any), (v.getD 2 .any), (v.getD 3 .any), (v.getD 4 .any)], s))

/- slices.BinarySearchFunc[[]twinkeep/api.Info,twinkeep/api.Info,int] -/
def f87 (callf : CallF) (N : Nat) (a0 : T) (a1 : T) (a2 : T) (s : St) : Option (T × St) :=
  bd (aLenSl a0) fun t13 =>
  jn (jn (loops (f87_l1 callf N) N [a0, a1, a2, t13, (I .i64 0), t13] s)
  (fun v10 s11 => some (.normal [.any, .any, .any, .any, .any], s11))
  (fun i12 v10 s11 => if i12 = 0 then some (.normal v10, s11) else some (.exit i12 v10, s11))
  (fun r13 s11 => some (.ret r13, s11)))
  (fun v14 s15 => bd (aBin .lss (v14.getD 4 .any) (v14.getD 3 .any)) fun t38 =>
  bd (gT (gd t38 true) (some (v14.getD 2 .any))) fun t40 =>
  bd (gT (gd t38 true) (some (v14.getD 0 .any))) fun t41 =>
  bd (gT (gd t38 true) (some (v14.getD 4 .any))) fun t42 =>
  bd (gT (gd t38 true) (aIndexSl 5 t41 t42)) fun t43 =>
  bd (gT (gd t38 true) (aLoadN 5 t43 s15.get)) fun t44 =>
  bd (gT (gd t38 true) (some (v14.getD 1 .any))) fun t45 =>
  bd2 (gS (gd t38 true) s15 (dyn Tryz.prog callf t40 [t44, t45] s15)) fun t46 s18 =>
  bd (gT (gd t38 true) (aBin .eql t46 (I .i64 0))) fun t47 =>
  bd (aPick t38 t47 (B false)) fun t48 =>
  bd (retT [(v14.getD 4 .any), t48]) fun r19 =>
  some (r19, s18))
  (fun i16 v14 s15 => none)
  (fun r17 s15 => some (r17, s15))

theorem f87_eq (callf : CallF) (N : Nat) (a0 : T) (a1 : T) (a2 : T) (s : St) : bodyC Tryz.prog callf N Tryz.f87 [a0, a1, a2] s = f87 callf N a0 a1 a2 s := by kernel_rfl

theorem f87_run (d : Nat) (a0 : T) (a1 : T) (a2 : T) (s : St) : R (d + 1) 87 [a0, a1, a2] s = f87 (R d) 8192 a0 a1 a2 s := (runQ_body rfl Tryz.func87 (by kernel_rfl)).trans (f87_eq ..)

/- slices.Insert[[]twinkeep/api.Info,twinkeep/api.Info] -/
def f74 (callf : CallF) (N : Nat) (a0 : T) (a1 : T) (a2 : T) (s : St) : Option (T × St) :=
  bd (aPieceSl 5 a0 (some a1) none none) fun t12 =>
  bd (aLenSl a2) fun t14 =>
  bd (aBin .eql t14 (I .i64 0)) fun t16 =>
  br t16 (some (a0, s))
  (bd (aLenSl a0) fun t19 =>
  bd (aBin .eql a1 t19) fun t22 =>
  br t22 (bd2 (aAppend 5 40 a0 a2 s) fun t25 s1 =>
  some (t25, s1))
  (bd (aBin .add t19 t14) fun t28 =>
  bd (aCap a0) fun t30 =>
  bd (aBin .gtr t28 t30) fun t31 =>
  br t31 (bd (aPieceSl 5 a0 none (some a1) none) fun t34 =>
  bd (aBin .add t19 t14) fun t37 =>
  bd (aBin .sub t37 a1) fun t39 =>
  bd2 (aGrow 5 40 [.int .i64 0, .int .i64 0, .int .i64 0, .int .i64 0, .int .u32 0] t34 t39 s) fun t40 s2 =>
  bd (aPieceSl 5 t40 (some a1) none none) fun t43 =>
  bd2 (aCopy 5 t43 a2 s2) fun t45 s3 =>
  bd (aBin .add a1 t14) fun t49 =>
  bd (aPieceSl 5 t40 (some t49) none none) fun t50 =>
  bd (aPieceSl 5 a0 (some a1) none none) fun t53 =>
  bd2 (aCopy 5 t50 t53 s3) fun t54 s4 =>
  some (t40, s4))
  (bd (aBin .add t19 t14) fun t59 =>
  bd (aPieceSl 5 a0 none (some t59) none) fun t60 =>
  bd (aBin .add a1 t14) fun t65 =>
  bd (aPieceSl 5 t60 (some t65) none none) fun t66 =>
  bd2 (xOver Tryz.prog 89 [a2, t66] s) fun t67 s5 =>
  bd (aUn .not t67) fun t68 =>
  br t68 (bd (aBin .add a1 t14) fun t72 =>
  bd (aPieceSl 5 t60 (some t72) none none) fun t73 =>
  bd (aPieceSl 5 t60 (some a1) none none) fun t76 =>
  bd2 (aCopy 5 t73 t76 s5) fun t77 s6 =>
  bd (aPieceSl 5 t60 (some a1) none none) fun t80 =>
  bd2 (aCopy 5 t80 a2 s6) fun t82 s7 =>
  some (t60, s7))
  (bd (aPieceSl 5 t60 (some t19) none none) fun t86 =>
  bd2 (aCopy 5 t86 a2 s5) fun t88 s8 =>
  bd (aPieceSl 5 t60 (some a1) none none) fun t91 =>
  bd2 (callf 90 [t91, t14] s8) fun t93 s9 =>
  some (t60, s9)))))

theorem f74_eq (callf : CallF) (N : Nat) (a0 : T) (a1 : T) (a2 : T) (s : St) : bodyC Tryz.prog callf N Tryz.f74 [a0, a1, a2] s = f74 callf N a0 a1 a2 s := by kernel_rfl

/- slices.Delete[[]twinkeep/api.Info,twinkeep/api.Info] -/
def f75 (callf : CallF) (N : Nat) (a0 : T) (a1 : T) (a2 : T) (s : St) : Option (T × St) :=
  bd (aLenSl a0) fun t12 =>
  bd (aPieceSl 5 a0 (some a1) (some a2) (some t12)) fun t13 =>
  bd (aBin .eql a1 a2) fun t16 =>
  br t16 (some (a0, s))
  (bd (aLenSl a0) fun t19 =>
  bd (aPieceSl 5 a0 none (some a1) none) fun t22 =>
  bd (aPieceSl 5 a0 (some a2) none none) fun t25 =>
  bd2 (aAppend 5 40 t22 t25 s) fun t26 s1 =>
  bd (aLenSl t26) fun t29 =>
  bd (aPieceSl 5 t26 (some t29) (some t19) none) fun t31 =>
  bd2 (aClear 5 [.int .i64 0, .int .i64 0, .int .i64 0, .int .i64 0, .int .u32 0] t31 s1) fun _ s2 =>
  some (t26, s2))

theorem f75_eq (callf : CallF) (N : Nat) (a0 : T) (a1 : T) (a2 : T) (s : St) : bodyC Tryz.prog callf N Tryz.f75 [a0, a1, a2] s = f75 callf N a0 a1 a2 s := by kernel_rfl

end
end Go.Proofs.YtlhbidbdmdcdeaaGreatDoor


/-
  What functions that the laws reach compute, printed by a program of our own: each text is by definition the run of the code. No conditions.
-/
namespace Go.Proofs.YtlhbidbdmdcdeaaGreatDoor
open Go Go.Abs Go.Abs.F
set_option linter.unusedVariables false
noncomputable section
/- twinkeep/log.Wrap -/
/- twinkeep/log.Open -/
/- twinkeep/log.Frame -/
/- twinkeep/log.All: a loop; 0: t16 , 1: t17 , 2: t18  -/
/- twinkeep/log.All: a loop; 0: t8 out, 1: t31 , 2: t32 , 3: t33  -/
/- twinkeep/log.All -/
/- twinkeep/log.Read: a loop; 0: t0 b, 1: t4 l, 2: t5 at -/
/- twinkeep/log.Read -/
/- twinkeep/log.Meet: a loop; 0: t0 a, 1: t1 b, 2: t5 n -/
/- twinkeep/log.Meet -/
/- twinkeep/log.Front -/
end
end Go.Proofs.YtlhbidbdmdcdeaaGreatDoor


/-
  What functions that the laws reach compute, printed by a program of our own: each text is by definition the run of the code. No conditions.
-/
namespace Go.Proofs.YtlhbidbdmdcdeaaGreatDoor
open Go Go.Abs Go.Abs.F
set_option linter.unusedVariables false
noncomputable section
/- twinkeep/twinkeeplaw10.LogMany: a loop; 0: t3 k, 1: t4 e, 2: t5 l, 3: t6 b, 4: t7 f, 5: t8 g, 6: t9 i -/
def f3_l1 (callf : CallF) (N : Nat) (v : List T) (s : St) : Option (JO × St) :=
  bd (aBin .lss (v.getD 6 .any) (v.getD 0 .any)) fun t28 =>
  br t28 (jn (bd (aLoadN 8 (v.getD 1 .any) s.get) fun t32 =>
  bd2 (aNew s (nSlice 1 (aFill [.int .i64 0, .int .i64 0, .int .i64 0, .int .i64 0, .int .i64 0, .int .i64 0, .int .u32 0, .str []] [(0, 8, t32)]))) fun t33 s4 =>
  bd2 (aAppend 8 72 (v.getD 2 .any) t33 s4) fun t34 s5 =>
  bd2 (aAppend 1 1 (v.getD 3 .any) (v.getD 4 .any) s5) fun t37 s6 =>
  some (.normal [(v.getD 0 .any), (v.getD 1 .any), t34, t37, (v.getD 4 .any), (v.getD 5 .any), (v.getD 6 .any)], s6))
  (fun v7 s8 => bd (aBin .add (v7.getD 6 .any) (I .i64 1)) fun t30 =>
  some (.normal [(v7.getD 0 .any), (v7.getD 1 .any), (v7.getD 2 .any), (v7.getD 3 .any), (v7.getD 4 .any), (v7.getD 5 .any), t30], s8))
  (fun i9 v7 s8 => some (.exit i9 v7, s8))
  (fun r10 s8 => some (.ret r10, s8)))
  (some (.exit 0 [(v.getD 0 .any), (v.getD 2 .any), (v.getD 3 .any), (v.getD 4 .any), (v.getD 5 .any)], s))

/- twinkeep/twinkeeplaw10.LogMany -/
def f3 (callf : CallF) (N : Nat) (a0 : T) (s : St) : Option (T × St) :=
  bd (aConv .u64 a0) fun t16 =>
  bd (aBin .rem t16 (I .u64 7)) fun t17 =>
  bd (aConv .i64 t17) fun t18 =>
  bd (aBin .add (I .i64 1997) t18) fun t19 =>
  bd (asAggT (aFill [.int .i64 0, .int .i64 0, .int .i64 0, .int .i64 0, .int .i64 0, .int .i64 0, .int .u32 0, .str []] [(0, 1, (I .i64 3)), (1, 1, (I .i64 1))])) fun t20 =>
  bd2 (aNew s (nCells [.int .i64 0, .int .i64 0, .int .i64 0, .int .i64 0, .int .i64 0, .int .i64 0, .int .u32 0, .str []])) fun t4 s1 =>
  bd2 (aStore 8 t4 t20 s1) fun _ s2 =>
  bd (aLoadN 8 t4 s2.get) fun t22 =>
  bd2 (callf 14 [t22] s2) fun t23 s3 =>
  bd (aExtract t23 0) fun t24 =>
  bd (aExtract t23 1) fun t25 =>
  jn (jn (loops (f3_l1 callf N) N [t19, t4, (Z .nils), (Z .nils), t24, t25, (I .i64 0)] s3)
  (fun v11 s12 => some (.normal [.any, .any, .any, .any, .any], s12))
  (fun i13 v11 s12 => if i13 = 0 then some (.normal v11, s12) else some (.exit i13 v11, s12))
  (fun r14 s12 => some (.ret r14, s12)))
  (fun v15 s16 => bd2 (callf 15 [(v15.getD 1 .any)] s16) fun t40 s19 =>
  bd (aExtract t40 0) fun t41 =>
  bd (aExtract t40 1) fun t42 =>
  bd2 (callf 16 [(v15.getD 2 .any)] s19) fun t45 s20 =>
  bd (aExtract t45 0) fun t46 =>
  bd (aExtract t45 1) fun t47 =>
  bd (aFold aMin2 (v15.getD 0 .any) [(I .i64 2000)]) fun t49 =>
  bd (aBin .neq (v15.getD 4 .any) (I .i64 0)) fun t51 =>
  bd (gT (gd t51 false) (some t46)) fun t53 =>
  bd (gT (gd t51 false) (aLenSl t53)) fun t54 =>
  bd (gT (gd t51 false) (some t49)) fun t55 =>
  bd (gT (gd t51 false) (aBin .neq t54 t55)) fun t56 =>
  bd (aPick t51 (B true) t56) fun t57 =>
  bd (gT (gd t57 false) (some t47)) fun t59 =>
  bd (gT (gd t57 false) (some t49)) fun t60 =>
  bd (gT (gd t57 false) (some (v15.getD 3 .any))) fun t61 =>
  bd (gT (gd t57 false) (aLenSl t61)) fun t62 =>
  bd (gT (gd t57 false) (aBin .mul t60 t62)) fun t63 =>
  bd (gT (gd t57 false) (aBin .neq t59 t63)) fun t64 =>
  bd (aPick t57 (B true) t64) fun t65 =>
  br t65 (some ((B false), s20))
  (bd2 (callf 17 [] s20) fun t66 s21 =>
  bd (gT (gd t66 true) (some t42)) fun t68 =>
  bd (gT (gd t66 true) (aBin .eql t68 (I .i64 0))) fun t69 =>
  bd (gT (gd t66 true) (some (v15.getD 0 .any))) fun t70 =>
  bd (gT (gd t66 true) (aBin .leq t70 (I .i64 2000))) fun t71 =>
  bd (gT (gd t66 true) (eqB .b t69 t71)) fun t72 =>
  bd (aPick t66 t72 (B false)) fun t73 =>
  bd (gT (gd t73 true) (some t42)) fun t75 =>
  bd (gT (gd t73 true) (aBin .eql t75 (I .i64 0))) fun t76 =>
  bd (gT (gd t73 true) (some t76)) fun t77 =>
  bd (gT (gd t77 true) (some t41)) fun t78 =>
  bd (gT (gd t77 true) (aBytesStr t78 s21.get)) fun t79 =>
  bd (gT (gd t77 true) (some (v15.getD 2 .any))) fun t80 =>
  bd (gT (gd t77 true) (aBytesStr t80 s21.get)) fun t81 =>
  bd (gT (gd t77 true) (aBin .eql t79 t81)) fun t82 =>
  bd (gT (gd t73 true) (aPick t77 t82 (B false))) fun t83 =>
  bd (gT (gd t73 true) (some t83)) fun t84 =>
  bd (gT (gd t84 false) (some t42)) fun t85 =>
  bd (gT (gd t84 false) (aBin .eql t85 (I .i64 8))) fun t86 =>
  bd (gT (gd t84 false) (some t86)) fun t87 =>
  bd (gT (gd t87 true) (some t41)) fun t88 =>
  bd (gT (gd t87 true) (aLenSl t88)) fun t89 =>
  bd (gT (gd t87 true) (aBin .eql t89 (I .i64 0))) fun t90 =>
  bd (gT (gd t84 false) (aPick t87 t90 (B false))) fun t91 =>
  bd (gT (gd t73 true) (aPick t84 (B true) t91)) fun t92 =>
  bd (aPick t73 t92 (B false)) fun t93 =>
  some (t93, s21)))
  (fun i17 v15 s16 => none)
  (fun r18 s16 => some (r18, s16))

/- twinkeep/twinkeeplaw10.LogTorn -/
def f5 (callf : CallF) (N : Nat) (a0 : T) (a1 : T) (s : St) : Option (T × St) :=
  bd2 (callf 27 [a0] s) fun t16 s1 =>
  bd2 (callf 15 [t16] s1) fun t19 s2 =>
  bd (aExtract t19 0) fun t20 =>
  bd (aExtract t19 1) fun t21 =>
  bd (aBin .neq t21 (I .i64 0)) fun t23 =>
  br t23 (some ((B false), s2))
  (bd (aConv .u64 a1) fun t25 =>
  bd (aLenSl t20) fun t27 =>
  bd (aBin .add t27 (I .i64 1)) fun t28 =>
  bd (aConv .u64 t28) fun t29 =>
  bd (aBin .rem t25 t29) fun t30 =>
  bd (aConv .i64 t30) fun t31 =>
  bd (aPieceSl 1 t20 none (some t31) none) fun t35 =>
  bd2 (callf 16 [t35] s2) fun t36 s3 =>
  bd (aExtract t36 0) fun t37 =>
  bd (aExtract t36 1) fun t38 =>
  bd (aBin .gtr t38 t31) fun t41 =>
  bd (gT (gd t41 false) (some t37)) fun t43 =>
  bd (gT (gd t41 false) (aLenSl t43)) fun t44 =>
  bd (gT (gd t41 false) (some t16)) fun t45 =>
  bd (gT (gd t41 false) (aLenSl t45)) fun t46 =>
  bd (gT (gd t41 false) (aBin .gtr t44 t46)) fun t47 =>
  bd (aPick t41 (B true) t47) fun t48 =>
  bd (gT (gd t48 false) (some t37)) fun t50 =>
  bd (gT (gd t48 false) (some t16)) fun t51 =>
  bd2 (gS (gd t48 false) s3 (callf 23 [t50, t51] s3)) fun t52 s4 =>
  bd (gT (gd t48 false) (aUn .not t52)) fun t53 =>
  bd (aPick t48 (B true) t53) fun t54 =>
  br t54 (some ((B false), s4))
  (bd (aLenSl t37) fun t58 =>
  bd (aPieceSl 8 t16 none (some t58) none) fun t59 =>
  bd2 (callf 15 [t59] s4) fun t60 s5 =>
  bd (aExtract t60 0) fun t61 =>
  bd (aExtract t60 1) fun t62 =>
  bd (aBin .neq t62 (I .i64 0)) fun t64 =>
  bd (gT (gd t64 false) (some t61)) fun t66 =>
  bd (gT (gd t64 false) (aLenSl t66)) fun t67 =>
  bd (gT (gd t64 false) (some t38)) fun t68 =>
  bd (gT (gd t64 false) (aBin .neq t67 t68)) fun t69 =>
  bd (aPick t64 (B true) t69) fun t70 =>
  br t70 (some ((B false), s5))
  (bd (aLenSl t37) fun t72 =>
  bd (aLenSl t16) fun t74 =>
  bd (aBin .lss t72 t74) fun t75 =>
  br t75 (bd (aLenSl t37) fun t79 =>
  bd (aIndexSl 8 t16 t79) fun t80 =>
  bd (aLoadN 8 t80 s5.get) fun t81 =>
  bd2 (callf 14 [t81] s5) fun t82 s6 =>
  bd (aExtract t82 0) fun t83 =>
  bd (aExtract t82 1) fun t84 =>
  bd2 (callf 17 [] s6) fun t85 s7 =>
  bd (gT (gd t85 true) (some t38)) fun t87 =>
  bd (gT (gd t85 true) (some t83)) fun t88 =>
  bd (gT (gd t85 true) (aLenSl t88)) fun t89 =>
  bd (gT (gd t85 true) (aBin .add t87 t89)) fun t90 =>
  bd (gT (gd t85 true) (some t31)) fun t91 =>
  bd (gT (gd t85 true) (aBin .gtr t90 t91)) fun t92 =>
  bd (aPick t85 t92 (B false)) fun t93 =>
  some (t93, s7))
  (bd2 (callf 17 [] s5) fun t94 s8 =>
  bd (gT (gd t94 true) (some t38)) fun t96 =>
  bd (gT (gd t94 true) (some t20)) fun t97 =>
  bd (gT (gd t94 true) (aLenSl t97)) fun t98 =>
  bd (gT (gd t94 true) (aBin .eql t96 t98)) fun t99 =>
  bd (aPick t94 t99 (B false)) fun t100 =>
  some (t100, s8)))))

/- twinkeep/twinkeeplaw10.LogTurned -/
def f6 (callf : CallF) (N : Nat) (a0 : T) (a1 : T) (a2 : T) (a3 : T) (s : St) : Option (T × St) :=
  bd2 (callf 27 [a0] s) fun t22 s1 =>
  bd (aLenSl t22) fun t24 =>
  bd (aBin .eql t24 (I .i64 0)) fun t25 =>
  bd (gT (gd t25 false) (some a3)) fun t27 =>
  bd (gT (gd t25 false) (aBin .eql t27 (I .u8 0))) fun t28 =>
  bd (aPick t25 (B true) t28) fun t29 =>
  br t29 (bd2 (callf 17 [] s1) fun t30 s2 =>
  some (t30, s2))
  (bd (aConv .u64 a1) fun t32 =>
  bd (aLenSl t22) fun t34 =>
  bd (aConv .u64 t34) fun t35 =>
  bd (aBin .rem t32 t35) fun t36 =>
  bd (aConv .i64 t36) fun t37 =>
  bd (aPieceSl 8 t22 none (some t37) none) fun t41 =>
  bd2 (callf 15 [t41] s1) fun t42 s3 =>
  bd (aExtract t42 0) fun t43 =>
  bd (aExtract t42 1) fun t44 =>
  bd (aIndexSl 8 t22 t37) fun t48 =>
  bd (aLoadN 8 t48 s3.get) fun t49 =>
  bd2 (callf 14 [t49] s3) fun t50 s4 =>
  bd (aExtract t50 0) fun t51 =>
  bd (aExtract t50 1) fun t52 =>
  bd2 (callf 15 [t22] s4) fun t55 s5 =>
  bd (aExtract t55 0) fun t56 =>
  bd (aExtract t55 1) fun t57 =>
  bd (aBin .neq t44 (I .i64 0)) fun t59 =>
  bd (gT (gd t59 false) (some t52)) fun t61 =>
  bd (gT (gd t59 false) (aBin .neq t61 (I .i64 0))) fun t62 =>
  bd (aPick t59 (B true) t62) fun t63 =>
  bd (gT (gd t63 false) (some t57)) fun t65 =>
  bd (gT (gd t63 false) (aBin .neq t65 (I .i64 0))) fun t66 =>
  bd (aPick t63 (B true) t66) fun t67 =>
  bd (gT (gd t67 false) (some t51)) fun t69 =>
  bd (gT (gd t67 false) (aLenSl t69)) fun t70 =>
  bd (gT (gd t67 false) (aBin .lss t70 (I .i64 6))) fun t71 =>
  bd (aPick t67 (B true) t71) fun t72 =>
  br t72 (some ((B false), s5))
  (bd (aIndexSl 1 t51 (I .i64 0)) fun t74 =>
  bd (aLoad1 t74 s5.get) fun t75 =>
  bd (aBin .geq t75 (I .u8 128)) fun t76 =>
  jn (br t76 (some (.normal [a2, a3, t22, t37, t43, t51, t56, (I .i64 2)], s5))
  (some (.normal [a2, a3, t22, t37, t43, t51, t56, (I .i64 1)], s5)))
  (fun v6 s7 => bd (aLenSl (v6.getD 4 .any)) fun t78 =>
  bd (aBin .add t78 (v6.getD 7 .any)) fun t80 =>
  bd (aConv .u64 (v6.getD 0 .any)) fun t82 =>
  bd (aLenSl (v6.getD 5 .any)) fun t84 =>
  bd (aBin .sub t84 (v6.getD 7 .any)) fun t86 =>
  bd (aConv .u64 t86) fun t87 =>
  bd (aBin .rem t82 t87) fun t88 =>
  bd (aConv .i64 t88) fun t89 =>
  bd (aBin .add t80 t89) fun t90 =>
  bd (aLenSl (v6.getD 6 .any)) fun t93 =>
  bd (aBin .geq t90 t93) fun t94 =>
  br t94 (some ((B false), s7))
  (bd (aIndexSl 1 (v6.getD 6 .any) t90) fun t99 =>
  bd (aLoad1 t99 s7.get) fun t100 =>
  bd (aBin .xor t100 (v6.getD 1 .any)) fun t102 =>
  bd (aIndexSl 1 (v6.getD 6 .any) t90) fun t103 =>
  bd2 (aStore 1 t103 t102 s7) fun _ s10 =>
  bd2 (callf 16 [(v6.getD 6 .any)] s10) fun t106 s11 =>
  bd (aExtract t106 0) fun t107 =>
  bd (aExtract t106 1) fun t108 =>
  bd2 (callf 17 [] s11) fun t109 s12 =>
  bd (gT (gd t109 true) (some t108)) fun t111 =>
  bd (gT (gd t109 true) (some (v6.getD 4 .any))) fun t112 =>
  bd (gT (gd t109 true) (aLenSl t112)) fun t113 =>
  bd (gT (gd t109 true) (aBin .eql t111 t113)) fun t114 =>
  bd (aPick t109 t114 (B false)) fun t115 =>
  bd (gT (gd t115 true) (some t107)) fun t117 =>
  bd (gT (gd t115 true) (aLenSl t117)) fun t118 =>
  bd (gT (gd t115 true) (some (v6.getD 3 .any))) fun t119 =>
  bd (gT (gd t115 true) (aBin .eql t118 t119)) fun t120 =>
  bd (aPick t115 t120 (B false)) fun t121 =>
  bd (gT (gd t121 true) (some t107)) fun t123 =>
  bd (gT (gd t121 true) (some (v6.getD 2 .any))) fun t124 =>
  bd2 (gS (gd t121 true) s12 (callf 23 [t123, t124] s12)) fun t125 s13 =>
  bd (aPick t121 t125 (B false)) fun t126 =>
  some (t126, s13)))
  (fun i8 v6 s7 => none)
  (fun r9 s7 => some (r9, s7))))

/- twinkeep/twinkeeplaw10.LogMeets -/
def f7 (callf : CallF) (N : Nat) (a0 : T) (a1 : T) (a2 : T) (s : St) : Option (T × St) :=
  bd2 (callf 27 [a0] s) fun t12 s1 =>
  bd2 (callf 27 [a1] s1) fun t14 s2 =>
  bd2 (callf 25 [t12, t14] s2) fun t17 s3 =>
  bd (aLenSl t12) fun t20 =>
  bd (aBin .gtr t17 t20) fun t21 =>
  bd (gT (gd t21 false) (some t17)) fun t23 =>
  bd (gT (gd t21 false) (some t14)) fun t24 =>
  bd (gT (gd t21 false) (aLenSl t24)) fun t25 =>
  bd (gT (gd t21 false) (aBin .gtr t23 t25)) fun t26 =>
  bd (aPick t21 (B true) t26) fun t27 =>
  bd (gT (gd t27 false) (some t12)) fun t29 =>
  bd (gT (gd t27 false) (some t17)) fun t30 =>
  bd (gT (gd t27 false) (aPieceSl 8 t29 none (some t30) none)) fun t31 =>
  bd (gT (gd t27 false) (some t14)) fun t32 =>
  bd2 (gS (gd t27 false) s3 (callf 23 [t31, t32] s3)) fun t33 s4 =>
  bd (gT (gd t27 false) (aUn .not t33)) fun t34 =>
  bd (aPick t27 (B true) t34) fun t35 =>
  bd (gT (gd t35 false) (some t17)) fun t37 =>
  bd (gT (gd t35 false) (some t12)) fun t38 =>
  bd (gT (gd t35 false) (aLenSl t38)) fun t39 =>
  bd (gT (gd t35 false) (aBin .lss t37 t39)) fun t40 =>
  bd (gT (gd t35 false) (some t40)) fun t41 =>
  bd (gT (gd t41 true) (some t17)) fun t42 =>
  bd (gT (gd t41 true) (some t14)) fun t43 =>
  bd (gT (gd t41 true) (aLenSl t43)) fun t44 =>
  bd (gT (gd t41 true) (aBin .lss t42 t44)) fun t45 =>
  bd (gT (gd t35 false) (aPick t41 t45 (B false))) fun t46 =>
  bd (gT (gd t35 false) (some t46)) fun t47 =>
  bd (gT (gd t47 true) (some t12)) fun t48 =>
  bd (gT (gd t47 true) (some t17)) fun t49 =>
  bd (gT (gd t47 true) (aIndexSl 8 t48 t49)) fun t50 =>
  bd (gT (gd t47 true) (aLoadN 8 t50 s4.get)) fun t51 =>
  bd (gT (gd t47 true) (some t14)) fun t52 =>
  bd (gT (gd t47 true) (some t17)) fun t53 =>
  bd (gT (gd t47 true) (aIndexSl 8 t52 t53)) fun t54 =>
  bd (gT (gd t47 true) (aLoadN 8 t54 s4.get)) fun t55 =>
  bd (gT (gd t47 true) (eqB (.a 8 [(0, .i), (1, .i), (2, .i), (3, .i), (4, .i), (5, .i), (6, .i), (7, .s)]) t51 t55)) fun t56 =>
  bd (gT (gd t35 false) (aPick t47 t56 (B false))) fun t57 =>
  bd (aPick t35 (B true) t57) fun t58 =>
  bd (gT (gd t58 false) (some t17)) fun t60 =>
  bd (gT (gd t58 false) (some t14)) fun t61 =>
  bd (gT (gd t58 false) (some t12)) fun t62 =>
  bd2 (gS (gd t58 false) s4 (callf 25 [t61, t62] s4)) fun t63 s5 =>
  bd (gT (gd t58 false) (aBin .neq t60 t63)) fun t64 =>
  bd (aPick t58 (B true) t64) fun t65 =>
  br t65 (some ((B false), s5))
  (bd (aConv .u64 a2) fun t67 =>
  bd (aLenSl t12) fun t69 =>
  bd (aBin .add t69 (I .i64 1)) fun t70 =>
  bd (aConv .u64 t70) fun t71 =>
  bd (aBin .rem t67 t71) fun t72 =>
  bd (aConv .i64 t72) fun t73 =>
  bd2 (callf 17 [] s5) fun t74 s6 =>
  bd (gT (gd t74 true) (some t12)) fun t76 =>
  bd (gT (gd t74 true) (some t73)) fun t77 =>
  bd (gT (gd t74 true) (aPieceSl 8 t76 none (some t77) none)) fun t78 =>
  bd (gT (gd t74 true) (some t12)) fun t79 =>
  bd2 (gS (gd t74 true) s6 (callf 23 [t78, t79] s6)) fun t80 s7 =>
  bd (aPick t74 t80 (B false)) fun t81 =>
  bd (gT (gd t81 true) (some t12)) fun t83 =>
  bd (gT (gd t81 true) (some t73)) fun t84 =>
  bd (gT (gd t81 true) (aPieceSl 8 t83 none (some t84) none)) fun t85 =>
  bd (gT (gd t81 true) (some t12)) fun t86 =>
  bd2 (gS (gd t81 true) s7 (callf 25 [t85, t86] s7)) fun t87 s8 =>
  bd (gT (gd t81 true) (some t73)) fun t88 =>
  bd (gT (gd t81 true) (aBin .eql t87 t88)) fun t89 =>
  bd (aPick t81 t89 (B false)) fun t90 =>
  bd (gT (gd t90 true) (some t12)) fun t92 =>
  bd (gT (gd t90 true) (some t14)) fun t93 =>
  bd2 (gS (gd t90 true) s8 (callf 23 [t92, t93] s8)) fun t94 s9 =>
  bd (gT (gd t90 true) (some t17)) fun t95 =>
  bd (gT (gd t90 true) (some t12)) fun t96 =>
  bd (gT (gd t90 true) (aLenSl t96)) fun t97 =>
  bd (gT (gd t90 true) (aBin .eql t95 t97)) fun t98 =>
  bd (gT (gd t90 true) (eqB .b t94 t98)) fun t99 =>
  bd (aPick t90 t99 (B false)) fun t100 =>
  some (t100, s9))

/- twinkeep/twinkeeplaw10.LogMore -/
/- twinkeep/twinkeeplaw10.LogAsks: a loop; 0: t0 l, 1: t1 m, 2: t7 x, 3: t8 e, 4: t9 y, 5: t10 f, 6: t11 u, 7: t12 at, 8: t13 v, 9: t14 to, 10: t15 i -/
def f4_l1 (callf : CallF) (N : Nat) (v : List T) (s : St) : Option (JO × St) :=
  bd (aLenSl (v.getD 0 .any)) fun t57 =>
  bd (aBin .lss (v.getD 10 .any) t57) fun t58 =>
  br t58 (jn (bd (aIndexSl 8 (v.getD 0 .any) (v.getD 10 .any)) fun t64 =>
  bd (aLoadN 8 t64 s.get) fun t65 =>
  bd2 (callf 14 [t65] s) fun t66 s8 =>
  bd (aExtract t66 0) fun t67 =>
  bd (aExtract t66 1) fun t68 =>
  bd (aIndexSl 8 (v.getD 0 .any) (v.getD 10 .any)) fun t72 =>
  bd (aLoadN 8 t72 s8.get) fun t73 =>
  bd2 (callf 21 [t73] s8) fun t74 s9 =>
  bd (aExtract t74 0) fun t75 =>
  bd (aExtract t74 1) fun t76 =>
  bd (aBytesStr t67 s9.get) fun t78 =>
  bd (aBin .neq t78 t75) fun t80 =>
  bd (gT (gd t80 false) (some t68)) fun t82 =>
  bd (gT (gd t80 false) (some t76)) fun t83 =>
  bd (gT (gd t80 false) (aBin .neq t82 t83)) fun t84 =>
  bd (aPick t80 (B true) t84) fun t85 =>
  br t85 (some (.ret (B false), s9))
  (some (.normal [(v.getD 0 .any), (v.getD 1 .any), (v.getD 2 .any), (v.getD 3 .any), (v.getD 4 .any), (v.getD 5 .any), (v.getD 6 .any), (v.getD 7 .any), (v.getD 8 .any), (v.getD 9 .any), (v.getD 10 .any)], s9)))
  (fun v10 s11 => bd (aBin .add (v10.getD 10 .any) (I .i64 1)) fun t60 =>
  some (.normal [(v10.getD 0 .any), (v10.getD 1 .any), (v10.getD 2 .any), (v10.getD 3 .any), (v10.getD 4 .any), (v10.getD 5 .any), (v10.getD 6 .any), (v10.getD 7 .any), (v10.getD 8 .any), (v10.getD 9 .any), t60], s11))
  (fun i12 v10 s11 => some (.exit i12 v10, s11))
  (fun r13 s11 => some (.ret r13, s11)))
  (some (.exit 0 [(v.getD 0 .any), (v.getD 1 .any), (v.getD 2 .any), (v.getD 3 .any), (v.getD 4 .any), (v.getD 5 .any), (v.getD 6 .any), (v.getD 7 .any), (v.getD 8 .any), (v.getD 9 .any)], s))

/- twinkeep/twinkeeplaw10.LogAsks -/
def f4 (callf : CallF) (N : Nat) (a0 : T) (a1 : T) (a2 : T) (s : St) : Option (T × St) :=
  bd2 (callf 18 [a0] s) fun t21 s1 =>
  bd (aUn .not t21) fun t22 =>
  bd (gT (gd t22 false) (some a1)) fun t24 =>
  bd2 (gS (gd t22 false) s1 (callf 18 [t24] s1)) fun t25 s2 =>
  bd (gT (gd t22 false) (aUn .not t25)) fun t26 =>
  bd (aPick t22 (B true) t26) fun t27 =>
  bd (gT (gd t27 false) (some a2)) fun t29 =>
  bd (gT (gd t27 false) (aLenSl t29)) fun t30 =>
  bd (gT (gd t27 false) (aBin .gtr t30 (I .i64 400))) fun t31 =>
  bd (aPick t27 (B true) t31) fun t32 =>
  br t32 (bd2 (callf 17 [] s2) fun t33 s3 =>
  some (t33, s3))
  (bd2 (callf 15 [a0] s2) fun t36 s4 =>
  bd (aExtract t36 0) fun t37 =>
  bd (aExtract t36 1) fun t38 =>
  bd2 (callf 19 [a0] s4) fun t41 s5 =>
  bd (aExtract t41 0) fun t42 =>
  bd (aExtract t41 1) fun t43 =>
  bd2 (callf 16 [a2] s5) fun t46 s6 =>
  bd (aExtract t46 0) fun t47 =>
  bd (aExtract t46 1) fun t48 =>
  bd (aBytesStr a2 s6.get) fun t51 =>
  bd2 (callf 20 [t51] s6) fun t52 s7 =>
  bd (aExtract t52 0) fun t53 =>
  bd (aExtract t52 1) fun t54 =>
  jn (jn (loops (f4_l1 callf N) N [a0, a1, t37, t38, t42, t43, t47, t48, t53, t54, (I .i64 0)] s7)
  (fun v14 s15 => some (.normal [.any, .any, .any, .any, .any, .any, .any, .any, .any, .any], s15))
  (fun i16 v14 s15 => if i16 = 0 then some (.normal v14, s15) else some (.exit i16 v14, s15))
  (fun r17 s15 => some (.ret r17, s15)))
  (fun v18 s19 => bd2 (callf 17 [] s19) fun t86 s22 =>
  bd (gT (gd t86 true) (some (v18.getD 3 .any))) fun t88 =>
  bd (gT (gd t86 true) (some (v18.getD 5 .any))) fun t89 =>
  bd (gT (gd t86 true) (aBin .eql t88 t89)) fun t90 =>
  bd (aPick t86 t90 (B false)) fun t91 =>
  bd (gT (gd t91 true) (some (v18.getD 2 .any))) fun t93 =>
  bd (gT (gd t91 true) (aBytesStr t93 s22.get)) fun t94 =>
  bd (gT (gd t91 true) (some (v18.getD 4 .any))) fun t95 =>
  bd (gT (gd t91 true) (aBin .eql t94 t95)) fun t96 =>
  bd (aPick t91 t96 (B false)) fun t97 =>
  bd (gT (gd t97 true) (some (v18.getD 6 .any))) fun t99 =>
  bd (gT (gd t97 true) (some (v18.getD 8 .any))) fun t100 =>
  bd2 (gS (gd t97 true) s22 (callf 22 [t99, t100] s22)) fun t101 s23 =>
  bd (aPick t97 t101 (B false)) fun t102 =>
  bd (gT (gd t102 true) (some (v18.getD 7 .any))) fun t104 =>
  bd (gT (gd t102 true) (some (v18.getD 9 .any))) fun t105 =>
  bd (gT (gd t102 true) (aBin .eql t104 t105)) fun t106 =>
  bd (aPick t102 t106 (B false)) fun t107 =>
  bd (gT (gd t107 true) (some (v18.getD 0 .any))) fun t109 =>
  bd (gT (gd t107 true) (some (v18.getD 1 .any))) fun t110 =>
  bd2 (gS (gd t107 true) s23 (callf 23 [t109, t110] s23)) fun t111 s24 =>
  bd (gT (gd t107 true) (some (v18.getD 0 .any))) fun t112 =>
  bd (gT (gd t107 true) (some (v18.getD 1 .any))) fun t113 =>
  bd2 (gS (gd t107 true) s24 (callf 24 [t112, t113] s24)) fun t114 s25 =>
  bd (gT (gd t107 true) (eqB .b t111 t114)) fun t115 =>
  bd (aPick t107 t115 (B false)) fun t116 =>
  bd (gT (gd t116 true) (some (v18.getD 0 .any))) fun t118 =>
  bd (gT (gd t116 true) (some (v18.getD 1 .any))) fun t119 =>
  bd2 (gS (gd t116 true) s25 (callf 25 [t118, t119] s25)) fun t120 s26 =>
  bd (gT (gd t116 true) (some (v18.getD 0 .any))) fun t121 =>
  bd (gT (gd t116 true) (some (v18.getD 1 .any))) fun t122 =>
  bd2 (gS (gd t116 true) s26 (callf 26 [t121, t122] s26)) fun t123 s27 =>
  bd (gT (gd t116 true) (aBin .eql t120 t123)) fun t124 =>
  bd (aPick t116 t124 (B false)) fun t125 =>
  some (t125, s27))
  (fun i20 v18 s19 => none)
  (fun r21 s19 => some (r21, s19)))

end
end Go.Proofs.YtlhbidbdmdcdeaaGreatDoor


/-
  What functions that the laws reach compute, printed by a program of our own: each text is by definition the run of the code. No conditions.
-/
namespace Go.Proofs.YtlhbidbdmdcdeaaGreatDoor
open Go Go.Abs Go.Abs.F
set_option linter.unusedVariables false
noncomputable section
/- twinkeep/twinkeeplaw9.Rows: a loop; 0: t0 l, 1: t3 out, 2: t4 there, 3: t5 view, 4: t6 id, 5: t7 at, 6: t8 i -/
/- twinkeep/twinkeeplaw9.Rows -/
/- twinkeep/twinkeeplaw9.Few: a loop; 0: t0 l, 1: t3 i -/
def f18_l1 (callf : CallF) (N : Nat) (v : List T) (s : St) : Option (JO × St) :=
  bd (aLenSl (v.getD 0 .any)) fun t6 =>
  bd (aBin .lss (v.getD 1 .any) t6) fun t7 =>
  br t7 (jn (bd (aIndexSl 8 (v.getD 0 .any) (v.getD 1 .any)) fun t12 =>
  bd (aFieldAddr 7 t12) fun t13 =>
  bd (aLoad1 t13 s.get) fun t14 =>
  bd (aLenStr t14) fun t15 =>
  bd (aBin .gtr t15 (I .i64 400)) fun t16 =>
  br t16 (some (.ret (B false), s))
  (some (.normal [(v.getD 0 .any), (v.getD 1 .any)], s)))
  (fun v1 s2 => bd (aBin .add (v1.getD 1 .any) (I .i64 1)) fun t9 =>
  some (.normal [(v1.getD 0 .any), t9], s2))
  (fun i3 v1 s2 => some (.exit i3 v1, s2))
  (fun r4 s2 => some (.ret r4, s2)))
  (some (.exit 0 [(v.getD 0 .any)], s))

/- twinkeep/twinkeeplaw9.Few -/
def f18 (callf : CallF) (N : Nat) (a0 : T) (s : St) : Option (T × St) :=
  jn (jn (loops (f18_l1 callf N) N [a0, (I .i64 0)] s)
  (fun v5 s6 => some (.normal [.any], s6))
  (fun i7 v5 s6 => if i7 = 0 then some (.normal v5, s6) else some (.exit i7 v5, s6))
  (fun r8 s6 => some (.ret r8, s6)))
  (fun v9 s10 => bd (aLenSl (v9.getD 0 .any)) fun t18 =>
  bd (aBin .leq t18 (I .i64 60)) fun t19 =>
  some (t19, s10))
  (fun i11 v9 s10 => none)
  (fun r12 s10 => some (r12, s10))

theorem f18_eq (callf : CallF) (N : Nat) (a0 : T) (s : St) : bodyC Tryz.prog callf N Tryz.f18 [a0] s = f18 callf N a0 s := by kernel_rfl

/- twinkeep/twinkeeplaw9.EntryRules -/
/- twinkeep/twinkeeplaw9.EntryBack -/
/- twinkeep/twinkeeplaw9.EntryFolds: a loop; 0: t7 i, 1: t19 k -/
/- twinkeep/twinkeeplaw9.EntryFolds -/
/- twinkeep/twinkeeplaw9.EntryTwice: a loop; 0: t5 e, 1: t6 k, 2: t7 ever, 3: t8 there, 4: t9 view, 5: t10 i -/
/- twinkeep/twinkeeplaw9.EntryTwice -/
/- twinkeep/twinkeeplaw9.EntryAsks -/
def f10 (callf : CallF) (N : Nat) (a0 : T) (a1 : T) (a2 : T) (a3 : T) (s : St) : Option (T × St) :=
  bd2 (aNew s (nBox a1)) fun t5 s1 =>
  bd2 (aNew s1 (nBox a2)) fun t6 s2 =>
  bd2 (callf 18 [a0] s2) fun t26 s3 =>
  bd (aUn .not t26) fun t27 =>
  bd (gT (gd t27 false) (aLoadN 8 t5 s3.get)) fun t29 =>
  bd (gT (gd t27 false) (aLoadN 8 t6 s3.get)) fun t30 =>
  bd2 (gS (gd t27 false) s3 (aNew s3 (nSlice 2 (aFill [.int .i64 0, .int .i64 0, .int .i64 0, .int .i64 0, .int .i64 0, .int .i64 0, .int .u32 0, .str [], .int .i64 0, .int .i64 0, .int .i64 0, .int .i64 0, .int .i64 0, .int .i64 0, .int .u32 0, .str []] [(0, 8, t29), (8, 8, t30)])))) fun t31 s4 =>
  bd2 (gS (gd t27 false) s4 (callf 18 [t31] s4)) fun t32 s5 =>
  bd (gT (gd t27 false) (aUn .not t32)) fun t33 =>
  bd (aPick t27 (B true) t33) fun t34 =>
  bd (gT (gd t34 false) (some a3)) fun t36 =>
  bd (gT (gd t34 false) (aLenSl t36)) fun t37 =>
  bd (gT (gd t34 false) (aBin .gtr t37 (I .i64 400))) fun t38 =>
  bd (aPick t34 (B true) t38) fun t39 =>
  br t39 (bd2 (callf 29 [] s5) fun t40 s6 =>
  some (t40, s6))
  (bd (aLoadN 8 t5 s5.get) fun t42 =>
  bd2 (callf 31 [t42] s5) fun t43 s7 =>
  bd (aExtract t43 0) fun t44 =>
  bd (aExtract t43 1) fun t45 =>
  bd (aLoadN 8 t5 s7.get) fun t47 =>
  bd2 (callf 32 [t47] s7) fun t48 s8 =>
  bd (aExtract t48 0) fun t49 =>
  bd (aExtract t48 1) fun t50 =>
  bd2 (callf 33 [a3] s8) fun t53 s9 =>
  bd (aExtract t53 0) fun t54 =>
  bd (aExtract t53 1) fun t55 =>
  bd2 (aNew s9 (nCells [.int .i64 0, .int .i64 0, .int .i64 0, .int .i64 0, .int .i64 0, .int .i64 0, .int .u32 0, .str []])) fun t13 s10 =>
  bd2 (aStore 8 t13 t54 s10) fun _ s11 =>
  bd (aBytesStr a3 s11.get) fun t58 =>
  bd2 (callf 34 [t58] s11) fun t59 s12 =>
  bd (aExtract t59 0) fun t60 =>
  bd (aExtract t59 1) fun t61 =>
  bd2 (aNew s12 (nCells [.int .i64 0, .int .i64 0, .int .i64 0, .int .i64 0, .int .i64 0, .int .i64 0, .int .u32 0, .str []])) fun t15 s13 =>
  bd2 (aStore 8 t15 t60 s13) fun _ s14 =>
  bd2 (callf 28 [a0] s14) fun t64 s15 =>
  bd (aExtract t64 0) fun t65 =>
  bd (aExtract t64 1) fun t66 =>
  bd (aExtract t64 2) fun t67 =>
  bd (aExtract t64 3) fun t68 =>
  bd2 (aNew s15 (nCells [.int .i64 0, .int .i64 0, .int .i64 0, .int .i64 0, .int .i64 0, .int .i64 0])) fun t18 s16 =>
  bd2 (aStore 6 t18 t66 s16) fun _ s17 =>
  bd2 (callf 35 [a0] s17) fun t71 s18 =>
  bd (aExtract t71 0) fun t72 =>
  bd (aExtract t71 1) fun t73 =>
  bd (aExtract t71 2) fun t74 =>
  bd (aExtract t71 3) fun t75 =>
  bd2 (aNew s18 (nCells [.int .i64 0, .int .i64 0, .int .i64 0, .int .i64 0, .int .i64 0, .int .i64 0])) fun t22 s19 =>
  bd2 (aStore 6 t22 t73 s19) fun _ s20 =>
  bd2 (callf 29 [] s20) fun t76 s21 =>
  bd (gT (gd t76 true) (some t45)) fun t78 =>
  bd (gT (gd t76 true) (some t50)) fun t79 =>
  bd (gT (gd t76 true) (aBin .eql t78 t79)) fun t80 =>
  bd (aPick t76 t80 (B false)) fun t81 =>
  bd (gT (gd t81 true) (some t44)) fun t83 =>
  bd (gT (gd t81 true) (aBytesStr t83 s21.get)) fun t84 =>
  bd (gT (gd t81 true) (some t49)) fun t85 =>
  bd (gT (gd t81 true) (aBin .eql t84 t85)) fun t86 =>
  bd (aPick t81 t86 (B false)) fun t87 =>
  bd (gT (gd t87 true) (some t55)) fun t89 =>
  bd (gT (gd t87 true) (some t61)) fun t90 =>
  bd (gT (gd t87 true) (aBin .eql t89 t90)) fun t91 =>
  bd (aPick t87 t91 (B false)) fun t92 =>
  bd (gT (gd t92 true) (aLoadN 8 t13 s21.get)) fun t94 =>
  bd (gT (gd t92 true) (aLoadN 8 t15 s21.get)) fun t95 =>
  bd (gT (gd t92 true) (eqB (.a 8 [(0, .i), (1, .i), (2, .i), (3, .i), (4, .i), (5, .i), (6, .i), (7, .s)]) t94 t95)) fun t96 =>
  bd (aPick t92 t96 (B false)) fun t97 =>
  bd (gT (gd t97 true) (some t68)) fun t99 =>
  bd (gT (gd t97 true) (some t75)) fun t100 =>
  bd (gT (gd t97 true) (aBin .eql t99 t100)) fun t101 =>
  bd (aPick t97 t101 (B false)) fun t102 =>
  bd (gT (gd t102 true) (aLoadN 6 t18 s21.get)) fun t104 =>
  bd (gT (gd t102 true) (aLoadN 6 t22 s21.get)) fun t105 =>
  bd (gT (gd t102 true) (eqB (.a 6 [(0, .i), (1, .i), (2, .i), (3, .i), (4, .i), (5, .i)]) t104 t105)) fun t106 =>
  bd (aPick t102 t106 (B false)) fun t107 =>
  bd (gT (gd t107 true) (some t67)) fun t109 =>
  bd (gT (gd t107 true) (some t74)) fun t110 =>
  bd (gT (gd t107 true) (aBin .eql t109 t110)) fun t111 =>
  bd (aPick t107 t111 (B false)) fun t112 =>
  bd (gT (gd t112 true) (some t65)) fun t114 =>
  bd (gT (gd t112 true) (some t72)) fun t115 =>
  bd2 (gS (gd t112 true) s21 (callf 36 [t114, t115] s21)) fun t116 s22 =>
  bd (aPick t112 t116 (B false)) fun t117 =>
  bd (gT (gd t117 true) (some t65)) fun t119 =>
  bd (gT (gd t117 true) (some t72)) fun t120 =>
  bd2 (gS (gd t117 true) s22 (callf 37 [t119, t120] s22)) fun t121 s23 =>
  bd (aPick t117 t121 (B false)) fun t122 =>
  bd (gT (gd t122 true) (aLoadN 8 t5 s23.get)) fun t124 =>
  bd2 (gS (gd t122 true) s23 (callf 30 [t124] s23)) fun t125 s24 =>
  bd (gT (gd t122 true) (aLoadN 8 t5 s24.get)) fun t126 =>
  bd2 (gS (gd t122 true) s24 (callf 38 [t126] s24)) fun t127 s25 =>
  bd (gT (gd t122 true) (eqB .b t125 t127)) fun t128 =>
  bd (aPick t122 t128 (B false)) fun t129 =>
  bd (gT (gd t129 true) (aLoadN 8 t5 s25.get)) fun t131 =>
  bd (gT (gd t129 true) (aLoadN 8 t6 s25.get)) fun t132 =>
  bd2 (gS (gd t129 true) s25 (callf 39 [t131, t132] s25)) fun t133 s26 =>
  bd (gT (gd t129 true) (aLoadN 8 t5 s26.get)) fun t134 =>
  bd (gT (gd t129 true) (aLoadN 8 t6 s26.get)) fun t135 =>
  bd (gT (gd t129 true) (eqB (.a 8 [(0, .i), (1, .i), (2, .i), (3, .i), (4, .i), (5, .i), (6, .i), (7, .s)]) t134 t135)) fun t136 =>
  bd (gT (gd t129 true) (eqB .b t133 t136)) fun t137 =>
  bd (aPick t129 t137 (B false)) fun t138 =>
  bd (gT (gd t138 true) (some t65)) fun t140 =>
  bd2 (gS (gd t138 true) s26 (callf 36 [t140, (Z .nils)] s26)) fun t141 s27 =>
  bd (gT (gd t138 true) (some t65)) fun t142 =>
  bd (gT (gd t138 true) (aLenSl t142)) fun t143 =>
  bd (gT (gd t138 true) (aBin .eql t143 (I .i64 0))) fun t144 =>
  bd (gT (gd t138 true) (eqB .b t141 t144)) fun t145 =>
  bd (aPick t138 t145 (B false)) fun t146 =>
  ck ((wq (gd t122 true) (decide (aLoadN 8 t5 s23.get = aLoadN 8 t5 s24.get)) && true) && ((wq (gd t129 true) (decide (aLoadN 8 t5 s25.get = aLoadN 8 t5 s26.get)) && true) && ((wq (gd t129 true) (decide (aLoadN 8 t6 s25.get = aLoadN 8 t6 s26.get)) && true) && true))) (some (t146, s27)))

theorem f10_eq (callf : CallF) (N : Nat) (a0 : T) (a1 : T) (a2 : T) (a3 : T) (s : St) : bodyC Tryz.prog callf N Tryz.f10 [a0, a1, a2, a3] s = f10 callf N a0 a1 a2 a3 s := by kernel_rfl

theorem f10_run (d : Nat) (a0 : T) (a1 : T) (a2 : T) (a3 : T) (s : St) : R (d + 1) 10 [a0, a1, a2, a3] s = f10 (R d) 8192 a0 a1 a2 a3 s := (runQ_body rfl Tryz.func10 (by kernel_rfl)).trans (f10_eq ..)

end
end Go.Proofs.YtlhbidbdmdcdeaaGreatDoor


/-
  What functions that the laws reach compute, printed by a program of our own: each text is by definition the run of the code. No conditions.
-/
namespace Go.Proofs.YtlhbidbdmdcdeaaGreatDoor
open Go Go.Abs Go.Abs.F
set_option linter.unusedVariables false
noncomputable section
/- twinkeep/twinkeepref9.Frame -/
/- twinkeep/twinkeepref9.All: a loop; 0: t0 l, 1: t4 s, 2: t5 i -/
/- twinkeep/twinkeepref9.All -/
/- twinkeep/twinkeepref9.Read: a loop; 0: t0 b, 1: t4 l, 2: t5 at -/
/- twinkeep/twinkeepref9.Read -/
/- twinkeep/twinkeepref9.SameEntries -/
/- twinkeep/twinkeepref9.Front -/
/- twinkeep/twinkeepref9.Meet: a loop; 0: t0 a, 1: t1 b, 2: t5 n -/
/- twinkeep/twinkeepref9.Meet -/
/- twinkeep/twinkeepref9.PutEntry -/
def f32 (callf : CallF) (N : Nat) (a0 : T) (s : St) : Option (T × St) :=
  bd2 (aNew s (nBox a0)) fun t1 s1 =>
  bd (aLoadN 8 t1 s1.get) fun t5 =>
  bd2 (callf 38 [t5] s1) fun t6 s2 =>
  bd (aUn .not t6) fun t7 =>
  br t7 (bd (retT [(Z (.str [])), (I .i64 1)]) fun r3 =>
  some (r3, s2))
  (bd (aFieldAddr 0 t1) fun t8 =>
  bd (aLoad1 t8 s2.get) fun t9 =>
  bd (aConv .u8 t9) fun t10 =>
  bd2 (aNew s2 (nSlice 1 (aFill [.int .u8 0] [(0, 1, t10)]))) fun t11 s4 =>
  bd (aBytesStr t11 s4.get) fun t12 =>
  bd (aFieldAddr 1 t1) fun t13 =>
  bd (aLoad1 t13 s4.get) fun t14 =>
  bd (aConv .u64 t14) fun t15 =>
  bd2 (callf 43 [t15] s4) fun t16 s5 =>
  bd (aBin .add t12 t16) fun t17 =>
  ck ((decide (aLoad1 t8 (overlay 9 s5.get (ovO 3 s2.size (nSlice 1 (aFill [.int .u8 0] [(0, 1, t10)])) [])) = aLoad1 t8 s2.get) && true) && ((decide (aBytesStr t11 (overlay 9 s5.get (ovO 3 s2.size (nSlice 1 (aFill [.int .u8 0] [(0, 1, t10)])) [])) = aBytesStr t11 s4.get) && true) && true)) (bd (aFieldAddr 0 t1) fun t18 =>
  bd (aLoad1 t18 s5.get) fun t19 =>
  jn (bd (aBin .eql t19 (I .i64 1)) fun t21 =>
  jn (br t21 (bd (aFieldAddr 2 t1) fun t23 =>
  bd (aLoad1 t23 s5.get) fun t24 =>
  bd (aConv .u64 t24) fun t25 =>
  bd2 (callf 43 [t25] s5) fun t26 s6 =>
  bd (aBin .add t17 t26) fun t27 =>
  bd (aFieldAddr 3 t1) fun t28 =>
  bd (aLoad1 t28 s6.get) fun t29 =>
  bd (aConv .u64 t29) fun t30 =>
  bd2 (callf 43 [t30] s6) fun t31 s7 =>
  bd (aBin .add t27 t31) fun t32 =>
  bd (aFieldAddr 4 t1) fun t33 =>
  bd (aLoad1 t33 s7.get) fun t34 =>
  bd (aConv .u64 t34) fun t35 =>
  bd2 (callf 43 [t35] s7) fun t36 s8 =>
  bd (aBin .add t32 t36) fun t37 =>
  bd (aFieldAddr 5 t1) fun t38 =>
  bd (aLoad1 t38 s8.get) fun t39 =>
  bd (aConv .u64 t39) fun t40 =>
  bd2 (callf 43 [t40] s8) fun t41 s9 =>
  bd (aBin .add t37 t41) fun t42 =>
  bd (aFieldAddr 6 t1) fun t43 =>
  bd (aLoad1 t43 s9.get) fun t44 =>
  bd (aConv .u64 t44) fun t45 =>
  bd2 (callf 43 [t45] s9) fun t46 s10 =>
  bd (aBin .add t42 t46) fun t47 =>
  ck ((decide (aLoad1 t28 s5.get = aLoad1 t28 s6.get) && true) && ((decide (aLoad1 t33 s5.get = aLoad1 t33 s7.get) && (decide (aLoad1 t33 s6.get = aLoad1 t33 s7.get) && true)) && ((decide (aLoad1 t38 s5.get = aLoad1 t38 s8.get) && (decide (aLoad1 t38 s6.get = aLoad1 t38 s8.get) && (decide (aLoad1 t38 s7.get = aLoad1 t38 s8.get) && true))) && ((decide (aLoad1 t43 s5.get = aLoad1 t43 s9.get) && (decide (aLoad1 t43 s6.get = aLoad1 t43 s9.get) && (decide (aLoad1 t43 s7.get = aLoad1 t43 s9.get) && (decide (aLoad1 t43 s8.get = aLoad1 t43 s9.get) && true)))) && true)))) (some (.normal [t47], s10)))
  (bd (aBin .eql t19 (I .i64 2)) fun t49 =>
  jn (br t49 (bd (aFieldAddr 2 t1) fun t51 =>
  bd (aLoad1 t51 s5.get) fun t52 =>
  bd (aConv .u64 t52) fun t53 =>
  bd2 (callf 43 [t53] s5) fun t54 s11 =>
  bd (aBin .add t17 t54) fun t55 =>
  some (.normal [t55], s11))
  (bd (aBin .eql t19 (I .i64 4)) fun t57 =>
  jn (br t57 (bd (aFieldAddr 7 t1) fun t59 =>
  bd (aLoad1 t59 s5.get) fun t60 =>
  bd (aLenStr t60) fun t61 =>
  bd (aConv .u64 t61) fun t62 =>
  bd2 (callf 43 [t62] s5) fun t63 s12 =>
  bd (aBin .add t17 t63) fun t64 =>
  bd (aFieldAddr 7 t1) fun t65 =>
  bd (aLoad1 t65 s12.get) fun t66 =>
  bd (aBin .add t64 t66) fun t67 =>
  ck ((decide (aLoad1 t65 s5.get = aLoad1 t65 s12.get) && true) && true) (some (.normal [t67], s12)))
  (some (.normal [t17], s5)))
  (fun v13 s14 => some (.normal [(v13.getD 0 .any)], s14))
  (fun i15 v13 s14 => some (.exit i15 v13, s14))
  (fun r16 s14 => some (.ret r16, s14))))
  (fun v17 s18 => some (.normal [(v17.getD 0 .any)], s18))
  (fun i19 v17 s18 => some (.exit i19 v17, s18))
  (fun r20 s18 => some (.ret r20, s18))))
  (fun v21 s22 => some (.normal [(v21.getD 0 .any)], s22))
  (fun i23 v21 s22 => if i23 = 0 then some (.normal v21, s22) else some (.exit i23 v21, s22))
  (fun r24 s22 => some (.ret r24, s22)))
  (fun v25 s26 => bd (retT [(v25.getD 0 .any), (I .i64 0)]) fun r29 =>
  some (r29, s26))
  (fun i27 v25 s26 => none)
  (fun r28 s26 => some (r28, s26))))

theorem f32_eq (callf : CallF) (N : Nat) (a0 : T) (s : St) : bodyC Tryz.prog callf N Tryz.f32 [a0] s = f32 callf N a0 s := by kernel_rfl

theorem f32_run (d : Nat) (a0 : T) (s : St) : R (d + 1) 32 [a0] s = f32 (R d) 8192 a0 s := (runQ_body rfl Tryz.func32 (by kernel_rfl)).trans (f32_eq ..)

/- twinkeep/twinkeepref9.GetEntry -/
def f34 (callf : CallF) (N : Nat) (a0 : T) (s : St) : Option (T × St) :=
  bd2 (aNew s (nCells [.int .i64 0, .int .i64 0, .int .i64 0, .int .i64 0, .int .i64 0, .int .i64 0, .int .u32 0, .str []])) fun t2 s1 =>
  bd (asAggT (aFill [.str [], .int .i64 0, .bool false] [(0, 1, a0)])) fun t10 =>
  bd2 (aNew s1 (nBox t10)) fun t11 s2 =>
  bd2 (callf 56 [t11] s2) fun t13 s3 =>
  bd (aConv .i64 t13) fun t14 =>
  bd (asAggT (aFill [.int .i64 0, .int .i64 0, .int .i64 0, .int .i64 0, .int .i64 0, .int .i64 0, .int .u32 0, .str []] [(0, 1, t14)])) fun t15 =>
  bd2 (aNew s3 (nCells [.int .i64 0, .int .i64 0, .int .i64 0, .int .i64 0, .int .i64 0, .int .i64 0, .int .u32 0, .str []])) fun t5 s4 =>
  bd2 (aStore 8 t5 t15 s4) fun _ s5 =>
  bd2 (callf 58 [t11] s5) fun t17 s6 =>
  bd2 (callf 57 [t17, (I .u64 1073741824)] s6) fun t18 s7 =>
  bd (aFieldAddr 1 t5) fun t19 =>
  bd2 (aStore 1 t19 t18 s7) fun _ s8 =>
  bd (aFieldAddr 0 t5) fun t20 =>
  bd (aLoad1 t20 s8.get) fun t21 =>
  jn (bd (aBin .eql t21 (I .i64 1)) fun t23 =>
  jn (br t23 (bd2 (callf 58 [t11] s8) fun t25 s9 =>
  bd2 (callf 57 [t25, (I .u64 1073741824)] s9) fun t26 s10 =>
  bd2 (callf 58 [t11] s10) fun t28 s11 =>
  bd2 (callf 57 [t28, (I .u64 4)] s11) fun t29 s12 =>
  bd (aFieldAddr 2 t5) fun t30 =>
  bd2 (aStore 1 t30 t26 s12) fun _ s13 =>
  bd (aFieldAddr 3 t5) fun t31 =>
  bd2 (aStore 1 t31 t29 s13) fun _ s14 =>
  bd2 (callf 58 [t11] s14) fun t33 s15 =>
  bd2 (callf 57 [t33, (I .u64 1099511627776)] s15) fun t34 s16 =>
  bd2 (callf 58 [t11] s16) fun t36 s17 =>
  bd2 (callf 57 [t36, (I .u64 1099511627776)] s17) fun t37 s18 =>
  bd (aFieldAddr 4 t5) fun t38 =>
  bd2 (aStore 1 t38 t34 s18) fun _ s19 =>
  bd (aFieldAddr 5 t5) fun t39 =>
  bd2 (aStore 1 t39 t37 s19) fun _ s20 =>
  bd2 (callf 58 [t11] s20) fun t41 s21 =>
  bd (aConv .u32 t41) fun t43 =>
  bd (aFieldAddr 6 t5) fun t44 =>
  bd2 (aStore 1 t44 t43 s21) fun _ s22 =>
  some (.normal [a0, t2, t11, t5], s22))
  (bd (aBin .eql t21 (I .i64 2)) fun t46 =>
  jn (br t46 (bd2 (callf 58 [t11] s8) fun t48 s23 =>
  bd2 (callf 57 [t48, (I .u64 1073741824)] s23) fun t49 s24 =>
  bd (aFieldAddr 2 t5) fun t50 =>
  bd2 (aStore 1 t50 t49 s24) fun _ s25 =>
  some (.normal [a0, t2, t11, t5], s25))
  (bd (aBin .eql t21 (I .i64 4)) fun t52 =>
  jn (br t52 (bd2 (callf 58 [t11] s8) fun t55 s26 =>
  bd2 (callf 59 [t11, t55] s26) fun t56 s27 =>
  bd (aFieldAddr 7 t5) fun t57 =>
  bd2 (aStore 1 t57 t56 s27) fun _ s28 =>
  some (.normal [a0, t2, t11, t5], s28))
  (some (.normal [a0, t2, t11, t5], s8)))
  (fun v29 s30 => some (.normal [(v29.getD 0 .any), (v29.getD 1 .any), (v29.getD 2 .any), (v29.getD 3 .any)], s30))
  (fun i31 v29 s30 => some (.exit i31 v29, s30))
  (fun r32 s30 => some (.ret r32, s30))))
  (fun v33 s34 => some (.normal [(v33.getD 0 .any), (v33.getD 1 .any), (v33.getD 2 .any), (v33.getD 3 .any)], s34))
  (fun i35 v33 s34 => some (.exit i35 v33, s34))
  (fun r36 s34 => some (.ret r36, s34))))
  (fun v37 s38 => some (.normal [(v37.getD 0 .any), (v37.getD 1 .any), (v37.getD 2 .any), (v37.getD 3 .any)], s38))
  (fun i39 v37 s38 => if i39 = 0 then some (.normal v37, s38) else some (.exit i39 v37, s38))
  (fun r40 s38 => some (.ret r40, s38)))
  (fun v41 s42 => bd (aLoadN 8 (v41.getD 3 .any) s42.get) fun t59 =>
  bd2 (callf 32 [t59] s42) fun t60 s45 =>
  bd (aExtract t60 0) fun t61 =>
  bd (aExtract t60 1) fun t62 =>
  bd (aNil (v41.getD 2 .any)) fun t64 =>
  bd (aFieldAddr 2 t64) fun t65 =>
  bd (aLoad1 t65 s45.get) fun t66 =>
  bd (gT (gd t66 false) (some t62)) fun t68 =>
  bd (gT (gd t66 false) (aBin .neq t68 (I .i64 0))) fun t69 =>
  bd (aPick t66 (B true) t69) fun t70 =>
  bd (gT (gd t70 false) (some t61)) fun t72 =>
  bd (gT (gd t70 false) (some (v41.getD 0 .any))) fun t73 =>
  bd (gT (gd t70 false) (aBin .neq t72 t73)) fun t74 =>
  bd (aPick t70 (B true) t74) fun t75 =>
  br t75 (bd (asAggT (aFill [.int .i64 0, .int .i64 0, .int .i64 0, .int .i64 0, .int .i64 0, .int .i64 0, .int .u32 0, .str []] [])) fun t76 =>
  bd2 (aStore 8 (v41.getD 1 .any) t76 s45) fun _ s46 =>
  bd (rC (aLoadN 8 (v41.getD 1 .any) s46.get) (rT (I .i64 2) (some []))) fun l47 => bd (retT l47) fun r48 =>
  some (r48, s46))
  (bd (aLoadN 8 (v41.getD 3 .any) s45.get) fun t77 =>
  bd2 (aStore 8 (v41.getD 1 .any) t77 s45) fun _ s49 =>
  bd (rC (aLoadN 8 (v41.getD 1 .any) s49.get) (rT (I .i64 0) (some []))) fun l50 => bd (retT l50) fun r51 =>
  some (r51, s49)))
  (fun i43 v41 s42 => none)
  (fun r44 s42 => some (r44, s42))

theorem f34_eq (callf : CallF) (N : Nat) (a0 : T) (s : St) : bodyC Tryz.prog callf N Tryz.f34 [a0] s = f34 callf N a0 s := by kernel_rfl

theorem f34_run (d : Nat) (a0 : T) (s : St) : R (d + 1) 34 [a0] s = f34 (R d) 8192 a0 s := (runQ_body rfl Tryz.func34 (by kernel_rfl)).trans (f34_eq ..)

/- twinkeep/twinkeepref9.MayEntry -/
def f38 (callf : CallF) (N : Nat) (a0 : T) (s : St) : Option (T × St) :=
  bd2 (aNew s (nBox a0)) fun t1 s1 =>
  bd (aFieldAddr 1 t1) fun t7 =>
  bd (aLoad1 t7 s1.get) fun t8 =>
  bd (aBin .lss t8 (I .i64 0)) fun t9 =>
  bd (gT (gd t9 false) (aFieldAddr 1 t1)) fun t11 =>
  bd (gT (gd t9 false) (aLoad1 t11 s1.get)) fun t12 =>
  bd (gT (gd t9 false) (aBin .gtr t12 (I .i64 1073741824))) fun t13 =>
  bd (aPick t9 (B true) t13) fun t14 =>
  br t14 (some ((B false), s1))
  (bd (aFieldAddr 0 t1) fun t15 =>
  bd (aLoad1 t15 s1.get) fun t16 =>
  bd (aFieldAddr 1 t1) fun t17 =>
  bd (aLoad1 t17 s1.get) fun t18 =>
  bd (asAggT (aFill [.int .i64 0, .int .i64 0, .int .i64 0, .int .i64 0, .int .i64 0, .int .i64 0, .int .u32 0, .str []] [(0, 1, t16), (1, 1, t18)])) fun t19 =>
  bd2 (aNew s1 (nCells [.int .i64 0, .int .i64 0, .int .i64 0, .int .i64 0, .int .i64 0, .int .i64 0, .int .u32 0, .str []])) fun t3 s2 =>
  bd2 (aStore 8 t3 t19 s2) fun _ s3 =>
  bd (aFieldAddr 0 t1) fun t20 =>
  bd (aLoad1 t20 s3.get) fun t21 =>
  jn (bd (aBin .eql t21 (I .i64 1)) fun t23 =>
  jn (br t23 (bd (aFieldAddr 2 t1) fun t24 =>
  bd (aLoad1 t24 s3.get) fun t25 =>
  bd (aFieldAddr 3 t1) fun t26 =>
  bd (aLoad1 t26 s3.get) fun t27 =>
  bd (aFieldAddr 4 t1) fun t28 =>
  bd (aLoad1 t28 s3.get) fun t29 =>
  bd (aFieldAddr 5 t1) fun t30 =>
  bd (aLoad1 t30 s3.get) fun t31 =>
  bd (aFieldAddr 6 t1) fun t32 =>
  bd (aLoad1 t32 s3.get) fun t33 =>
  bd (aFieldAddr 2 t3) fun t34 =>
  bd2 (aStore 1 t34 t25 s3) fun _ s4 =>
  bd (aFieldAddr 3 t3) fun t35 =>
  bd2 (aStore 1 t35 t27 s4) fun _ s5 =>
  bd (aFieldAddr 4 t3) fun t36 =>
  bd2 (aStore 1 t36 t29 s5) fun _ s6 =>
  bd (aFieldAddr 5 t3) fun t37 =>
  bd2 (aStore 1 t37 t31 s6) fun _ s7 =>
  bd (aFieldAddr 6 t3) fun t38 =>
  bd2 (aStore 1 t38 t33 s7) fun _ s8 =>
  ck ((decide (aLoad1 t26 s4.get = aLoad1 t26 s3.get) && true) && ((decide (aLoad1 t28 s4.get = aLoad1 t28 s3.get) && (decide (aLoad1 t28 s5.get = aLoad1 t28 s3.get) && true)) && ((decide (aLoad1 t30 s4.get = aLoad1 t30 s3.get) && (decide (aLoad1 t30 s5.get = aLoad1 t30 s3.get) && (decide (aLoad1 t30 s6.get = aLoad1 t30 s3.get) && true))) && ((decide (aLoad1 t32 s4.get = aLoad1 t32 s3.get) && (decide (aLoad1 t32 s5.get = aLoad1 t32 s3.get) && (decide (aLoad1 t32 s6.get = aLoad1 t32 s3.get) && (decide (aLoad1 t32 s7.get = aLoad1 t32 s3.get) && true)))) && true)))) (bd (aFieldAddr 2 t1) fun t39 =>
  bd (aLoad1 t39 s8.get) fun t40 =>
  bd (aBin .lss t40 (I .i64 1)) fun t41 =>
  bd (gT (gd t41 false) (aFieldAddr 2 t1)) fun t43 =>
  bd (gT (gd t41 false) (aLoad1 t43 s8.get)) fun t44 =>
  bd (gT (gd t41 false) (aBin .gtr t44 (I .i64 1073741824))) fun t45 =>
  bd (aPick t41 (B true) t45) fun t46 =>
  bd (gT (gd t46 false) (aFieldAddr 3 t1)) fun t48 =>
  bd (gT (gd t46 false) (aLoad1 t48 s8.get)) fun t49 =>
  bd (gT (gd t46 false) (aBin .lss t49 (I .i64 0))) fun t50 =>
  bd (aPick t46 (B true) t50) fun t51 =>
  bd (gT (gd t51 false) (aFieldAddr 3 t1)) fun t53 =>
  bd (gT (gd t51 false) (aLoad1 t53 s8.get)) fun t54 =>
  bd (gT (gd t51 false) (aBin .gtr t54 (I .i64 3))) fun t55 =>
  bd (aPick t51 (B true) t55) fun t56 =>
  bd (gT (gd t56 false) (aFieldAddr 4 t1)) fun t58 =>
  bd (gT (gd t56 false) (aLoad1 t58 s8.get)) fun t59 =>
  bd (gT (gd t56 false) (aBin .lss t59 (I .i64 0))) fun t60 =>
  bd (aPick t56 (B true) t60) fun t61 =>
  bd (gT (gd t61 false) (aFieldAddr 4 t1)) fun t63 =>
  bd (gT (gd t61 false) (aLoad1 t63 s8.get)) fun t64 =>
  bd (gT (gd t61 false) (aFieldAddr 5 t1)) fun t65 =>
  bd (gT (gd t61 false) (aLoad1 t65 s8.get)) fun t66 =>
  bd (gT (gd t61 false) (aBin .geq t64 t66)) fun t67 =>
  bd (aPick t61 (B true) t67) fun t68 =>
  bd (gT (gd t68 false) (aFieldAddr 5 t1)) fun t70 =>
  bd (gT (gd t68 false) (aLoad1 t70 s8.get)) fun t71 =>
  bd (gT (gd t68 false) (aBin .gtr t71 (I .i64 1099511627776))) fun t72 =>
  bd (aPick t68 (B true) t72) fun t73 =>
  br t73 (some (.ret (B false), s8))
  (some (.normal [t1, t3], s8))))
  (bd (aBin .eql t21 (I .i64 2)) fun t75 =>
  jn (br t75 (bd (aFieldAddr 2 t1) fun t76 =>
  bd (aLoad1 t76 s3.get) fun t77 =>
  bd (aFieldAddr 2 t3) fun t78 =>
  bd2 (aStore 1 t78 t77 s3) fun _ s9 =>
  bd (aFieldAddr 2 t1) fun t79 =>
  bd (aLoad1 t79 s9.get) fun t80 =>
  bd (aBin .lss t80 (I .i64 1)) fun t81 =>
  bd (gT (gd t81 false) (aFieldAddr 2 t1)) fun t83 =>
  bd (gT (gd t81 false) (aLoad1 t83 s9.get)) fun t84 =>
  bd (gT (gd t81 false) (aBin .gtr t84 (I .i64 1073741824))) fun t85 =>
  bd (aPick t81 (B true) t85) fun t86 =>
  br t86 (some (.ret (B false), s9))
  (some (.normal [t1, t3], s9)))
  (bd (aBin .eql t21 (I .i64 3)) fun t88 =>
  jn (br t88 (bd (aFieldAddr 1 t1) fun t89 =>
  bd (aLoad1 t89 s3.get) fun t90 =>
  bd (aBin .lss t90 (I .i64 1)) fun t91 =>
  br t91 (some (.ret (B false), s3))
  (some (.normal [t1, t3], s3)))
  (bd (aBin .eql t21 (I .i64 4)) fun t93 =>
  br t93 (bd (aFieldAddr 7 t1) fun t94 =>
  bd (aLoad1 t94 s3.get) fun t95 =>
  bd (aFieldAddr 7 t3) fun t96 =>
  bd2 (aStore 1 t96 t95 s3) fun _ s10 =>
  bd (aFieldAddr 7 t1) fun t98 =>
  bd (aLoad1 t98 s10.get) fun t99 =>
  bd2 (callf 64 [t99] s10) fun t100 s11 =>
  bd (aExtract t100 0) fun t101 =>
  bd (aExtract t100 1) fun t102 =>
  bd (aExtract t100 2) fun t103 =>
  bd2 (aNew s11 (nCells [.int .i64 0, .int .i64 0, .int .i64 0, .int .i64 0, .int .i64 0, .int .i64 0])) fun t4 s12 =>
  bd2 (aStore 6 t4 t101 s12) fun _ s13 =>
  bd (aBin .neq t102 (I .i64 0)) fun t105 =>
  bd (gT (gd t105 false) (aFieldAddr 7 t1)) fun t107 =>
  bd (gT (gd t105 false) (aLoad1 t107 s13.get)) fun t108 =>
  bd (gT (gd t105 false) (aLenStr t108)) fun t109 =>
  bd (gT (gd t105 false) (aBin .gtr t109 (I .i64 300))) fun t110 =>
  bd (aPick t105 (B true) t110) fun t111 =>
  br t111 (some (.ret (B false), s13))
  (some (.normal [t1, t3], s13)))
  (some (.ret (B false), s3))))
  (fun v14 s15 => some (.normal [(v14.getD 0 .any), (v14.getD 1 .any)], s15))
  (fun i16 v14 s15 => some (.exit i16 v14, s15))
  (fun r17 s15 => some (.ret r17, s15))))
  (fun v18 s19 => some (.normal [(v18.getD 0 .any), (v18.getD 1 .any)], s19))
  (fun i20 v18 s19 => some (.exit i20 v18, s19))
  (fun r21 s19 => some (.ret r21, s19))))
  (fun v22 s23 => some (.normal [(v22.getD 0 .any), (v22.getD 1 .any)], s23))
  (fun i24 v22 s23 => if i24 = 0 then some (.normal v22, s23) else some (.exit i24 v22, s23))
  (fun r25 s23 => some (.ret r25, s23)))
  (fun v26 s27 => bd (aLoadN 8 (v26.getD 1 .any) s27.get) fun t112 =>
  bd (aLoadN 8 (v26.getD 0 .any) s27.get) fun t113 =>
  bd (eqB (.a 8 [(0, .i), (1, .i), (2, .i), (3, .i), (4, .i), (5, .i), (6, .i), (7, .s)]) t112 t113) fun t114 =>
  some (t114, s27))
  (fun i28 v26 s27 => none)
  (fun r29 s27 => some (r29, s27)))

theorem f38_eq (callf : CallF) (N : Nat) (a0 : T) (s : St) : bodyC Tryz.prog callf N Tryz.f38 [a0] s = f38 callf N a0 s := by kernel_rfl

theorem f38_run (d : Nat) (a0 : T) (s : St) : R (d + 1) 38 [a0] s = f38 (R d) 8192 a0 s := (runQ_body rfl Tryz.func38 (by kernel_rfl)).trans (f38_eq ..)

/- twinkeep/twinkeepref9.Fold: a loop; 0: t0 l, 1: t3 , 2: t6 out, 3: t7 ever, 4: t8 p, 5: t9 view, 6: t10 last, 7: t11 i -/
def f35_l1 (callf : CallF) (N : Nat) (v : List T) (s : St) : Option (JO × St) :=
  bd (aLenSl (v.getD 0 .any)) fun t18 =>
  bd (aBin .lss (v.getD 7 .any) t18) fun t19 =>
  br t19 (jn (bd (aIndexSl 8 (v.getD 0 .any) (v.getD 7 .any)) fun t24 =>
  bd (aLoadN 8 t24 s.get) fun t25 =>
  bd2 (aNew s (nCells [.int .i64 0, .int .i64 0, .int .i64 0, .int .i64 0, .int .i64 0, .int .i64 0, .int .u32 0, .str []])) fun t12 s5 =>
  bd2 (aStore 8 t12 t25 s5) fun _ s6 =>
  bd (aFieldAddr 2 t12) fun t27 =>
  bd (aLoad1 t27 s6.get) fun t28 =>
  bd2 (callf 61 [(v.getD 2 .any), t28] s6) fun t29 s7 =>
  jn (bd (aLoadN 8 t12 s7.get) fun t31 =>
  bd2 (callf 38 [t31] s7) fun t32 s8 =>
  bd (aUn .not t32) fun t33 =>
  jn (br t33 (some (.normal [(v.getD 0 .any), (v.getD 1 .any), (v.getD 2 .any), (v.getD 3 .any), (v.getD 4 .any), (v.getD 5 .any), (v.getD 7 .any), t12, (I .i64 1), t29], s8))
  (bd (aFieldAddr 0 t12) fun t35 =>
  bd (aLoad1 t35 s8.get) fun t36 =>
  bd (aBin .eql t36 (I .i64 1)) fun t37 =>
  bd (gT (gd t37 true) (some (v.getD 3 .any))) fun t39 =>
  bd (gT (gd t37 true) (aFieldAddr 2 t12)) fun t40 =>
  bd (gT (gd t37 true) (aLoad1 t40 s8.get)) fun t41 =>
  bd2 (gS (gd t37 true) s8 (callf 62 [t39, t41] s8)) fun t42 s9 =>
  bd (aPick t37 t42 (B false)) fun t43 =>
  jn (br t43 (some (.normal [(v.getD 0 .any), (v.getD 1 .any), (v.getD 2 .any), (v.getD 3 .any), (v.getD 4 .any), (v.getD 5 .any), (v.getD 7 .any), t12, (I .i64 7), t29], s9))
  (bd (aFieldAddr 0 t12) fun t45 =>
  bd (aLoad1 t45 s9.get) fun t46 =>
  bd (aBin .eql t46 (I .i64 2)) fun t47 =>
  bd (gT (gd t47 true) (some t29)) fun t49 =>
  bd (gT (gd t47 true) (aBin .lss t49 (I .i64 0))) fun t50 =>
  bd (aPick t47 t50 (B false)) fun t51 =>
  jn (br t51 (some (.normal [(v.getD 0 .any), (v.getD 1 .any), (v.getD 2 .any), (v.getD 3 .any), (v.getD 4 .any), (v.getD 5 .any), (v.getD 7 .any), t12, (I .i64 9), t29], s9))
  (bd (aFieldAddr 1 t12) fun t53 =>
  bd (aLoad1 t53 s9.get) fun t54 =>
  bd (aBin .lss t54 (v.getD 6 .any)) fun t56 =>
  jn (br t56 (some (.normal [(v.getD 0 .any), (v.getD 1 .any), (v.getD 2 .any), (v.getD 3 .any), (v.getD 4 .any), (v.getD 5 .any), (v.getD 7 .any), t12, (I .i64 12), t29], s9))
  (some (.normal [(v.getD 0 .any), (v.getD 1 .any), (v.getD 2 .any), (v.getD 3 .any), (v.getD 4 .any), (v.getD 5 .any), (v.getD 7 .any), t12, (I .i64 0), t29], s9)))
  (fun v10 s11 => some (.normal [(v10.getD 0 .any), (v10.getD 1 .any), (v10.getD 2 .any), (v10.getD 3 .any), (v10.getD 4 .any), (v10.getD 5 .any), (v10.getD 6 .any), (v10.getD 7 .any), (v10.getD 8 .any), (v10.getD 9 .any)], s11))
  (fun i12 v10 s11 => some (.exit i12 v10, s11))
  (fun r13 s11 => some (.ret r13, s11))))
  (fun v14 s15 => some (.normal [(v14.getD 0 .any), (v14.getD 1 .any), (v14.getD 2 .any), (v14.getD 3 .any), (v14.getD 4 .any), (v14.getD 5 .any), (v14.getD 6 .any), (v14.getD 7 .any), (v14.getD 8 .any), (v14.getD 9 .any)], s15))
  (fun i16 v14 s15 => some (.exit i16 v14, s15))
  (fun r17 s15 => some (.ret r17, s15))))
  (fun v18 s19 => some (.normal [(v18.getD 0 .any), (v18.getD 1 .any), (v18.getD 2 .any), (v18.getD 3 .any), (v18.getD 4 .any), (v18.getD 5 .any), (v18.getD 6 .any), (v18.getD 7 .any), (v18.getD 8 .any), (v18.getD 9 .any)], s19))
  (fun i20 v18 s19 => some (.exit i20 v18, s19))
  (fun r21 s19 => some (.ret r21, s19))))
  (fun v22 s23 => some (.normal [(v22.getD 0 .any), (v22.getD 1 .any), (v22.getD 2 .any), (v22.getD 3 .any), (v22.getD 4 .any), (v22.getD 5 .any), (v22.getD 6 .any), (v22.getD 7 .any), (v22.getD 8 .any), (v22.getD 9 .any)], s23))
  (fun i24 v22 s23 => if i24 = 2 then some (.normal v22, s23) else some (.exit i24 v22, s23))
  (fun r25 s23 => some (.ret r25, s23)))
  (fun v26 s27 => bd (aBin .neq (v26.getD 8 .any) (I .i64 0)) fun t58 =>
  br t58 (bd (asAggT (aFill [.int .i64 0, .int .i64 0, .int .i64 0, .int .i64 0, .int .i64 0, .int .i64 0] [])) fun t59 =>
  bd2 (aStore 6 (v26.getD 1 .any) t59 s27) fun _ s30 =>
  bd (rT (Z .nils) (rC (aLoadN 6 (v26.getD 1 .any) s30.get) (rT (I .i64 0) (rT (v26.getD 8 .any) (some []))))) fun l31 => bd (retT l31) fun r32 =>
  some (.ret r32, s30))
  (bd (aFieldAddr 1 (v26.getD 7 .any)) fun t61 =>
  bd (aLoad1 t61 s27.get) fun t62 =>
  bd (aFieldAddr 0 (v26.getD 7 .any)) fun t63 =>
  bd (aLoad1 t63 s27.get) fun t64 =>
  jn (bd (aBin .eql t64 (I .i64 1)) fun t66 =>
  jn (br t66 (bd (aFieldAddr 2 (v26.getD 7 .any)) fun t68 =>
  bd (aLoad1 t68 s27.get) fun t69 =>
  bd2 (aNew s27 (nSlice 1 (aFill [.int .i64 0] [(0, 1, t69)]))) fun t70 s33 =>
  bd2 (aAppend 1 8 (v26.getD 3 .any) t70 s33) fun t71 s34 =>
  bd (aFieldAddr 2 (v26.getD 7 .any)) fun t73 =>
  bd (aLoad1 t73 s34.get) fun t74 =>
  bd (aFieldAddr 3 (v26.getD 7 .any)) fun t75 =>
  bd (aLoad1 t75 s34.get) fun t76 =>
  bd (aFieldAddr 4 (v26.getD 7 .any)) fun t77 =>
  bd (aLoad1 t77 s34.get) fun t78 =>
  bd (aFieldAddr 5 (v26.getD 7 .any)) fun t79 =>
  bd (aLoad1 t79 s34.get) fun t80 =>
  bd (aFieldAddr 6 (v26.getD 7 .any)) fun t81 =>
  bd (aLoad1 t81 s34.get) fun t82 =>
  bd (asAggT (aFill [.int .i64 0, .int .i64 0, .int .i64 0, .int .i64 0, .int .u32 0] [(0, 1, t74), (1, 1, t76), (2, 1, t78), (3, 1, t80), (4, 1, t82)])) fun t83 =>
  bd2 (callf 63 [(v26.getD 2 .any), t83] s34) fun t84 s35 =>
  some (.normal [(v26.getD 0 .any), (v26.getD 1 .any), t84, t71, (v26.getD 4 .any), (v26.getD 5 .any), t62, (v26.getD 6 .any)], s35))
  (bd (aBin .eql t64 (I .i64 2)) fun t86 =>
  jn (br t86 (bd2 (aNew s27 (nSlice 0 (aFill [] []))) fun t87 s36 =>
  bd (aPieceSl 5 (v26.getD 2 .any) none (some (v26.getD 9 .any)) none) fun t90 =>
  bd2 (aAppend 5 40 t87 t90 s36) fun t91 s37 =>
  bd (aBin .add (v26.getD 9 .any) (I .i64 1)) fun t94 =>
  bd (aPieceSl 5 (v26.getD 2 .any) (some t94) none none) fun t95 =>
  bd2 (aAppend 5 40 t91 t95 s37) fun t96 s38 =>
  some (.normal [(v26.getD 0 .any), (v26.getD 1 .any), t96, (v26.getD 3 .any), (v26.getD 4 .any), (v26.getD 5 .any), t62, (v26.getD 6 .any)], s38))
  (bd (aBin .eql t64 (I .i64 3)) fun t98 =>
  jn (br t98 (bd (aFieldAddr 1 (v26.getD 7 .any)) fun t99 =>
  bd (aLoad1 t99 s27.get) fun t100 =>
  some (.normal [(v26.getD 0 .any), (v26.getD 1 .any), (v26.getD 2 .any), (v26.getD 3 .any), (v26.getD 4 .any), t100, t62, (v26.getD 6 .any)], s27))
  (bd (aBin .eql t64 (I .i64 4)) fun t102 =>
  jn (br t102 (bd (aFieldAddr 7 (v26.getD 7 .any)) fun t104 =>
  bd (aLoad1 t104 s27.get) fun t105 =>
  bd2 (callf 64 [t105] s27) fun t106 s39 =>
  bd (aExtract t106 0) fun t107 =>
  bd (aExtract t106 1) fun t108 =>
  bd (aExtract t106 2) fun t109 =>
  bd2 (aStore 6 (v26.getD 4 .any) t107 s39) fun _ s40 =>
  some (.normal [(v26.getD 0 .any), (v26.getD 1 .any), (v26.getD 2 .any), (v26.getD 3 .any), (v26.getD 4 .any), (v26.getD 5 .any), t62, (v26.getD 6 .any)], s40))
  (some (.normal [(v26.getD 0 .any), (v26.getD 1 .any), (v26.getD 2 .any), (v26.getD 3 .any), (v26.getD 4 .any), (v26.getD 5 .any), t62, (v26.getD 6 .any)], s27)))
  (fun v41 s42 => some (.normal [(v41.getD 0 .any), (v41.getD 1 .any), (v41.getD 2 .any), (v41.getD 3 .any), (v41.getD 4 .any), (v41.getD 5 .any), (v41.getD 6 .any), (v41.getD 7 .any)], s42))
  (fun i43 v41 s42 => some (.exit i43 v41, s42))
  (fun r44 s42 => some (.ret r44, s42))))
  (fun v45 s46 => some (.normal [(v45.getD 0 .any), (v45.getD 1 .any), (v45.getD 2 .any), (v45.getD 3 .any), (v45.getD 4 .any), (v45.getD 5 .any), (v45.getD 6 .any), (v45.getD 7 .any)], s46))
  (fun i47 v45 s46 => some (.exit i47 v45, s46))
  (fun r48 s46 => some (.ret r48, s46))))
  (fun v49 s50 => some (.normal [(v49.getD 0 .any), (v49.getD 1 .any), (v49.getD 2 .any), (v49.getD 3 .any), (v49.getD 4 .any), (v49.getD 5 .any), (v49.getD 6 .any), (v49.getD 7 .any)], s50))
  (fun i51 v49 s50 => some (.exit i51 v49, s50))
  (fun r52 s50 => some (.ret r52, s50))))
  (fun v53 s54 => some (.normal [(v53.getD 0 .any), (v53.getD 1 .any), (v53.getD 2 .any), (v53.getD 3 .any), (v53.getD 4 .any), (v53.getD 5 .any), (v53.getD 6 .any), (v53.getD 7 .any)], s54))
  (fun i55 v53 s54 => if i55 = 3 then some (.normal v53, s54) else some (.exit i55 v53, s54))
  (fun r56 s54 => some (.ret r56, s54)))
  (fun v57 s58 => some (.normal [(v57.getD 0 .any), (v57.getD 1 .any), (v57.getD 2 .any), (v57.getD 3 .any), (v57.getD 4 .any), (v57.getD 5 .any), (v57.getD 6 .any), (v57.getD 7 .any)], s58))
  (fun i59 v57 s58 => if i59 = 1 then some (.normal v57, s58) else some (.exit i59 v57, s58))
  (fun r60 s58 => some (.ret r60, s58))))
  (fun i28 v26 s27 => if i28 = 1 then some (.normal v26, s27) else some (.exit i28 v26, s27))
  (fun r29 s27 => some (.ret r29, s27)))
  (fun v61 s62 => bd (aBin .add (v61.getD 7 .any) (I .i64 1)) fun t21 =>
  some (.normal [(v61.getD 0 .any), (v61.getD 1 .any), (v61.getD 2 .any), (v61.getD 3 .any), (v61.getD 4 .any), (v61.getD 5 .any), (v61.getD 6 .any), t21], s62))
  (fun i63 v61 s62 => some (.exit i63 v61, s62))
  (fun r64 s62 => some (.ret r64, s62)))
  (some (.exit 0 [(v.getD 1 .any), (v.getD 2 .any), (v.getD 4 .any), (v.getD 5 .any)], s))

/- twinkeep/twinkeepref9.Fold -/
def f35 (callf : CallF) (N : Nat) (a0 : T) (s : St) : Option (T × St) :=
  bd2 (aNew s (nCells [.int .i64 0, .int .i64 0, .int .i64 0, .int .i64 0, .int .i64 0, .int .i64 0])) fun t3 s1 =>
  bd2 (callf 60 [] s1) fun t15 s2 =>
  bd2 (aNew s2 (nCells [.int .i64 0, .int .i64 0, .int .i64 0, .int .i64 0, .int .i64 0, .int .i64 0])) fun t8 s3 =>
  bd2 (aStore 6 t8 t15 s3) fun _ s4 =>
  jn (jn (loops (f35_l1 callf N) N [a0, t3, (Z .nils), (Z .nils), t8, (I .i64 0), (I .i64 0), (I .i64 0)] s4)
  (fun v65 s66 => some (.normal [.any, .any, .any, .any], s66))
  (fun i67 v65 s66 => if i67 = 0 then some (.normal v65, s66) else some (.exit i67 v65, s66))
  (fun r68 s66 => some (.ret r68, s66)))
  (fun v69 s70 => bd (aLoadN 6 (v69.getD 2 .any) s70.get) fun t111 =>
  bd2 (aStore 6 (v69.getD 0 .any) t111 s70) fun _ s73 =>
  bd (rT (v69.getD 1 .any) (rC (aLoadN 6 (v69.getD 0 .any) s73.get) (rT (v69.getD 3 .any) (rT (I .i64 0) (some []))))) fun l74 => bd (retT l74) fun r75 =>
  some (r75, s73))
  (fun i71 v69 s70 => none)
  (fun r72 s70 => some (r72, s70))

theorem f35_eq (callf : CallF) (N : Nat) (a0 : T) (s : St) : bodyC Tryz.prog callf N Tryz.f35 [a0] s = f35 callf N a0 s := by kernel_rfl

theorem f35_run (d : Nat) (a0 : T) (s : St) : R (d + 1) 35 [a0] s = f35 (R d) 8192 a0 s := (runQ_body rfl Tryz.func35 (by kernel_rfl)).trans (f35_eq ..)

/- twinkeep/twinkeepref9.SameInfos: a loop; 0: t0 a, 1: t1 b, 2: t5 i -/
def f37_l1 (callf : CallF) (N : Nat) (v : List T) (s : St) : Option (JO × St) :=
  bd (aLenSl (v.getD 0 .any)) fun t13 =>
  bd (aBin .lss (v.getD 2 .any) t13) fun t14 =>
  br t14 (jn (bd (aIndexSl 5 (v.getD 0 .any) (v.getD 2 .any)) fun t19 =>
  bd (aLoadN 5 t19 s.get) fun t20 =>
  bd (aIndexSl 5 (v.getD 1 .any) (v.getD 2 .any)) fun t23 =>
  bd (aLoadN 5 t23 s.get) fun t24 =>
  bd (neB (.a 5 [(0, .i), (1, .i), (2, .i), (3, .i), (4, .i)]) t20 t24) fun t25 =>
  br t25 (some (.ret (B false), s))
  (some (.normal [(v.getD 0 .any), (v.getD 1 .any), (v.getD 2 .any)], s)))
  (fun v1 s2 => bd (aBin .add (v1.getD 2 .any) (I .i64 1)) fun t16 =>
  some (.normal [(v1.getD 0 .any), (v1.getD 1 .any), t16], s2))
  (fun i3 v1 s2 => some (.exit i3 v1, s2))
  (fun r4 s2 => some (.ret r4, s2)))
  (some (.exit 0 [], s))

/- twinkeep/twinkeepref9.SameInfos -/
def f37 (callf : CallF) (N : Nat) (a0 : T) (a1 : T) (s : St) : Option (T × St) :=
  bd (aLenSl a0) fun t7 =>
  bd (aLenSl a1) fun t9 =>
  bd (aBin .neq t7 t9) fun t10 =>
  br t10 (some ((B false), s))
  (jn (jn (loops (f37_l1 callf N) N [a0, a1, (I .i64 0)] s)
  (fun v5 s6 => some (.normal [], s6))
  (fun i7 v5 s6 => if i7 = 0 then some (.normal v5, s6) else some (.exit i7 v5, s6))
  (fun r8 s6 => some (.ret r8, s6)))
  (fun v9 s10 => some ((B true), s10))
  (fun i11 v9 s10 => none)
  (fun r12 s10 => some (r12, s10)))

theorem f37_eq (callf : CallF) (N : Nat) (a0 : T) (a1 : T) (s : St) : bodyC Tryz.prog callf N Tryz.f37 [a0, a1] s = f37 callf N a0 a1 s := by kernel_rfl

theorem f37_run (d : Nat) (a0 : T) (a1 : T) (s : St) : R (d + 1) 37 [a0, a1] s = f37 (R d) 8192 a0 a1 s := (runQ_body rfl Tryz.func37 (by kernel_rfl)).trans (f37_eq ..)

/- twinkeep/twinkeepref9.find: a loop; 0: t0 l, 1: t1 id, 2: t5 i -/
def f61_l1 (callf : CallF) (N : Nat) (v : List T) (s : St) : Option (JO × St) :=
  bd (aLenSl (v.getD 0 .any)) fun t8 =>
  bd (aBin .lss (v.getD 2 .any) t8) fun t9 =>
  br t9 (jn (bd (aIndexSl 5 (v.getD 0 .any) (v.getD 2 .any)) fun t14 =>
  bd (aFieldAddr 0 t14) fun t15 =>
  bd (aLoad1 t15 s.get) fun t16 =>
  bd (aBin .eql t16 (v.getD 1 .any)) fun t18 =>
  br t18 (some (.ret (v.getD 2 .any), s))
  (some (.normal [(v.getD 0 .any), (v.getD 1 .any), (v.getD 2 .any)], s)))
  (fun v1 s2 => bd (aBin .add (v1.getD 2 .any) (I .i64 1)) fun t11 =>
  some (.normal [(v1.getD 0 .any), (v1.getD 1 .any), t11], s2))
  (fun i3 v1 s2 => some (.exit i3 v1, s2))
  (fun r4 s2 => some (.ret r4, s2)))
  (some (.exit 0 [], s))

/- twinkeep/twinkeepref9.find -/
def f61 (callf : CallF) (N : Nat) (a0 : T) (a1 : T) (s : St) : Option (T × St) :=
  jn (jn (loops (f61_l1 callf N) N [a0, a1, (I .i64 0)] s)
  (fun v5 s6 => some (.normal [], s6))
  (fun i7 v5 s6 => if i7 = 0 then some (.normal v5, s6) else some (.exit i7 v5, s6))
  (fun r8 s6 => some (.ret r8, s6)))
  (fun v9 s10 => some ((I .i64 (-1)), s10))
  (fun i11 v9 s10 => none)
  (fun r12 s10 => some (r12, s10))

theorem f61_eq (callf : CallF) (N : Nat) (a0 : T) (a1 : T) (s : St) : bodyC Tryz.prog callf N Tryz.f61 [a0, a1] s = f61 callf N a0 a1 s := by kernel_rfl

theorem f61_run (d : Nat) (a0 : T) (a1 : T) (s : St) : R (d + 1) 61 [a0, a1] s = f61 (R d) 8192 a0 a1 s := (runQ_body rfl Tryz.func61 (by kernel_rfl)).trans (f61_eq ..)

/- twinkeep/twinkeepref9.has: a loop; 0: t0 l, 1: t1 n, 2: t5 i -/
def f62_l1 (callf : CallF) (N : Nat) (v : List T) (s : St) : Option (JO × St) :=
  bd (aLenSl (v.getD 0 .any)) fun t8 =>
  bd (aBin .lss (v.getD 2 .any) t8) fun t9 =>
  br t9 (jn (bd (aIndexSl 1 (v.getD 0 .any) (v.getD 2 .any)) fun t14 =>
  bd (aLoad1 t14 s.get) fun t15 =>
  bd (aBin .eql t15 (v.getD 1 .any)) fun t17 =>
  br t17 (some (.ret (B true), s))
  (some (.normal [(v.getD 0 .any), (v.getD 1 .any), (v.getD 2 .any)], s)))
  (fun v1 s2 => bd (aBin .add (v1.getD 2 .any) (I .i64 1)) fun t11 =>
  some (.normal [(v1.getD 0 .any), (v1.getD 1 .any), t11], s2))
  (fun i3 v1 s2 => some (.exit i3 v1, s2))
  (fun r4 s2 => some (.ret r4, s2)))
  (some (.exit 0 [], s))

/- twinkeep/twinkeepref9.has -/
def f62 (callf : CallF) (N : Nat) (a0 : T) (a1 : T) (s : St) : Option (T × St) :=
  jn (jn (loops (f62_l1 callf N) N [a0, a1, (I .i64 0)] s)
  (fun v5 s6 => some (.normal [], s6))
  (fun i7 v5 s6 => if i7 = 0 then some (.normal v5, s6) else some (.exit i7 v5, s6))
  (fun r8 s6 => some (.ret r8, s6)))
  (fun v9 s10 => some ((B false), s10))
  (fun i11 v9 s10 => none)
  (fun r12 s10 => some (r12, s10))

theorem f62_eq (callf : CallF) (N : Nat) (a0 : T) (a1 : T) (s : St) : bodyC Tryz.prog callf N Tryz.f62 [a0, a1] s = f62 callf N a0 a1 s := by kernel_rfl

theorem f62_run (d : Nat) (a0 : T) (a1 : T) (s : St) : R (d + 1) 62 [a0, a1] s = f62 (R d) 8192 a0 a1 s := (runQ_body rfl Tryz.func62 (by kernel_rfl)).trans (f62_eq ..)

/- twinkeep/twinkeepref9.insert: a loop; 0: t0 l, 1: t3 x, 2: t5 k -/
def f63_l1 (callf : CallF) (N : Nat) (v : List T) (s : St) : Option (JO × St) :=
  bd (aLenSl (v.getD 0 .any)) fun t9 =>
  bd (aBin .lss (v.getD 2 .any) t9) fun t10 =>
  bd (gT (gd t10 true) (some (v.getD 0 .any))) fun t12 =>
  bd (gT (gd t10 true) (some (v.getD 2 .any))) fun t13 =>
  bd (gT (gd t10 true) (aIndexSl 5 t12 t13)) fun t14 =>
  bd (gT (gd t10 true) (aFieldAddr 0 t14)) fun t15 =>
  bd (gT (gd t10 true) (aLoad1 t15 s.get)) fun t16 =>
  bd (gT (gd t10 true) (aFieldAddr 0 (v.getD 1 .any))) fun t17 =>
  bd (gT (gd t10 true) (aLoad1 t17 s.get)) fun t18 =>
  bd (gT (gd t10 true) (aBin .lss t16 t18)) fun t19 =>
  bd (aPick t10 t19 (B false)) fun t20 =>
  br t20 (jn (bd (aBin .add (v.getD 2 .any) (I .i64 1)) fun t22 =>
  some (.normal [(v.getD 0 .any), (v.getD 1 .any), t22], s))
  (fun v2 s3 => some (.normal [(v2.getD 0 .any), (v2.getD 1 .any), (v2.getD 2 .any)], s3))
  (fun i4 v2 s3 => some (.exit i4 v2, s3))
  (fun r5 s3 => some (.ret r5, s3)))
  (some (.exit 0 [(v.getD 0 .any), (v.getD 1 .any), (v.getD 2 .any)], s))

/- twinkeep/twinkeepref9.insert -/
def f63 (callf : CallF) (N : Nat) (a0 : T) (a1 : T) (s : St) : Option (T × St) :=
  bd2 (aNew s (nBox a1)) fun t3 s1 =>
  jn (jn (loops (f63_l1 callf N) N [a0, t3, (I .i64 0)] s1)
  (fun v6 s7 => some (.normal [.any, .any, .any], s7))
  (fun i8 v6 s7 => if i8 = 0 then some (.normal v6, s7) else some (.exit i8 v6, s7))
  (fun r9 s7 => some (.ret r9, s7)))
  (fun v10 s11 => bd2 (aNew s11 (nSlice 0 (aFill [] []))) fun t23 s14 =>
  bd (aPieceSl 5 (v10.getD 0 .any) none (some (v10.getD 2 .any)) none) fun t26 =>
  bd2 (aAppend 5 40 t23 t26 s14) fun t27 s15 =>
  bd (aLoadN 5 (v10.getD 1 .any) s15.get) fun t29 =>
  bd2 (aNew s15 (nSlice 1 (aFill [.int .i64 0, .int .i64 0, .int .i64 0, .int .i64 0, .int .u32 0] [(0, 5, t29)]))) fun t30 s16 =>
  bd2 (aAppend 5 40 t27 t30 s16) fun t31 s17 =>
  bd (aPieceSl 5 (v10.getD 0 .any) (some (v10.getD 2 .any)) none none) fun t34 =>
  bd2 (aAppend 5 40 t31 t34 s17) fun t35 s18 =>
  some (t35, s18))
  (fun i12 v10 s11 => none)
  (fun r13 s11 => some (r13, s11))

theorem f63_eq (callf : CallF) (N : Nat) (a0 : T) (a1 : T) (s : St) : bodyC Tryz.prog callf N Tryz.f63 [a0, a1] s = f63 callf N a0 a1 s := by kernel_rfl

theorem f63_run (d : Nat) (a0 : T) (a1 : T) (s : St) : R (d + 1) 63 [a0, a1] s = f63 (R d) 8192 a0 a1 s := (runQ_body rfl Tryz.func63 (by kernel_rfl)).trans (f63_eq ..)

/- twinkeep/twinkeepref9.small -/
def f57 (callf : CallF) (N : Nat) (a0 : T) (a1 : T) (s : St) : Option (T × St) :=
  bd (aBin .gtr a0 a1) fun t7 =>
  br t7 (bd (aConv .i64 a1) fun t9 =>
  bd (aBin .add t9 (I .i64 1)) fun t10 =>
  some (t10, s))
  (bd (aConv .i64 a0) fun t12 =>
  some (t12, s))

theorem f57_eq (callf : CallF) (N : Nat) (a0 : T) (a1 : T) (s : St) : bodyC Tryz.prog callf N Tryz.f57 [a0, a1] s = f57 callf N a0 a1 s := by kernel_rfl

theorem f57_run (d : Nat) (a0 : T) (a1 : T) (s : St) : R (d + 1) 57 [a0, a1] s = f57 (R d) 8192 a0 a1 s := (runQ_body rfl Tryz.func57 (by kernel_rfl)).trans (f57_eq ..)

end
end Go.Proofs.YtlhbidbdmdcdeaaGreatDoor


/-
  What functions that the laws reach compute, printed by a program of our own: each text is by definition the run of the code. No conditions.
-/
namespace Go.Proofs.YtlhbidbdmdcdeaaGreatDoor
open Go Go.Abs Go.Abs.F
set_option linter.unusedVariables false
noncomputable section
/- (twinkeep/twinkeepref5.C).Byte -/
def f56 (callf : CallF) (N : Nat) (a0 : T) (s : St) : Option (T × St) :=
  bd (aNil a0) fun t4 =>
  bd (aFieldAddr 2 t4) fun t5 =>
  bd (aLoad1 t5 s.get) fun t6 =>
  bd (gT (gd t6 false) (some a0)) fun t8 =>
  bd (gT (gd t6 false) (aNil t8)) fun t9 =>
  bd (gT (gd t6 false) (aFieldAddr 1 t9)) fun t10 =>
  bd (gT (gd t6 false) (aLoad1 t10 s.get)) fun t11 =>
  bd (gT (gd t6 false) (some a0)) fun t12 =>
  bd (gT (gd t6 false) (aNil t12)) fun t13 =>
  bd (gT (gd t6 false) (aFieldAddr 0 t13)) fun t14 =>
  bd (gT (gd t6 false) (aLoad1 t14 s.get)) fun t15 =>
  bd (gT (gd t6 false) (aLenStr t15)) fun t16 =>
  bd (gT (gd t6 false) (aBin .geq t11 t16)) fun t17 =>
  bd (aPick t6 (B true) t17) fun t18 =>
  br t18 (bd (aNil a0) fun t20 =>
  bd (aFieldAddr 2 t20) fun t21 =>
  bd2 (aStore 1 t21 (B true) s) fun _ s1 =>
  some ((I .u8 0), s1))
  (bd (aNil a0) fun t23 =>
  bd (aFieldAddr 1 t23) fun t24 =>
  bd (aLoad1 t24 s.get) fun t25 =>
  bd (aBin .add t25 (I .i64 1)) fun t26 =>
  bd (aNil a0) fun t27 =>
  bd (aFieldAddr 1 t27) fun t28 =>
  bd2 (aStore 1 t28 t26 s) fun _ s2 =>
  bd (aNil a0) fun t30 =>
  bd (aFieldAddr 0 t30) fun t31 =>
  bd (aLoad1 t31 s2.get) fun t32 =>
  bd (aNil a0) fun t34 =>
  bd (aFieldAddr 1 t34) fun t35 =>
  bd (aLoad1 t35 s2.get) fun t36 =>
  bd (aBin .sub t36 (I .i64 1)) fun t37 =>
  bd (aAtStr t32 t37) fun t38 =>
  some (t38, s2))

theorem f56_eq (callf : CallF) (N : Nat) (a0 : T) (s : St) : bodyC Tryz.prog callf N Tryz.f56 [a0] s = f56 callf N a0 s := by kernel_rfl

theorem f56_run (d : Nat) (a0 : T) (s : St) : R (d + 1) 56 [a0] s = f56 (R d) 8192 a0 s := (runQ_body rfl Tryz.func56 (by kernel_rfl)).trans (f56_eq ..)

/- (twinkeep/twinkeepref5.C).Num -/
def f58 (callf : CallF) (N : Nat) (a0 : T) (s : St) : Option (T × St) :=
  bd (aNil a0) fun t7 =>
  bd (aFieldAddr 2 t7) fun t8 =>
  bd (aLoad1 t8 s.get) fun t9 =>
  br t9 (some ((I .u64 0), s))
  (bd (aNil a0) fun t12 =>
  bd (aFieldAddr 0 t12) fun t13 =>
  bd (aLoad1 t13 s.get) fun t14 =>
  bd (aNil a0) fun t16 =>
  bd (aFieldAddr 1 t16) fun t17 =>
  bd (aLoad1 t17 s.get) fun t18 =>
  bd2 (callf 42 [t14, t18] s) fun t19 s1 =>
  bd (aExtract t19 0) fun t20 =>
  bd (aExtract t19 1) fun t21 =>
  bd (aExtract t19 2) fun t22 =>
  bd (aBin .neq t22 (I .i64 0)) fun t27 =>
  bd (aNil a0) fun t28 =>
  bd (aFieldAddr 1 t28) fun t29 =>
  bd2 (aStore 1 t29 t21 s1) fun _ s2 =>
  bd (aNil a0) fun t30 =>
  bd (aFieldAddr 2 t30) fun t31 =>
  bd2 (aStore 1 t31 t27 s2) fun _ s3 =>
  some (t20, s3))

theorem f58_eq (callf : CallF) (N : Nat) (a0 : T) (s : St) : bodyC Tryz.prog callf N Tryz.f58 [a0] s = f58 callf N a0 s := by kernel_rfl

theorem f58_run (d : Nat) (a0 : T) (s : St) : R (d + 1) 58 [a0] s = f58 (R d) 8192 a0 s := (runQ_body rfl Tryz.func58 (by kernel_rfl)).trans (f58_eq ..)

/- (twinkeep/twinkeepref5.C).Text -/
def f59 (callf : CallF) (N : Nat) (a0 : T) (a1 : T) (s : St) : Option (T × St) :=
  bd (aNil a0) fun t6 =>
  bd (aFieldAddr 2 t6) fun t7 =>
  bd (aLoad1 t7 s.get) fun t8 =>
  bd (gT (gd t8 false) (some a1)) fun t10 =>
  bd (gT (gd t8 false) (some a0)) fun t11 =>
  bd (gT (gd t8 false) (aNil t11)) fun t12 =>
  bd (gT (gd t8 false) (aFieldAddr 0 t12)) fun t13 =>
  bd (gT (gd t8 false) (aLoad1 t13 s.get)) fun t14 =>
  bd (gT (gd t8 false) (aLenStr t14)) fun t15 =>
  bd (gT (gd t8 false) (some a0)) fun t16 =>
  bd (gT (gd t8 false) (aNil t16)) fun t17 =>
  bd (gT (gd t8 false) (aFieldAddr 1 t17)) fun t18 =>
  bd (gT (gd t8 false) (aLoad1 t18 s.get)) fun t19 =>
  bd (gT (gd t8 false) (aBin .sub t15 t19)) fun t20 =>
  bd (gT (gd t8 false) (aConv .u64 t20)) fun t21 =>
  bd (gT (gd t8 false) (aBin .gtr t10 t21)) fun t22 =>
  bd (aPick t8 (B true) t22) fun t23 =>
  br t23 (bd (aNil a0) fun t25 =>
  bd (aFieldAddr 2 t25) fun t26 =>
  bd2 (aStore 1 t26 (B true) s) fun _ s1 =>
  some ((Z (.str [])), s1))
  (bd (aNil a0) fun t29 =>
  bd (aFieldAddr 1 t29) fun t30 =>
  bd (aLoad1 t30 s.get) fun t31 =>
  bd (aConv .i64 a1) fun t33 =>
  bd (aBin .add t31 t33) fun t34 =>
  bd (aNil a0) fun t35 =>
  bd (aFieldAddr 1 t35) fun t36 =>
  bd2 (aStore 1 t36 t34 s) fun _ s2 =>
  bd (aNil a0) fun t38 =>
  bd (aFieldAddr 0 t38) fun t39 =>
  bd (aLoad1 t39 s2.get) fun t40 =>
  bd (aNil a0) fun t42 =>
  bd (aFieldAddr 1 t42) fun t43 =>
  bd (aLoad1 t43 s2.get) fun t44 =>
  bd (aConv .i64 a1) fun t46 =>
  bd (aBin .sub t44 t46) fun t47 =>
  bd (aNil a0) fun t49 =>
  bd (aFieldAddr 1 t49) fun t50 =>
  bd (aLoad1 t50 s2.get) fun t51 =>
  bd (aPieceStr t40 (some t47) (some t51) none) fun t52 =>
  some (t52, s2))

theorem f59_eq (callf : CallF) (N : Nat) (a0 : T) (a1 : T) (s : St) : bodyC Tryz.prog callf N Tryz.f59 [a0, a1] s = f59 callf N a0 a1 s := by kernel_rfl

theorem f59_run (d : Nat) (a0 : T) (a1 : T) (s : St) : R (d + 1) 59 [a0, a1] s = f59 (R d) 8192 a0 a1 s := (runQ_body rfl Tryz.func59 (by kernel_rfl)).trans (f59_eq ..)

/- twinkeep/twinkeepref5.Parse: a loop; 0: t0 s, 1: t2 , 2: t5 p, 3: t6 was, 4: t7 from, 5: t8 n, 6: t9 i -/
def f64_l1 (callf : CallF) (N : Nat) (v : List T) (s : St) : Option (JO × St) :=
  bd (aLenStr (v.getD 0 .any)) fun t15 =>
  bd (aBin .leq (v.getD 6 .any) t15) fun t16 =>
  br t16 (jn (bd (aLenStr (v.getD 0 .any)) fun t21 =>
  bd (aBin .lss (v.getD 6 .any) t21) fun t22 =>
  bd (gT (gd t22 true) (some (v.getD 0 .any))) fun t24 =>
  bd (gT (gd t22 true) (some (v.getD 6 .any))) fun t25 =>
  bd (gT (gd t22 true) (aAtStr t24 t25)) fun t26 =>
  bd (gT (gd t22 true) (aBin .neq t26 (I .u8 10))) fun t27 =>
  bd (aPick t22 t27 (B false)) fun t28 =>
  br t28 (some (.normal [(v.getD 0 .any), (v.getD 1 .any), (v.getD 2 .any), (v.getD 3 .any), (v.getD 4 .any), (v.getD 5 .any), (v.getD 6 .any)], s))
  (bd (aBin .add (v.getD 5 .any) (I .i64 1)) fun t30 =>
  bd (aPieceStr (v.getD 0 .any) (some (v.getD 4 .any)) (some (v.getD 6 .any)) none) fun t34 =>
  bd2 (callf 83 [t34] s) fun t35 s6 =>
  bd (aLenSl t35) fun t37 =>
  bd (aBin .gtr t37 (I .i64 0)) fun t38 =>
  bd (gT (gd t38 true) (some (v.getD 3 .any))) fun t40 =>
  bd (gT (gd t38 true) (some t35)) fun t41 =>
  bd2 (gS (gd t38 true) s6 (callf 84 [(v.getD 2 .any), t40, t41] s6)) fun t42 s7 =>
  bd (gT (gd t38 true) (aUn .not t42)) fun t43 =>
  bd (aPick t38 t43 (B false)) fun t44 =>
  br t44 (bd (asAggT (aFill [.int .i64 0, .int .i64 0, .int .i64 0, .int .i64 0, .int .i64 0, .int .i64 0] [])) fun t45 =>
  bd2 (aStore 6 (v.getD 1 .any) t45 s7) fun _ s8 =>
  bd (rC (aLoadN 6 (v.getD 1 .any) s8.get) (rT (I .i64 4) (rT t30 (some [])))) fun l9 => bd (retT l9) fun r10 =>
  some (.ret r10, s8))
  (bd (aBin .add (v.getD 6 .any) (I .i64 1)) fun t48 =>
  some (.normal [(v.getD 0 .any), (v.getD 1 .any), (v.getD 2 .any), (v.getD 3 .any), t48, t30, (v.getD 6 .any)], s7))))
  (fun v11 s12 => bd (aBin .add (v11.getD 6 .any) (I .i64 1)) fun t18 =>
  some (.normal [(v11.getD 0 .any), (v11.getD 1 .any), (v11.getD 2 .any), (v11.getD 3 .any), (v11.getD 4 .any), (v11.getD 5 .any), t18], s12))
  (fun i13 v11 s12 => some (.exit i13 v11, s12))
  (fun r14 s12 => some (.ret r14, s12)))
  (some (.exit 0 [(v.getD 1 .any), (v.getD 2 .any)], s))

/- twinkeep/twinkeepref5.Parse -/
def f64 (callf : CallF) (N : Nat) (a0 : T) (s : St) : Option (T × St) :=
  bd2 (aNew s (nCells [.int .i64 0, .int .i64 0, .int .i64 0, .int .i64 0, .int .i64 0, .int .i64 0])) fun t2 s1 =>
  bd2 (callf 60 [] s1) fun t11 s2 =>
  bd2 (aNew s2 (nCells [.int .i64 0, .int .i64 0, .int .i64 0, .int .i64 0, .int .i64 0, .int .i64 0])) fun t5 s3 =>
  bd2 (aStore 6 t5 t11 s3) fun _ s4 =>
  bd2 (aNew s4 (nMake 1 1 [.bool false] (I .i64 6) (I .i64 6))) fun t12 s5 =>
  jn (jn (loops (f64_l1 callf N) N [a0, t2, t5, t12, (I .i64 0), (I .i64 0), (I .i64 0)] s5)
  (fun v15 s16 => some (.normal [.any, .any], s16))
  (fun i17 v15 s16 => if i17 = 0 then some (.normal v15, s16) else some (.exit i17 v15, s16))
  (fun r18 s16 => some (.ret r18, s16)))
  (fun v19 s20 => bd (aLoadN 6 (v19.getD 1 .any) s20.get) fun t49 =>
  bd2 (callf 85 [t49] s20) fun t50 s23 =>
  bd (aUn .not t50) fun t51 =>
  br t51 (bd (asAggT (aFill [.int .i64 0, .int .i64 0, .int .i64 0, .int .i64 0, .int .i64 0, .int .i64 0] [])) fun t52 =>
  bd2 (aStore 6 (v19.getD 0 .any) t52 s23) fun _ s24 =>
  bd (rC (aLoadN 6 (v19.getD 0 .any) s24.get) (rT (I .i64 5) (rT (I .i64 0) (some [])))) fun l25 => bd (retT l25) fun r26 =>
  some (r26, s24))
  (bd (aLoadN 6 (v19.getD 1 .any) s23.get) fun t53 =>
  bd2 (aStore 6 (v19.getD 0 .any) t53 s23) fun _ s27 =>
  bd (rC (aLoadN 6 (v19.getD 0 .any) s27.get) (rT (I .i64 0) (rT (I .i64 0) (some [])))) fun l28 => bd (retT l28) fun r29 =>
  some (r29, s27)))
  (fun i21 v19 s20 => none)
  (fun r22 s20 => some (r22, s20))

theorem f64_eq (callf : CallF) (N : Nat) (a0 : T) (s : St) : bodyC Tryz.prog callf N Tryz.f64 [a0] s = f64 callf N a0 s := by kernel_rfl

theorem f64_run (d : Nat) (a0 : T) (s : St) : R (d + 1) 64 [a0] s = f64 (R d) 8192 a0 s := (runQ_body rfl Tryz.func64 (by kernel_rfl)).trans (f64_eq ..)

/- twinkeep/twinkeepref5.words: a loop; 0: t0 s, 1: t3 out, 2: t4 from, 3: t5 i -/
def f83_l1 (callf : CallF) (N : Nat) (v : List T) (s : St) : Option (JO × St) :=
  bd (aLenStr (v.getD 0 .any)) fun t9 =>
  bd (aBin .leq (v.getD 3 .any) t9) fun t10 =>
  br t10 (jn (bd (aLenStr (v.getD 0 .any)) fun t15 =>
  bd (aBin .eql (v.getD 3 .any) t15) fun t16 =>
  bd (gT (gd t16 false) (some (v.getD 0 .any))) fun t18 =>
  bd (gT (gd t16 false) (some (v.getD 3 .any))) fun t19 =>
  bd (gT (gd t16 false) (aAtStr t18 t19)) fun t20 =>
  bd (gT (gd t16 false) (aBin .eql t20 (I .u8 35))) fun t21 =>
  bd (aPick t16 (B true) t21) fun t22 =>
  bd (gT (gd t22 false) (some (v.getD 0 .any))) fun t25 =>
  bd (gT (gd t22 false) (some (v.getD 3 .any))) fun t26 =>
  bd (gT (gd t22 false) (aAtStr t25 t26)) fun t27 =>
  bd (gT (gd t22 false) (aBin .eql t27 (I .u8 32))) fun t28 =>
  bd (aPick t22 (B true) t28) fun t29 =>
  jn (br t29 (bd (aBin .gtr (v.getD 3 .any) (v.getD 2 .any)) fun t32 =>
  jn (br t32 (bd (aPieceStr (v.getD 0 .any) (some (v.getD 2 .any)) (some (v.getD 3 .any)) none) fun t37 =>
  bd2 (aNew s (nSlice 1 (aFill [.str []] [(0, 1, t37)]))) fun t38 s1 =>
  bd2 (aAppend 1 16 (v.getD 1 .any) t38 s1) fun t39 s2 =>
  some (.normal [(v.getD 0 .any), t39, (v.getD 3 .any), t22], s2))
  (some (.normal [(v.getD 0 .any), (v.getD 1 .any), (v.getD 3 .any), t22], s)))
  (fun v3 s4 => bd (aBin .add (v3.getD 2 .any) (I .i64 1)) fun t41 =>
  some (.normal [(v3.getD 0 .any), (v3.getD 1 .any), t41, (v3.getD 2 .any), (v3.getD 3 .any)], s4))
  (fun i5 v3 s4 => some (.exit i5 v3, s4))
  (fun r6 s4 => some (.ret r6, s4)))
  (some (.normal [(v.getD 0 .any), (v.getD 1 .any), (v.getD 2 .any), (v.getD 3 .any), t22], s)))
  (fun v7 s8 => br (v7.getD 4 .any) (some (.exit 0 [(v7.getD 1 .any)], s8))
  (some (.normal [(v7.getD 0 .any), (v7.getD 1 .any), (v7.getD 2 .any), (v7.getD 3 .any)], s8)))
  (fun i9 v7 s8 => if i9 = 1 then some (.normal v7, s8) else some (.exit i9 v7, s8))
  (fun r10 s8 => some (.ret r10, s8)))
  (fun v11 s12 => bd (aBin .add (v11.getD 3 .any) (I .i64 1)) fun t12 =>
  some (.normal [(v11.getD 0 .any), (v11.getD 1 .any), (v11.getD 2 .any), t12], s12))
  (fun i13 v11 s12 => some (.exit i13 v11, s12))
  (fun r14 s12 => some (.ret r14, s12)))
  (some (.exit 0 [(v.getD 1 .any)], s))

/- twinkeep/twinkeepref5.words -/
def f83 (callf : CallF) (N : Nat) (a0 : T) (s : St) : Option (T × St) :=
  jn (jn (loops (f83_l1 callf N) N [a0, (Z .nils), (I .i64 0), (I .i64 0)] s)
  (fun v15 s16 => some (.normal [.any], s16))
  (fun i17 v15 s16 => if i17 = 0 then some (.normal v15, s16) else some (.exit i17 v15, s16))
  (fun r18 s16 => some (.ret r18, s16)))
  (fun v19 s20 => some ((v19.getD 0 .any), s20))
  (fun i21 v19 s20 => none)
  (fun r22 s20 => some (r22, s20))

theorem f83_eq (callf : CallF) (N : Nat) (a0 : T) (s : St) : bodyC Tryz.prog callf N Tryz.f83 [a0] s = f83 callf N a0 s := by kernel_rfl

theorem f83_run (d : Nat) (a0 : T) (s : St) : R (d + 1) 83 [a0] s = f83 (R d) 8192 a0 s := (runQ_body rfl Tryz.func83 (by kernel_rfl)).trans (f83_eq ..)

/- twinkeep/twinkeepref5.line: a loop; 0: t0 p, 1: t1 was, 2: t2 l, 3: t7 n, 4: t8 i -/
def f84_l1 (callf : CallF) (N : Nat) (v : List T) (s : St) : Option (JO × St) :=
  bd (aBin .lss (v.getD 4 .any) (I .i64 4)) fun t27 =>
  br t27 (jn (bd2 (callf 100 [] s) fun t30 s6 =>
  bd (aIndexSl 1 t30 (v.getD 4 .any)) fun t32 =>
  bd (aLoad1 t32 s6.get) fun t33 =>
  bd (aIndexSl 1 (v.getD 2 .any) (I .i64 1)) fun t35 =>
  bd (aLoad1 t35 s6.get) fun t36 =>
  bd (aBin .eql t33 t36) fun t37 =>
  bd (gT (gd t37 true) (some (v.getD 3 .any))) fun t39 =>
  bd (gT (gd t37 true) (aBin .geq t39 (I .i64 0))) fun t40 =>
  bd (aPick t37 t40 (B false)) fun t41 =>
  bd (gT (gd t41 true) (some (v.getD 1 .any))) fun t43 =>
  bd (gT (gd t41 true) (some (v.getD 4 .any))) fun t44 =>
  bd (gT (gd t41 true) (aIndexSl 1 t43 t44)) fun t45 =>
  bd (gT (gd t41 true) (aLoad1 t45 s6.get)) fun t46 =>
  bd (gT (gd t41 true) (aUn .not t46)) fun t47 =>
  bd (aPick t41 t47 (B false)) fun t48 =>
  ck ((decide (aLoad1 t35 s.get = aLoad1 t35 s6.get) && true) && true) (br t48 (bd (aNil (v.getD 0 .any)) fun t52 =>
  bd (aFieldAddr 0 t52) fun t53 =>
  bd (aIndexArr 4 1 t53 (v.getD 4 .any)) fun t54 =>
  bd2 (aStore 1 t54 (v.getD 3 .any) s6) fun _ s7 =>
  bd (aIndexSl 1 (v.getD 1 .any) (v.getD 4 .any)) fun t57 =>
  bd2 (aStore 1 t57 (B true) s7) fun _ s8 =>
  some (.ret (B true), s8))
  (some (.normal [(v.getD 0 .any), (v.getD 1 .any), (v.getD 2 .any), (v.getD 3 .any), (v.getD 4 .any)], s6))))
  (fun v9 s10 => bd (aBin .add (v9.getD 4 .any) (I .i64 1)) fun t29 =>
  some (.normal [(v9.getD 0 .any), (v9.getD 1 .any), (v9.getD 2 .any), (v9.getD 3 .any), t29], s10))
  (fun i11 v9 s10 => some (.exit i11 v9, s10))
  (fun r12 s10 => some (.ret r12, s10)))
  (some (.exit 0 [], s))

/- twinkeep/twinkeepref5.line -/
def f84 (callf : CallF) (N : Nat) (a0 : T) (a1 : T) (a2 : T) (s : St) : Option (T × St) :=
  bd (aLenSl a2) fun t10 =>
  bd (aBin .eql t10 (I .i64 3)) fun t11 =>
  bd (gT (gd t11 true) (some a2)) fun t13 =>
  bd (gT (gd t11 true) (aIndexSl 1 t13 (I .i64 0))) fun t14 =>
  bd (gT (gd t11 true) (aLoad1 t14 s.get)) fun t15 =>
  bd (gT (gd t11 true) (aBin .eql t15 (Z (.str [107, 101, 101, 112])))) fun t16 =>
  bd (aPick t11 t16 (B false)) fun t17 =>
  br t17 (bd (aIndexSl 1 a2 (I .i64 2)) fun t19 =>
  bd (aLoad1 t19 s.get) fun t20 =>
  bd2 (callf 99 [t20] s) fun t21 s1 =>
  bd (aIndexSl 1 a2 (I .i64 2)) fun t23 =>
  bd (aLoad1 t23 s1.get) fun t24 =>
  bd (aBin .eql t24 (Z (.str [101, 118, 101, 114]))) fun t25 =>
  jn (br t25 (some (.normal [a0, a1, a2, (I .i64 0)], s1))
  (some (.normal [a0, a1, a2, t21], s1)))
  (fun v2 s3 => jn (jn (loops (f84_l1 callf N) N [(v2.getD 0 .any), (v2.getD 1 .any), (v2.getD 2 .any), (v2.getD 3 .any), (I .i64 0)] s3)
  (fun v13 s14 => some (.normal [], s14))
  (fun i15 v13 s14 => if i15 = 0 then some (.normal v13, s14) else some (.exit i15 v13, s14))
  (fun r16 s14 => some (.ret r16, s14)))
  (fun v17 s18 => some ((B false), s18))
  (fun i19 v17 s18 => none)
  (fun r20 s18 => some (r20, s18)))
  (fun i4 v2 s3 => none)
  (fun r5 s3 => some (r5, s3)))
  (bd (aLenSl a2) fun t59 =>
  bd (aBin .neq t59 (I .i64 2)) fun t60 =>
  bd (gT (gd t60 false) (some a2)) fun t62 =>
  bd (gT (gd t60 false) (aIndexSl 1 t62 (I .i64 1))) fun t63 =>
  bd (gT (gd t60 false) (aLoad1 t63 s.get)) fun t64 =>
  bd2 (gS (gd t60 false) s (callf 99 [t64] s)) fun t65 s21 =>
  bd (gT (gd t60 false) (aBin .lss t65 (I .i64 0))) fun t66 =>
  bd (aPick t60 (B true) t66) fun t67 =>
  br t67 (some ((B false), s21))
  (bd (aIndexSl 1 a2 (I .i64 0)) fun t69 =>
  bd (aLoad1 t69 s21.get) fun t70 =>
  bd (aBin .eql t70 (Z (.str [115, 101, 97, 108]))) fun t71 =>
  bd (gT (gd t71 true) (some a1)) fun t73 =>
  bd (gT (gd t71 true) (aIndexSl 1 t73 (I .i64 4))) fun t74 =>
  bd (gT (gd t71 true) (aLoad1 t74 s21.get)) fun t75 =>
  bd (gT (gd t71 true) (aUn .not t75)) fun t76 =>
  bd (aPick t71 t76 (B false)) fun t77 =>
  br t77 (bd (aIndexSl 1 a2 (I .i64 1)) fun t80 =>
  bd (aLoad1 t80 s21.get) fun t81 =>
  bd2 (callf 99 [t81] s21) fun t82 s22 =>
  bd (aNil a0) fun t83 =>
  bd (aFieldAddr 4 t83) fun t84 =>
  bd2 (aStore 1 t84 t82 s22) fun _ s23 =>
  bd (aIndexSl 1 a1 (I .i64 4)) fun t86 =>
  bd2 (aStore 1 t86 (B true) s23) fun _ s24 =>
  some ((B true), s24))
  (bd (aIndexSl 1 a2 (I .i64 0)) fun t88 =>
  bd (aLoad1 t88 s21.get) fun t89 =>
  bd (aBin .eql t89 (Z (.str [115, 112, 97, 110]))) fun t90 =>
  bd (gT (gd t90 true) (some a1)) fun t92 =>
  bd (gT (gd t90 true) (aIndexSl 1 t92 (I .i64 5))) fun t93 =>
  bd (gT (gd t90 true) (aLoad1 t93 s21.get)) fun t94 =>
  bd (gT (gd t90 true) (aUn .not t94)) fun t95 =>
  bd (aPick t90 t95 (B false)) fun t96 =>
  br t96 (bd (aIndexSl 1 a2 (I .i64 1)) fun t99 =>
  bd (aLoad1 t99 s21.get) fun t100 =>
  bd2 (callf 99 [t100] s21) fun t101 s25 =>
  bd (aNil a0) fun t102 =>
  bd (aFieldAddr 5 t102) fun t103 =>
  bd2 (aStore 1 t103 t101 s25) fun _ s26 =>
  bd (aIndexSl 1 a1 (I .i64 5)) fun t105 =>
  bd2 (aStore 1 t105 (B true) s26) fun _ s27 =>
  some ((B true), s27))
  (some ((B false), s21)))))

theorem f84_eq (callf : CallF) (N : Nat) (a0 : T) (a1 : T) (a2 : T) (s : St) : bodyC Tryz.prog callf N Tryz.f84 [a0, a1, a2] s = f84 callf N a0 a1 a2 s := by kernel_rfl

theorem f84_run (d : Nat) (a0 : T) (a1 : T) (a2 : T) (s : St) : R (d + 1) 84 [a0, a1, a2] s = f84 (R d) 8192 a0 a1 a2 s := (runQ_body rfl Tryz.func84 (by kernel_rfl)).trans (f84_eq ..)

/- twinkeep/twinkeepref5.number: a loop; 0: t0 s, 1: t3 n, 2: t4 i -/
def f99_l1 (callf : CallF) (N : Nat) (v : List T) (s : St) : Option (JO × St) :=
  bd (aLenStr (v.getD 0 .any)) fun t15 =>
  bd (aBin .lss (v.getD 2 .any) t15) fun t16 =>
  br t16 (jn (bd (aAtStr (v.getD 0 .any) (v.getD 2 .any)) fun t21 =>
  bd (aBin .lss t21 (I .u8 48)) fun t22 =>
  bd (gT (gd t22 false) (some (v.getD 0 .any))) fun t24 =>
  bd (gT (gd t22 false) (some (v.getD 2 .any))) fun t25 =>
  bd (gT (gd t22 false) (aAtStr t24 t25)) fun t26 =>
  bd (gT (gd t22 false) (aBin .gtr t26 (I .u8 57))) fun t27 =>
  bd (aPick t22 (B true) t27) fun t28 =>
  br t28 (some (.ret (I .i64 (-1)), s))
  (bd (aBin .mul (v.getD 1 .any) (I .i64 10)) fun t30 =>
  bd (aAtStr (v.getD 0 .any) (v.getD 2 .any)) fun t33 =>
  bd (aBin .sub t33 (I .u8 48)) fun t34 =>
  bd (aConv .i64 t34) fun t35 =>
  bd (aBin .add t30 t35) fun t36 =>
  some (.normal [(v.getD 0 .any), t36, (v.getD 2 .any)], s)))
  (fun v1 s2 => bd (aBin .add (v1.getD 2 .any) (I .i64 1)) fun t18 =>
  some (.normal [(v1.getD 0 .any), (v1.getD 1 .any), t18], s2))
  (fun i3 v1 s2 => some (.exit i3 v1, s2))
  (fun r4 s2 => some (.ret r4, s2)))
  (some (.exit 0 [(v.getD 1 .any)], s))

/- twinkeep/twinkeepref5.number -/
def f99 (callf : CallF) (N : Nat) (a0 : T) (s : St) : Option (T × St) :=
  bd (aLenStr a0) fun t6 =>
  bd (aBin .lss t6 (I .i64 1)) fun t7 =>
  bd (gT (gd t7 false) (some a0)) fun t9 =>
  bd (gT (gd t7 false) (aLenStr t9)) fun t10 =>
  bd (gT (gd t7 false) (aBin .gtr t10 (I .i64 13))) fun t11 =>
  bd (aPick t7 (B true) t11) fun t12 =>
  br t12 (some ((I .i64 (-1)), s))
  (jn (jn (loops (f99_l1 callf N) N [a0, (I .i64 0), (I .i64 0)] s)
  (fun v5 s6 => some (.normal [.any], s6))
  (fun i7 v5 s6 => if i7 = 0 then some (.normal v5, s6) else some (.exit i7 v5, s6))
  (fun r8 s6 => some (.ret r8, s6)))
  (fun v9 s10 => some ((v9.getD 0 .any), s10))
  (fun i11 v9 s10 => none)
  (fun r12 s10 => some (r12, s10)))

theorem f99_eq (callf : CallF) (N : Nat) (a0 : T) (s : St) : bodyC Tryz.prog callf N Tryz.f99 [a0] s = f99 callf N a0 s := by kernel_rfl

theorem f99_run (d : Nat) (a0 : T) (s : St) : R (d + 1) 99 [a0] s = f99 (R d) 8192 a0 s := (runQ_body rfl Tryz.func99 (by kernel_rfl)).trans (f99_eq ..)

/- twinkeep/twinkeepref5.names -/
def f100 (callf : CallF) (N : Nat) (s : St) : Option (T × St) :=
  bd2 (aNew s (nSlice 4 (aFill [.str [], .str [], .str [], .str []] [(0, 1, (Z (.str [114, 97, 119]))), (1, 1, (Z (.str [53, 109]))), (2, 1, (Z (.str [49, 104]))), (3, 1, (Z (.str [49, 100])))]))) fun t1 s1 =>
  some (t1, s1)

theorem f100_eq (callf : CallF) (N : Nat) (s : St) : bodyC Tryz.prog callf N Tryz.f100 [] s = f100 callf N s := by kernel_rfl

theorem f100_run (d : Nat) (s : St) : R (d + 1) 100 [] s = f100 (R d) 8192 s := (runQ_body rfl Tryz.func100 (by kernel_rfl)).trans (f100_eq ..)

/- twinkeep/twinkeepref5.MayPolicy: a loop; 0: t1 p, 1: t3 i -/
def f85_l1 (callf : CallF) (N : Nat) (v : List T) (s : St) : Option (JO × St) :=
  bd (aBin .lss (v.getD 1 .any) (I .i64 4)) fun t6 =>
  br t6 (jn (bd (aFieldAddr 0 (v.getD 0 .any)) fun t10 =>
  bd (aIndexArr 4 1 t10 (v.getD 1 .any)) fun t11 =>
  bd (aLoad1 t11 s.get) fun t12 =>
  bd (aBin .lss t12 (I .i64 0)) fun t14 =>
  bd (gT (gd t14 false) (some t12)) fun t16 =>
  bd (gT (gd t14 false) (aBin .gtr t16 (I .i64 1099511627776))) fun t17 =>
  bd (aPick t14 (B true) t17) fun t18 =>
  bd (gT (gd t18 false) (some (v.getD 1 .any))) fun t20 =>
  bd (gT (gd t18 false) (aBin .gtr t20 (I .i64 0))) fun t21 =>
  bd (gT (gd t18 false) (some t21)) fun t22 =>
  bd (gT (gd t22 true) (some t12)) fun t23 =>
  bd (gT (gd t22 true) (aBin .neq t23 (I .i64 0))) fun t24 =>
  bd (gT (gd t22 true) (some t24)) fun t25 =>
  bd (gT (gd t25 true) (some t12)) fun t26 =>
  bd (gT (gd t25 true) (some (v.getD 1 .any))) fun t27 =>
  bd (gT (gd t25 true) (aBin .sub t27 (I .i64 1))) fun t28 =>
  bd (gT (gd t25 true) (aFieldAddr 0 (v.getD 0 .any))) fun t29 =>
  bd (gT (gd t25 true) (aIndexArr 4 1 t29 t28)) fun t30 =>
  bd (gT (gd t25 true) (aLoad1 t30 s.get)) fun t31 =>
  bd (gT (gd t25 true) (aBin .lss t26 t31)) fun t32 =>
  bd (gT (gd t22 true) (aPick t25 t32 (B false))) fun t33 =>
  bd (gT (gd t22 true) (some t33)) fun t34 =>
  bd (gT (gd t34 false) (some t12)) fun t35 =>
  bd (gT (gd t34 false) (aBin .neq t35 (I .i64 0))) fun t36 =>
  bd (gT (gd t34 false) (some t36)) fun t37 =>
  bd (gT (gd t37 true) (some (v.getD 1 .any))) fun t38 =>
  bd (gT (gd t37 true) (aBin .sub t38 (I .i64 1))) fun t39 =>
  bd (gT (gd t37 true) (aFieldAddr 0 (v.getD 0 .any))) fun t40 =>
  bd (gT (gd t37 true) (aIndexArr 4 1 t40 t39)) fun t41 =>
  bd (gT (gd t37 true) (aLoad1 t41 s.get)) fun t42 =>
  bd (gT (gd t37 true) (aBin .eql t42 (I .i64 0))) fun t43 =>
  bd (gT (gd t34 false) (aPick t37 t43 (B false))) fun t44 =>
  bd (gT (gd t22 true) (aPick t34 (B true) t44)) fun t45 =>
  bd (gT (gd t18 false) (aPick t22 t45 (B false))) fun t46 =>
  bd (aPick t18 (B true) t46) fun t47 =>
  br t47 (some (.ret (B false), s))
  (some (.normal [(v.getD 0 .any), (v.getD 1 .any)], s)))
  (fun v2 s3 => bd (aBin .add (v2.getD 1 .any) (I .i64 1)) fun t8 =>
  some (.normal [(v2.getD 0 .any), t8], s3))
  (fun i4 v2 s3 => some (.exit i4 v2, s3))
  (fun r5 s3 => some (.ret r5, s3)))
  (some (.exit 0 [(v.getD 0 .any)], s))

/- twinkeep/twinkeepref5.MayPolicy -/
def f85 (callf : CallF) (N : Nat) (a0 : T) (s : St) : Option (T × St) :=
  bd2 (aNew s (nBox a0)) fun t1 s1 =>
  jn (jn (loops (f85_l1 callf N) N [t1, (I .i64 0)] s1)
  (fun v6 s7 => some (.normal [.any], s7))
  (fun i8 v6 s7 => if i8 = 0 then some (.normal v6, s7) else some (.exit i8 v6, s7))
  (fun r9 s7 => some (.ret r9, s7)))
  (fun v10 s11 => bd (aFieldAddr 0 (v10.getD 0 .any)) fun t48 =>
  bd (aIndexArr 4 1 t48 (I .i64 3)) fun t49 =>
  bd (aLoad1 t49 s11.get) fun t50 =>
  bd (aBin .eql t50 (I .i64 0)) fun t51 =>
  bd (gT (gd t51 true) (aFieldAddr 4 (v10.getD 0 .any))) fun t53 =>
  bd (gT (gd t51 true) (aLoad1 t53 s11.get)) fun t54 =>
  bd (gT (gd t51 true) (aBin .geq t54 (I .i64 1))) fun t55 =>
  bd (aPick t51 t55 (B false)) fun t56 =>
  bd (gT (gd t56 true) (aFieldAddr 4 (v10.getD 0 .any))) fun t58 =>
  bd (gT (gd t56 true) (aLoad1 t58 s11.get)) fun t59 =>
  bd (gT (gd t56 true) (aBin .leq t59 (I .i64 64))) fun t60 =>
  bd (aPick t56 t60 (B false)) fun t61 =>
  bd (gT (gd t61 true) (aFieldAddr 5 (v10.getD 0 .any))) fun t63 =>
  bd (gT (gd t61 true) (aLoad1 t63 s11.get)) fun t64 =>
  bd (gT (gd t61 true) (aBin .geq t64 (I .i64 1))) fun t65 =>
  bd (aPick t61 t65 (B false)) fun t66 =>
  bd (gT (gd t66 true) (aFieldAddr 5 (v10.getD 0 .any))) fun t68 =>
  bd (gT (gd t66 true) (aLoad1 t68 s11.get)) fun t69 =>
  bd (gT (gd t66 true) (aBin .leq t69 (I .i64 200))) fun t70 =>
  bd (aPick t66 t70 (B false)) fun t71 =>
  some (t71, s11))
  (fun i12 v10 s11 => none)
  (fun r13 s11 => some (r13, s11))

theorem f85_eq (callf : CallF) (N : Nat) (a0 : T) (s : St) : bodyC Tryz.prog callf N Tryz.f85 [a0] s = f85 callf N a0 s := by kernel_rfl

theorem f85_run (d : Nat) (a0 : T) (s : St) : R (d + 1) 85 [a0] s = f85 (R d) 8192 a0 s := (runQ_body rfl Tryz.func85 (by kernel_rfl)).trans (f85_eq ..)

/- twinkeep/twinkeepref5.Default -/
def f60 (callf : CallF) (N : Nat) (s : St) : Option (T × St) :=
  bd2 (aNew s (nCells [.int .i64 0, .int .i64 0, .int .i64 0, .int .i64 0, .int .i64 0, .int .i64 0])) fun t0 s1 =>
  bd (asAggT (aFill [.int .i64 0, .int .i64 0, .int .i64 0, .int .i64 0] [(0, 1, (I .i64 60)), (1, 1, (I .i64 600)), (2, 1, (I .i64 6000)), (3, 1, (I .i64 0))])) fun t1 =>
  bd (asAggT (aFill [.int .i64 0, .int .i64 0, .int .i64 0, .int .i64 0, .int .i64 0, .int .i64 0] [(0, 4, t1), (4, 1, (I .i64 8)), (5, 1, (I .i64 30))])) fun t2 =>
  bd2 (aStore 6 t0 t2 s1) fun _ s2 =>
  bd (rC (aLoadN 6 t0 s2.get) (some [])) fun l3 => bd (retT l3) fun r4 =>
  some (r4, s2)

theorem f60_eq (callf : CallF) (N : Nat) (s : St) : bodyC Tryz.prog callf N Tryz.f60 [] s = f60 callf N s := by kernel_rfl

theorem f60_run (d : Nat) (s : St) : R (d + 1) 60 [] s = f60 (R d) 8192 s := (runQ_body rfl Tryz.func60 (by kernel_rfl)).trans (f60_eq ..)

end
end Go.Proofs.YtlhbidbdmdcdeaaGreatDoor


/-
  What functions that the laws reach compute, printed by a program of our own: each text is by definition the run of the code. No conditions.
-/
namespace Go.Proofs.YtlhbidbdmdcdeaaGreatDoor
end Go.Proofs.YtlhbidbdmdcdeaaGreatDoor

