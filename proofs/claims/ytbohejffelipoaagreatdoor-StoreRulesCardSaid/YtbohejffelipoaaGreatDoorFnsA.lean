/-
  Several texts in one: what functions that the law reaches compute. No conditions but those named in each line.
-/
import Derived.Test.YtbohejffelipoaaGreatDoorAbsE
import Derived.Test.YtbohejffelipoaaGreatDoorAbsD
import Derived.Test.YtbohejffelipoaaGreatDoorRows
/-
  What the laws of layer 12 and the functions that they reach compute, printed by a program of our own: each text is by definition the run of the code. No conditions.
-/
namespace Go.Proofs.YtbohejffelipoaaGreatDoor
open Go Go.Abs Go.Abs.F
set_option linter.unusedVariables false
noncomputable section
def nkeysOf : List (S × V) → Option (List (List UInt8))
  | [] => some []
  | (.str n, _) :: r => match nkeysOf r with
    | some l => match Nat.ble n.length 1000 && !l.contains n with
      | true => some (n :: l)
      | false => none
    | none => none
  | _ :: _ => none

def lexLe : List UInt8 → List UInt8 → Bool
  | [], _ => true
  | _ :: _, [] => false
  | a :: r, b :: t => match Nat.blt a.toNat b.toNat with
    | true => true
    | false => match Nat.beq a.toNat b.toNat with
      | true => lexLe r t
      | false => false

def nput (n : List UInt8) : List (List UInt8) → List (List UInt8)
  | [] => [n]
  | m :: r => match lexLe n m with
    | true => n :: m :: r
    | false => m :: nput n r

def nsorted : List (List UInt8) → List (List UInt8)
  | [] => []
  | n :: r => nput n (nsorted r)

def namesP : CallF := fun f ts σ => match Nat.beq f 29 with
  | false => none
  | true => match ts with
    | [.v (.s (.ptr i o))] => match σ.get i with
      | some (.cells _ vs) => match vs[o + 1]? with
        | some (.map m) => match σ.get m with
          | some (.map es) => match Nat.ble es.length 1000, nkeysOf es with
            | true, some [] => some (Z .nils, σ)
            | true, some (k :: l) => some (Z (.sl σ.size 0 (l.length + 1) (.grown 1)), σ.push (.cells false ((nsorted (k :: l)).map S.str)))
            | _, _ => none
          | _ => none
        | _ => none
      | _ => none
    | _ => none

abbrev ixs : List Nat := [247, 248]
abbrev prim0 : CallF := orP (ixP ixs 246) (joinP 181)
abbrev prim1 : CallF := orP prim0 (pureP (runQ Tryz.prog 64 noPrim 8) [167])
abbrev primI : CallF := orP (delP 136 5 [.int .i64 0, .int .i64 0, .int .i64 0, .int .i64 0, .int .u32 0]) (insP 135 5)
abbrev primD : CallF := orP (pureP (runQ Tryz.prog 64 noPrim 16) [90]) primI
abbrev prim3 : CallF := orP namesP (orP primD prim1)
abbrev prim : CallF := orP (toldP 7 true) prim3
abbrev R (d : Nat) : CallF := runQ Tryz.prog 8192 prim d
end
end Go.Proofs.YtbohejffelipoaaGreatDoor


/-
  What functions that the laws reach compute, printed by a program of our own: each text is by definition the run of the code. No conditions.
-/
namespace Go.Proofs.YtbohejffelipoaaGreatDoor
open Go Go.Abs Go.Abs.F
set_option linter.unusedVariables false
noncomputable section
theorem prim_skip {f : Nat} {ts : List T} {σ : St} (h : (!Nat.beq f 7 && !Nat.beq f 29 && !Nat.beq f 90 && !Nat.beq f 136 && !Nat.beq f 135) = true) : prim f ts σ = prim1 f ts σ := by
  simp only [Bool.and_eq_true, Bool.not_eq_true'] at h
  obtain ⟨⟨⟨⟨h1, h2⟩, h3⟩, h4⟩, h5⟩ := h
  have e1 : toldP 7 true f ts σ = none := by simp [toldP, h1]
  have e2 : namesP f ts σ = none := by simp only [namesP, h2]
  have e3 : pureP (runQ Tryz.prog 64 noPrim 16) [90] f ts σ = none := by
    have : [90].contains f = false := by
      have hn : f ≠ 90 := fun e => by subst e; cases h3
      simp [hn]
    simp only [pureP, this, Bool.false_and]
  have e4 : delP 136 5 [.int .i64 0, .int .i64 0, .int .i64 0, .int .i64 0, .int .u32 0] f ts σ = none := by simp only [delP, h4]
  have e5 : insP 135 5 f ts σ = none := by simp only [insP, h5]
  exact (orP_right e1).trans ((orP_right e2).trans (orP_right ((orP_right e3).trans ((orP_right e4).trans e5))))
theorem prim_ix {f : Nat} {l : Bs} {c : UInt8} {σ : St} (h : (ixs.contains f && !Nat.beq f 7) = true) : prim f [Z (.str l), Z (.str [c])] σ = some (I .i64 (ixB c l 0), σ) := by
  simp only [Bool.and_eq_true, Bool.not_eq_true'] at h
  have hf : f = 247 ∨ f = 248 := by simpa [ixs] using h.1
  rw [prim_skip (by rcases hf with rfl | rfl <;> decide)]
  exact orP_left (orP_left (ixP_at h.1))
theorem prim_cnt {l : Bs} {c : UInt8} {σ : St} : prim 246 [Z (.str l), Z (.str [c])] σ = some (I .i64 (cntB c l : Nat), σ) := by
  rw [prim_skip (by decide)]
  exact orP_left (orP_left (ixP_cnt (by decide)))
theorem prim_join {x : S} {l : List Bs} {sep : Bs} {σ : St} (h : RT σ x l) (hb : totalLen l + l.length * sep.length ≤ 1000000) (hl : l.length ≤ 1000000) : prim 181 [Z x, Z (.str sep)] σ = some (Z (.str (joinB sep l)), σ) := by
  rw [prim_skip (by decide)]
  have e3 : ixP ixs 246 181 [Z x, Z (.str sep)] σ = none := by
    have h1 : ixs.contains 181 = false := by decide
    have h2 : Nat.beq 181 246 = false := by decide
    simp only [ixP, h1, h2]
  exact orP_left ((orP_right e3).trans (joinP_at h hb hl))
theorem prim_set (σ : St) : prim 167 [Z (.str [48, 49, 50, 51, 52, 53, 54, 55, 56, 57])] σ = some (.tup [.agg ((List.range 256).map fun c => S.bool (Nat.ble 48 c && Nat.ble c 57)), .s (.bool true)], σ) := by
  rw [prim_skip (by decide)]
  have h0 : prim0 167 [Z (.str [48, 49, 50, 51, 52, 53, 54, 55, 56, 57])] σ = none := by
    have h1 : ixs.contains 167 = false := by decide
    have h2 : Nat.beq 167 246 = false := by decide
    have h3 : Nat.beq 167 181 = false := by decide
    simp only [prim0, orP, ixP, h1, h2, joinP, h3]
  exact (orP_right h0).trans (pureP_val (by decide) (by kernel_rfl) (by kernel_rfl))
theorem told12_run (d : Nat) (s : St) : R (d + 1) 7 [] s = some (B true, s) := runQ_prim rfl
theorem prim_ins {σ : St} {ts : List T} : prim 135 ts σ = insP 135 5 135 ts σ := by
  have e1 : toldP 7 true 135 ts σ = none := by
    have : Nat.beq 135 7 = false := by decide
    simp only [toldP, this, Bool.false_and]
  have e2 : namesP 135 ts σ = none := by
    have : Nat.beq 135 29 = false := by decide
    simp only [namesP, this]
  have e3 : pureP (runQ Tryz.prog 64 noPrim 16) [90] 135 ts σ = none := by
    have : [90].contains 135 = false := by decide
    simp only [pureP, this, Bool.false_and]
  have e4 : delP 136 5 [.int .i64 0, .int .i64 0, .int .i64 0, .int .i64 0, .int .u32 0] 135 ts σ = none := by
    have : Nat.beq 135 136 = false := by decide
    simp only [delP, this]
  have e5 : prim1 135 ts σ = none := by
    have h1 : ixs.contains 135 = false := by decide
    have h2 : Nat.beq 135 246 = false := by decide
    have h3 : Nat.beq 135 181 = false := by decide
    have h4 : [167].contains 135 = false := by decide
    have h5 : prim0 135 ts σ = none := by
      simp only [prim0, orP, ixP, h1, h2, joinP, h3]
    exact (orP_right h5).trans (by simp only [pureP, h4, Bool.false_and])
  refine (orP_right e1).trans ((orP_right e2).trans ?_)
  cases h : insP 135 5 135 ts σ with
  | some r => exact orP_left ((orP_right e3).trans ((orP_right e4).trans h))
  | none => exact (orP_right ((orP_right e3).trans ((orP_right e4).trans h))).trans e5
theorem prim_del {σ : St} {ts : List T} {r : T × St} (h : delP 136 5 [.int .i64 0, .int .i64 0, .int .i64 0, .int .i64 0, .int .u32 0] 136 ts σ = some r) : prim 136 ts σ = some r := by
  have e1 : toldP 7 true 136 ts σ = none := by
    have : Nat.beq 136 7 = false := by decide
    simp only [toldP, this, Bool.false_and]
  have e2 : namesP 136 ts σ = none := by
    have : Nat.beq 136 29 = false := by decide
    simp only [namesP, this]
  have e3 : pureP (runQ Tryz.prog 64 noPrim 16) [90] 136 ts σ = none := by
    have : [90].contains 136 = false := by decide
    simp only [pureP, this, Bool.false_and]
  exact (orP_right e1).trans ((orP_right e2).trans (orP_left ((orP_right e3).trans (orP_left h))))
theorem named_of {n : Bs} {b : Bool} (d : Nat) (s : St) (hs : pureP (runQ Tryz.prog 64 noPrim 16) [90] 90 [Z (.str n)] s = some (B b, s)) : R (d + 1) 90 [Z (.str n)] s = some (B b, s) := by
  refine runQ_prim ((orP_right ?_).trans ((orP_right ?_).trans (orP_left (orP_left hs))))
  · have : Nat.beq 90 7 = false := by decide
    simp only [toldP, this, Bool.false_and]
  · have : Nat.beq 90 29 = false := by decide
    simp only [namesP, this]
end
end Go.Proofs.YtbohejffelipoaaGreatDoor


/-
  What functions that the laws reach compute, printed by a program of our own: each text is by definition the run of the code. No conditions.
-/
namespace Go.Proofs.YtbohejffelipoaaGreatDoor
open Go Go.Abs Go.Abs.F
set_option linter.unusedVariables false
noncomputable section
/- strings.Split -/
def f179 (callf : CallF) (N : Nat) (a0 : T) (a1 : T) (s : St) : Option (T × St) :=
  bd2 (callf 218 [a0, a1, (I .i64 0), (I .i64 (-1))] s) fun t7 s1 =>
  some (t7, s1)

theorem f179_eq (callf : CallF) (N : Nat) (a0 : T) (a1 : T) (s : St) : bodyC Tryz.prog callf N Tryz.f179 [a0, a1] s = f179 callf N a0 a1 s := by kernel_rfl

theorem f179_run (d : Nat) (a0 : T) (a1 : T) (s : St) : R (d + 1) 179 [a0, a1] s = f179 (R d) 8192 a0 a1 s := (runQ_body rfl Tryz.func179 (by kernel_rfl)).trans (f179_eq ..)

/- strings.genSplit: a loop; 0: t0 s, 1: t1 sep, 2: t2 sepSave, 3: t3 n, 4: t9 a, 5: t10 i -/
def f218_l1 (callf : CallF) (N : Nat) (v : List T) (s : St) : Option (JO × St) :=
  bd (aBin .lss (v.getD 5 .any) (v.getD 3 .any)) fun t36 =>
  br t36 (jn (bd2 (callf 247 [(v.getD 0 .any), (v.getD 1 .any)] s) fun t39 s8 =>
  bd (aBin .lss t39 (I .i64 0)) fun t41 =>
  br t41 (some (.exit 0 [(v.getD 0 .any), (v.getD 4 .any), (v.getD 5 .any)], s8))
  (bd (aBin .add t39 (v.getD 2 .any)) fun t47 =>
  bd (aPieceStr (v.getD 0 .any) none (some t47) none) fun t48 =>
  bd (aIndexSl 1 (v.getD 4 .any) (v.getD 5 .any)) fun t49 =>
  bd2 (aStore 1 t49 t48 s8) fun _ s9 =>
  bd (aLenStr (v.getD 1 .any)) fun t53 =>
  bd (aBin .add t39 t53) fun t54 =>
  bd (aPieceStr (v.getD 0 .any) (some t54) none none) fun t55 =>
  bd (aBin .add (v.getD 5 .any) (I .i64 1)) fun t57 =>
  some (.normal [t55, (v.getD 1 .any), (v.getD 2 .any), (v.getD 3 .any), (v.getD 4 .any), t57], s9)))
  (fun v10 s11 => some (.normal [(v10.getD 0 .any), (v10.getD 1 .any), (v10.getD 2 .any), (v10.getD 3 .any), (v10.getD 4 .any), (v10.getD 5 .any)], s11))
  (fun i12 v10 s11 => some (.exit i12 v10, s11))
  (fun r13 s11 => some (.ret r13, s11)))
  (some (.exit 0 [(v.getD 0 .any), (v.getD 4 .any), (v.getD 5 .any)], s))

/- strings.genSplit -/
def f218 (callf : CallF) (N : Nat) (a0 : T) (a1 : T) (a2 : T) (a3 : T) (s : St) : Option (T × St) :=
  bd (aBin .eql a3 (I .i64 0)) fun t13 =>
  br t13 (some ((Z .nils), s))
  (bd (aBin .eql a1 (Z (.str []))) fun t15 =>
  br t15 (bd2 (callf 245 [a0, a3] s) fun t18 s1 =>
  some (t18, s1))
  (bd (aBin .lss a3 (I .i64 0)) fun t20 =>
  jn (br t20 (bd2 (callf 246 [a0, a1] s) fun t23 s2 =>
  bd (aBin .add t23 (I .i64 1)) fun t24 =>
  some (.normal [a0, a1, a2, t24], s2))
  (some (.normal [a0, a1, a2, a3], s)))
  (fun v3 s4 => bd (aLenStr (v3.getD 0 .any)) fun t27 =>
  bd (aBin .add t27 (I .i64 1)) fun t28 =>
  bd (aFold aMin2 (v3.getD 3 .any) [t28]) fun t29 =>
  bd2 (aNew s4 (nMake 1 16 [.str []] t29 t29)) fun t31 s7 =>
  bd (aBin .sub t29 (I .i64 1)) fun t33 =>
  jn (jn (loops (f218_l1 callf N) N [(v3.getD 0 .any), (v3.getD 1 .any), (v3.getD 2 .any), t33, t31, (I .i64 0)] s7)
  (fun v14 s15 => some (.normal [.any, .any, .any], s15))
  (fun i16 v14 s15 => if i16 = 0 then some (.normal v14, s15) else some (.exit i16 v14, s15))
  (fun r17 s15 => some (.ret r17, s15)))
  (fun v18 s19 => bd (aIndexSl 1 (v18.getD 1 .any) (v18.getD 2 .any)) fun t61 =>
  bd2 (aStore 1 t61 (v18.getD 0 .any) s19) fun _ s22 =>
  bd (aBin .add (v18.getD 2 .any) (I .i64 1)) fun t64 =>
  bd (aPieceSl 1 (v18.getD 1 .any) none (some t64) none) fun t65 =>
  some (t65, s22))
  (fun i20 v18 s19 => none)
  (fun r21 s19 => some (r21, s19)))
  (fun i5 v3 s4 => none)
  (fun r6 s4 => some (r6, s4))))

theorem f218_eq (callf : CallF) (N : Nat) (a0 : T) (a1 : T) (a2 : T) (a3 : T) (s : St) : bodyC Tryz.prog callf N Tryz.f218 [a0, a1, a2, a3] s = f218 callf N a0 a1 a2 a3 s := by kernel_rfl

theorem f218_run (d : Nat) (a0 : T) (a1 : T) (a2 : T) (a3 : T) (s : St) : R (d + 1) 218 [a0, a1, a2, a3] s = f218 (R d) 8192 a0 a1 a2 a3 s := (runQ_body rfl Tryz.func218 (by kernel_rfl)).trans (f218_eq ..)

/- strings.Cut -/
def f180 (callf : CallF) (N : Nat) (a0 : T) (a1 : T) (s : St) : Option (T × St) :=
  bd2 (callf 219 [a0, a1] s) fun t9 s1 =>
  bd (aExtract t9 0) fun t10 =>
  bd (aExtract t9 1) fun t11 =>
  bd (aExtract t9 2) fun t12 =>
  bd (retT [t10, t11, t12]) fun r2 =>
  some (r2, s1)

theorem f180_eq (callf : CallF) (N : Nat) (a0 : T) (a1 : T) (s : St) : bodyC Tryz.prog callf N Tryz.f180 [a0, a1] s = f180 callf N a0 a1 s := by kernel_rfl

theorem f180_run (d : Nat) (a0 : T) (a1 : T) (s : St) : R (d + 1) 180 [a0, a1] s = f180 (R d) 8192 a0 a1 s := (runQ_body rfl Tryz.func180 (by kernel_rfl)).trans (f180_eq ..)

/- internal/stringslite.Cut -/
def f219 (callf : CallF) (N : Nat) (a0 : T) (a1 : T) (s : St) : Option (T × St) :=
  bd2 (callf 248 [a0, a1] s) fun t10 s1 =>
  bd (aBin .geq t10 (I .i64 0)) fun t12 =>
  br t12 (bd (aPieceStr a0 none (some t10) none) fun t15 =>
  bd (aLenStr a1) fun t19 =>
  bd (aBin .add t10 t19) fun t20 =>
  bd (aPieceStr a0 (some t20) none none) fun t21 =>
  bd (retT [t15, t21, (B true)]) fun r2 =>
  some (r2, s1))
  (bd (retT [a0, (Z (.str [])), (B false)]) fun r3 =>
  some (r3, s1))

theorem f219_eq (callf : CallF) (N : Nat) (a0 : T) (a1 : T) (s : St) : bodyC Tryz.prog callf N Tryz.f219 [a0, a1] s = f219 callf N a0 a1 s := by kernel_rfl

theorem f219_run (d : Nat) (a0 : T) (a1 : T) (s : St) : R (d + 1) 219 [a0, a1] s = f219 (R d) 8192 a0 a1 s := (runQ_body rfl Tryz.func219 (by kernel_rfl)).trans (f219_eq ..)

/- slices.Index[[]string,string]: a loop; 0: t0 s, 1: t1 v, 2: t7 , 3: t8  -/
def f224_l1 (callf : CallF) (N : Nat) (v : List T) (s : St) : Option (JO × St) :=
  bd (aBin .lss (v.getD 3 .any) (v.getD 2 .any)) fun t9 =>
  br t9 (jn (bd (aIndexSl 1 (v.getD 0 .any) (v.getD 3 .any)) fun t14 =>
  bd (aLoad1 t14 s.get) fun t15 =>
  bd (aBin .eql (v.getD 1 .any) t15) fun t16 =>
  br t16 (some (.ret (v.getD 3 .any), s))
  (some (.normal [(v.getD 0 .any), (v.getD 1 .any), (v.getD 2 .any), (v.getD 3 .any)], s)))
  (fun v1 s2 => bd (aBin .add (v1.getD 3 .any) (I .i64 1)) fun t18 =>
  some (.normal [(v1.getD 0 .any), (v1.getD 1 .any), (v1.getD 2 .any), t18], s2))
  (fun i3 v1 s2 => some (.exit i3 v1, s2))
  (fun r4 s2 => some (.ret r4, s2)))
  (some (.exit 0 [], s))

/- slices.Index[[]string,string] -/
def f224 (callf : CallF) (N : Nat) (a0 : T) (a1 : T) (s : St) : Option (T × St) :=
  bd (aLenSl a0) fun t7 =>
  jn (jn (loops (f224_l1 callf N) N [a0, a1, t7, (I .i64 0)] s)
  (fun v5 s6 => some (.normal [], s6))
  (fun i7 v5 s6 => if i7 = 0 then some (.normal v5, s6) else some (.exit i7 v5, s6))
  (fun r8 s6 => some (.ret r8, s6)))
  (fun v9 s10 => some ((I .i64 (-1)), s10))
  (fun i11 v9 s10 => none)
  (fun r12 s10 => some (r12, s10))

theorem f224_eq (callf : CallF) (N : Nat) (a0 : T) (a1 : T) (s : St) : bodyC Tryz.prog callf N Tryz.f224 [a0, a1] s = f224 callf N a0 a1 s := by kernel_rfl

theorem f224_run (d : Nat) (a0 : T) (a1 : T) (s : St) : R (d + 1) 224 [a0, a1] s = f224 (R d) 8192 a0 a1 s := (runQ_body rfl Tryz.func224 (by kernel_rfl)).trans (f224_eq ..)

/- slices.Contains[[]string,string] -/
def f183 (callf : CallF) (N : Nat) (a0 : T) (a1 : T) (s : St) : Option (T × St) :=
  bd2 (callf 224 [a0, a1] s) fun t7 s1 =>
  bd (aBin .geq t7 (I .i64 0)) fun t8 =>
  some (t8, s1)

theorem f183_eq (callf : CallF) (N : Nat) (a0 : T) (a1 : T) (s : St) : bodyC Tryz.prog callf N Tryz.f183 [a0, a1] s = f183 callf N a0 a1 s := by kernel_rfl

theorem f183_run (d : Nat) (a0 : T) (a1 : T) (s : St) : R (d + 1) 183 [a0, a1] s = f183 (R d) 8192 a0 a1 s := (runQ_body rfl Tryz.func183 (by kernel_rfl)).trans (f183_eq ..)

/- strings.Trim -/
def f129 (callf : CallF) (N : Nat) (a0 : T) (a1 : T) (s : St) : Option (T × St) :=
  bd (aBin .eql a0 (Z (.str []))) fun t8 =>
  bd (gT (gd t8 false) (some a1)) fun t10 =>
  bd (gT (gd t8 false) (aBin .eql t10 (Z (.str [])))) fun t11 =>
  bd (aPick t8 (B true) t11) fun t12 =>
  br t12 (some (a0, s))
  (bd (aLenStr a1) fun t15 =>
  bd (aBin .eql t15 (I .i64 1)) fun t16 =>
  bd (gT (gd t16 true) (some a1)) fun t18 =>
  bd (gT (gd t16 true) (aAtStr t18 (I .i64 0))) fun t19 =>
  bd (gT (gd t16 true) (aBin .lss t19 (I .u8 128))) fun t20 =>
  bd (aPick t16 t20 (B false)) fun t21 =>
  br t21 (bd (aAtStr a1 (I .i64 0)) fun t24 =>
  bd2 (callf 166 [a0, t24] s) fun t25 s1 =>
  bd (aAtStr a1 (I .i64 0)) fun t27 =>
  bd2 (callf 165 [t25, t27] s1) fun t28 s2 =>
  some (t28, s2))
  (bd2 (callf 167 [a1] s) fun t31 s3 =>
  bd (aExtract t31 0) fun t32 =>
  bd (aExtract t31 1) fun t33 =>
  bd2 (aNew s3 (nCells [.bool false, .bool false, .bool false, .bool false, .bool false, .bool false, .bool false, .bool false, .bool false, .bool false, .bool false, .bool false, .bool false, .bool false, .bool false, .bool false, .bool false, .bool false, .bool false, .bool false, .bool false, .bool false, .bool false, .bool false, .bool false, .bool false, .bool false, .bool false, .bool false, .bool false, .bool false, .bool false, .bool false, .bool false, .bool false, .bool false, .bool false, .bool false, .bool false, .bool false, .bool false, .bool false, .bool false, .bool false, .bool false, .bool false, .bool false, .bool false, .bool false, .bool false, .bool false, .bool false, .bool false, .bool false, .bool false, .bool false, .bool false, .bool false, .bool false, .bool false, .bool false, .bool false, .bool false, .bool false, .bool false, .bool false, .bool false, .bool false, .bool false, .bool false, .bool false, .bool false, .bool false, .bool false, .bool false, .bool false, .bool false, .bool false, .bool false, .bool false, .bool false, .bool false, .bool false, .bool false, .bool false, .bool false, .bool false, .bool false, .bool false, .bool false, .bool false, .bool false, .bool false, .bool false, .bool false, .bool false, .bool false, .bool false, .bool false, .bool false, .bool false, .bool false, .bool false, .bool false, .bool false, .bool false, .bool false, .bool false, .bool false, .bool false, .bool false, .bool false, .bool false, .bool false, .bool false, .bool false, .bool false, .bool false, .bool false, .bool false, .bool false, .bool false, .bool false, .bool false, .bool false, .bool false, .bool false, .bool false, .bool false, .bool false, .bool false, .bool false, .bool false, .bool false, .bool false, .bool false, .bool false, .bool false, .bool false, .bool false, .bool false, .bool false, .bool false, .bool false, .bool false, .bool false, .bool false, .bool false, .bool false, .bool false, .bool false, .bool false, .bool false, .bool false, .bool false, .bool false, .bool false, .bool false, .bool false, .bool false, .bool false, .bool false, .bool false, .bool false, .bool false, .bool false, .bool false, .bool false, .bool false, .bool false, .bool false, .bool false, .bool false, .bool false, .bool false, .bool false, .bool false, .bool false, .bool false, .bool false, .bool false, .bool false, .bool false, .bool false, .bool false, .bool false, .bool false, .bool false, .bool false, .bool false, .bool false, .bool false, .bool false, .bool false, .bool false, .bool false, .bool false, .bool false, .bool false, .bool false, .bool false, .bool false, .bool false, .bool false, .bool false, .bool false, .bool false, .bool false, .bool false, .bool false, .bool false, .bool false, .bool false, .bool false, .bool false, .bool false, .bool false, .bool false, .bool false, .bool false, .bool false, .bool false, .bool false, .bool false, .bool false, .bool false, .bool false, .bool false, .bool false, .bool false, .bool false, .bool false, .bool false, .bool false, .bool false, .bool false, .bool false, .bool false, .bool false, .bool false, .bool false, .bool false, .bool false, .bool false, .bool false, .bool false, .bool false, .bool false, .bool false, .bool false, .bool false, .bool false, .bool false, .bool false, .bool false, .bool false])) fun t5 s4 =>
  bd2 (aStore 256 t5 t32 s4) fun _ s5 =>
  br t33 (bd2 (callf 169 [a0, t5] s5) fun t36 s6 =>
  bd2 (callf 168 [t36, t5] s6) fun t37 s7 =>
  some (t37, s7))
  (bd2 (callf 171 [a0, a1] s5) fun t40 s8 =>
  bd2 (callf 170 [t40, a1] s8) fun t42 s9 =>
  some (t42, s9))))

theorem f129_eq (callf : CallF) (N : Nat) (a0 : T) (a1 : T) (s : St) : bodyC Tryz.prog callf N Tryz.f129 [a0, a1] s = f129 callf N a0 a1 s := by kernel_rfl

theorem f129_run (d : Nat) (a0 : T) (a1 : T) (s : St) : R (d + 1) 129 [a0, a1] s = f129 (R d) 8192 a0 a1 s := (runQ_body rfl Tryz.func129 (by kernel_rfl)).trans (f129_eq ..)

/- strings.trimLeftASCII: a loop; 0: t0 s, 1: t1 as -/
def f168_l1 (callf : CallF) (N : Nat) (v : List T) (s : St) : Option (JO × St) :=
  bd (aLenStr (v.getD 0 .any)) fun t6 =>
  bd (aBin .gtr t6 (I .i64 0)) fun t7 =>
  br t7 (jn (bd (aAtStr (v.getD 0 .any) (I .i64 0)) fun t10 =>
  bd2 (callf 212 [(v.getD 1 .any), t10] s) fun t11 s1 =>
  bd (aUn .not t11) fun t12 =>
  br t12 (some (.exit 0 [(v.getD 0 .any)], s1))
  (bd (aPieceStr (v.getD 0 .any) (some (I .i64 1)) none none) fun t14 =>
  some (.normal [t14, (v.getD 1 .any)], s1)))
  (fun v2 s3 => some (.normal [(v2.getD 0 .any), (v2.getD 1 .any)], s3))
  (fun i4 v2 s3 => some (.exit i4 v2, s3))
  (fun r5 s3 => some (.ret r5, s3)))
  (some (.exit 0 [(v.getD 0 .any)], s))

/- strings.trimLeftASCII -/
def f168 (callf : CallF) (N : Nat) (a0 : T) (a1 : T) (s : St) : Option (T × St) :=
  jn (jn (loops (f168_l1 callf N) N [a0, a1] s)
  (fun v6 s7 => some (.normal [.any], s7))
  (fun i8 v6 s7 => if i8 = 0 then some (.normal v6, s7) else some (.exit i8 v6, s7))
  (fun r9 s7 => some (.ret r9, s7)))
  (fun v10 s11 => some ((v10.getD 0 .any), s11))
  (fun i12 v10 s11 => none)
  (fun r13 s11 => some (r13, s11))

theorem f168_eq (callf : CallF) (N : Nat) (a0 : T) (a1 : T) (s : St) : bodyC Tryz.prog callf N Tryz.f168 [a0, a1] s = f168 callf N a0 a1 s := by kernel_rfl

theorem f168_run (d : Nat) (a0 : T) (a1 : T) (s : St) : R (d + 1) 168 [a0, a1] s = f168 (R d) 8192 a0 a1 s := (runQ_body rfl Tryz.func168 (by kernel_rfl)).trans (f168_eq ..)

/- strings.trimRightASCII: a loop; 0: t0 s, 1: t1 as -/
def f169_l1 (callf : CallF) (N : Nat) (v : List T) (s : St) : Option (JO × St) :=
  bd (aLenStr (v.getD 0 .any)) fun t6 =>
  bd (aBin .gtr t6 (I .i64 0)) fun t7 =>
  br t7 (jn (bd (aLenStr (v.getD 0 .any)) fun t11 =>
  bd (aBin .sub t11 (I .i64 1)) fun t12 =>
  bd (aAtStr (v.getD 0 .any) t12) fun t13 =>
  bd2 (callf 212 [(v.getD 1 .any), t13] s) fun t14 s1 =>
  bd (aUn .not t14) fun t15 =>
  br t15 (some (.exit 0 [(v.getD 0 .any)], s1))
  (bd (aLenStr (v.getD 0 .any)) fun t18 =>
  bd (aBin .sub t18 (I .i64 1)) fun t19 =>
  bd (aPieceStr (v.getD 0 .any) none (some t19) none) fun t20 =>
  some (.normal [t20, (v.getD 1 .any)], s1)))
  (fun v2 s3 => some (.normal [(v2.getD 0 .any), (v2.getD 1 .any)], s3))
  (fun i4 v2 s3 => some (.exit i4 v2, s3))
  (fun r5 s3 => some (.ret r5, s3)))
  (some (.exit 0 [(v.getD 0 .any)], s))

/- strings.trimRightASCII -/
def f169 (callf : CallF) (N : Nat) (a0 : T) (a1 : T) (s : St) : Option (T × St) :=
  jn (jn (loops (f169_l1 callf N) N [a0, a1] s)
  (fun v6 s7 => some (.normal [.any], s7))
  (fun i8 v6 s7 => if i8 = 0 then some (.normal v6, s7) else some (.exit i8 v6, s7))
  (fun r9 s7 => some (.ret r9, s7)))
  (fun v10 s11 => some ((v10.getD 0 .any), s11))
  (fun i12 v10 s11 => none)
  (fun r13 s11 => some (r13, s11))

theorem f169_eq (callf : CallF) (N : Nat) (a0 : T) (a1 : T) (s : St) : bodyC Tryz.prog callf N Tryz.f169 [a0, a1] s = f169 callf N a0 a1 s := by kernel_rfl

theorem f169_run (d : Nat) (a0 : T) (a1 : T) (s : St) : R (d + 1) 169 [a0, a1] s = f169 (R d) 8192 a0 a1 s := (runQ_body rfl Tryz.func169 (by kernel_rfl)).trans (f169_eq ..)

/- (strings.asciiSet).contains -/
def f212 (callf : CallF) (N : Nat) (a0 : T) (a1 : T) (s : St) : Option (T × St) :=
  bd (aNil a0) fun t7 =>
  bd (aIndexArr 256 1 t7 a1) fun t8 =>
  bd (aLoad1 t8 s.get) fun t9 =>
  some (t9, s)

theorem f212_eq (callf : CallF) (N : Nat) (a0 : T) (a1 : T) (s : St) : bodyC Tryz.prog callf N Tryz.f212 [a0, a1] s = f212 callf N a0 a1 s := by kernel_rfl

theorem f212_run (d : Nat) (a0 : T) (a1 : T) (s : St) : R (d + 1) 212 [a0, a1] s = f212 (R d) 8192 a0 a1 s := (runQ_body rfl Tryz.func212 (by kernel_rfl)).trans (f212_eq ..)

/- strconv.ParseInt -/
def f251 (callf : CallF) (N : Nat) (a0 : T) (a1 : T) (a2 : T) (s : St) : Option (T × St) :=
  bd2 (callf 185 [a0, a1, a2] s) fun t13 s1 =>
  bd (aExtract t13 0) fun t14 =>
  bd (aExtract t13 1) fun t15 =>
  bd (neB .i t15 (Z .nili)) fun t17 =>
  br t17 (bd2 (callf 139 [(Z (.str [80, 97, 114, 115, 101, 73, 110, 116])), a0, a1, a2, t15] s1) fun t23 s2 =>
  bd (retT [t14, t23]) fun r3 =>
  some (r3, s2))
  (bd (retT [t14, (Z .nili)]) fun r4 =>
  some (r4, s1))

theorem f251_eq (callf : CallF) (N : Nat) (a0 : T) (a1 : T) (a2 : T) (s : St) : bodyC Tryz.prog callf N Tryz.f251 [a0, a1, a2] s = f251 callf N a0 a1 a2 s := by kernel_rfl

theorem f251_run (d : Nat) (a0 : T) (a1 : T) (a2 : T) (s : St) : R (d + 1) 251 [a0, a1, a2] s = f251 (R d) 8192 a0 a1 a2 s := (runQ_body rfl Tryz.func251 (by kernel_rfl)).trans (f251_eq ..)

/- internal/strconv.ParseInt -/
def f185 (callf : CallF) (N : Nat) (a0 : T) (a1 : T) (a2 : T) (s : St) : Option (T × St) :=
  bd (aBin .eql a0 (Z (.str []))) fun t13 =>
  br t13 (bd ((none : Option T)) fun t14 =>
  bd (retT [(I .i64 0), t14]) fun r1 =>
  some (r1, s))
  (bd (aAtStr a0 (I .i64 0)) fun t16 =>
  jn (bd (aBin .eql t16 (I .u8 43)) fun t18 =>
  jn (br t18 (bd (aPieceStr a0 (some (I .i64 1)) none none) fun t20 =>
  some (.normal [t20, a1, a2, (B false)], s))
  (bd (aBin .eql t16 (I .u8 45)) fun t22 =>
  jn (br t22 (bd (aPieceStr a0 (some (I .i64 1)) none none) fun t24 =>
  some (.normal [t24, a1, a2, (B true)], s))
  (some (.normal [a0, a1, a2, (B false)], s)))
  (fun v2 s3 => some (.normal [(v2.getD 0 .any), (v2.getD 1 .any), (v2.getD 2 .any), (v2.getD 3 .any)], s3))
  (fun i4 v2 s3 => some (.exit i4 v2, s3))
  (fun r5 s3 => some (.ret r5, s3))))
  (fun v6 s7 => some (.normal [(v6.getD 0 .any), (v6.getD 1 .any), (v6.getD 2 .any), (v6.getD 3 .any)], s7))
  (fun i8 v6 s7 => if i8 = 0 then some (.normal v6, s7) else some (.exit i8 v6, s7))
  (fun r9 s7 => some (.ret r9, s7)))
  (fun v10 s11 => bd2 (callf 226 [(v10.getD 0 .any), (v10.getD 1 .any), (v10.getD 2 .any)] s11) fun t29 s14 =>
  bd (aExtract t29 0) fun t30 =>
  bd (aExtract t29 1) fun t31 =>
  bd (neB .i t31 (Z .nili)) fun t33 =>
  bd (gT (gd t33 true) (some t31)) fun t35 =>
  bd (gT (gd t33 true) ((none : Option T))) fun t36 =>
  bd (gT (gd t33 true) ((none : Option T))) fun t37 =>
  bd (aPick t33 t37 (B false)) fun t38 =>
  br t38 (bd (retT [(I .i64 0), t31]) fun r15 =>
  some (r15, s14))
  (bd (aBin .eql (v10.getD 2 .any) (I .i64 0)) fun t41 =>
  jn (br t41 (some (.normal [(I .i64 64), (v10.getD 3 .any), t30], s14))
  (some (.normal [(v10.getD 2 .any), (v10.getD 3 .any), t30], s14)))
  (fun v16 s17 => bd (aBin .sub (v16.getD 0 .any) (I .i64 1)) fun t43 =>
  bd (aConv .u64 t43) fun t44 =>
  bd (aBin .shl (I .u64 1) t44) fun t45 =>
  bd (aUn .not (v16.getD 1 .any)) fun t47 =>
  bd (gT (gd t47 true) (some (v16.getD 2 .any))) fun t49 =>
  bd (gT (gd t47 true) (some t45)) fun t50 =>
  bd (gT (gd t47 true) (aBin .geq t49 t50)) fun t51 =>
  bd (aPick t47 t51 (B false)) fun t52 =>
  br t52 (bd (aBin .sub t45 (I .u64 1)) fun t54 =>
  bd (aConv .i64 t54) fun t55 =>
  bd ((none : Option T)) fun t56 =>
  bd (retT [t55, t56]) fun r20 =>
  some (r20, s17))
  (bd (gT (gd (v16.getD 1 .any) true) (some (v16.getD 2 .any))) fun t59 =>
  bd (gT (gd (v16.getD 1 .any) true) (some t45)) fun t60 =>
  bd (gT (gd (v16.getD 1 .any) true) (aBin .gtr t59 t60)) fun t61 =>
  bd (aPick (v16.getD 1 .any) t61 (B false)) fun t62 =>
  br t62 (bd (aConv .i64 t45) fun t64 =>
  bd (aUn .neg t64) fun t65 =>
  bd ((none : Option T)) fun t66 =>
  bd (retT [t65, t66]) fun r21 =>
  some (r21, s17))
  (bd (aConv .i64 (v16.getD 2 .any)) fun t68 =>
  jn (br (v16.getD 1 .any) (bd (aUn .neg t68) fun t71 =>
  some (.normal [t71], s17))
  (some (.normal [t68], s17)))
  (fun v22 s23 => bd (retT [(v22.getD 0 .any), (Z .nili)]) fun r26 =>
  some (r26, s23))
  (fun i24 v22 s23 => none)
  (fun r25 s23 => some (r25, s23)))))
  (fun i18 v16 s17 => none)
  (fun r19 s17 => some (r19, s17))))
  (fun i12 v10 s11 => none)
  (fun r13 s11 => some (r13, s11)))

theorem f185_eq (callf : CallF) (N : Nat) (a0 : T) (a1 : T) (a2 : T) (s : St) : bodyC Tryz.prog callf N Tryz.f185 [a0, a1, a2] s = f185 callf N a0 a1 a2 s := by kernel_rfl

theorem f185_run (d : Nat) (a0 : T) (a1 : T) (a2 : T) (s : St) : R (d + 1) 185 [a0, a1, a2] s = f185 (R d) 8192 a0 a1 a2 s := (runQ_body rfl Tryz.func185 (by kernel_rfl)).trans (f185_eq ..)

/- internal/strconv.ParseUint: a loop; 0: t1 base, 1: t8 base0, 2: t9 s0, 3: t10 cutoff, 4: t11 maxVal, 5: t12 underscores, 6: t13 n, 7: t99 , 8: t100 , 9: t101  -/
def f226_l1 (callf : CallF) (N : Nat) (v : List T) (s : St) : Option (JO × St) :=
  bd (aBin .lss (v.getD 9 .any) (v.getD 8 .any)) fun t102 =>
  br t102 (jn (bd (aIndexSl 1 (v.getD 7 .any) (v.getD 9 .any)) fun t103 =>
  bd (aLoad1 t103 s.get) fun t104 =>
  jn (bd (aBin .eql t104 (I .u8 95)) fun t108 =>
  bd (gT (gd t108 true) (some (v.getD 1 .any))) fun t110 =>
  bd (aPick t108 t110 (B false)) fun t111 =>
  br t111 (some (.exit 4 [(v.getD 0 .any), (v.getD 1 .any), (v.getD 2 .any), (v.getD 3 .any), (v.getD 4 .any), (B true), (v.getD 6 .any), (v.getD 7 .any), (v.getD 8 .any), (v.getD 9 .any)], s))
  (bd (aBin .leq (I .u8 48) t104) fun t114 =>
  bd (gT (gd t114 true) (some t104)) fun t116 =>
  bd (gT (gd t114 true) (aBin .leq t116 (I .u8 57))) fun t117 =>
  bd (aPick t114 t117 (B false)) fun t118 =>
  jn (br t118 (bd (aBin .sub t104 (I .u8 48)) fun t120 =>
  some (.normal [(v.getD 0 .any), (v.getD 1 .any), (v.getD 2 .any), (v.getD 3 .any), (v.getD 4 .any), (v.getD 5 .any), (v.getD 6 .any), t120, (v.getD 7 .any), (v.getD 8 .any), (v.getD 9 .any)], s))
  (bd2 (callf 252 [t104] s) fun t123 s52 =>
  bd (aBin .leq (I .u8 97) t123) fun t124 =>
  bd (gT (gd t124 true) (some t104)) fun t126 =>
  bd2 (gS (gd t124 true) s52 (callf 252 [t126] s52)) fun t127 s53 =>
  bd (gT (gd t124 true) (aBin .leq t127 (I .u8 122))) fun t128 =>
  bd (aPick t124 t128 (B false)) fun t129 =>
  br t129 (bd2 (callf 252 [t104] s53) fun t131 s54 =>
  bd (aBin .sub t131 (I .u8 97)) fun t132 =>
  bd (aBin .add t132 (I .u8 10)) fun t133 =>
  some (.normal [(v.getD 0 .any), (v.getD 1 .any), (v.getD 2 .any), (v.getD 3 .any), (v.getD 4 .any), (v.getD 5 .any), (v.getD 6 .any), t133, (v.getD 7 .any), (v.getD 8 .any), (v.getD 9 .any)], s54))
  (bd ((none : Option T)) fun t105 =>
  bd (retT [(I .u64 0), t105]) fun r55 =>
  some (.ret r55, s53))))
  (fun v56 s57 => some (.normal [(v56.getD 0 .any), (v56.getD 1 .any), (v56.getD 2 .any), (v56.getD 3 .any), (v56.getD 4 .any), (v56.getD 5 .any), (v56.getD 6 .any), (v56.getD 7 .any), (v56.getD 8 .any), (v56.getD 9 .any), (v56.getD 10 .any)], s57))
  (fun i58 v56 s57 => if i58 = 5 then some (.normal v56, s57) else some (.exit i58 v56, s57))
  (fun r59 s57 => some (.ret r59, s57))))
  (fun v60 s61 => bd (aConv .u8 (v60.getD 0 .any)) fun t136 =>
  bd (aBin .geq (v60.getD 7 .any) t136) fun t137 =>
  br t137 (bd ((none : Option T)) fun t138 =>
  bd (retT [(I .u64 0), t138]) fun r64 =>
  some (.ret r64, s61))
  (bd (aBin .geq (v60.getD 6 .any) (v60.getD 3 .any)) fun t141 =>
  br t141 (bd ((none : Option T)) fun t143 =>
  bd (retT [(v60.getD 4 .any), t143]) fun r65 =>
  some (.ret r65, s61))
  (bd (aConv .u64 (v60.getD 0 .any)) fun t146 =>
  bd (aBin .mul (v60.getD 6 .any) t146) fun t147 =>
  bd (aConv .u64 (v60.getD 7 .any)) fun t150 =>
  bd (aBin .add t147 t150) fun t151 =>
  bd (aBin .lss t151 t147) fun t154 =>
  bd (gT (gd t154 false) (some t151)) fun t156 =>
  bd (gT (gd t154 false) (some (v60.getD 4 .any))) fun t157 =>
  bd (gT (gd t154 false) (aBin .gtr t156 t157)) fun t158 =>
  bd (aPick t154 (B true) t158) fun t159 =>
  br t159 (bd ((none : Option T)) fun t161 =>
  bd (retT [(v60.getD 4 .any), t161]) fun r66 =>
  some (.ret r66, s61))
  (some (.normal [(v60.getD 0 .any), (v60.getD 1 .any), (v60.getD 2 .any), (v60.getD 3 .any), (v60.getD 4 .any), (v60.getD 5 .any), t151, (v60.getD 8 .any), (v60.getD 9 .any), (v60.getD 10 .any)], s61)))))
  (fun i62 v60 s61 => if i62 = 4 then some (.normal v60, s61) else some (.exit i62 v60, s61))
  (fun r63 s61 => some (.ret r63, s61)))
  (fun v67 s68 => bd (aBin .add (v67.getD 9 .any) (I .i64 1)) fun t163 =>
  some (.normal [(v67.getD 0 .any), (v67.getD 1 .any), (v67.getD 2 .any), (v67.getD 3 .any), (v67.getD 4 .any), (v67.getD 5 .any), (v67.getD 6 .any), (v67.getD 7 .any), (v67.getD 8 .any), t163], s68))
  (fun i69 v67 s68 => some (.exit i69 v67, s68))
  (fun r70 s68 => some (.ret r70, s68)))
  (some (.exit 3 [(v.getD 2 .any), (v.getD 5 .any), (v.getD 6 .any)], s))

/- internal/strconv.ParseUint -/
def f226 (callf : CallF) (N : Nat) (a0 : T) (a1 : T) (a2 : T) (s : St) : Option (T × St) :=
  bd (aBin .eql a0 (Z (.str []))) fun t19 =>
  br t19 (bd ((none : Option T)) fun t20 =>
  bd (retT [(I .u64 0), t20]) fun r1 =>
  some (r1, s))
  (bd (aBin .eql a1 (I .i64 0)) fun t22 =>
  jn (bd (aBin .leq (I .i64 2) a1) fun t27 =>
  bd (gT (gd t27 true) (some a1)) fun t29 =>
  bd (gT (gd t27 true) (aBin .leq t29 (I .i64 36))) fun t30 =>
  bd (aPick t27 t30 (B false)) fun t31 =>
  jn (br t31 (some (.normal [a0, a1, a2, t22, a0], s))
  (bd (aBin .eql a1 (I .i64 0)) fun t34 =>
  br t34 (bd (aAtStr a0 (I .i64 0)) fun t36 =>
  bd (aBin .eql t36 (I .u8 48)) fun t37 =>
  jn (br t37 (jn (bd (aLenStr a0) fun t42 =>
  bd (aBin .geq t42 (I .i64 3)) fun t43 =>
  bd (gT (gd t43 true) (some a0)) fun t45 =>
  bd (gT (gd t43 true) (aAtStr t45 (I .i64 1))) fun t46 =>
  bd2 (gS (gd t43 true) s (callf 252 [t46] s)) fun t47 s2 =>
  bd (gT (gd t43 true) (aBin .eql t47 (I .u8 98))) fun t48 =>
  bd (aPick t43 t48 (B false)) fun t49 =>
  jn (br t49 (bd (aPieceStr a0 (some (I .i64 2)) none none) fun t51 =>
  some (.normal [t51, (I .i64 2), a2, t22, a0], s2))
  (bd (aLenStr a0) fun t54 =>
  bd (aBin .geq t54 (I .i64 3)) fun t55 =>
  bd (gT (gd t55 true) (some a0)) fun t57 =>
  bd (gT (gd t55 true) (aAtStr t57 (I .i64 1))) fun t58 =>
  bd2 (gS (gd t55 true) s2 (callf 252 [t58] s2)) fun t59 s3 =>
  bd (gT (gd t55 true) (aBin .eql t59 (I .u8 111))) fun t60 =>
  bd (aPick t55 t60 (B false)) fun t61 =>
  jn (br t61 (bd (aPieceStr a0 (some (I .i64 2)) none none) fun t63 =>
  some (.normal [t63, (I .i64 8), a2, t22, a0], s3))
  (bd (aLenStr a0) fun t66 =>
  bd (aBin .geq t66 (I .i64 3)) fun t67 =>
  bd (gT (gd t67 true) (some a0)) fun t69 =>
  bd (gT (gd t67 true) (aAtStr t69 (I .i64 1))) fun t70 =>
  bd2 (gS (gd t67 true) s3 (callf 252 [t70] s3)) fun t71 s4 =>
  bd (gT (gd t67 true) (aBin .eql t71 (I .u8 120))) fun t72 =>
  bd (aPick t67 t72 (B false)) fun t73 =>
  jn (br t73 (bd (aPieceStr a0 (some (I .i64 2)) none none) fun t75 =>
  some (.normal [t75, (I .i64 16), a2, t22, a0], s4))
  (bd (aPieceStr a0 (some (I .i64 1)) none none) fun t39 =>
  some (.normal [t39, (I .i64 8), a2, t22, a0], s4)))
  (fun v5 s6 => some (.normal [(v5.getD 0 .any), (v5.getD 1 .any), (v5.getD 2 .any), (v5.getD 3 .any), (v5.getD 4 .any)], s6))
  (fun i7 v5 s6 => some (.exit i7 v5, s6))
  (fun r8 s6 => some (.ret r8, s6))))
  (fun v9 s10 => some (.normal [(v9.getD 0 .any), (v9.getD 1 .any), (v9.getD 2 .any), (v9.getD 3 .any), (v9.getD 4 .any)], s10))
  (fun i11 v9 s10 => some (.exit i11 v9, s10))
  (fun r12 s10 => some (.ret r12, s10))))
  (fun v13 s14 => some (.normal [(v13.getD 0 .any), (v13.getD 1 .any), (v13.getD 2 .any), (v13.getD 3 .any), (v13.getD 4 .any)], s14))
  (fun i15 v13 s14 => if i15 = 1 then some (.normal v13, s14) else some (.exit i15 v13, s14))
  (fun r16 s14 => some (.ret r16, s14)))
  (fun v17 s18 => some (.normal [(v17.getD 0 .any), (v17.getD 1 .any), (v17.getD 2 .any), (v17.getD 3 .any), (v17.getD 4 .any)], s18))
  (fun i19 v17 s18 => some (.exit i19 v17, s18))
  (fun r20 s18 => some (.ret r20, s18)))
  (some (.normal [a0, (I .i64 10), a2, t22, a0], s)))
  (fun v21 s22 => some (.normal [(v21.getD 0 .any), (v21.getD 1 .any), (v21.getD 2 .any), (v21.getD 3 .any), (v21.getD 4 .any)], s22))
  (fun i23 v21 s22 => some (.exit i23 v21, s22))
  (fun r24 s22 => some (.ret r24, s22)))
  (bd ((none : Option T)) fun t24 =>
  bd (retT [(I .u64 0), t24]) fun r25 =>
  some (.ret r25, s))))
  (fun v26 s27 => some (.normal [(v26.getD 0 .any), (v26.getD 1 .any), (v26.getD 2 .any), (v26.getD 3 .any), (v26.getD 4 .any)], s27))
  (fun i28 v26 s27 => if i28 = 0 then some (.normal v26, s27) else some (.exit i28 v26, s27))
  (fun r29 s27 => some (.ret r29, s27)))
  (fun v30 s31 => bd (aBin .eql (v30.getD 2 .any) (I .i64 0)) fun t77 =>
  jn (br t77 (some (.normal [(v30.getD 0 .any), (v30.getD 1 .any), (I .i64 64), (v30.getD 3 .any), (v30.getD 4 .any)], s31))
  (bd (aBin .lss (v30.getD 2 .any) (I .i64 0)) fun t79 =>
  bd (gT (gd t79 false) (some (v30.getD 2 .any))) fun t81 =>
  bd (gT (gd t79 false) (aBin .gtr t81 (I .i64 64))) fun t82 =>
  bd (aPick t79 (B true) t82) fun t83 =>
  br t83 (bd ((none : Option T)) fun t84 =>
  bd (retT [(I .u64 0), t84]) fun r34 =>
  some (.ret r34, s31))
  (some (.normal [(v30.getD 0 .any), (v30.getD 1 .any), (v30.getD 2 .any), (v30.getD 3 .any), (v30.getD 4 .any)], s31))))
  (fun v35 s36 => jn (bd (aBin .eql (v35.getD 1 .any) (I .i64 10)) fun t91 =>
  jn (br t91 (some (.normal [(v35.getD 0 .any), (v35.getD 1 .any), (v35.getD 2 .any), (v35.getD 3 .any), (v35.getD 4 .any), (I .u64 1844674407370955162)], s36))
  (bd (aBin .eql (v35.getD 1 .any) (I .i64 16)) fun t93 =>
  jn (br t93 (some (.normal [(v35.getD 0 .any), (v35.getD 1 .any), (v35.getD 2 .any), (v35.getD 3 .any), (v35.getD 4 .any), (I .u64 1152921504606846976)], s36))
  (bd (aConv .u64 (v35.getD 1 .any)) fun t87 =>
  bd (aBin .quo (I .u64 18446744073709551615) t87) fun t88 =>
  bd (aBin .add t88 (I .u64 1)) fun t89 =>
  some (.normal [(v35.getD 0 .any), (v35.getD 1 .any), (v35.getD 2 .any), (v35.getD 3 .any), (v35.getD 4 .any), t89], s36)))
  (fun v39 s40 => some (.normal [(v39.getD 0 .any), (v39.getD 1 .any), (v39.getD 2 .any), (v39.getD 3 .any), (v39.getD 4 .any), (v39.getD 5 .any)], s40))
  (fun i41 v39 s40 => some (.exit i41 v39, s40))
  (fun r42 s40 => some (.ret r42, s40))))
  (fun v43 s44 => some (.normal [(v43.getD 0 .any), (v43.getD 1 .any), (v43.getD 2 .any), (v43.getD 3 .any), (v43.getD 4 .any), (v43.getD 5 .any)], s44))
  (fun i45 v43 s44 => if i45 = 2 then some (.normal v43, s44) else some (.exit i45 v43, s44))
  (fun r46 s44 => some (.ret r46, s44)))
  (fun v47 s48 => bd (aConv .u64 (v47.getD 2 .any)) fun t95 =>
  bd (aBin .shl (I .u64 1) t95) fun t96 =>
  bd (aBin .sub t96 (I .u64 1)) fun t97 =>
  bd2 (aNew s48 (nBytes (v47.getD 0 .any))) fun t99 s51 =>
  bd (aLenSl t99) fun t100 =>
  jn (jn (loops (f226_l1 callf N) N [(v47.getD 1 .any), (v47.getD 3 .any), (v47.getD 4 .any), (v47.getD 5 .any), t97, (B false), (I .u64 0), t99, t100, (I .i64 0)] s51)
  (fun v71 s72 => some (.normal [.any, .any, .any], s72))
  (fun i73 v71 s72 => if i73 = 3 then some (.normal v71, s72) else some (.exit i73 v71, s72))
  (fun r74 s72 => some (.ret r74, s72)))
  (fun v75 s76 => bd (gT (gd (v75.getD 1 .any) true) (some (v75.getD 0 .any))) fun t166 =>
  bd2 (gS (gd (v75.getD 1 .any) true) s76 (callf 253 [t166] s76)) fun t167 s79 =>
  bd (gT (gd (v75.getD 1 .any) true) (aUn .not t167)) fun t168 =>
  bd (aPick (v75.getD 1 .any) t168 (B false)) fun t169 =>
  br t169 (bd ((none : Option T)) fun t170 =>
  bd (retT [(I .u64 0), t170]) fun r80 =>
  some (r80, s79))
  (bd (retT [(v75.getD 2 .any), (Z .nili)]) fun r81 =>
  some (r81, s79)))
  (fun i77 v75 s76 => none)
  (fun r78 s76 => some (r78, s76)))
  (fun i49 v47 s48 => none)
  (fun r50 s48 => some (r50, s48)))
  (fun i37 v35 s36 => none)
  (fun r38 s36 => some (r38, s36)))
  (fun i32 v30 s31 => none)
  (fun r33 s31 => some (r33, s31)))

theorem f226_eq (callf : CallF) (N : Nat) (a0 : T) (a1 : T) (a2 : T) (s : St) : bodyC Tryz.prog callf N Tryz.f226 [a0, a1, a2] s = f226 callf N a0 a1 a2 s := by kernel_rfl

theorem f226_run (d : Nat) (a0 : T) (a1 : T) (a2 : T) (s : St) : R (d + 1) 226 [a0, a1, a2] s = f226 (R d) 8192 a0 a1 a2 s := (runQ_body rfl Tryz.func226 (by kernel_rfl)).trans (f226_eq ..)

end
end Go.Proofs.YtbohejffelipoaaGreatDoor


/-
  What functions that the laws reach compute, printed by a program of our own: each text is by definition the run of the code. No conditions.
-/
namespace Go.Proofs.YtbohejffelipoaaGreatDoor
open Go Go.Abs Go.Abs.F
set_option linter.unusedVariables false
noncomputable section
/- twinkeep/policy.number -/
def f223 (callf : CallF) (N : Nat) (a0 : T) (s : St) : Option (T × St) :=
  bd (aLenStr a0) fun t7 =>
  bd (aBin .lss t7 (I .i64 1)) fun t8 =>
  bd (gT (gd t8 false) (some a0)) fun t10 =>
  bd (gT (gd t8 false) (aLenStr t10)) fun t11 =>
  bd (gT (gd t8 false) (aBin .gtr t11 (I .i64 13))) fun t12 =>
  bd (aPick t8 (B true) t12) fun t13 =>
  bd (gT (gd t13 false) (some a0)) fun t15 =>
  bd2 (gS (gd t13 false) s (callf 129 [t15, (Z (.str [48, 49, 50, 51, 52, 53, 54, 55, 56, 57]))] s)) fun t16 s1 =>
  bd (gT (gd t13 false) (aBin .neq t16 (Z (.str [])))) fun t17 =>
  bd (aPick t13 (B true) t17) fun t18 =>
  br t18 (bd (retT [(I .i64 0), (B false)]) fun r2 =>
  some (r2, s1))
  (bd2 (callf 251 [a0, (I .i64 10), (I .i64 64)] s1) fun t21 s3 =>
  bd (aExtract t21 0) fun t22 =>
  bd (aExtract t21 1) fun t23 =>
  bd (eqB .i t23 (Z .nili)) fun t26 =>
  bd (retT [t22, t26]) fun r4 =>
  some (r4, s3))

theorem f223_eq (callf : CallF) (N : Nat) (a0 : T) (s : St) : bodyC Tryz.prog callf N Tryz.f223 [a0] s = f223 callf N a0 s := by kernel_rfl

theorem f223_run (d : Nat) (a0 : T) (s : St) : R (d + 1) 223 [a0] s = f223 (R d) 8192 a0 s := (runQ_body rfl Tryz.func223 (by kernel_rfl)).trans (f223_eq ..)

/- twinkeep/policy.names -/
def f225 (callf : CallF) (N : Nat) (s : St) : Option (T × St) :=
  bd2 (aNew s (nSlice 4 (aFill [.str [], .str [], .str [], .str []] [(0, 1, (Z (.str [114, 97, 119]))), (1, 1, (Z (.str [53, 109]))), (2, 1, (Z (.str [49, 104]))), (3, 1, (Z (.str [49, 100])))]))) fun t1 s1 =>
  some (t1, s1)

theorem f225_eq (callf : CallF) (N : Nat) (s : St) : bodyC Tryz.prog callf N Tryz.f225 [] s = f225 callf N s := by kernel_rfl

theorem f225_run (d : Nat) (s : St) : R (d + 1) 225 [] s = f225 (R d) 8192 s := (runQ_body rfl Tryz.func225 (by kernel_rfl)).trans (f225_eq ..)

/- twinkeep/policy.line -/
def f182 (callf : CallF) (N : Nat) (a0 : T) (a1 : T) (s : St) : Option (T × St) :=
  bd (aLenSl a1) fun t11 =>
  bd (aBin .sub t11 (I .i64 1)) fun t12 =>
  bd (aIndexSl 1 a1 t12) fun t13 =>
  bd (aLoad1 t13 s.get) fun t14 =>
  bd2 (callf 223 [t14] s) fun t15 s1 =>
  bd (aExtract t15 0) fun t16 =>
  bd (aExtract t15 1) fun t17 =>
  jn (bd (aIndexSl 1 a1 (I .i64 0)) fun t20 =>
  bd (aLoad1 t20 s1.get) fun t21 =>
  bd (aBin .eql t21 (Z (.str [107, 101, 101, 112]))) fun t22 =>
  bd (gT (gd t22 true) (some a1)) fun t24 =>
  bd (gT (gd t22 true) (aLenSl t24)) fun t25 =>
  bd (gT (gd t22 true) (aBin .eql t25 (I .i64 3))) fun t26 =>
  bd (aPick t22 t26 (B false)) fun t27 =>
  jn (br t27 (bd2 (callf 225 [] s1) fun t28 s2 =>
  bd (aIndexSl 1 a1 (I .i64 1)) fun t30 =>
  bd (aLoad1 t30 s2.get) fun t31 =>
  bd2 (callf 224 [t28, t31] s2) fun t32 s3 =>
  ck ((decide (aLoad1 t30 s1.get = aLoad1 t30 s2.get) && true) && true) (bd (aBin .lss t32 (I .i64 0)) fun t34 =>
  bd (gT (gd t34 false) (some t17)) fun t36 =>
  bd (gT (gd t34 false) (aUn .not t36)) fun t37 =>
  bd (gT (gd t34 false) (some t37)) fun t38 =>
  bd (gT (gd t38 true) (some a1)) fun t39 =>
  bd (gT (gd t38 true) (aIndexSl 1 t39 (I .i64 2))) fun t40 =>
  bd (gT (gd t38 true) (aLoad1 t40 s3.get)) fun t41 =>
  bd (gT (gd t38 true) (aBin .neq t41 (Z (.str [101, 118, 101, 114])))) fun t42 =>
  bd (gT (gd t34 false) (aPick t38 t42 (B false))) fun t43 =>
  bd (aPick t34 (B true) t43) fun t44 =>
  br t44 (some (.ret (B false), s3))
  (bd (aNil a0) fun t48 =>
  bd (aFieldAddr 0 t48) fun t49 =>
  bd (aIndexArr 4 1 t49 t32) fun t50 =>
  bd2 (aStore 1 t50 t16 s3) fun _ s4 =>
  some (.normal [], s4))))
  (bd (aIndexSl 1 a1 (I .i64 0)) fun t53 =>
  bd (aLoad1 t53 s1.get) fun t54 =>
  bd (aBin .eql t54 (Z (.str [115, 101, 97, 108]))) fun t55 =>
  bd (gT (gd t55 true) (some a1)) fun t57 =>
  bd (gT (gd t55 true) (aLenSl t57)) fun t58 =>
  bd (gT (gd t55 true) (aBin .eql t58 (I .i64 2))) fun t59 =>
  bd (aPick t55 t59 (B false)) fun t60 =>
  bd (gT (gd t60 true) (some t17)) fun t62 =>
  bd (aPick t60 t62 (B false)) fun t63 =>
  jn (br t63 (bd (aNil a0) fun t66 =>
  bd (aFieldAddr 4 t66) fun t67 =>
  bd2 (aStore 1 t67 t16 s1) fun _ s5 =>
  some (.normal [], s5))
  (bd (aIndexSl 1 a1 (I .i64 0)) fun t70 =>
  bd (aLoad1 t70 s1.get) fun t71 =>
  bd (aBin .eql t71 (Z (.str [115, 112, 97, 110]))) fun t72 =>
  bd (gT (gd t72 true) (some a1)) fun t74 =>
  bd (gT (gd t72 true) (aLenSl t74)) fun t75 =>
  bd (gT (gd t72 true) (aBin .eql t75 (I .i64 2))) fun t76 =>
  bd (aPick t72 t76 (B false)) fun t77 =>
  bd (gT (gd t77 true) (some t17)) fun t79 =>
  bd (aPick t77 t79 (B false)) fun t80 =>
  br t80 (bd (aNil a0) fun t83 =>
  bd (aFieldAddr 5 t83) fun t84 =>
  bd2 (aStore 1 t84 t16 s1) fun _ s6 =>
  some (.normal [], s6))
  (some (.ret (B false), s1))))
  (fun v7 s8 => some (.normal [], s8))
  (fun i9 v7 s8 => some (.exit i9 v7, s8))
  (fun r10 s8 => some (.ret r10, s8))))
  (fun v11 s12 => some (.normal [], s12))
  (fun i13 v11 s12 => if i13 = 0 then some (.normal v11, s12) else some (.exit i13 v11, s12))
  (fun r14 s12 => some (.ret r14, s12)))
  (fun v15 s16 => some ((B true), s16))
  (fun i17 v15 s16 => none)
  (fun r18 s16 => some (r18, s16))

theorem f182_eq (callf : CallF) (N : Nat) (a0 : T) (a1 : T) (s : St) : bodyC Tryz.prog callf N Tryz.f182 [a0, a1] s = f182 callf N a0 a1 s := by kernel_rfl

theorem f182_run (d : Nat) (a0 : T) (a1 : T) (s : St) : R (d + 1) 182 [a0, a1] s = f182 (R d) 8192 a0 a1 s := (runQ_body rfl Tryz.func182 (by kernel_rfl)).trans (f182_eq ..)

/- twinkeep/policy.May: a loop; 0: t1 p, 1: t7 , 2: t8  -/
def f184_l1 (callf : CallF) (N : Nat) (v : List T) (s : St) : Option (JO × St) :=
  bd (aBin .lss (v.getD 2 .any) (I .i64 4)) fun t9 =>
  br t9 (jn (bd (aAtArr none 4 1 (v.getD 1 .any) (v.getD 2 .any)) fun t11 =>
  bd (aBin .lss t11 (I .i64 0)) fun t13 =>
  bd (gT (gd t13 false) (some t11)) fun t15 =>
  bd (gT (gd t13 false) (aBin .gtr t15 (I .i64 1099511627776))) fun t16 =>
  bd (aPick t13 (B true) t16) fun t17 =>
  br t17 (some (.ret (B false), s))
  (bd (aBin .eql (v.getD 2 .any) (I .i64 0)) fun t19 =>
  br t19 (some (.normal [(v.getD 0 .any), (v.getD 1 .any), (v.getD 2 .any)], s))
  (bd (aBin .sub (v.getD 2 .any) (I .i64 1)) fun t21 =>
  bd (aFieldAddr 0 (v.getD 0 .any)) fun t22 =>
  bd (aIndexArr 4 1 t22 t21) fun t23 =>
  bd (aLoad1 t23 s.get) fun t24 =>
  bd (aBin .neq t11 (I .i64 0)) fun t26 =>
  bd (gT (gd t26 true) (some t11)) fun t28 =>
  bd (gT (gd t26 true) (some t24)) fun t29 =>
  bd (gT (gd t26 true) (aBin .lss t28 t29)) fun t30 =>
  bd (gT (gd t26 true) (some t30)) fun t31 =>
  bd (gT (gd t31 false) (some t24)) fun t32 =>
  bd (gT (gd t31 false) (aBin .eql t32 (I .i64 0))) fun t33 =>
  bd (gT (gd t26 true) (aPick t31 (B true) t33)) fun t34 =>
  bd (aPick t26 t34 (B false)) fun t35 =>
  br t35 (some (.ret (B false), s))
  (some (.normal [(v.getD 0 .any), (v.getD 1 .any), (v.getD 2 .any)], s)))))
  (fun v2 s3 => bd (aBin .add (v2.getD 2 .any) (I .i64 1)) fun t36 =>
  some (.normal [(v2.getD 0 .any), (v2.getD 1 .any), t36], s3))
  (fun i4 v2 s3 => some (.exit i4 v2, s3))
  (fun r5 s3 => some (.ret r5, s3)))
  (some (.exit 0 [(v.getD 0 .any)], s))

/- twinkeep/policy.May -/
def f184 (callf : CallF) (N : Nat) (a0 : T) (s : St) : Option (T × St) :=
  bd2 (aNew s (nBox a0)) fun t1 s1 =>
  bd (aFieldAddr 0 t1) fun t6 =>
  bd (aLoadN 4 t6 s1.get) fun t7 =>
  jn (jn (loops (f184_l1 callf N) N [t1, t7, (I .i64 0)] s1)
  (fun v6 s7 => some (.normal [.any], s7))
  (fun i8 v6 s7 => if i8 = 0 then some (.normal v6, s7) else some (.exit i8 v6, s7))
  (fun r9 s7 => some (.ret r9, s7)))
  (fun v10 s11 => bd (aFieldAddr 0 (v10.getD 0 .any)) fun t37 =>
  bd (aIndexArr 4 1 t37 (I .i64 3)) fun t38 =>
  bd (aLoad1 t38 s11.get) fun t39 =>
  bd (aBin .eql t39 (I .i64 0)) fun t40 =>
  bd (gT (gd t40 true) (aFieldAddr 4 (v10.getD 0 .any))) fun t42 =>
  bd (gT (gd t40 true) (aLoad1 t42 s11.get)) fun t43 =>
  bd (gT (gd t40 true) (aBin .geq t43 (I .i64 1))) fun t44 =>
  bd (aPick t40 t44 (B false)) fun t45 =>
  bd (gT (gd t45 true) (aFieldAddr 4 (v10.getD 0 .any))) fun t47 =>
  bd (gT (gd t45 true) (aLoad1 t47 s11.get)) fun t48 =>
  bd (gT (gd t45 true) (aBin .leq t48 (I .i64 64))) fun t49 =>
  bd (aPick t45 t49 (B false)) fun t50 =>
  bd (gT (gd t50 true) (aFieldAddr 5 (v10.getD 0 .any))) fun t52 =>
  bd (gT (gd t50 true) (aLoad1 t52 s11.get)) fun t53 =>
  bd (gT (gd t50 true) (aBin .geq t53 (I .i64 1))) fun t54 =>
  bd (aPick t50 t54 (B false)) fun t55 =>
  bd (gT (gd t55 true) (aFieldAddr 5 (v10.getD 0 .any))) fun t57 =>
  bd (gT (gd t55 true) (aLoad1 t57 s11.get)) fun t58 =>
  bd (gT (gd t55 true) (aBin .leq t58 (I .i64 200))) fun t59 =>
  bd (aPick t55 t59 (B false)) fun t60 =>
  some (t60, s11))
  (fun i12 v10 s11 => none)
  (fun r13 s11 => some (r13, s11))

theorem f184_eq (callf : CallF) (N : Nat) (a0 : T) (s : St) : bodyC Tryz.prog callf N Tryz.f184 [a0] s = f184 callf N a0 s := by kernel_rfl

theorem f184_run (d : Nat) (a0 : T) (s : St) : R (d + 1) 184 [a0] s = f184 (R d) 8192 a0 s := (runQ_body rfl Tryz.func184 (by kernel_rfl)).trans (f184_eq ..)

/- twinkeep/policy.Parse: a loop; 0: t2 , 1: t5 p, 2: t6 seen, 3: t7 i, 4: t9 l, 5: t15 , 6: t16 , 7: t17 , 8: t29 , 9: t30 , 10: t31  -/
def f137_l2 (callf : CallF) (N : Nat) (v : List T) (s : St) : Option (JO × St) :=
  bd (aBin .lss (v.getD 10 .any) (v.getD 9 .any)) fun t32 =>
  br t32 (jn (bd (aIndexSl 1 (v.getD 8 .any) (v.getD 10 .any)) fun t33 =>
  bd (aLoad1 t33 s.get) fun t34 =>
  bd (aBin .neq t34 (Z (.str []))) fun t36 =>
  jn (br t36 (bd2 (aNew s (nSlice 1 (aFill [.str []] [(0, 1, t34)]))) fun t39 s8 =>
  bd2 (aAppend 1 16 (v.getD 4 .any) t39 s8) fun t40 s9 =>
  some (.normal [(v.getD 0 .any), (v.getD 1 .any), (v.getD 2 .any), (v.getD 3 .any), t40, (v.getD 5 .any), (v.getD 6 .any), (v.getD 7 .any), (v.getD 8 .any), (v.getD 9 .any), (v.getD 10 .any)], s9))
  (some (.normal [(v.getD 0 .any), (v.getD 1 .any), (v.getD 2 .any), (v.getD 3 .any), (v.getD 4 .any), (v.getD 5 .any), (v.getD 6 .any), (v.getD 7 .any), (v.getD 8 .any), (v.getD 9 .any), (v.getD 10 .any)], s)))
  (fun v10 s11 => some (.normal [(v10.getD 0 .any), (v10.getD 1 .any), (v10.getD 2 .any), (v10.getD 3 .any), (v10.getD 4 .any), (v10.getD 5 .any), (v10.getD 6 .any), (v10.getD 7 .any), (v10.getD 8 .any), (v10.getD 9 .any), (v10.getD 10 .any)], s11))
  (fun i12 v10 s11 => if i12 = 3 then some (.normal v10, s11) else some (.exit i12 v10, s11))
  (fun r13 s11 => some (.ret r13, s11)))
  (fun v14 s15 => bd (aBin .add (v14.getD 10 .any) (I .i64 1)) fun t41 =>
  some (.normal [(v14.getD 0 .any), (v14.getD 1 .any), (v14.getD 2 .any), (v14.getD 3 .any), (v14.getD 4 .any), (v14.getD 5 .any), (v14.getD 6 .any), (v14.getD 7 .any), (v14.getD 8 .any), (v14.getD 9 .any), t41], s15))
  (fun i16 v14 s15 => some (.exit i16 v14, s15))
  (fun r17 s15 => some (.ret r17, s15)))
  (some (.exit 2 [(v.getD 0 .any), (v.getD 1 .any), (v.getD 2 .any), (v.getD 3 .any), (v.getD 4 .any), (v.getD 5 .any), (v.getD 6 .any), (v.getD 7 .any)], s))

/- twinkeep/policy.Parse: a loop; 0: t2 , 1: t5 p, 2: t6 seen, 3: t15 , 4: t16 , 5: t17  -/
def f137_l1 (callf : CallF) (N : Nat) (v : List T) (s : St) : Option (JO × St) :=
  bd (aBin .lss (v.getD 5 .any) (v.getD 4 .any)) fun t18 =>
  br t18 (jn (bd (aIndexSl 1 (v.getD 3 .any) (v.getD 5 .any)) fun t20 =>
  bd (aLoad1 t20 s.get) fun t21 =>
  bd2 (callf 180 [t21, (Z (.str [35]))] s) fun t24 s6 =>
  bd (aExtract t24 0) fun t25 =>
  bd (aExtract t24 1) fun t26 =>
  bd (aExtract t24 2) fun t27 =>
  bd2 (callf 179 [t25, (Z (.str [32]))] s6) fun t29 s7 =>
  bd (aLenSl t29) fun t30 =>
  jn (jn (loops (f137_l2 callf N) N [(v.getD 0 .any), (v.getD 1 .any), (v.getD 2 .any), (v.getD 5 .any), (Z .nils), (v.getD 3 .any), (v.getD 4 .any), (v.getD 5 .any), t29, t30, (I .i64 0)] s7)
  (fun v18 s19 => some (.normal [.any, .any, .any, .any, .any, .any, .any, .any], s19))
  (fun i20 v18 s19 => if i20 = 2 then some (.normal v18, s19) else some (.exit i20 v18, s19))
  (fun r21 s19 => some (.ret r21, s19)))
  (fun v22 s23 => bd (aLenSl (v22.getD 4 .any)) fun t43 =>
  bd (aBin .eql t43 (I .i64 0)) fun t44 =>
  br t44 (some (.normal [(v22.getD 0 .any), (v22.getD 1 .any), (v22.getD 2 .any), (v22.getD 5 .any), (v22.getD 6 .any), (v22.getD 7 .any)], s23))
  (bd (aLenSl (v22.getD 4 .any)) fun t47 =>
  bd (aBin .sub t47 (I .i64 1)) fun t48 =>
  bd (aPieceSl 1 (v22.getD 4 .any) none (some t48) none) fun t49 =>
  bd2 (callf 181 [t49, (Z (.str [32]))] s23) fun t50 s26 =>
  bd2 (callf 182 [(v22.getD 1 .any), (v22.getD 4 .any)] s26) fun t52 s27 =>
  bd (aUn .not t52) fun t53 =>
  bd (gT (gd t53 false) (some (v22.getD 2 .any))) fun t55 =>
  bd (gT (gd t53 false) (some t50)) fun t56 =>
  bd2 (gS (gd t53 false) s27 (callf 183 [t55, t56] s27)) fun t57 s28 =>
  bd (aPick t53 (B true) t57) fun t58 =>
  br t58 (bd (asAggT (aFill [.int .i64 0, .int .i64 0, .int .i64 0, .int .i64 0, .int .i64 0, .int .i64 0] [])) fun t59 =>
  bd (aBin .add (v22.getD 3 .any) (I .i64 1)) fun t61 =>
  bd2 (aStore 6 (v22.getD 0 .any) t59 s28) fun _ s29 =>
  bd (rC (aLoadN 6 (v22.getD 0 .any) s29.get) (rT (I .i64 4) (rT t61 (some [])))) fun l30 => bd (retT l30) fun r31 =>
  some (.ret r31, s29))
  (bd2 (aNew s28 (nSlice 1 (aFill [.str []] [(0, 1, t50)]))) fun t64 s32 =>
  bd2 (aAppend 1 16 (v22.getD 2 .any) t64 s32) fun t65 s33 =>
  some (.normal [(v22.getD 0 .any), (v22.getD 1 .any), t65, (v22.getD 5 .any), (v22.getD 6 .any), (v22.getD 7 .any)], s33))))
  (fun i24 v22 s23 => if i24 = 1 then some (.normal v22, s23) else some (.exit i24 v22, s23))
  (fun r25 s23 => some (.ret r25, s23)))
  (fun v34 s35 => bd (aBin .add (v34.getD 5 .any) (I .i64 1)) fun t66 =>
  some (.normal [(v34.getD 0 .any), (v34.getD 1 .any), (v34.getD 2 .any), (v34.getD 3 .any), (v34.getD 4 .any), t66], s35))
  (fun i36 v34 s35 => some (.exit i36 v34, s35))
  (fun r37 s35 => some (.ret r37, s35)))
  (some (.exit 0 [(v.getD 0 .any), (v.getD 1 .any)], s))

/- twinkeep/policy.Parse -/
def f137 (callf : CallF) (N : Nat) (a0 : T) (s : St) : Option (T × St) :=
  bd2 (aNew s (nCells [.int .i64 0, .int .i64 0, .int .i64 0, .int .i64 0, .int .i64 0, .int .i64 0])) fun t2 s1 =>
  bd2 (callf 91 [] s1) fun t13 s2 =>
  bd2 (aNew s2 (nCells [.int .i64 0, .int .i64 0, .int .i64 0, .int .i64 0, .int .i64 0, .int .i64 0])) fun t5 s3 =>
  bd2 (aStore 6 t5 t13 s3) fun _ s4 =>
  bd2 (callf 179 [a0, (Z (.str [10]))] s4) fun t15 s5 =>
  bd (aLenSl t15) fun t16 =>
  jn (jn (loops (f137_l1 callf N) N [t2, t5, (Z .nils), t15, t16, (I .i64 0)] s5)
  (fun v38 s39 => some (.normal [.any, .any], s39))
  (fun i40 v38 s39 => if i40 = 0 then some (.normal v38, s39) else some (.exit i40 v38, s39))
  (fun r41 s39 => some (.ret r41, s39)))
  (fun v42 s43 => bd (aLoadN 6 (v42.getD 1 .any) s43.get) fun t67 =>
  bd2 (callf 184 [t67] s43) fun t68 s46 =>
  bd (aUn .not t68) fun t69 =>
  br t69 (bd (asAggT (aFill [.int .i64 0, .int .i64 0, .int .i64 0, .int .i64 0, .int .i64 0, .int .i64 0] [])) fun t70 =>
  bd2 (aStore 6 (v42.getD 0 .any) t70 s46) fun _ s47 =>
  bd (rC (aLoadN 6 (v42.getD 0 .any) s47.get) (rT (I .i64 5) (rT (I .i64 0) (some [])))) fun l48 => bd (retT l48) fun r49 =>
  some (r49, s47))
  (bd (aLoadN 6 (v42.getD 1 .any) s46.get) fun t71 =>
  bd2 (aStore 6 (v42.getD 0 .any) t71 s46) fun _ s50 =>
  bd (rC (aLoadN 6 (v42.getD 0 .any) s50.get) (rT (I .i64 0) (rT (I .i64 0) (some [])))) fun l51 => bd (retT l51) fun r52 =>
  some (r52, s50)))
  (fun i44 v42 s43 => none)
  (fun r45 s43 => some (r45, s43))

theorem f137_eq (callf : CallF) (N : Nat) (a0 : T) (s : St) : bodyC Tryz.prog callf N Tryz.f137 [a0] s = f137 callf N a0 s := by kernel_rfl

theorem f137_run (d : Nat) (a0 : T) (s : St) : R (d + 1) 137 [a0] s = f137 (R d) 8192 a0 s := (runQ_body rfl Tryz.func137 (by kernel_rfl)).trans (f137_eq ..)

/- twinkeep/policy.Default -/
def f91 (callf : CallF) (N : Nat) (s : St) : Option (T × St) :=
  bd2 (aNew s (nCells [.int .i64 0, .int .i64 0, .int .i64 0, .int .i64 0, .int .i64 0, .int .i64 0])) fun t0 s1 =>
  bd (asAggT (aFill [.int .i64 0, .int .i64 0, .int .i64 0, .int .i64 0] [(0, 1, (I .i64 60)), (1, 1, (I .i64 600)), (2, 1, (I .i64 6000)), (3, 1, (I .i64 0))])) fun t1 =>
  bd (asAggT (aFill [.int .i64 0, .int .i64 0, .int .i64 0, .int .i64 0, .int .i64 0, .int .i64 0] [(0, 4, t1), (4, 1, (I .i64 8)), (5, 1, (I .i64 30))])) fun t2 =>
  bd2 (aStore 6 t0 t2 s1) fun _ s2 =>
  bd (rC (aLoadN 6 t0 s2.get) (some [])) fun l3 => bd (retT l3) fun r4 =>
  some (r4, s2)

theorem f91_eq (callf : CallF) (N : Nat) (s : St) : bodyC Tryz.prog callf N Tryz.f91 [] s = f91 callf N s := by kernel_rfl

theorem f91_run (d : Nat) (s : St) : R (d + 1) 91 [] s = f91 (R d) 8192 s := (runQ_body rfl Tryz.func91 (by kernel_rfl)).trans (f91_eq ..)

end
end Go.Proofs.YtbohejffelipoaaGreatDoor


/-
  What functions that the laws reach compute, printed by a program of our own: each text is by definition the run of the code. No conditions.
-/
namespace Go.Proofs.YtbohejffelipoaaGreatDoor
open Go Go.Abs Go.Abs.F
set_option linter.unusedVariables false
noncomputable section
/- twinkeep/vary.Put: a loop; 0: t0 n, 1: t3 b -/
def f159_l1 (callf : CallF) (N : Nat) (v : List T) (s : St) : Option (JO × St) :=
  bd (aBin .geq (v.getD 0 .any) (I .u64 128)) fun t5 =>
  br t5 (jn (bd (aConv .u8 (v.getD 0 .any)) fun t8 =>
  bd (aBin .or t8 (I .u8 128)) fun t9 =>
  bd2 (aNew s (nSlice 1 (aFill [.int .u8 0] [(0, 1, t9)]))) fun t10 s1 =>
  bd2 (aAppend 1 1 (v.getD 1 .any) t10 s1) fun t11 s2 =>
  bd (aBin .shr (v.getD 0 .any) (I .u64 7)) fun t13 =>
  some (.normal [t13, t11], s2))
  (fun v3 s4 => some (.normal [(v3.getD 0 .any), (v3.getD 1 .any)], s4))
  (fun i5 v3 s4 => some (.exit i5 v3, s4))
  (fun r6 s4 => some (.ret r6, s4)))
  (some (.exit 0 [(v.getD 0 .any), (v.getD 1 .any)], s))

/- twinkeep/vary.Put -/
def f159 (callf : CallF) (N : Nat) (a0 : T) (s : St) : Option (T × St) :=
  jn (jn (loops (f159_l1 callf N) N [a0, (Z .nils)] s)
  (fun v7 s8 => some (.normal [.any, .any], s8))
  (fun i9 v7 s8 => if i9 = 0 then some (.normal v7, s8) else some (.exit i9 v7, s8))
  (fun r10 s8 => some (.ret r10, s8)))
  (fun v11 s12 => bd (aConv .u8 (v11.getD 0 .any)) fun t16 =>
  bd2 (aNew s12 (nSlice 1 (aFill [.int .u8 0] [(0, 1, t16)]))) fun t17 s15 =>
  bd2 (aAppend 1 1 (v11.getD 1 .any) t17 s15) fun t18 s16 =>
  some (t18, s16))
  (fun i13 v11 s12 => none)
  (fun r14 s12 => some (r14, s12))

theorem f159_eq (callf : CallF) (N : Nat) (a0 : T) (s : St) : bodyC Tryz.prog callf N Tryz.f159 [a0] s = f159 callf N a0 s := by kernel_rfl

theorem f159_run (d : Nat) (a0 : T) (s : St) : R (d + 1) 159 [a0] s = f159 (R d) 8192 a0 s := (runQ_body rfl Tryz.func159 (by kernel_rfl)).trans (f159_eq ..)

/- twinkeep/vary.Get: a loop; 0: t0 b, 1: t1 at, 2: t7 n, 3: t19  -/
def f118_l1 (callf : CallF) (N : Nat) (v : List T) (s : St) : Option (JO × St) :=
  bd (aBin .lss (v.getD 3 .any) (I .i64 10)) fun t20 =>
  br t20 (jn (bd (aBin .add (v.getD 1 .any) (v.getD 3 .any)) fun t24 =>
  bd (aLenSl (v.getD 0 .any)) fun t26 =>
  bd (aBin .geq t24 t26) fun t27 =>
  br t27 (some (.exit 0 [(v.getD 1 .any)], s))
  (bd (aBin .add (v.getD 1 .any) (v.getD 3 .any)) fun t31 =>
  bd (aIndexSl 1 (v.getD 0 .any) t31) fun t32 =>
  bd (aLoad1 t32 s.get) fun t33 =>
  bd (aBin .eql (v.getD 3 .any) (I .i64 9)) fun t35 =>
  bd (gT (gd t35 true) (some t33)) fun t37 =>
  bd (gT (gd t35 true) (aBin .gtr t37 (I .u8 1))) fun t38 =>
  bd (aPick t35 t38 (B false)) fun t39 =>
  br t39 (some (.exit 0 [(v.getD 1 .any)], s))
  (bd (aBin .and t33 (I .u8 127)) fun t42 =>
  bd (aConv .u64 t42) fun t43 =>
  bd (aBin .mul (I .i64 7) (v.getD 3 .any)) fun t45 =>
  bd (aConv .u64 t45) fun t46 =>
  bd (aBin .shl t43 t46) fun t47 =>
  bd (aBin .or (v.getD 2 .any) t47) fun t48 =>
  jn (bd (aBin .geq t33 (I .u8 128)) fun t51 =>
  br t51 (some (.exit 1 [(v.getD 0 .any), (v.getD 1 .any), t48, (v.getD 3 .any)], s))
  (bd (aBin .gtr (v.getD 3 .any) (I .i64 0)) fun t54 =>
  bd (gT (gd t54 true) (some t33)) fun t56 =>
  bd (gT (gd t54 true) (aBin .eql t56 (I .u8 0))) fun t57 =>
  bd (aPick t54 t57 (B false)) fun t58 =>
  br t58 (some (.exit 0 [(v.getD 1 .any)], s))
  (some (.normal [(v.getD 1 .any), t48, (v.getD 3 .any)], s))))
  (fun v2 s3 => bd (aBin .add (v2.getD 0 .any) (v2.getD 2 .any)) fun t62 =>
  bd (aBin .add t62 (I .i64 1)) fun t63 =>
  bd (retT [(v2.getD 1 .any), t63, (I .i64 0)]) fun r6 =>
  some (.ret r6, s3))
  (fun i4 v2 s3 => if i4 = 1 then some (.normal v2, s3) else some (.exit i4 v2, s3))
  (fun r5 s3 => some (.ret r5, s3)))))
  (fun v7 s8 => bd (aBin .add (v7.getD 3 .any) (I .i64 1)) fun t64 =>
  some (.normal [(v7.getD 0 .any), (v7.getD 1 .any), (v7.getD 2 .any), t64], s8))
  (fun i9 v7 s8 => some (.exit i9 v7, s8))
  (fun r10 s8 => some (.ret r10, s8)))
  (some (.exit 0 [(v.getD 1 .any)], s))

/- twinkeep/vary.Get -/
def f118 (callf : CallF) (N : Nat) (a0 : T) (a1 : T) (s : St) : Option (T × St) :=
  bd (aBin .lss a1 (I .i64 0)) fun t11 =>
  bd (gT (gd t11 false) (some a1)) fun t13 =>
  bd (gT (gd t11 false) (some a0)) fun t14 =>
  bd (gT (gd t11 false) (aLenSl t14)) fun t15 =>
  bd (gT (gd t11 false) (aBin .gtr t13 t15)) fun t16 =>
  bd (aPick t11 (B true) t16) fun t17 =>
  br t17 (bd (retT [(I .u64 0), a1, (I .i64 1)]) fun r1 =>
  some (r1, s))
  (jn (jn (loops (f118_l1 callf N) N [a0, a1, (I .u64 0), (I .i64 0)] s)
  (fun v11 s12 => some (.normal [.any], s12))
  (fun i13 v11 s12 => if i13 = 0 then some (.normal v11, s12) else some (.exit i13 v11, s12))
  (fun r14 s12 => some (.ret r14, s12)))
  (fun v15 s16 => bd (retT [(I .u64 0), (v15.getD 0 .any), (I .i64 2)]) fun r19 =>
  some (r19, s16))
  (fun i17 v15 s16 => none)
  (fun r18 s16 => some (r18, s16)))

theorem f118_eq (callf : CallF) (N : Nat) (a0 : T) (a1 : T) (s : St) : bodyC Tryz.prog callf N Tryz.f118 [a0, a1] s = f118 callf N a0 a1 s := by kernel_rfl

theorem f118_run (d : Nat) (a0 : T) (a1 : T) (s : St) : R (d + 1) 118 [a0, a1] s = f118 (R d) 8192 a0 a1 s := (runQ_body rfl Tryz.func118 (by kernel_rfl)).trans (f118_eq ..)

/- twinkeep/sum.Of -/
def f161 (callf : CallF) (N : Nat) (a0 : T) (s : St) : Option (T × St) :=
  bd2 (callf 174 [(I .u32 1), a0] s) fun t4 s1 =>
  some (t4, s1)

theorem f161_eq (callf : CallF) (N : Nat) (a0 : T) (s : St) : bodyC Tryz.prog callf N Tryz.f161 [a0] s = f161 callf N a0 s := by kernel_rfl

theorem f161_run (d : Nat) (a0 : T) (s : St) : R (d + 1) 161 [a0] s = f161 (R d) 8192 a0 s := (runQ_body rfl Tryz.func161 (by kernel_rfl)).trans (f161_eq ..)

/- twinkeep/sum.More: a loop; 0: t5 n, 1: t11 , 2: t12 , 3: t13  -/
def f174_l1 (callf : CallF) (N : Nat) (v : List T) (s : St) : Option (JO × St) :=
  bd (aBin .lss (v.getD 3 .any) (v.getD 2 .any)) fun t14 =>
  br t14 (jn (bd (aIndexSl 1 (v.getD 1 .any) (v.getD 3 .any)) fun t15 =>
  bd (aLoad1 t15 s.get) fun t16 =>
  bd (aBin .mul (v.getD 0 .any) (I .u64 257)) fun t18 =>
  bd (aConv .u64 t16) fun t20 =>
  bd (aBin .add t18 t20) fun t21 =>
  bd (aBin .add t21 (I .u64 1)) fun t22 =>
  bd (aBin .rem t22 (I .u64 4294967291)) fun t23 =>
  some (.normal [t23, (v.getD 1 .any), (v.getD 2 .any), (v.getD 3 .any)], s))
  (fun v1 s2 => bd (aBin .add (v1.getD 3 .any) (I .i64 1)) fun t24 =>
  some (.normal [(v1.getD 0 .any), (v1.getD 1 .any), (v1.getD 2 .any), t24], s2))
  (fun i3 v1 s2 => some (.exit i3 v1, s2))
  (fun r4 s2 => some (.ret r4, s2)))
  (some (.exit 0 [(v.getD 0 .any)], s))

/- twinkeep/sum.More -/
def f174 (callf : CallF) (N : Nat) (a0 : T) (a1 : T) (s : St) : Option (T × St) :=
  bd (aConv .u64 a0) fun t9 =>
  bd (aBin .rem t9 (I .u64 4294967291)) fun t10 =>
  bd (aLenSl a1) fun t12 =>
  jn (jn (loops (f174_l1 callf N) N [t10, a1, t12, (I .i64 0)] s)
  (fun v5 s6 => some (.normal [.any], s6))
  (fun i7 v5 s6 => if i7 = 0 then some (.normal v5, s6) else some (.exit i7 v5, s6))
  (fun r8 s6 => some (.ret r8, s6)))
  (fun v9 s10 => bd (aConv .u32 (v9.getD 0 .any)) fun t26 =>
  some (t26, s10))
  (fun i11 v9 s10 => none)
  (fun r12 s10 => some (r12, s10))

theorem f174_eq (callf : CallF) (N : Nat) (a0 : T) (a1 : T) (s : St) : bodyC Tryz.prog callf N Tryz.f174 [a0, a1] s = f174 callf N a0 a1 s := by kernel_rfl

theorem f174_run (d : Nat) (a0 : T) (a1 : T) (s : St) : R (d + 1) 174 [a0, a1] s = f174 (R d) 8192 a0 a1 s := (runQ_body rfl Tryz.func174 (by kernel_rfl)).trans (f174_eq ..)

/- slices.Equal[[]byte,byte]: a loop; 0: t0 s1, 1: t1 s2, 2: t12 , 3: t13  -/
def f130_l1 (callf : CallF) (N : Nat) (v : List T) (s : St) : Option (JO × St) :=
  bd (aBin .lss (v.getD 3 .any) (v.getD 2 .any)) fun t14 =>
  br t14 (jn (bd (aIndexSl 1 (v.getD 0 .any) (v.getD 3 .any)) fun t18 =>
  bd (aLoad1 t18 s.get) fun t19 =>
  bd (aIndexSl 1 (v.getD 1 .any) (v.getD 3 .any)) fun t22 =>
  bd (aLoad1 t22 s.get) fun t23 =>
  bd (aBin .neq t19 t23) fun t24 =>
  br t24 (some (.ret (B false), s))
  (some (.normal [(v.getD 0 .any), (v.getD 1 .any), (v.getD 2 .any), (v.getD 3 .any)], s)))
  (fun v1 s2 => bd (aBin .add (v1.getD 3 .any) (I .i64 1)) fun t25 =>
  some (.normal [(v1.getD 0 .any), (v1.getD 1 .any), (v1.getD 2 .any), t25], s2))
  (fun i3 v1 s2 => some (.exit i3 v1, s2))
  (fun r4 s2 => some (.ret r4, s2)))
  (some (.exit 0 [], s))

/- slices.Equal[[]byte,byte] -/
def f130 (callf : CallF) (N : Nat) (a0 : T) (a1 : T) (s : St) : Option (T × St) :=
  bd (aLenSl a0) fun t7 =>
  bd (aLenSl a1) fun t9 =>
  bd (aBin .neq t7 t9) fun t10 =>
  br t10 (some ((B false), s))
  (bd (aLenSl a0) fun t12 =>
  jn (jn (loops (f130_l1 callf N) N [a0, a1, t12, (I .i64 0)] s)
  (fun v5 s6 => some (.normal [], s6))
  (fun i7 v5 s6 => if i7 = 0 then some (.normal v5, s6) else some (.exit i7 v5, s6))
  (fun r8 s6 => some (.ret r8, s6)))
  (fun v9 s10 => some ((B true), s10))
  (fun i11 v9 s10 => none)
  (fun r12 s10 => some (r12, s10)))

theorem f130_eq (callf : CallF) (N : Nat) (a0 : T) (a1 : T) (s : St) : bodyC Tryz.prog callf N Tryz.f130 [a0, a1] s = f130 callf N a0 a1 s := by kernel_rfl

theorem f130_run (d : Nat) (a0 : T) (a1 : T) (s : St) : R (d + 1) 130 [a0, a1] s = f130 (R d) 8192 a0 a1 s := (runQ_body rfl Tryz.func130 (by kernel_rfl)).trans (f130_eq ..)

/- bytes.Equal -/
def f122 (callf : CallF) (N : Nat) (a0 : T) (a1 : T) (s : St) : Option (T × St) :=
  bd (aBytesStr a0 s.get) fun t6 =>
  bd (aBytesStr a1 s.get) fun t8 =>
  bd (aBin .eql t6 t8) fun t9 =>
  some (t9, s)

theorem f122_eq (callf : CallF) (N : Nat) (a0 : T) (a1 : T) (s : St) : bodyC Tryz.prog callf N Tryz.f122 [a0, a1] s = f122 callf N a0 a1 s := by kernel_rfl

theorem f122_run (d : Nat) (a0 : T) (a1 : T) (s : St) : R (d + 1) 122 [a0, a1] s = f122 (R d) 8192 a0 a1 s := (runQ_body rfl Tryz.func122 (by kernel_rfl)).trans (f122_eq ..)

/- bytes.Clone -/
def f92 (callf : CallF) (N : Nat) (a0 : T) (s : St) : Option (T × St) :=
  bd (eqB .l a0 (Z .nils)) fun t4 =>
  br t4 (some ((Z .nils), s))
  (bd2 (aNew s (nSlice 0 (aFill [] []))) fun t5 s1 =>
  bd2 (aAppend 1 1 t5 a0 s1) fun t7 s2 =>
  some (t7, s2))

theorem f92_eq (callf : CallF) (N : Nat) (a0 : T) (s : St) : bodyC Tryz.prog callf N Tryz.f92 [a0] s = f92 callf N a0 s := by kernel_rfl

theorem f92_run (d : Nat) (a0 : T) (s : St) : R (d + 1) 92 [a0] s = f92 (R d) 8192 a0 s := (runQ_body rfl Tryz.func92 (by kernel_rfl)).trans (f92_eq ..)

/- twinkeep/log.low -/
def f173 (callf : CallF) (N : Nat) (a0 : T) (s : St) : Option (T × St) :=
  bd (aConv .u8 a0) fun t4 =>
  bd (aBin .shr a0 (I .u64 8)) fun t6 =>
  bd (aConv .u8 t6) fun t7 =>
  bd (aBin .shr a0 (I .u64 16)) fun t9 =>
  bd (aConv .u8 t9) fun t10 =>
  bd (aBin .shr a0 (I .u64 24)) fun t12 =>
  bd (aConv .u8 t12) fun t13 =>
  bd2 (aNew s (nSlice 4 (aFill [.int .u8 0, .int .u8 0, .int .u8 0, .int .u8 0] [(0, 1, t4), (1, 1, t7), (2, 1, t10), (3, 1, t13)]))) fun t14 s1 =>
  some (t14, s1)

theorem f173_eq (callf : CallF) (N : Nat) (a0 : T) (s : St) : bodyC Tryz.prog callf N Tryz.f173 [a0] s = f173 callf N a0 s := by kernel_rfl

theorem f173_run (d : Nat) (a0 : T) (s : St) : R (d + 1) 173 [a0] s = f173 (R d) 8192 a0 s := (runQ_body rfl Tryz.func173 (by kernel_rfl)).trans (f173_eq ..)

/- slices.Concat[[]byte,byte]: a loop; 0: t0 slices, 1: t3 size, 2: t9 , 3: t10 , 4: t11  -/
def f172_l1 (callf : CallF) (N : Nat) (v : List T) (s : St) : Option (JO × St) :=
  bd (aBin .lss (v.getD 4 .any) (v.getD 3 .any)) fun t12 =>
  br t12 (jn (bd (aIndexSl 1 (v.getD 2 .any) (v.getD 4 .any)) fun t13 =>
  bd (aLoad1 t13 s.get) fun t14 =>
  bd (aLenSl t14) fun t17 =>
  bd (aBin .add (v.getD 1 .any) t17) fun t18 =>
  bd (aBin .lss t18 (I .i64 0)) fun t20 =>
  jn (br t20 (bd ((none : Option T)) fun t21 =>
  bd ((none : Option T)) fun u1 =>
  some (.normal [(v.getD 0 .any), t18, (v.getD 2 .any), (v.getD 3 .any), (v.getD 4 .any)], s))
  (some (.normal [(v.getD 0 .any), t18, (v.getD 2 .any), (v.getD 3 .any), (v.getD 4 .any)], s)))
  (fun v2 s3 => some (.normal [(v2.getD 0 .any), (v2.getD 1 .any), (v2.getD 2 .any), (v2.getD 3 .any), (v2.getD 4 .any)], s3))
  (fun i4 v2 s3 => if i4 = 1 then some (.normal v2, s3) else some (.exit i4 v2, s3))
  (fun r5 s3 => some (.ret r5, s3)))
  (fun v6 s7 => bd (aBin .add (v6.getD 4 .any) (I .i64 1)) fun t22 =>
  some (.normal [(v6.getD 0 .any), (v6.getD 1 .any), (v6.getD 2 .any), (v6.getD 3 .any), t22], s7))
  (fun i8 v6 s7 => some (.exit i8 v6, s7))
  (fun r9 s7 => some (.ret r9, s7)))
  (some (.exit 0 [(v.getD 0 .any), (v.getD 1 .any)], s))

/- slices.Concat[[]byte,byte]: a loop; 0: t6 newslice, 1: t25 , 2: t26 , 3: t27  -/
def f172_l2 (callf : CallF) (N : Nat) (v : List T) (s : St) : Option (JO × St) :=
  bd (aBin .lss (v.getD 3 .any) (v.getD 2 .any)) fun t28 =>
  br t28 (jn (bd (aIndexSl 1 (v.getD 1 .any) (v.getD 3 .any)) fun t29 =>
  bd (aLoad1 t29 s.get) fun t30 =>
  bd2 (aAppend 1 1 (v.getD 0 .any) t30 s) fun t33 s19 =>
  some (.normal [t33, (v.getD 1 .any), (v.getD 2 .any), (v.getD 3 .any)], s19))
  (fun v20 s21 => bd (aBin .add (v20.getD 3 .any) (I .i64 1)) fun t34 =>
  some (.normal [(v20.getD 0 .any), (v20.getD 1 .any), (v20.getD 2 .any), t34], s21))
  (fun i22 v20 s21 => some (.exit i22 v20, s21))
  (fun r23 s21 => some (.ret r23, s21)))
  (some (.exit 2 [(v.getD 0 .any)], s))

/- slices.Concat[[]byte,byte] -/
def f172 (callf : CallF) (N : Nat) (a0 : T) (s : St) : Option (T × St) :=
  bd (aLenSl a0) fun t10 =>
  jn (jn (loops (f172_l1 callf N) N [a0, (I .i64 0), a0, t10, (I .i64 0)] s)
  (fun v10 s11 => some (.normal [.any, .any], s11))
  (fun i12 v10 s11 => if i12 = 0 then some (.normal v10, s11) else some (.exit i12 v10, s11))
  (fun r13 s11 => some (.ret r13, s11)))
  (fun v14 s15 => bd2 (callf 216 [(Z .nils), (v14.getD 1 .any)] s15) fun t24 s18 =>
  bd (aLenSl (v14.getD 0 .any)) fun t26 =>
  jn (jn (loops (f172_l2 callf N) N [t24, (v14.getD 0 .any), t26, (I .i64 0)] s18)
  (fun v24 s25 => some (.normal [.any], s25))
  (fun i26 v24 s25 => if i26 = 2 then some (.normal v24, s25) else some (.exit i26 v24, s25))
  (fun r27 s25 => some (.ret r27, s25)))
  (fun v28 s29 => some ((v28.getD 0 .any), s29))
  (fun i30 v28 s29 => none)
  (fun r31 s29 => some (r31, s29)))
  (fun i16 v14 s15 => none)
  (fun r17 s15 => some (r17, s15))

theorem f172_eq (callf : CallF) (N : Nat) (a0 : T) (s : St) : bodyC Tryz.prog callf N Tryz.f172 [a0] s = f172 callf N a0 s := by kernel_rfl

theorem f172_run (d : Nat) (a0 : T) (s : St) : R (d + 1) 172 [a0] s = f172 (R d) 8192 a0 s := (runQ_body rfl Tryz.func172 (by kernel_rfl)).trans (f172_eq ..)

/- slices.Grow[[]byte,byte] -/
def f216 (callf : CallF) (N : Nat) (a0 : T) (a1 : T) (s : St) : Option (T × St) :=
  bd (aBin .lss a1 (I .i64 0)) fun t6 =>
  jn (br t6 (bd ((none : Option T)) fun t7 =>
  bd ((none : Option T)) fun u1 =>
  some (.normal [a0, a1], s))
  (some (.normal [a0, a1], s)))
  (fun v2 s3 => bd (aCap (v2.getD 0 .any)) fun t10 =>
  bd (aLenSl (v2.getD 0 .any)) fun t12 =>
  bd (aBin .sub t10 t12) fun t13 =>
  bd (aBin .sub (v2.getD 1 .any) t13) fun t14 =>
  bd (aBin .gtr t14 (I .i64 0)) fun t16 =>
  jn (br t16 (bd (aCap (v2.getD 0 .any)) fun t19 =>
  bd (aPieceSl 1 (v2.getD 0 .any) none (some t19) none) fun t20 =>
  bd2 (aGrow 1 1 [.int .u8 0] t20 t14 s3) fun t22 s6 =>
  bd (aLenSl (v2.getD 0 .any)) fun t24 =>
  bd (aPieceSl 1 t22 none (some t24) none) fun t25 =>
  some (.normal [t25], s6))
  (some (.normal [(v2.getD 0 .any)], s3)))
  (fun v7 s8 => some ((v7.getD 0 .any), s8))
  (fun i9 v7 s8 => none)
  (fun r10 s8 => some (r10, s8)))
  (fun i4 v2 s3 => none)
  (fun r5 s3 => some (r5, s3))

theorem f216_eq (callf : CallF) (N : Nat) (a0 : T) (a1 : T) (s : St) : bodyC Tryz.prog callf N Tryz.f216 [a0, a1] s = f216 callf N a0 a1 s := by kernel_rfl

theorem f216_run (d : Nat) (a0 : T) (a1 : T) (s : St) : R (d + 1) 216 [a0, a1] s = f216 (R d) 8192 a0 a1 s := (runQ_body rfl Tryz.func216 (by kernel_rfl)).trans (f216_eq ..)

end
end Go.Proofs.YtbohejffelipoaaGreatDoor


/-
  What functions that the laws reach compute, printed by a program of our own: each text is by definition the run of the code. No conditions.
-/
namespace Go.Proofs.YtbohejffelipoaaGreatDoor
open Go Go.Abs Go.Abs.F
set_option linter.unusedVariables false
noncomputable section
/- twinkeep/entry.id -/
def f193 (callf : CallF) (N : Nat) (a0 : T) (s : St) : Option (T × St) :=
  bd (aBin .geq a0 (I .i64 1)) fun t4 =>
  bd (gT (gd t4 true) (some a0)) fun t6 =>
  bd (gT (gd t4 true) (aBin .leq t6 (I .i64 1073741824))) fun t7 =>
  bd (aPick t4 t7 (B false)) fun t8 =>
  some (t8, s)

theorem f193_eq (callf : CallF) (N : Nat) (a0 : T) (s : St) : bodyC Tryz.prog callf N Tryz.f193 [a0] s = f193 callf N a0 s := by kernel_rfl

theorem f193_run (d : Nat) (a0 : T) (s : St) : R (d + 1) 193 [a0] s = f193 (R d) 8192 a0 s := (runQ_body rfl Tryz.func193 (by kernel_rfl)).trans (f193_eq ..)

/- twinkeep/entry.May -/
def f149 (callf : CallF) (N : Nat) (a0 : T) (s : St) : Option (T × St) :=
  bd2 (aNew s (nBox a0)) fun t1 s1 =>
  bd (aFieldAddr 1 t1) fun t6 =>
  bd (aLoad1 t6 s1.get) fun t7 =>
  bd (aBin .lss t7 (I .i64 0)) fun t8 =>
  bd (gT (gd t8 false) (aFieldAddr 1 t1)) fun t10 =>
  bd (gT (gd t8 false) (aLoad1 t10 s1.get)) fun t11 =>
  bd (gT (gd t8 false) (aBin .gtr t11 (I .i64 1073741824))) fun t12 =>
  bd (aPick t8 (B true) t12) fun t13 =>
  br t13 (some ((B false), s1))
  (bd (aFieldAddr 0 t1) fun t14 =>
  bd (aLoad1 t14 s1.get) fun t15 =>
  jn (bd (aBin .eql t15 (I .i64 1)) fun t17 =>
  br t17 (bd (aFieldAddr 7 t1) fun t18 =>
  bd (aLoad1 t18 s1.get) fun t19 =>
  bd (aBin .eql t19 (Z (.str []))) fun t20 =>
  bd (gT (gd t20 true) (aFieldAddr 2 t1)) fun t22 =>
  bd (gT (gd t20 true) (aLoad1 t22 s1.get)) fun t23 =>
  bd2 (gS (gd t20 true) s1 (callf 193 [t23] s1)) fun t24 s2 =>
  bd (aPick t20 t24 (B false)) fun t25 =>
  bd (gT (gd t25 true) (aFieldAddr 3 t1)) fun t27 =>
  bd (gT (gd t25 true) (aLoad1 t27 s2.get)) fun t28 =>
  bd (gT (gd t25 true) (aBin .geq t28 (I .i64 0))) fun t29 =>
  bd (aPick t25 t29 (B false)) fun t30 =>
  bd (gT (gd t30 true) (aFieldAddr 3 t1)) fun t32 =>
  bd (gT (gd t30 true) (aLoad1 t32 s2.get)) fun t33 =>
  bd (gT (gd t30 true) (aBin .lss t33 (I .i64 4))) fun t34 =>
  bd (aPick t30 t34 (B false)) fun t35 =>
  bd (gT (gd t35 true) (aFieldAddr 4 t1)) fun t37 =>
  bd (gT (gd t35 true) (aLoad1 t37 s2.get)) fun t38 =>
  bd (gT (gd t35 true) (aBin .geq t38 (I .i64 0))) fun t39 =>
  bd (aPick t35 t39 (B false)) fun t40 =>
  bd (gT (gd t40 true) (aFieldAddr 4 t1)) fun t42 =>
  bd (gT (gd t40 true) (aLoad1 t42 s2.get)) fun t43 =>
  bd (gT (gd t40 true) (aFieldAddr 5 t1)) fun t44 =>
  bd (gT (gd t40 true) (aLoad1 t44 s2.get)) fun t45 =>
  bd (gT (gd t40 true) (aBin .lss t43 t45)) fun t46 =>
  bd (aPick t40 t46 (B false)) fun t47 =>
  bd (gT (gd t47 true) (aFieldAddr 5 t1)) fun t49 =>
  bd (gT (gd t47 true) (aLoad1 t49 s2.get)) fun t50 =>
  bd (gT (gd t47 true) (aBin .leq t50 (I .i64 1099511627776))) fun t51 =>
  bd (aPick t47 t51 (B false)) fun t52 =>
  some (.ret t52, s2))
  (bd (aBin .eql t15 (I .i64 2)) fun t54 =>
  br t54 (bd (aFieldAddr 2 t1) fun t55 =>
  bd (aLoad1 t55 s1.get) fun t56 =>
  bd2 (callf 193 [t56] s1) fun t57 s3 =>
  bd (gT (gd t57 true) (aLoadN 8 t1 s3.get)) fun t59 =>
  bd (gT (gd t57 true) (aFieldAddr 1 t1)) fun t60 =>
  bd (gT (gd t57 true) (aLoad1 t60 s3.get)) fun t61 =>
  bd (gT (gd t57 true) (aFieldAddr 2 t1)) fun t62 =>
  bd (gT (gd t57 true) (aLoad1 t62 s3.get)) fun t63 =>
  bd (gT (gd t57 true) (asAggT (aFill [.int .i64 0, .int .i64 0, .int .i64 0, .int .i64 0, .int .i64 0, .int .i64 0, .int .u32 0, .str []] [(0, 1, (I .i64 2)), (1, 1, t61), (2, 1, t63)]))) fun t64 =>
  bd (gT (gd t57 true) (eqB (.a 8 [(0, .i), (1, .i), (2, .i), (3, .i), (4, .i), (5, .i), (6, .i), (7, .s)]) t59 t64)) fun t65 =>
  bd (aPick t57 t65 (B false)) fun t66 =>
  some (.ret t66, s3))
  (bd (aBin .eql t15 (I .i64 3)) fun t68 =>
  br t68 (bd (aFieldAddr 1 t1) fun t69 =>
  bd (aLoad1 t69 s1.get) fun t70 =>
  bd (aBin .gtr t70 (I .i64 0)) fun t71 =>
  bd (gT (gd t71 true) (aLoadN 8 t1 s1.get)) fun t73 =>
  bd (gT (gd t71 true) (aFieldAddr 1 t1)) fun t74 =>
  bd (gT (gd t71 true) (aLoad1 t74 s1.get)) fun t75 =>
  bd (gT (gd t71 true) (asAggT (aFill [.int .i64 0, .int .i64 0, .int .i64 0, .int .i64 0, .int .i64 0, .int .i64 0, .int .u32 0, .str []] [(0, 1, (I .i64 3)), (1, 1, t75)]))) fun t76 =>
  bd (gT (gd t71 true) (eqB (.a 8 [(0, .i), (1, .i), (2, .i), (3, .i), (4, .i), (5, .i), (6, .i), (7, .s)]) t73 t76)) fun t77 =>
  bd (aPick t71 t77 (B false)) fun t78 =>
  some (.ret t78, s1))
  (bd (aBin .eql t15 (I .i64 4)) fun t80 =>
  br t80 (bd (aFieldAddr 7 t1) fun t81 =>
  bd (aLoad1 t81 s1.get) fun t82 =>
  bd (aLenStr t82) fun t83 =>
  bd (aBin .gtr t83 (I .i64 300)) fun t84 =>
  bd (gT (gd t84 false) (aLoadN 8 t1 s1.get)) fun t86 =>
  bd (gT (gd t84 false) (aFieldAddr 1 t1)) fun t87 =>
  bd (gT (gd t84 false) (aLoad1 t87 s1.get)) fun t88 =>
  bd (gT (gd t84 false) (aFieldAddr 7 t1)) fun t89 =>
  bd (gT (gd t84 false) (aLoad1 t89 s1.get)) fun t90 =>
  bd (gT (gd t84 false) (asAggT (aFill [.int .i64 0, .int .i64 0, .int .i64 0, .int .i64 0, .int .i64 0, .int .i64 0, .int .u32 0, .str []] [(0, 1, (I .i64 4)), (1, 1, t88), (7, 1, t90)]))) fun t91 =>
  bd (gT (gd t84 false) (neB (.a 8 [(0, .i), (1, .i), (2, .i), (3, .i), (4, .i), (5, .i), (6, .i), (7, .s)]) t86 t91)) fun t92 =>
  bd (aPick t84 (B true) t92) fun t93 =>
  br t93 (some (.ret (B false), s1))
  (bd (aFieldAddr 7 t1) fun t95 =>
  bd (aLoad1 t95 s1.get) fun t96 =>
  bd2 (callf 137 [t96] s1) fun t97 s4 =>
  bd (aExtract t97 0) fun t98 =>
  bd (aExtract t97 1) fun t99 =>
  bd (aExtract t97 2) fun t100 =>
  bd2 (aNew s4 (nCells [.int .i64 0, .int .i64 0, .int .i64 0, .int .i64 0, .int .i64 0, .int .i64 0])) fun t3 s5 =>
  bd2 (aStore 6 t3 t98 s5) fun _ s6 =>
  bd (aBin .eql t99 (I .i64 0)) fun t102 =>
  some (.ret t102, s6)))
  (some (.normal [], s1))))))
  (fun v7 s8 => some ((B false), s8))
  (fun i9 v7 s8 => none)
  (fun r10 s8 => some (r10, s8)))

theorem f149_eq (callf : CallF) (N : Nat) (a0 : T) (s : St) : bodyC Tryz.prog callf N Tryz.f149 [a0] s = f149 callf N a0 s := by kernel_rfl

theorem f149_run (d : Nat) (a0 : T) (s : St) : R (d + 1) 149 [a0] s = f149 (R d) 8192 a0 s := (runQ_body rfl Tryz.func149 (by kernel_rfl)).trans (f149_eq ..)

/- twinkeep/entry.Put: a loop; 0: t1 e, 1: t4 b, 2: t53 , 3: t54 , 4: t55  -/
def f133_l1 (callf : CallF) (N : Nat) (v : List T) (s : St) : Option (JO × St) :=
  bd (aBin .lss (v.getD 4 .any) (v.getD 3 .any)) fun t56 =>
  br t56 (jn (bd (aIndexSl 1 (v.getD 2 .any) (v.getD 4 .any)) fun t57 =>
  bd (aLoad1 t57 s.get) fun t58 =>
  bd2 (callf 159 [t58] s) fun t61 s26 =>
  bd2 (aAppend 1 1 (v.getD 1 .any) t61 s26) fun t62 s27 =>
  some (.normal [(v.getD 0 .any), t62, (v.getD 2 .any), (v.getD 3 .any), (v.getD 4 .any)], s27))
  (fun v28 s29 => bd (aBin .add (v28.getD 4 .any) (I .i64 1)) fun t63 =>
  some (.normal [(v28.getD 0 .any), (v28.getD 1 .any), (v28.getD 2 .any), (v28.getD 3 .any), t63], s29))
  (fun i30 v28 s29 => some (.exit i30 v28, s29))
  (fun r31 s29 => some (.ret r31, s29)))
  (some (.exit 1 [(v.getD 0 .any), (v.getD 1 .any)], s))

/- twinkeep/entry.Put -/
def f133 (callf : CallF) (N : Nat) (a0 : T) (s : St) : Option (T × St) :=
  bd2 (aNew s (nBox a0)) fun t1 s1 =>
  bd (aLoadN 8 t1 s1.get) fun t8 =>
  bd2 (callf 149 [t8] s1) fun t9 s2 =>
  bd (aUn .not t9) fun t10 =>
  br t10 (bd (retT [(Z .nils), (I .i64 1)]) fun r3 =>
  some (r3, s2))
  (bd (aFieldAddr 0 t1) fun t11 =>
  bd (aLoad1 t11 s2.get) fun t12 =>
  bd (aConv .u8 t12) fun t13 =>
  bd2 (aNew s2 (nSlice 1 (aFill [.int .u8 0] [(0, 1, t13)]))) fun t14 s4 =>
  bd (aFieldAddr 1 t1) fun t15 =>
  bd (aLoad1 t15 s4.get) fun t16 =>
  bd (aConv .u64 t16) fun t17 =>
  bd2 (callf 159 [t17] s4) fun t18 s5 =>
  bd2 (aAppend 1 1 t14 t18 s5) fun t19 s6 =>
  ck ((decide (aLoad1 t11 (overlay 8 s5.get (ovO 3 s2.size (nSlice 1 (aFill [.int .u8 0] [(0, 1, t13)])) [])) = aLoad1 t11 s2.get) && true) && true) (bd (aFieldAddr 0 t1) fun t20 =>
  bd (aLoad1 t20 s6.get) fun t21 =>
  jn (bd (aBin .eql t21 (I .i64 1)) fun t23 =>
  jn (br t23 (bd (aFieldAddr 2 t1) fun t24 =>
  bd (aLoad1 t24 s6.get) fun t25 =>
  bd (aConv .u64 t25) fun t26 =>
  bd (aFieldAddr 3 t1) fun t27 =>
  bd (aLoad1 t27 s6.get) fun t28 =>
  bd (aConv .u64 t28) fun t29 =>
  bd (aFieldAddr 4 t1) fun t30 =>
  bd (aLoad1 t30 s6.get) fun t31 =>
  bd (aConv .u64 t31) fun t32 =>
  bd (aFieldAddr 5 t1) fun t33 =>
  bd (aLoad1 t33 s6.get) fun t34 =>
  bd (aConv .u64 t34) fun t35 =>
  bd (aFieldAddr 6 t1) fun t36 =>
  bd (aLoad1 t36 s6.get) fun t37 =>
  bd (aConv .u64 t37) fun t38 =>
  bd2 (aNew s6 (nSlice 5 (aFill [.int .u64 0, .int .u64 0, .int .u64 0, .int .u64 0, .int .u64 0] [(0, 1, t26), (1, 1, t29), (2, 1, t32), (3, 1, t35), (4, 1, t38)]))) fun t39 s7 =>
  some (.normal [t1, t19, t39], s7))
  (bd (aBin .eql t21 (I .i64 2)) fun t41 =>
  jn (br t41 (bd (aFieldAddr 2 t1) fun t42 =>
  bd (aLoad1 t42 s6.get) fun t43 =>
  bd (aConv .u64 t43) fun t44 =>
  bd2 (aNew s6 (nSlice 1 (aFill [.int .u64 0] [(0, 1, t44)]))) fun t45 s8 =>
  some (.normal [t1, t19, t45], s8))
  (bd (aBin .eql t21 (I .i64 4)) fun t47 =>
  jn (br t47 (bd (aFieldAddr 7 t1) fun t48 =>
  bd (aLoad1 t48 s6.get) fun t49 =>
  bd (aLenStr t49) fun t50 =>
  bd (aConv .u64 t50) fun t51 =>
  bd2 (aNew s6 (nSlice 1 (aFill [.int .u64 0] [(0, 1, t51)]))) fun t52 s9 =>
  some (.normal [t1, t19, t52], s9))
  (some (.normal [t1, t19, (Z .nils)], s6)))
  (fun v10 s11 => some (.normal [(v10.getD 0 .any), (v10.getD 1 .any), (v10.getD 2 .any)], s11))
  (fun i12 v10 s11 => some (.exit i12 v10, s11))
  (fun r13 s11 => some (.ret r13, s11))))
  (fun v14 s15 => some (.normal [(v14.getD 0 .any), (v14.getD 1 .any), (v14.getD 2 .any)], s15))
  (fun i16 v14 s15 => some (.exit i16 v14, s15))
  (fun r17 s15 => some (.ret r17, s15))))
  (fun v18 s19 => some (.normal [(v18.getD 0 .any), (v18.getD 1 .any), (v18.getD 2 .any)], s19))
  (fun i20 v18 s19 => if i20 = 0 then some (.normal v18, s19) else some (.exit i20 v18, s19))
  (fun r21 s19 => some (.ret r21, s19)))
  (fun v22 s23 => bd (aLenSl (v22.getD 2 .any)) fun t54 =>
  jn (jn (loops (f133_l1 callf N) N [(v22.getD 0 .any), (v22.getD 1 .any), (v22.getD 2 .any), t54, (I .i64 0)] s23)
  (fun v32 s33 => some (.normal [.any, .any], s33))
  (fun i34 v32 s33 => if i34 = 1 then some (.normal v32, s33) else some (.exit i34 v32, s33))
  (fun r35 s33 => some (.ret r35, s33)))
  (fun v36 s37 => bd (aFieldAddr 7 (v36.getD 0 .any)) fun t65 =>
  bd (aLoad1 t65 s37.get) fun t66 =>
  bd2 (aAppend 1 1 (v36.getD 1 .any) t66 s37) fun t67 s40 =>
  bd (retT [t67, (I .i64 0)]) fun r41 =>
  some (r41, s40))
  (fun i38 v36 s37 => none)
  (fun r39 s37 => some (r39, s37)))
  (fun i24 v22 s23 => none)
  (fun r25 s23 => some (r25, s23))))

theorem f133_eq (callf : CallF) (N : Nat) (a0 : T) (s : St) : bodyC Tryz.prog callf N Tryz.f133 [a0] s = f133 callf N a0 s := by kernel_rfl

theorem f133_run (d : Nat) (a0 : T) (s : St) : R (d + 1) 133 [a0] s = f133 (R d) 8192 a0 s := (runQ_body rfl Tryz.func133 (by kernel_rfl)).trans (f133_eq ..)

/- twinkeep/entry.Get -/
def f94 (callf : CallF) (N : Nat) (a0 : T) (s : St) : Option (T × St) :=
  bd2 (aNew s (nBox a0)) fun t1 s1 =>
  bd2 (aNew s1 (nCells [.int .i64 0, .int .i64 0, .int .i64 0, .int .i64 0, .int .i64 0, .int .i64 0, .int .u32 0, .str []])) fun t2 s2 =>
  bd (aLoad1 t1 s2.get) fun t11 =>
  bd (aLenSl t11) fun t12 =>
  bd (aBin .eql t12 (I .i64 0)) fun t13 =>
  br t13 (bd (asAggT (aFill [.int .i64 0, .int .i64 0, .int .i64 0, .int .i64 0, .int .i64 0, .int .i64 0, .int .u32 0, .str []] [])) fun t14 =>
  bd2 (aStore 8 t2 t14 s2) fun _ s3 =>
  bd (rC (aLoadN 8 t2 s3.get) (rT (I .i64 2) (some []))) fun l4 => bd (retT l4) fun r5 =>
  some (r5, s3))
  (bd2 (aNew s2 (nCells [.int .i64 0])) fun t4 s6 =>
  bd2 (aNew s6 (nCells [.bool false])) fun t5 s7 =>
  bd2 (aStore 1 t4 (I .i64 1) s7) fun _ s8 =>
  bd2 (aStore 1 t5 (B false) s8) fun _ s9 =>
  bd (aClo 132 [t1, t4, t5] []) fun t15 =>
  bd (aLoad1 t1 s9.get) fun t16 =>
  bd (aIndexSl 1 t16 (I .i64 0)) fun t17 =>
  bd (aLoad1 t17 s9.get) fun t18 =>
  bd (aConv .i64 t18) fun t19 =>
  bd2 (dyn Tryz.prog callf t15 [(I .u64 1073741824)] s9) fun t21 s10 =>
  bd (asAggT (aFill [.int .i64 0, .int .i64 0, .int .i64 0, .int .i64 0, .int .i64 0, .int .i64 0, .int .u32 0, .str []] [(0, 1, t19), (1, 1, t21)])) fun t22 =>
  bd2 (aNew s10 (nCells [.int .i64 0, .int .i64 0, .int .i64 0, .int .i64 0, .int .i64 0, .int .i64 0, .int .u32 0, .str []])) fun t7 s11 =>
  bd2 (aStore 8 t7 t22 s11) fun _ s12 =>
  ck ((decide (aLoad1 t1 (updM (s10.get) s10.size (.cells true [.int .i64 0, .int .i64 0, .int .i64 0, .int .i64 0, .int .i64 0, .int .i64 0, .int .u32 0, .str []])) = aLoad1 t1 s9.get) && true) && ((decide (aLoad1 t17 (updM (s10.get) s10.size (.cells true [.int .i64 0, .int .i64 0, .int .i64 0, .int .i64 0, .int .i64 0, .int .i64 0, .int .u32 0, .str []])) = aLoad1 t17 s9.get) && true) && true)) (bd (aFieldAddr 0 t7) fun t23 =>
  bd (aLoad1 t23 s12.get) fun t24 =>
  jn (bd (aBin .eql t24 (I .i64 1)) fun t26 =>
  jn (br t26 (bd2 (dyn Tryz.prog callf t15 [(I .u64 1073741824)] s12) fun t28 s13 =>
  bd2 (dyn Tryz.prog callf t15 [(I .u64 4)] s13) fun t30 s14 =>
  bd (aFieldAddr 2 t7) fun t31 =>
  bd2 (aStore 1 t31 t28 s14) fun _ s15 =>
  bd (aFieldAddr 3 t7) fun t32 =>
  bd2 (aStore 1 t32 t30 s15) fun _ s16 =>
  bd2 (dyn Tryz.prog callf t15 [(I .u64 1099511627776)] s16) fun t34 s17 =>
  bd2 (dyn Tryz.prog callf t15 [(I .u64 1099511627776)] s17) fun t36 s18 =>
  bd (aFieldAddr 4 t7) fun t37 =>
  bd2 (aStore 1 t37 t34 s18) fun _ s19 =>
  bd (aFieldAddr 5 t7) fun t38 =>
  bd2 (aStore 1 t38 t36 s19) fun _ s20 =>
  bd2 (dyn Tryz.prog callf t15 [(I .u64 4294967295)] s20) fun t40 s21 =>
  bd (aConv .u32 t40) fun t41 =>
  bd (aFieldAddr 6 t7) fun t42 =>
  bd2 (aStore 1 t42 t41 s21) fun _ s22 =>
  some (.normal [t1, t2, t5, t7], s22))
  (bd (aBin .eql t24 (I .i64 2)) fun t44 =>
  jn (br t44 (bd2 (dyn Tryz.prog callf t15 [(I .u64 1073741824)] s12) fun t46 s23 =>
  bd (aFieldAddr 2 t7) fun t47 =>
  bd2 (aStore 1 t47 t46 s23) fun _ s24 =>
  some (.normal [t1, t2, t5, t7], s24))
  (bd (aBin .eql t24 (I .i64 4)) fun t49 =>
  jn (br t49 (bd2 (dyn Tryz.prog callf t15 [(I .u64 300)] s12) fun t51 s25 =>
  bd (aLoad1 t5 s25.get) fun t52 =>
  bd (gT (gd t52 false) (some t51)) fun t54 =>
  bd (gT (gd t52 false) (aLoad1 t1 s25.get)) fun t55 =>
  bd (gT (gd t52 false) (aLenSl t55)) fun t56 =>
  bd (gT (gd t52 false) (aLoad1 t4 s25.get)) fun t57 =>
  bd (gT (gd t52 false) (aBin .sub t56 t57)) fun t58 =>
  bd (gT (gd t52 false) (aBin .gtr t54 t58)) fun t59 =>
  bd (aPick t52 (B true) t59) fun t60 =>
  br t60 (bd (asAggT (aFill [.int .i64 0, .int .i64 0, .int .i64 0, .int .i64 0, .int .i64 0, .int .i64 0, .int .u32 0, .str []] [])) fun t61 =>
  bd2 (aStore 8 t2 t61 s25) fun _ s26 =>
  bd (rC (aLoadN 8 t2 s26.get) (rT (I .i64 2) (some []))) fun l27 => bd (retT l27) fun r28 =>
  some (.ret r28, s26))
  (bd (aLoad1 t1 s25.get) fun t62 =>
  bd (aLoad1 t4 s25.get) fun t63 =>
  bd (aLoad1 t4 s25.get) fun t64 =>
  bd (aBin .add t64 t51) fun t66 =>
  bd (aPieceSl 1 t62 (some t63) (some t66) none) fun t67 =>
  bd (aBytesStr t67 s25.get) fun t68 =>
  bd (aFieldAddr 7 t7) fun t69 =>
  bd2 (aStore 1 t69 t68 s25) fun _ s29 =>
  some (.normal [t1, t2, t5, t7], s29)))
  (some (.normal [t1, t2, t5, t7], s12)))
  (fun v30 s31 => some (.normal [(v30.getD 0 .any), (v30.getD 1 .any), (v30.getD 2 .any), (v30.getD 3 .any)], s31))
  (fun i32 v30 s31 => some (.exit i32 v30, s31))
  (fun r33 s31 => some (.ret r33, s31))))
  (fun v34 s35 => some (.normal [(v34.getD 0 .any), (v34.getD 1 .any), (v34.getD 2 .any), (v34.getD 3 .any)], s35))
  (fun i36 v34 s35 => some (.exit i36 v34, s35))
  (fun r37 s35 => some (.ret r37, s35))))
  (fun v38 s39 => some (.normal [(v38.getD 0 .any), (v38.getD 1 .any), (v38.getD 2 .any), (v38.getD 3 .any)], s39))
  (fun i40 v38 s39 => if i40 = 0 then some (.normal v38, s39) else some (.exit i40 v38, s39))
  (fun r41 s39 => some (.ret r41, s39)))
  (fun v42 s43 => bd (aLoadN 8 (v42.getD 3 .any) s43.get) fun t71 =>
  bd2 (callf 133 [t71] s43) fun t72 s46 =>
  bd (aExtract t72 0) fun t73 =>
  bd (aExtract t72 1) fun t74 =>
  bd (aLoad1 (v42.getD 2 .any) s46.get) fun t75 =>
  bd (gT (gd t75 false) (some t74)) fun t77 =>
  bd (gT (gd t75 false) (aBin .neq t77 (I .i64 0))) fun t78 =>
  bd (aPick t75 (B true) t78) fun t79 =>
  bd (gT (gd t79 false) (some t73)) fun t81 =>
  bd (gT (gd t79 false) (aLoad1 (v42.getD 0 .any) s46.get)) fun t82 =>
  bd2 (gS (gd t79 false) s46 (callf 122 [t81, t82] s46)) fun t83 s47 =>
  bd (gT (gd t79 false) (aUn .not t83)) fun t84 =>
  bd (aPick t79 (B true) t84) fun t85 =>
  br t85 (bd (asAggT (aFill [.int .i64 0, .int .i64 0, .int .i64 0, .int .i64 0, .int .i64 0, .int .i64 0, .int .u32 0, .str []] [])) fun t86 =>
  bd2 (aStore 8 (v42.getD 1 .any) t86 s47) fun _ s48 =>
  bd (rC (aLoadN 8 (v42.getD 1 .any) s48.get) (rT (I .i64 2) (some []))) fun l49 => bd (retT l49) fun r50 =>
  some (r50, s48))
  (bd (aLoadN 8 (v42.getD 3 .any) s47.get) fun t87 =>
  bd2 (aStore 8 (v42.getD 1 .any) t87 s47) fun _ s51 =>
  bd (rC (aLoadN 8 (v42.getD 1 .any) s51.get) (rT (I .i64 0) (some []))) fun l52 => bd (retT l52) fun r53 =>
  some (r53, s51)))
  (fun i44 v42 s43 => none)
  (fun r45 s43 => some (r45, s43))))

theorem f94_eq (callf : CallF) (N : Nat) (a0 : T) (s : St) : bodyC Tryz.prog callf N Tryz.f94 [a0] s = f94 callf N a0 s := by kernel_rfl

theorem f94_run (d : Nat) (a0 : T) (s : St) : R (d + 1) 94 [a0] s = f94 (R d) 8192 a0 s := (runQ_body rfl Tryz.func94 (by kernel_rfl)).trans (f94_eq ..)

/- twinkeep/entry.Get$1 -/
def f132 (callf : CallF) (N : Nat) (a0 : T) (a1 : T) (a2 : T) (a3 : T) (s : St) : Option (T × St) :=
  bd (aLoad1 a1 s.get) fun t10 =>
  bd (aLoad1 a2 s.get) fun t11 =>
  bd2 (callf 118 [t10, t11] s) fun t12 s1 =>
  bd (aExtract t12 0) fun t13 =>
  bd (aExtract t12 1) fun t14 =>
  bd (aExtract t12 2) fun t15 =>
  bd (aLoad1 a3 s1.get) fun t16 =>
  bd (gT (gd t16 false) (some t15)) fun t18 =>
  bd (gT (gd t16 false) (aBin .neq t18 (I .i64 0))) fun t19 =>
  bd (aPick t16 (B true) t19) fun t20 =>
  bd (gT (gd t20 false) (some t13)) fun t22 =>
  bd (gT (gd t20 false) (some a0)) fun t23 =>
  bd (gT (gd t20 false) (aBin .gtr t22 t23)) fun t24 =>
  bd (aPick t20 (B true) t24) fun t25 =>
  bd2 (aStore 1 a3 t25 s1) fun _ s2 =>
  bd2 (aStore 1 a2 t14 s2) fun _ s3 =>
  bd (aFold aMin2 t13 [a0]) fun t29 =>
  bd (aConv .i64 t29) fun t30 =>
  some (t30, s3)

theorem f132_eq (callf : CallF) (N : Nat) (a0 : T) (a1 : T) (a2 : T) (a3 : T) (s : St) : bodyC Tryz.prog callf N Tryz.f132 [a0, a1, a2, a3] s = f132 callf N a0 a1 a2 a3 s := by kernel_rfl

theorem f132_run (d : Nat) (a0 : T) (a1 : T) (a2 : T) (a3 : T) (s : St) : R (d + 1) 132 [a0, a1, a2, a3] s = f132 (R d) 8192 a0 a1 a2 a3 s := (runQ_body rfl Tryz.func132 (by kernel_rfl)).trans (f132_eq ..)

/- twinkeep/entry.Fold: a loop; 0: t3 , 1: t6 s, 2: t11 , 3: t12 , 4: t13  -/
def f126_l1 (callf : CallF) (N : Nat) (v : List T) (s : St) : Option (JO × St) :=
  bd (aBin .lss (v.getD 4 .any) (v.getD 3 .any)) fun t14 =>
  br t14 (jn (bd (aIndexSl 8 (v.getD 2 .any) (v.getD 4 .any)) fun t15 =>
  bd (aLoadN 8 t15 s.get) fun t16 =>
  bd2 (aNew s (nCells [.int .i64 0, .int .i64 0, .int .i64 0, .int .i64 0, .int .i64 0, .int .i64 0, .int .u32 0, .str []])) fun t8 s3 =>
  bd2 (aStore 8 t8 t16 s3) fun _ s4 =>
  bd (aLoadN 8 t8 s4.get) fun t18 =>
  bd2 (callf 96 [(v.getD 1 .any), t18] s4) fun t19 s5 =>
  bd (aBin .neq t19 (I .i64 0)) fun t21 =>
  br t21 (bd (asAggT (aFill [.int .i64 0, .int .i64 0, .int .i64 0, .int .i64 0, .int .i64 0, .int .i64 0] [])) fun t22 =>
  bd2 (aStore 6 (v.getD 0 .any) t22 s5) fun _ s6 =>
  bd (rT (Z .nils) (rC (aLoadN 6 (v.getD 0 .any) s6.get) (rT (I .i64 0) (rT t19 (some []))))) fun l7 => bd (retT l7) fun r8 =>
  some (.ret r8, s6))
  (some (.normal [(v.getD 0 .any), (v.getD 1 .any), (v.getD 2 .any), (v.getD 3 .any), (v.getD 4 .any)], s5)))
  (fun v9 s10 => bd (aBin .add (v9.getD 4 .any) (I .i64 1)) fun t24 =>
  some (.normal [(v9.getD 0 .any), (v9.getD 1 .any), (v9.getD 2 .any), (v9.getD 3 .any), t24], s10))
  (fun i11 v9 s10 => some (.exit i11 v9, s10))
  (fun r12 s10 => some (.ret r12, s10)))
  (some (.exit 0 [(v.getD 0 .any), (v.getD 1 .any)], s))

/- twinkeep/entry.Fold -/
def f126 (callf : CallF) (N : Nat) (a0 : T) (s : St) : Option (T × St) :=
  bd2 (aNew s (nCells [.int .i64 0, .int .i64 0, .int .i64 0, .int .i64 0, .int .i64 0, .int .i64 0])) fun t3 s1 =>
  bd2 (callf 41 [] s1) fun t10 s2 =>
  bd (aLenSl a0) fun t12 =>
  jn (jn (loops (f126_l1 callf N) N [t3, t10, a0, t12, (I .i64 0)] s2)
  (fun v13 s14 => some (.normal [.any, .any], s14))
  (fun i15 v13 s14 => if i15 = 0 then some (.normal v13, s14) else some (.exit i15 v13, s14))
  (fun r16 s14 => some (.ret r16, s14)))
  (fun v17 s18 => bd2 (callf 48 [(v17.getD 1 .any)] s18) fun t26 s21 =>
  bd (aNil (v17.getD 1 .any)) fun t28 =>
  bd (aFieldAddr 2 t28) fun t29 =>
  bd (aLoadN 6 t29 s21.get) fun t30 =>
  bd (aNil (v17.getD 1 .any)) fun t32 =>
  bd (aFieldAddr 8 t32) fun t33 =>
  bd (aLoad1 t33 s21.get) fun t34 =>
  bd2 (aStore 6 (v17.getD 0 .any) t30 s21) fun _ s22 =>
  ck ((decide (aLoadN 6 t29 s18.get = aLoadN 6 t29 s21.get) && true) && ((decide (aLoad1 t33 s18.get = aLoad1 t33 s21.get) && (decide (aLoad1 t33 s22.get = aLoad1 t33 s21.get) && true)) && true)) (bd (rT t26 (rC (aLoadN 6 (v17.getD 0 .any) s22.get) (rT t34 (rT (I .i64 0) (some []))))) fun l23 => bd (retT l23) fun r24 =>
  some (r24, s22)))
  (fun i19 v17 s18 => none)
  (fun r20 s18 => some (r20, s18))

theorem f126_eq (callf : CallF) (N : Nat) (a0 : T) (s : St) : bodyC Tryz.prog callf N Tryz.f126 [a0] s = f126 callf N a0 s := by kernel_rfl

theorem f126_run (d : Nat) (a0 : T) (s : St) : R (d + 1) 126 [a0] s = f126 (R d) 8192 a0 s := (runQ_body rfl Tryz.func126 (by kernel_rfl)).trans (f126_eq ..)

/- twinkeep/entry.Begin -/
def f41 (callf : CallF) (N : Nat) (s : St) : Option (T × St) :=
  bd2 (aNew s (nMap)) fun t1 s1 =>
  bd2 (callf 91 [] s1) fun t2 s2 =>
  bd (asAggT (aFill [.nils, .nilm, .int .i64 0, .int .i64 0, .int .i64 0, .int .i64 0, .int .i64 0, .int .i64 0, .int .i64 0, .int .i64 0] [(1, 1, t1), (2, 6, t2)])) fun t3 =>
  bd2 (aNew s2 (nBox t3)) fun t4 s3 =>
  some (t4, s3)

theorem f41_eq (callf : CallF) (N : Nat) (s : St) : bodyC Tryz.prog callf N Tryz.f41 [] s = f41 callf N s := by kernel_rfl

theorem f41_run (d : Nat) (s : St) : R (d + 1) 41 [] s = f41 (R d) 8192 s := (runQ_body rfl Tryz.func41 (by kernel_rfl)).trans (f41_eq ..)

/- (twinkeep/entry.State).at -/
def f134 (callf : CallF) (N : Nat) (a0 : T) (a1 : T) (s : St) : Option (T × St) :=
  bd (aNil a0) fun t7 =>
  bd (aFieldAddr 0 t7) fun t8 =>
  bd (aLoad1 t8 s.get) fun t9 =>
  bd2 (callf 175 [t9, a1, (Z (.clo 176 []))] s) fun t11 s1 =>
  bd (aExtract t11 0) fun t12 =>
  bd (aExtract t11 1) fun t13 =>
  bd (retT [t12, t13]) fun r2 =>
  some (r2, s1)

theorem f134_eq (callf : CallF) (N : Nat) (a0 : T) (a1 : T) (s : St) : bodyC Tryz.prog callf N Tryz.f134 [a0, a1] s = f134 callf N a0 a1 s := by kernel_rfl

theorem f134_run (d : Nat) (a0 : T) (a1 : T) (s : St) : R (d + 1) 134 [a0, a1] s = f134 (R d) 8192 a0 a1 s := (runQ_body rfl Tryz.func134 (by kernel_rfl)).trans (f134_eq ..)

/- (twinkeep/entry.State).Asks -/
def f110 (callf : CallF) (N : Nat) (a0 : T) (a1 : T) (s : St) : Option (T × St) :=
  bd2 (aNew s (nBox a1)) fun t3 s1 =>
  bd (aFieldAddr 2 t3) fun t9 =>
  bd (aLoad1 t9 s1.get) fun t10 =>
  bd2 (callf 134 [a0, t10] s1) fun t11 s2 =>
  bd (aExtract t11 0) fun t12 =>
  bd (aExtract t11 1) fun t13 =>
  jn (bd (aLoadN 8 t3 s2.get) fun t15 =>
  bd2 (callf 149 [t15] s2) fun t16 s3 =>
  bd (aUn .not t16) fun t17 =>
  br t17 (some (.ret (I .i64 1), s3))
  (bd (aFieldAddr 0 t3) fun t19 =>
  bd (aLoad1 t19 s3.get) fun t20 =>
  bd (aBin .eql t20 (I .i64 1)) fun t21 =>
  bd (gT (gd t21 true) (some a0)) fun t23 =>
  bd (gT (gd t21 true) (aNil t23)) fun t24 =>
  bd (gT (gd t21 true) (aFieldAddr 1 t24)) fun t25 =>
  bd (gT (gd t21 true) (aLoad1 t25 s3.get)) fun t26 =>
  bd (gT (gd t21 true) (aFieldAddr 2 t3)) fun t27 =>
  bd (gT (gd t21 true) (aLoad1 t27 s3.get)) fun t28 =>
  bd (gT (gd t21 true) (Go.Abs.F.look .i false (.s (.bool false)) t26 t28 s3.get)) fun t29 =>
  bd (aPick t21 t29 (B false)) fun t30 =>
  br t30 (some (.ret (I .i64 7), s3))
  (bd (aFieldAddr 0 t3) fun t32 =>
  bd (aLoad1 t32 s3.get) fun t33 =>
  bd (aBin .eql t33 (I .i64 2)) fun t34 =>
  bd (gT (gd t34 true) (some t13)) fun t36 =>
  bd (gT (gd t34 true) (aUn .not t36)) fun t37 =>
  bd (aPick t34 t37 (B false)) fun t38 =>
  br t38 (some (.ret (I .i64 9), s3))
  (bd (aFieldAddr 1 t3) fun t40 =>
  bd (aLoad1 t40 s3.get) fun t41 =>
  bd (aNil a0) fun t43 =>
  bd (aFieldAddr 9 t43) fun t44 =>
  bd (aLoad1 t44 s3.get) fun t45 =>
  bd (aBin .lss t41 t45) fun t46 =>
  br t46 (some (.ret (I .i64 12), s3))
  (some (.normal [], s3))))))
  (fun v4 s5 => some ((I .i64 0), s5))
  (fun i6 v4 s5 => none)
  (fun r7 s5 => some (r7, s5))

theorem f110_eq (callf : CallF) (N : Nat) (a0 : T) (a1 : T) (s : St) : bodyC Tryz.prog callf N Tryz.f110 [a0, a1] s = f110 callf N a0 a1 s := by kernel_rfl

theorem f110_run (d : Nat) (a0 : T) (a1 : T) (s : St) : R (d + 1) 110 [a0, a1] s = f110 (R d) 8192 a0 a1 s := (runQ_body rfl Tryz.func110 (by kernel_rfl)).trans (f110_eq ..)

/- (twinkeep/entry.State).Next -/
def f96 (callf : CallF) (N : Nat) (a0 : T) (a1 : T) (s : St) : Option (T × St) :=
  bd2 (aNew s (nBox a1)) fun t3 s1 =>
  bd (aLoadN 8 t3 s1.get) fun t9 =>
  bd2 (callf 110 [a0, t9] s1) fun t10 s2 =>
  bd (aBin .neq t10 (I .i64 0)) fun t12 =>
  br t12 (some (t10, s2))
  (bd (aFieldAddr 2 t3) fun t16 =>
  bd (aLoad1 t16 s2.get) fun t17 =>
  bd2 (callf 134 [a0, t17] s2) fun t18 s3 =>
  bd (aExtract t18 0) fun t19 =>
  bd (aExtract t18 1) fun t20 =>
  bd (aFieldAddr 0 t3) fun t21 =>
  bd (aLoad1 t21 s3.get) fun t22 =>
  jn (bd (aBin .eql t22 (I .i64 1)) fun t24 =>
  jn (br t24 (bd (aNil a0) fun t26 =>
  bd (aFieldAddr 1 t26) fun t27 =>
  bd (aLoad1 t27 s3.get) fun t28 =>
  bd (aFieldAddr 2 t3) fun t29 =>
  bd (aLoad1 t29 s3.get) fun t30 =>
  bd2 (mset .i t28 t30 (B true) s3) fun _ s4 =>
  bd (aNil a0) fun t33 =>
  bd (aFieldAddr 0 t33) fun t34 =>
  bd (aLoad1 t34 s4.get) fun t35 =>
  bd (aFieldAddr 2 t3) fun t37 =>
  bd (aLoad1 t37 s4.get) fun t38 =>
  bd (aFieldAddr 3 t3) fun t39 =>
  bd (aLoad1 t39 s4.get) fun t40 =>
  bd (aFieldAddr 4 t3) fun t41 =>
  bd (aLoad1 t41 s4.get) fun t42 =>
  bd (aFieldAddr 5 t3) fun t43 =>
  bd (aLoad1 t43 s4.get) fun t44 =>
  bd (aFieldAddr 6 t3) fun t45 =>
  bd (aLoad1 t45 s4.get) fun t46 =>
  bd (asAggT (aFill [.int .i64 0, .int .i64 0, .int .i64 0, .int .i64 0, .int .u32 0] [(0, 1, t38), (1, 1, t40), (2, 1, t42), (3, 1, t44), (4, 1, t46)])) fun t47 =>
  bd2 (aNew s4 (nSlice 1 (aFill [.int .i64 0, .int .i64 0, .int .i64 0, .int .i64 0, .int .u32 0] [(0, 5, t47)]))) fun t48 s5 =>
  bd2 (callf 135 [t35, t19, t48] s5) fun t49 s6 =>
  bd (aNil a0) fun t50 =>
  bd (aFieldAddr 0 t50) fun t51 =>
  bd2 (aStore 1 t51 t49 s6) fun _ s7 =>
  some (.normal [a0, t3], s7))
  (bd (aBin .eql t22 (I .i64 2)) fun t53 =>
  jn (br t53 (bd (aNil a0) fun t56 =>
  bd (aFieldAddr 0 t56) fun t57 =>
  bd (aLoad1 t57 s3.get) fun t58 =>
  bd (aBin .add t19 (I .i64 1)) fun t61 =>
  bd2 (callf 136 [t58, t19, t61] s3) fun t62 s8 =>
  bd (aNil a0) fun t63 =>
  bd (aFieldAddr 0 t63) fun t64 =>
  bd2 (aStore 1 t64 t62 s8) fun _ s9 =>
  some (.normal [a0, t3], s9))
  (bd (aBin .eql t22 (I .i64 3)) fun t66 =>
  jn (br t66 (bd (aFieldAddr 1 t3) fun t68 =>
  bd (aLoad1 t68 s3.get) fun t69 =>
  bd (aNil a0) fun t70 =>
  bd (aFieldAddr 8 t70) fun t71 =>
  bd2 (aStore 1 t71 t69 s3) fun _ s10 =>
  some (.normal [a0, t3], s10))
  (bd (aBin .eql t22 (I .i64 4)) fun t73 =>
  jn (br t73 (bd (aFieldAddr 7 t3) fun t76 =>
  bd (aLoad1 t76 s3.get) fun t77 =>
  bd2 (callf 137 [t77] s3) fun t78 s11 =>
  bd (aExtract t78 0) fun t79 =>
  bd (aExtract t78 1) fun t80 =>
  bd (aExtract t78 2) fun t81 =>
  bd (aNil a0) fun t82 =>
  bd (aFieldAddr 2 t82) fun t83 =>
  bd2 (aStore 6 t83 t79 s11) fun _ s12 =>
  some (.normal [a0, t3], s12))
  (some (.normal [a0, t3], s3)))
  (fun v13 s14 => some (.normal [(v13.getD 0 .any), (v13.getD 1 .any)], s14))
  (fun i15 v13 s14 => some (.exit i15 v13, s14))
  (fun r16 s14 => some (.ret r16, s14))))
  (fun v17 s18 => some (.normal [(v17.getD 0 .any), (v17.getD 1 .any)], s18))
  (fun i19 v17 s18 => some (.exit i19 v17, s18))
  (fun r20 s18 => some (.ret r20, s18))))
  (fun v21 s22 => some (.normal [(v21.getD 0 .any), (v21.getD 1 .any)], s22))
  (fun i23 v21 s22 => some (.exit i23 v21, s22))
  (fun r24 s22 => some (.ret r24, s22))))
  (fun v25 s26 => some (.normal [(v25.getD 0 .any), (v25.getD 1 .any)], s26))
  (fun i27 v25 s26 => if i27 = 0 then some (.normal v25, s26) else some (.exit i27 v25, s26))
  (fun r28 s26 => some (.ret r28, s26)))
  (fun v29 s30 => bd (aFieldAddr 1 (v29.getD 1 .any)) fun t85 =>
  bd (aLoad1 t85 s30.get) fun t86 =>
  bd (aNil (v29.getD 0 .any)) fun t87 =>
  bd (aFieldAddr 9 t87) fun t88 =>
  bd2 (aStore 1 t88 t86 s30) fun _ s33 =>
  some ((I .i64 0), s33))
  (fun i31 v29 s30 => none)
  (fun r32 s30 => some (r32, s30)))

theorem f96_eq (callf : CallF) (N : Nat) (a0 : T) (a1 : T) (s : St) : bodyC Tryz.prog callf N Tryz.f96 [a0, a1] s = f96 callf N a0 a1 s := by kernel_rfl

theorem f96_run (d : Nat) (a0 : T) (a1 : T) (s : St) : R (d + 1) 96 [a0, a1] s = f96 (R d) 8192 a0 a1 s := (runQ_body rfl Tryz.func96 (by kernel_rfl)).trans (f96_eq ..)

/- (twinkeep/entry.State).Infos -/
def f48 (callf : CallF) (N : Nat) (a0 : T) (s : St) : Option (T × St) :=
  bd (aNil a0) fun t4 =>
  bd (aFieldAddr 0 t4) fun t5 =>
  bd (aLoad1 t5 s.get) fun t6 =>
  bd2 (callf 97 [t6] s) fun t7 s1 =>
  some (t7, s1)

theorem f48_eq (callf : CallF) (N : Nat) (a0 : T) (s : St) : bodyC Tryz.prog callf N Tryz.f48 [a0] s = f48 callf N a0 s := by kernel_rfl

theorem f48_run (d : Nat) (a0 : T) (s : St) : R (d + 1) 48 [a0] s = f48 (R d) 8192 a0 s := (runQ_body rfl Tryz.func48 (by kernel_rfl)).trans (f48_eq ..)

/- (twinkeep/entry.State).Rule -/
def f84 (callf : CallF) (N : Nat) (a0 : T) (s : St) : Option (T × St) :=
  bd2 (aNew s (nCells [.int .i64 0, .int .i64 0, .int .i64 0, .int .i64 0, .int .i64 0, .int .i64 0])) fun t2 s1 =>
  bd (aNil a0) fun t4 =>
  bd (aFieldAddr 2 t4) fun t5 =>
  bd (aLoadN 6 t5 s1.get) fun t6 =>
  bd2 (aStore 6 t2 t6 s1) fun _ s2 =>
  bd (rC (aLoadN 6 t2 s2.get) (some [])) fun l3 => bd (retT l3) fun r4 =>
  some (r4, s2)

theorem f84_eq (callf : CallF) (N : Nat) (a0 : T) (s : St) : bodyC Tryz.prog callf N Tryz.f84 [a0] s = f84 callf N a0 s := by kernel_rfl

theorem f84_run (d : Nat) (a0 : T) (s : St) : R (d + 1) 84 [a0] s = f84 (R d) 8192 a0 s := (runQ_body rfl Tryz.func84 (by kernel_rfl)).trans (f84_eq ..)

/- (twinkeep/entry.State).at$1 -/
def f176 (callf : CallF) (N : Nat) (a0 : T) (a1 : T) (s : St) : Option (T × St) :=
  bd2 (aNew s (nBox a0)) fun t2 s1 =>
  bd (aFieldAddr 0 t2) fun t5 =>
  bd (aLoad1 t5 s1.get) fun t6 =>
  bd (aBin .sub t6 a1) fun t8 =>
  some (t8, s1)

theorem f176_eq (callf : CallF) (N : Nat) (a0 : T) (a1 : T) (s : St) : bodyC Tryz.prog callf N Tryz.f176 [a0, a1] s = f176 callf N a0 a1 s := by kernel_rfl

theorem f176_run (d : Nat) (a0 : T) (a1 : T) (s : St) : R (d + 1) 176 [a0, a1] s = f176 (R d) 8192 a0 a1 s := (runQ_body rfl Tryz.func176 (by kernel_rfl)).trans (f176_eq ..)

end
end Go.Proofs.YtbohejffelipoaaGreatDoor


/-
  What functions that the laws reach compute, printed by a program of our own: each text is by definition the run of the code. No conditions.
-/
namespace Go.Proofs.YtbohejffelipoaaGreatDoor
open Go Go.Abs Go.Abs.F
set_option linter.unusedVariables false
noncomputable section
/- slices.Clone[[]twinkeep/api.Info,twinkeep/api.Info] -/
def f97 (callf : CallF) (N : Nat) (a0 : T) (s : St) : Option (T × St) :=
  bd (eqB .l a0 (Z .nils)) fun t4 =>
  br t4 (some ((Z .nils), s))
  (bd2 (aNew s (nSlice 0 (aFill [] []))) fun t5 s1 =>
  bd2 (aAppend 5 40 t5 a0 s1) fun t7 s2 =>
  some (t7, s2))

theorem f97_eq (callf : CallF) (N : Nat) (a0 : T) (s : St) : bodyC Tryz.prog callf N Tryz.f97 [a0] s = f97 callf N a0 s := by kernel_rfl

theorem f97_run (d : Nat) (a0 : T) (s : St) : R (d + 1) 97 [a0] s = f97 (R d) 8192 a0 s := (runQ_body rfl Tryz.func97 (by kernel_rfl)).trans (f97_eq ..)

/- slices.BinarySearchFunc[[]twinkeep/api.Info,twinkeep/api.Info,int]: a loop; 0: t0 x, 1: t1 target, 2: t2 cmp, 3: t8 n, 4: t9 i, 5: t10 j -/
def f175_l1 (callf : CallF) (N : Nat) (v : List T) (s : St) : Option (JO × St) :=
  bd (aBin .lss (v.getD 4 .any) (v.getD 5 .any)) fun t17 =>
  br t17 (jn (bd (aBin .add (v.getD 4 .any) (v.getD 5 .any)) fun t20 =>
  bd (aConv .u64 t20) fun t21 =>
  bd (aBin .shr t21 (I .u64 1)) fun t22 =>
  bd (aConv .i64 t22) fun t23 =>
  bd (aIndexSl 5 (v.getD 0 .any) t23) fun t27 =>
  bd (aLoadN 5 t27 s.get) fun t28 =>
  bd2 (dyn Tryz.prog callf (v.getD 2 .any) [t28, (v.getD 1 .any)] s) fun t30 s1 =>
  bd (aBin .lss t30 (I .i64 0)) fun t31 =>
  jn (br t31 (bd (aBin .add t23 (I .i64 1)) fun t33 =>
  some (.normal [(v.getD 0 .any), (v.getD 1 .any), (v.getD 2 .any), (v.getD 3 .any), t33, (v.getD 5 .any)], s1))
  (some (.normal [(v.getD 0 .any), (v.getD 1 .any), (v.getD 2 .any), (v.getD 3 .any), (v.getD 4 .any), t23], s1)))
  (fun v2 s3 => some (.normal [(v2.getD 0 .any), (v2.getD 1 .any), (v2.getD 2 .any), (v2.getD 3 .any), (v2.getD 4 .any), (v2.getD 5 .any)], s3))
  (fun i4 v2 s3 => if i4 = 1 then some (.normal v2, s3) else some (.exit i4 v2, s3))
  (fun r5 s3 => some (.ret r5, s3)))
  (fun v6 s7 => some (.normal [(v6.getD 0 .any), (v6.getD 1 .any), (v6.getD 2 .any), (v6.getD 3 .any), (v6.getD 4 .any), (v6.getD 5 .any)], s7))
  (fun i8 v6 s7 => some (.exit i8 v6, s7))
  (fun r9 s7 => some (.ret r9, s7)))
  (some (.exit 0 [(v.getD 0 .any), (v.getD 1 .any), (v.getD 2 .any), (v.getD 3 .any), (v.getD 4 .any)], s))

/- slices.BinarySearchFunc[[]twinkeep/api.Info,twinkeep/api.Info,int] -/
def f175 (callf : CallF) (N : Nat) (a0 : T) (a1 : T) (a2 : T) (s : St) : Option (T × St) :=
  bd (aLenSl a0) fun t13 =>
  jn (jn (loops (f175_l1 callf N) N [a0, a1, a2, t13, (I .i64 0), t13] s)
  (fun v10 s11 => some (.normal [.any, .any, .any, .any, .any], s11))
  (fun i12 v10 s11 => if i12 = 0 then some (.normal v10, s11) else some (.exit i12 v10, s11))
  (fun r13 s11 => some (.ret r13, s11)))
  (fun v14 s15 => bd (aBin .lss (v14.getD 4 .any) (v14.getD 3 .any)) fun t38 =>
  bd (gT (gd t38 true) (some (v14.getD 2 .any))) fun t40 =>
  bd (gT (gd t38 true) (some (v14.getD 0 .any))) fun t41 =>
  bd (gT (gd t38 true) (some (v14.getD 4 .any))) fun t42 =>
  bd (gT (gd t38 true) (aIndexSl 5 t41 t42)) fun t43 =>
  bd (gT (gd t38 true) (aLoadN 5 t43 s15.get)) fun t44 =>
  bd (gT (gd t38 true) (some (v14.getD 1 .any))) fun t45 =>
  bd2 (gS (gd t38 true) s15 (dyn Tryz.prog callf t40 [t44, t45] s15)) fun t46 s18 =>
  bd (gT (gd t38 true) (aBin .eql t46 (I .i64 0))) fun t47 =>
  bd (aPick t38 t47 (B false)) fun t48 =>
  bd (retT [(v14.getD 4 .any), t48]) fun r19 =>
  some (r19, s18))
  (fun i16 v14 s15 => none)
  (fun r17 s15 => some (r17, s15))

theorem f175_eq (callf : CallF) (N : Nat) (a0 : T) (a1 : T) (a2 : T) (s : St) : bodyC Tryz.prog callf N Tryz.f175 [a0, a1, a2] s = f175 callf N a0 a1 a2 s := by kernel_rfl

theorem f175_run (d : Nat) (a0 : T) (a1 : T) (a2 : T) (s : St) : R (d + 1) 175 [a0, a1, a2] s = f175 (R d) 8192 a0 a1 a2 s := (runQ_body rfl Tryz.func175 (by kernel_rfl)).trans (f175_eq ..)

/- slices.Insert[[]twinkeep/api.Info,twinkeep/api.Info] -/
def f135 (callf : CallF) (N : Nat) (a0 : T) (a1 : T) (a2 : T) (s : St) : Option (T × St) :=
  bd (aPieceSl 5 a0 (some a1) none none) fun t12 =>
  bd (aLenSl a2) fun t14 =>
  bd (aBin .eql t14 (I .i64 0)) fun t16 =>
  br t16 (some (a0, s))
  (bd (aLenSl a0) fun t19 =>
  bd (aBin .eql a1 t19) fun t22 =>
  br t22 (bd2 (aAppend 5 40 a0 a2 s) fun t25 s1 =>
  some (t25, s1))
  (bd (aBin .add t19 t14) fun t28 =>
  bd (aCap a0) fun t30 =>
  bd (aBin .gtr t28 t30) fun t31 =>
  br t31 (bd (aPieceSl 5 a0 none (some a1) none) fun t34 =>
  bd (aBin .add t19 t14) fun t37 =>
  bd (aBin .sub t37 a1) fun t39 =>
  bd2 (aGrow 5 40 [.int .i64 0, .int .i64 0, .int .i64 0, .int .i64 0, .int .u32 0] t34 t39 s) fun t40 s2 =>
  bd (aPieceSl 5 t40 (some a1) none none) fun t43 =>
  bd2 (aCopy 5 t43 a2 s2) fun t45 s3 =>
  bd (aBin .add a1 t14) fun t49 =>
  bd (aPieceSl 5 t40 (some t49) none none) fun t50 =>
  bd (aPieceSl 5 a0 (some a1) none none) fun t53 =>
  bd2 (aCopy 5 t50 t53 s3) fun t54 s4 =>
  some (t40, s4))
  (bd (aBin .add t19 t14) fun t59 =>
  bd (aPieceSl 5 a0 none (some t59) none) fun t60 =>
  bd (aBin .add a1 t14) fun t65 =>
  bd (aPieceSl 5 t60 (some t65) none none) fun t66 =>
  bd2 (xOver Tryz.prog 177 [a2, t66] s) fun t67 s5 =>
  bd (aUn .not t67) fun t68 =>
  br t68 (bd (aBin .add a1 t14) fun t72 =>
  bd (aPieceSl 5 t60 (some t72) none none) fun t73 =>
  bd (aPieceSl 5 t60 (some a1) none none) fun t76 =>
  bd2 (aCopy 5 t73 t76 s5) fun t77 s6 =>
  bd (aPieceSl 5 t60 (some a1) none none) fun t80 =>
  bd2 (aCopy 5 t80 a2 s6) fun t82 s7 =>
  some (t60, s7))
  (bd (aPieceSl 5 t60 (some t19) none none) fun t86 =>
  bd2 (aCopy 5 t86 a2 s5) fun t88 s8 =>
  bd (aPieceSl 5 t60 (some a1) none none) fun t91 =>
  bd2 (callf 178 [t91, t14] s8) fun t93 s9 =>
  some (t60, s9)))))

theorem f135_eq (callf : CallF) (N : Nat) (a0 : T) (a1 : T) (a2 : T) (s : St) : bodyC Tryz.prog callf N Tryz.f135 [a0, a1, a2] s = f135 callf N a0 a1 a2 s := by kernel_rfl

/- slices.Delete[[]twinkeep/api.Info,twinkeep/api.Info] -/
def f136 (callf : CallF) (N : Nat) (a0 : T) (a1 : T) (a2 : T) (s : St) : Option (T × St) :=
  bd (aLenSl a0) fun t12 =>
  bd (aPieceSl 5 a0 (some a1) (some a2) (some t12)) fun t13 =>
  bd (aBin .eql a1 a2) fun t16 =>
  br t16 (some (a0, s))
  (bd (aLenSl a0) fun t19 =>
  bd (aPieceSl 5 a0 none (some a1) none) fun t22 =>
  bd (aPieceSl 5 a0 (some a2) none none) fun t25 =>
  bd2 (aAppend 5 40 t22 t25 s) fun t26 s1 =>
  bd (aLenSl t26) fun t29 =>
  bd (aPieceSl 5 t26 (some t29) (some t19) none) fun t31 =>
  bd2 (aClear 5 [.int .i64 0, .int .i64 0, .int .i64 0, .int .i64 0, .int .u32 0] t31 s1) fun _ s2 =>
  some (t26, s2))

theorem f136_eq (callf : CallF) (N : Nat) (a0 : T) (a1 : T) (a2 : T) (s : St) : bodyC Tryz.prog callf N Tryz.f136 [a0, a1, a2] s = f136 callf N a0 a1 a2 s := by kernel_rfl

end
end Go.Proofs.YtbohejffelipoaaGreatDoor


/-
  What functions that the laws reach compute, printed by a program of our own: each text is by definition the run of the code. No conditions.
-/
namespace Go.Proofs.YtbohejffelipoaaGreatDoor
open Go Go.Abs Go.Abs.F
set_option linter.unusedVariables false
noncomputable section
/- twinkeep/log.Wrap -/
def f131 (callf : CallF) (N : Nat) (a0 : T) (s : St) : Option (T × St) :=
  bd (aLenSl a0) fun t5 =>
  bd (aConv .u64 t5) fun t6 =>
  bd2 (callf 159 [t6] s) fun t7 s1 =>
  bd2 (callf 161 [t7] s1) fun t10 s2 =>
  bd2 (callf 174 [t10, a0] s2) fun t12 s3 =>
  bd2 (callf 173 [t12] s3) fun t13 s4 =>
  bd2 (aNew s4 (nSlice 3 (aFill [.nils, .nils, .nils] [(0, 1, t7), (1, 1, t13), (2, 1, a0)]))) fun t15 s5 =>
  bd2 (callf 172 [t15] s5) fun t16 s6 =>
  some (t16, s6)

theorem f131_eq (callf : CallF) (N : Nat) (a0 : T) (s : St) : bodyC Tryz.prog callf N Tryz.f131 [a0] s = f131 callf N a0 s := by kernel_rfl

theorem f131_run (d : Nat) (a0 : T) (s : St) : R (d + 1) 131 [a0] s = f131 (R d) 8192 a0 s := (runQ_body rfl Tryz.func131 (by kernel_rfl)).trans (f131_eq ..)

/- twinkeep/log.Open -/
def f93 (callf : CallF) (N : Nat) (a0 : T) (a1 : T) (s : St) : Option (T × St) :=
  bd2 (callf 118 [a0, a1] s) fun t15 s1 =>
  bd (aExtract t15 0) fun t16 =>
  bd (aExtract t15 1) fun t17 =>
  bd (aExtract t15 2) fun t18 =>
  bd (aBin .neq t18 (I .i64 0)) fun t20 =>
  bd (gT (gd t20 false) (some a0)) fun t22 =>
  bd (gT (gd t20 false) (aLenSl t22)) fun t23 =>
  bd (gT (gd t20 false) (some t17)) fun t24 =>
  bd (gT (gd t20 false) (aBin .sub t23 t24)) fun t25 =>
  bd (gT (gd t20 false) (aBin .lss t25 (I .i64 4))) fun t26 =>
  bd (aPick t20 (B true) t26) fun t27 =>
  bd (gT (gd t27 false) (some t16)) fun t29 =>
  bd (gT (gd t27 false) (some a0)) fun t30 =>
  bd (gT (gd t27 false) (aLenSl t30)) fun t31 =>
  bd (gT (gd t27 false) (some t17)) fun t32 =>
  bd (gT (gd t27 false) (aBin .sub t31 t32)) fun t33 =>
  bd (gT (gd t27 false) (aBin .sub t33 (I .i64 4))) fun t34 =>
  bd (gT (gd t27 false) (aConv .u64 t34)) fun t35 =>
  bd (gT (gd t27 false) (aBin .gtr t29 t35)) fun t36 =>
  bd (aPick t27 (B true) t36) fun t37 =>
  br t37 (bd (retT [(Z .nils), a1, (B false)]) fun r2 =>
  some (r2, s1))
  (bd (aBin .add t17 (I .i64 4)) fun t40 =>
  bd (aConv .i64 t16) fun t42 =>
  bd (aBin .add t40 t42) fun t43 =>
  bd (aBin .add t17 (I .i64 4)) fun t46 =>
  bd (aPieceSl 1 a0 (some t46) (some t43) none) fun t48 =>
  bd (aPieceSl 1 a0 (some a1) (some t43) none) fun t52 =>
  bd2 (callf 131 [t48] s1) fun t54 s3 =>
  bd2 (callf 130 [t52, t54] s3) fun t55 s4 =>
  bd (aUn .not t55) fun t56 =>
  br t56 (bd (retT [(Z .nils), a1, (B false)]) fun r5 =>
  some (r5, s4))
  (bd (retT [t48, t43, (B true)]) fun r6 =>
  some (r6, s4)))

theorem f93_eq (callf : CallF) (N : Nat) (a0 : T) (a1 : T) (s : St) : bodyC Tryz.prog callf N Tryz.f93 [a0, a1] s = f93 callf N a0 a1 s := by kernel_rfl

theorem f93_run (d : Nat) (a0 : T) (a1 : T) (s : St) : R (d + 1) 93 [a0, a1] s = f93 (R d) 8192 a0 a1 s := (runQ_body rfl Tryz.func93 (by kernel_rfl)).trans (f93_eq ..)

/- twinkeep/log.Frame -/
def f95 (callf : CallF) (N : Nat) (a0 : T) (s : St) : Option (T × St) :=
  bd2 (aNew s (nBox a0)) fun t1 s1 =>
  bd (aLoadN 8 t1 s1.get) fun t7 =>
  bd2 (callf 133 [t7] s1) fun t8 s2 =>
  bd (aExtract t8 0) fun t9 =>
  bd (aExtract t8 1) fun t10 =>
  bd (aBin .neq t10 (I .i64 0)) fun t12 =>
  br t12 (bd (retT [(Z .nils), t10]) fun r3 =>
  some (r3, s2))
  (bd2 (callf 131 [t9] s2) fun t15 s4 =>
  bd (retT [t15, (I .i64 0)]) fun r5 =>
  some (r5, s4))

theorem f95_eq (callf : CallF) (N : Nat) (a0 : T) (s : St) : bodyC Tryz.prog callf N Tryz.f95 [a0] s = f95 callf N a0 s := by kernel_rfl

theorem f95_run (d : Nat) (a0 : T) (s : St) : R (d + 1) 95 [a0] s = f95 (R d) 8192 a0 s := (runQ_body rfl Tryz.func95 (by kernel_rfl)).trans (f95_eq ..)

/- twinkeep/log.Read: a loop; 0: t0 b, 1: t4 l, 2: t5 at -/
def f43_l1 (callf : CallF) (N : Nat) (v : List T) (s : St) : Option (JO × St) :=
  bd (aLenSl (v.getD 1 .any)) fun t12 =>
  bd (aBin .lss t12 (I .i64 2000)) fun t13 =>
  br t13 (jn (bd2 (callf 93 [(v.getD 0 .any), (v.getD 2 .any)] s) fun t17 s1 =>
  bd (aExtract t17 0) fun t18 =>
  bd (aExtract t17 1) fun t19 =>
  bd (aExtract t17 2) fun t20 =>
  bd (aUn .not t20) fun t22 =>
  br t22 (some (.exit 0 [(v.getD 1 .any), (v.getD 2 .any)], s1))
  (bd2 (callf 94 [t18] s1) fun t25 s2 =>
  bd (aExtract t25 0) fun t26 =>
  bd (aExtract t25 1) fun t27 =>
  bd2 (aNew s2 (nCells [.int .i64 0, .int .i64 0, .int .i64 0, .int .i64 0, .int .i64 0, .int .i64 0, .int .u32 0, .str []])) fun t9 s3 =>
  bd2 (aStore 8 t9 t26 s3) fun _ s4 =>
  bd (aBin .neq t27 (I .i64 0)) fun t29 =>
  br t29 (some (.exit 0 [(v.getD 1 .any), (v.getD 2 .any)], s4))
  (bd (aLoadN 8 t9 s4.get) fun t31 =>
  bd2 (aNew s4 (nSlice 1 (aFill [.int .i64 0, .int .i64 0, .int .i64 0, .int .i64 0, .int .i64 0, .int .i64 0, .int .u32 0, .str []] [(0, 8, t31)]))) fun t32 s5 =>
  bd2 (aAppend 8 72 (v.getD 1 .any) t32 s5) fun t33 s6 =>
  some (.normal [(v.getD 0 .any), t33, t19], s6))))
  (fun v7 s8 => some (.normal [(v7.getD 0 .any), (v7.getD 1 .any), (v7.getD 2 .any)], s8))
  (fun i9 v7 s8 => some (.exit i9 v7, s8))
  (fun r10 s8 => some (.ret r10, s8)))
  (some (.exit 0 [(v.getD 1 .any), (v.getD 2 .any)], s))

/- twinkeep/log.Read -/
def f43 (callf : CallF) (N : Nat) (a0 : T) (s : St) : Option (T × St) :=
  jn (jn (loops (f43_l1 callf N) N [a0, (Z .nils), (I .i64 0)] s)
  (fun v11 s12 => some (.normal [.any, .any], s12))
  (fun i13 v11 s12 => if i13 = 0 then some (.normal v11, s12) else some (.exit i13 v11, s12))
  (fun r14 s12 => some (.ret r14, s12)))
  (fun v15 s16 => bd (retT [(v15.getD 0 .any), (v15.getD 1 .any)]) fun r19 =>
  some (r19, s16))
  (fun i17 v15 s16 => none)
  (fun r18 s16 => some (r18, s16))

theorem f43_eq (callf : CallF) (N : Nat) (a0 : T) (s : St) : bodyC Tryz.prog callf N Tryz.f43 [a0] s = f43 callf N a0 s := by kernel_rfl

theorem f43_run (d : Nat) (a0 : T) (s : St) : R (d + 1) 43 [a0] s = f43 (R d) 8192 a0 s := (runQ_body rfl Tryz.func43 (by kernel_rfl)).trans (f43_eq ..)

end
end Go.Proofs.YtbohejffelipoaaGreatDoor


/-
  What functions that the laws reach compute, printed by a program of our own: each text is by definition the run of the code. No conditions.
-/
namespace Go.Proofs.YtbohejffelipoaaGreatDoor
open Go Go.Abs Go.Abs.F
set_option linter.unusedVariables false
noncomputable section
/- twinkeep/disk.New -/
def f10 (callf : CallF) (N : Nat) (a0 : T) (s : St) : Option (T × St) :=
  bd (aBin .lss a0 (I .i64 0)) fun t4 =>
  bd (gT (gd t4 false) (some a0)) fun t6 =>
  bd (gT (gd t4 false) (aBin .gtr t6 (I .i64 1048576))) fun t7 =>
  bd (aPick t4 (B true) t7) fun t8 =>
  br t8 (some ((Z .nilp), s))
  (bd2 (aNew s (nMap)) fun t10 s1 =>
  bd (asAggT (aFill [.int .i64 0, .nilm] [(0, 1, a0), (1, 1, t10)])) fun t11 =>
  bd2 (aNew s1 (nBox t11)) fun t12 s2 =>
  some (t12, s2))

theorem f10_eq (callf : CallF) (N : Nat) (a0 : T) (s : St) : bodyC Tryz.prog callf N Tryz.f10 [a0] s = f10 callf N a0 s := by kernel_rfl

theorem f10_run (d : Nat) (a0 : T) (s : St) : R (d + 1) 10 [a0] s = f10 (R d) 8192 a0 s := (runQ_body rfl Tryz.func10 (by kernel_rfl)).trans (f10_eq ..)

/- (twinkeep/disk.Disk).Append -/
def f12 (callf : CallF) (N : Nat) (a0 : T) (a1 : T) (a2 : T) (s : St) : Option (T × St) :=
  bd2 (callf 36 [a0, a1] s) fun t12 s1 =>
  bd (aExtract t12 0) fun t13 =>
  bd (aExtract t12 1) fun t14 =>
  bd (aBin .neq t14 (I .i64 0)) fun t16 =>
  bd (gT (gd t16 true) (some t14)) fun t18 =>
  bd (gT (gd t16 true) (aBin .neq t18 (I .i64 9))) fun t19 =>
  bd (aPick t16 t19 (B false)) fun t20 =>
  br t20 (some (t14, s1))
  (bd (eqB .p t13 (Z .nilp)) fun t23 =>
  bd (gT (gd t23 true) (some a0)) fun t25 =>
  bd (gT (gd t23 true) (aNil t25)) fun t26 =>
  bd (gT (gd t23 true) (aFieldAddr 1 t26)) fun t27 =>
  bd (gT (gd t23 true) (aLoad1 t27 s1.get)) fun t28 =>
  bd (gT (gd t23 true) (aLenMap t28 s1.get)) fun t29 =>
  bd (gT (gd t23 true) (aBin .eql t29 (I .i64 200))) fun t30 =>
  bd (aPick t23 t30 (B false)) fun t31 =>
  bd (gT (gd t31 false) (some a0)) fun t33 =>
  bd2 (gS (gd t31 false) s1 (callf 30 [t33] s1)) fun t34 s2 =>
  bd (gT (gd t31 false) (some a2)) fun t35 =>
  bd (gT (gd t31 false) (aLenSl t35)) fun t36 =>
  bd (gT (gd t31 false) (aBin .add t34 t36)) fun t37 =>
  bd (gT (gd t31 false) (some a0)) fun t38 =>
  bd (gT (gd t31 false) (aNil t38)) fun t39 =>
  bd (gT (gd t31 false) (aFieldAddr 0 t39)) fun t40 =>
  bd (gT (gd t31 false) (aLoad1 t40 s2.get)) fun t41 =>
  bd (gT (gd t31 false) (aBin .gtr t37 t41)) fun t42 =>
  bd (aPick t31 (B true) t42) fun t43 =>
  ck ((wq (gd t31 false) (decide (aLoad1 t40 s1.get = aLoad1 t40 s2.get)) && true) && true) (br t43 (some ((I .i64 8), s2))
  (bd (eqB .p t13 (Z .nilp)) fun t45 =>
  jn (br t45 (bd (asAggT (aFill [.nils, .int .i64 0] [])) fun t46 =>
  bd2 (aNew s2 (nBox t46)) fun t47 s3 =>
  bd (aNil a0) fun t49 =>
  bd (aFieldAddr 1 t49) fun t50 =>
  bd (aLoad1 t50 s3.get) fun t51 =>
  bd2 (mset .s t51 a1 t47 s3) fun _ s4 =>
  some (.normal [a2, t47], s4))
  (some (.normal [a2, t13], s2)))
  (fun v5 s6 => bd (aNil (v5.getD 1 .any)) fun t56 =>
  bd (aFieldAddr 0 t56) fun t57 =>
  bd (aLoad1 t57 s6.get) fun t58 =>
  bd2 (aAppend 1 1 t58 (v5.getD 0 .any) s6) fun t60 s9 =>
  bd (aNil (v5.getD 1 .any)) fun t61 =>
  bd (aFieldAddr 0 t61) fun t62 =>
  bd2 (aStore 1 t62 t60 s9) fun _ s10 =>
  some ((I .i64 0), s10))
  (fun i7 v5 s6 => none)
  (fun r8 s6 => some (r8, s6)))))

theorem f12_eq (callf : CallF) (N : Nat) (a0 : T) (a1 : T) (a2 : T) (s : St) : bodyC Tryz.prog callf N Tryz.f12 [a0, a1, a2] s = f12 callf N a0 a1 a2 s := by kernel_rfl

theorem f12_run (d : Nat) (a0 : T) (a1 : T) (a2 : T) (s : St) : R (d + 1) 12 [a0, a1, a2] s = f12 (R d) 8192 a0 a1 a2 s := (runQ_body rfl Tryz.func12 (by kernel_rfl)).trans (f12_eq ..)

/- (twinkeep/disk.Disk).Sync -/
def f47 (callf : CallF) (N : Nat) (a0 : T) (a1 : T) (s : St) : Option (T × St) :=
  bd2 (callf 36 [a0, a1] s) fun t10 s1 =>
  bd (aExtract t10 0) fun t11 =>
  bd (aExtract t10 1) fun t12 =>
  bd (aBin .eql t12 (I .i64 0)) fun t14 =>
  jn (br t14 (bd (aNil t11) fun t17 =>
  bd (aFieldAddr 0 t17) fun t18 =>
  bd (aLoad1 t18 s1.get) fun t19 =>
  bd (aLenSl t19) fun t20 =>
  bd (aNil t11) fun t21 =>
  bd (aFieldAddr 1 t21) fun t22 =>
  bd2 (aStore 1 t22 t20 s1) fun _ s2 =>
  some (.normal [t12], s2))
  (some (.normal [t12], s1)))
  (fun v3 s4 => some ((v3.getD 0 .any), s4))
  (fun i5 v3 s4 => none)
  (fun r6 s4 => some (r6, s4))

theorem f47_eq (callf : CallF) (N : Nat) (a0 : T) (a1 : T) (s : St) : bodyC Tryz.prog callf N Tryz.f47 [a0, a1] s = f47 callf N a0 a1 s := by kernel_rfl

theorem f47_run (d : Nat) (a0 : T) (a1 : T) (s : St) : R (d + 1) 47 [a0, a1] s = f47 (R d) 8192 a0 a1 s := (runQ_body rfl Tryz.func47 (by kernel_rfl)).trans (f47_eq ..)

/- (twinkeep/disk.Disk).Crash: a loop; 0: t0 d, 1: t1 keep, 2: t9 , 3: t10 , 4: t11  -/
def f25_l1 (callf : CallF) (N : Nat) (v : List T) (s : St) : Option (JO × St) :=
  bd (aBin .lss (v.getD 4 .any) (v.getD 3 .any)) fun t12 =>
  br t12 (jn (bd (aIndexSl 1 (v.getD 2 .any) (v.getD 4 .any)) fun t14 =>
  bd (aLoad1 t14 s.get) fun t15 =>
  bd (aNil (v.getD 0 .any)) fun t17 =>
  bd (aFieldAddr 1 t17) fun t18 =>
  bd (aLoad1 t18 s.get) fun t19 =>
  bd (Go.Abs.F.look .s false (.s (.nilp)) t19 t15 s.get) fun t21 =>
  bd (aLenSl (v.getD 1 .any)) fun t24 =>
  bd (aBin .lss (v.getD 4 .any) t24) fun t25 =>
  jn (br t25 (bd (aIndexSl 1 (v.getD 1 .any) (v.getD 4 .any)) fun t28 =>
  bd (aLoad1 t28 s.get) fun t29 =>
  bd (aFold aMax2 t29 [(I .i64 0)]) fun t30 =>
  bd (aNil t21) fun t32 =>
  bd (aFieldAddr 0 t32) fun t33 =>
  bd (aLoad1 t33 s.get) fun t34 =>
  bd (aLenSl t34) fun t35 =>
  bd (aNil t21) fun t37 =>
  bd (aFieldAddr 1 t37) fun t38 =>
  bd (aLoad1 t38 s.get) fun t39 =>
  bd (aBin .sub t35 t39) fun t40 =>
  bd (aFold aMin2 t30 [t40]) fun t41 =>
  some (.normal [(v.getD 0 .any), (v.getD 1 .any), t21, t41, (v.getD 2 .any), (v.getD 3 .any), (v.getD 4 .any)], s))
  (some (.normal [(v.getD 0 .any), (v.getD 1 .any), t21, (I .i64 0), (v.getD 2 .any), (v.getD 3 .any), (v.getD 4 .any)], s)))
  (fun v2 s3 => bd (aNil (v2.getD 2 .any)) fun t44 =>
  bd (aFieldAddr 0 t44) fun t45 =>
  bd (aLoad1 t45 s3.get) fun t46 =>
  bd (aNil (v2.getD 2 .any)) fun t48 =>
  bd (aFieldAddr 1 t48) fun t49 =>
  bd (aLoad1 t49 s3.get) fun t50 =>
  bd (aBin .add t50 (v2.getD 3 .any)) fun t52 =>
  bd (aPieceSl 1 t46 none (some t52) none) fun t53 =>
  bd (aNil (v2.getD 2 .any)) fun t54 =>
  bd (aFieldAddr 0 t54) fun t55 =>
  bd2 (aStore 1 t55 t53 s3) fun _ s6 =>
  bd (aNil (v2.getD 2 .any)) fun t58 =>
  bd (aFieldAddr 0 t58) fun t59 =>
  bd (aLoad1 t59 s6.get) fun t60 =>
  bd (aLenSl t60) fun t61 =>
  bd (aNil (v2.getD 2 .any)) fun t62 =>
  bd (aFieldAddr 1 t62) fun t63 =>
  bd2 (aStore 1 t63 t61 s6) fun _ s7 =>
  some (.normal [(v2.getD 0 .any), (v2.getD 1 .any), (v2.getD 4 .any), (v2.getD 5 .any), (v2.getD 6 .any)], s7))
  (fun i4 v2 s3 => if i4 = 1 then some (.normal v2, s3) else some (.exit i4 v2, s3))
  (fun r5 s3 => some (.ret r5, s3)))
  (fun v8 s9 => bd (aBin .add (v8.getD 4 .any) (I .i64 1)) fun t64 =>
  some (.normal [(v8.getD 0 .any), (v8.getD 1 .any), (v8.getD 2 .any), (v8.getD 3 .any), t64], s9))
  (fun i10 v8 s9 => some (.exit i10 v8, s9))
  (fun r11 s9 => some (.ret r11, s9)))
  (some (.exit 0 [], s))

/- (twinkeep/disk.Disk).Crash -/
def f25 (callf : CallF) (N : Nat) (a0 : T) (a1 : T) (s : St) : Option (T × St) :=
  bd2 (callf 29 [a0] s) fun t9 s1 =>
  bd (aLenSl t9) fun t10 =>
  jn (jn (loops (f25_l1 callf N) N [a0, a1, t9, t10, (I .i64 0)] s1)
  (fun v12 s13 => some (.normal [], s13))
  (fun i14 v12 s13 => if i14 = 0 then some (.normal v12, s13) else some (.exit i14 v12, s13))
  (fun r15 s13 => some (.ret r15, s13)))
  (fun v16 s17 => bd (retT []) fun r20 =>
  some (r20, s17))
  (fun i18 v16 s17 => none)
  (fun r19 s17 => some (r19, s17))

theorem f25_eq (callf : CallF) (N : Nat) (a0 : T) (a1 : T) (s : St) : bodyC Tryz.prog callf N Tryz.f25 [a0, a1] s = f25 callf N a0 a1 s := by kernel_rfl

theorem f25_run (d : Nat) (a0 : T) (a1 : T) (s : St) : R (d + 1) 25 [a0, a1] s = f25 (R d) 8192 a0 a1 s := (runQ_body rfl Tryz.func25 (by kernel_rfl)).trans (f25_eq ..)

/- (twinkeep/disk.Disk).Read -/
def f42 (callf : CallF) (N : Nat) (a0 : T) (a1 : T) (s : St) : Option (T × St) :=
  bd2 (callf 36 [a0, a1] s) fun t11 s1 =>
  bd (aExtract t11 0) fun t12 =>
  bd (aExtract t11 1) fun t13 =>
  bd (aBin .neq t13 (I .i64 0)) fun t15 =>
  br t15 (bd (retT [(Z .nils), t13]) fun r2 =>
  some (r2, s1))
  (bd (aNil t12) fun t18 =>
  bd (aFieldAddr 0 t18) fun t19 =>
  bd (aLoad1 t19 s1.get) fun t20 =>
  bd2 (callf 92 [t20] s1) fun t21 s3 =>
  bd (retT [t21, (I .i64 0)]) fun r4 =>
  some (r4, s3))

theorem f42_eq (callf : CallF) (N : Nat) (a0 : T) (a1 : T) (s : St) : bodyC Tryz.prog callf N Tryz.f42 [a0, a1] s = f42 callf N a0 a1 s := by kernel_rfl

theorem f42_run (d : Nat) (a0 : T) (a1 : T) (s : St) : R (d + 1) 42 [a0, a1] s = f42 (R d) 8192 a0 a1 s := (runQ_body rfl Tryz.func42 (by kernel_rfl)).trans (f42_eq ..)

/- (twinkeep/disk.Disk).Cut -/
def f45 (callf : CallF) (N : Nat) (a0 : T) (a1 : T) (a2 : T) (s : St) : Option (T × St) :=
  bd2 (callf 36 [a0, a1] s) fun t12 s1 =>
  bd (aExtract t12 0) fun t13 =>
  bd (aExtract t12 1) fun t14 =>
  jn (bd (aBin .neq t14 (I .i64 0)) fun t17 =>
  br t17 (some (.ret t14, s1))
  (bd (aBin .lss a2 (I .i64 0)) fun t21 =>
  bd (gT (gd t21 false) (some a2)) fun t23 =>
  bd (gT (gd t21 false) (some t13)) fun t24 =>
  bd (gT (gd t21 false) (aNil t24)) fun t25 =>
  bd (gT (gd t21 false) (aFieldAddr 0 t25)) fun t26 =>
  bd (gT (gd t21 false) (aLoad1 t26 s1.get)) fun t27 =>
  bd (gT (gd t21 false) (aLenSl t27)) fun t28 =>
  bd (gT (gd t21 false) (aBin .gtr t23 t28)) fun t29 =>
  bd (aPick t21 (B true) t29) fun t30 =>
  br t30 (some (.ret (I .i64 5), s1))
  (some (.normal [a2, t13], s1))))
  (fun v2 s3 => bd (aNil (v2.getD 1 .any)) fun t34 =>
  bd (aFieldAddr 0 t34) fun t35 =>
  bd (aLoad1 t35 s3.get) fun t36 =>
  bd (aPieceSl 1 t36 none (some (v2.getD 0 .any)) none) fun t38 =>
  bd (aNil (v2.getD 1 .any)) fun t40 =>
  bd (aFieldAddr 1 t40) fun t41 =>
  bd (aLoad1 t41 s3.get) fun t42 =>
  bd (aFold aMin2 t42 [(v2.getD 0 .any)]) fun t44 =>
  bd (aNil (v2.getD 1 .any)) fun t45 =>
  bd (aFieldAddr 0 t45) fun t46 =>
  bd2 (aStore 1 t46 t38 s3) fun _ s6 =>
  bd (aNil (v2.getD 1 .any)) fun t47 =>
  bd (aFieldAddr 1 t47) fun t48 =>
  bd2 (aStore 1 t48 t44 s6) fun _ s7 =>
  some ((I .i64 0), s7))
  (fun i4 v2 s3 => none)
  (fun r5 s3 => some (r5, s3))

theorem f45_eq (callf : CallF) (N : Nat) (a0 : T) (a1 : T) (a2 : T) (s : St) : bodyC Tryz.prog callf N Tryz.f45 [a0, a1, a2] s = f45 callf N a0 a1 a2 s := by kernel_rfl

theorem f45_run (d : Nat) (a0 : T) (a1 : T) (a2 : T) (s : St) : R (d + 1) 45 [a0, a1, a2] s = f45 (R d) 8192 a0 a1 a2 s := (runQ_body rfl Tryz.func45 (by kernel_rfl)).trans (f45_eq ..)

/- (twinkeep/disk.Disk).Remove -/
/- (twinkeep/disk.Disk).Used: a loop; 0: t0 d, 1: t3 n, 2: t7 , 3: t8 , 4: t9  -/
def f30_l1 (callf : CallF) (N : Nat) (v : List T) (s : St) : Option (JO × St) :=
  bd (aBin .lss (v.getD 4 .any) (v.getD 3 .any)) fun t10 =>
  br t10 (jn (bd (aIndexSl 1 (v.getD 2 .any) (v.getD 4 .any)) fun t11 =>
  bd (aLoad1 t11 s.get) fun t12 =>
  bd (aNil (v.getD 0 .any)) fun t15 =>
  bd (aFieldAddr 1 t15) fun t16 =>
  bd (aLoad1 t16 s.get) fun t17 =>
  bd (Go.Abs.F.look .s false (.s (.nilp)) t17 t12 s.get) fun t19 =>
  bd (aNil t19) fun t20 =>
  bd (aFieldAddr 0 t20) fun t21 =>
  bd (aLoad1 t21 s.get) fun t22 =>
  bd (aLenSl t22) fun t23 =>
  bd (aBin .add (v.getD 1 .any) t23) fun t24 =>
  some (.normal [(v.getD 0 .any), t24, (v.getD 2 .any), (v.getD 3 .any), (v.getD 4 .any)], s))
  (fun v2 s3 => bd (aBin .add (v2.getD 4 .any) (I .i64 1)) fun t25 =>
  some (.normal [(v2.getD 0 .any), (v2.getD 1 .any), (v2.getD 2 .any), (v2.getD 3 .any), t25], s3))
  (fun i4 v2 s3 => some (.exit i4 v2, s3))
  (fun r5 s3 => some (.ret r5, s3)))
  (some (.exit 0 [(v.getD 1 .any)], s))

/- (twinkeep/disk.Disk).Used -/
def f30 (callf : CallF) (N : Nat) (a0 : T) (s : St) : Option (T × St) :=
  bd2 (callf 29 [a0] s) fun t7 s1 =>
  bd (aLenSl t7) fun t8 =>
  jn (jn (loops (f30_l1 callf N) N [a0, (I .i64 0), t7, t8, (I .i64 0)] s1)
  (fun v6 s7 => some (.normal [.any], s7))
  (fun i8 v6 s7 => if i8 = 0 then some (.normal v6, s7) else some (.exit i8 v6, s7))
  (fun r9 s7 => some (.ret r9, s7)))
  (fun v10 s11 => some ((v10.getD 0 .any), s11))
  (fun i12 v10 s11 => none)
  (fun r13 s11 => some (r13, s11))

theorem f30_eq (callf : CallF) (N : Nat) (a0 : T) (s : St) : bodyC Tryz.prog callf N Tryz.f30 [a0] s = f30 callf N a0 s := by kernel_rfl

theorem f30_run (d : Nat) (a0 : T) (s : St) : R (d + 1) 30 [a0] s = f30 (R d) 8192 a0 s := (runQ_body rfl Tryz.func30 (by kernel_rfl)).trans (f30_eq ..)

/- (twinkeep/disk.Disk).find -/
def f36 (callf : CallF) (N : Nat) (a0 : T) (a1 : T) (s : St) : Option (T × St) :=
  jn (bd (eqB .p a0 (Z .nilp)) fun t8 =>
  br t8 (bd (retT [(Z .nilp), (I .i64 10)]) fun r1 =>
  some (.ret r1, s))
  (bd2 (callf 90 [a1] s) fun t11 s2 =>
  bd (aUn .not t11) fun t12 =>
  br t12 (bd (retT [(Z .nilp), (I .i64 1)]) fun r3 =>
  some (.ret r3, s2))
  (bd (aNil a0) fun t15 =>
  bd (aFieldAddr 1 t15) fun t16 =>
  bd (aLoad1 t16 s2.get) fun t17 =>
  bd (Go.Abs.F.look .s false (.s (.nilp)) t17 a1 s2.get) fun t19 =>
  bd (eqB .p t19 (Z .nilp)) fun t20 =>
  br t20 (bd (retT [(Z .nilp), (I .i64 9)]) fun r4 =>
  some (.ret r4, s2))
  (some (.normal [a0, a1], s2)))))
  (fun v5 s6 => bd (aNil (v5.getD 0 .any)) fun t22 =>
  bd (aFieldAddr 1 t22) fun t23 =>
  bd (aLoad1 t23 s6.get) fun t24 =>
  bd (Go.Abs.F.look .s false (.s (.nilp)) t24 (v5.getD 1 .any) s6.get) fun t26 =>
  bd (retT [t26, (I .i64 0)]) fun r9 =>
  some (r9, s6))
  (fun i7 v5 s6 => none)
  (fun r8 s6 => some (r8, s6))

theorem f36_eq (callf : CallF) (N : Nat) (a0 : T) (a1 : T) (s : St) : bodyC Tryz.prog callf N Tryz.f36 [a0, a1] s = f36 callf N a0 a1 s := by kernel_rfl

theorem f36_run (d : Nat) (a0 : T) (a1 : T) (s : St) : R (d + 1) 36 [a0, a1] s = f36 (R d) 8192 a0 a1 s := (runQ_body rfl Tryz.func36 (by kernel_rfl)).trans (f36_eq ..)

end
end Go.Proofs.YtbohejffelipoaaGreatDoor


/-
  What functions that the laws reach compute, printed by a program of our own: each text is by definition the run of the code. No conditions.
-/
namespace Go.Proofs.YtbohejffelipoaaGreatDoor
open Go Go.Abs Go.Abs.F
set_option linter.unusedVariables false
noncomputable section
/- slices.ContainsFunc[[]twinkeep/api.Info,twinkeep/api.Info] -/
def f49 (callf : CallF) (N : Nat) (a0 : T) (a1 : T) (s : St) : Option (T × St) :=
  bd2 (callf 98 [a0, a1] s) fun t7 s1 =>
  bd (aBin .geq t7 (I .i64 0)) fun t8 =>
  some (t8, s1)

theorem f49_eq (callf : CallF) (N : Nat) (a0 : T) (a1 : T) (s : St) : bodyC Tryz.prog callf N Tryz.f49 [a0, a1] s = f49 callf N a0 a1 s := by kernel_rfl

theorem f49_run (d : Nat) (a0 : T) (a1 : T) (s : St) : R (d + 1) 49 [a0, a1] s = f49 (R d) 8192 a0 a1 s := (runQ_body rfl Tryz.func49 (by kernel_rfl)).trans (f49_eq ..)

/- slices.IndexFunc[[]twinkeep/api.Info,twinkeep/api.Info]: a loop; 0: t0 s, 1: t1 f, 2: t7 , 3: t8  -/
def f98_l1 (callf : CallF) (N : Nat) (v : List T) (s : St) : Option (JO × St) :=
  bd (aBin .lss (v.getD 3 .any) (v.getD 2 .any)) fun t9 =>
  br t9 (jn (bd (aIndexSl 5 (v.getD 0 .any) (v.getD 3 .any)) fun t14 =>
  bd (aLoadN 5 t14 s.get) fun t15 =>
  bd2 (dyn Tryz.prog callf (v.getD 1 .any) [t15] s) fun t16 s1 =>
  br t16 (some (.ret (v.getD 3 .any), s1))
  (some (.normal [(v.getD 0 .any), (v.getD 1 .any), (v.getD 2 .any), (v.getD 3 .any)], s1)))
  (fun v2 s3 => bd (aBin .add (v2.getD 3 .any) (I .i64 1)) fun t18 =>
  some (.normal [(v2.getD 0 .any), (v2.getD 1 .any), (v2.getD 2 .any), t18], s3))
  (fun i4 v2 s3 => some (.exit i4 v2, s3))
  (fun r5 s3 => some (.ret r5, s3)))
  (some (.exit 0 [], s))

/- slices.IndexFunc[[]twinkeep/api.Info,twinkeep/api.Info] -/
def f98 (callf : CallF) (N : Nat) (a0 : T) (a1 : T) (s : St) : Option (T × St) :=
  bd (aLenSl a0) fun t7 =>
  jn (jn (loops (f98_l1 callf N) N [a0, a1, t7, (I .i64 0)] s)
  (fun v6 s7 => some (.normal [], s7))
  (fun i8 v6 s7 => if i8 = 0 then some (.normal v6, s7) else some (.exit i8 v6, s7))
  (fun r9 s7 => some (.ret r9, s7)))
  (fun v10 s11 => some ((I .i64 (-1)), s11))
  (fun i12 v10 s11 => none)
  (fun r13 s11 => some (r13, s11))

theorem f98_eq (callf : CallF) (N : Nat) (a0 : T) (a1 : T) (s : St) : bodyC Tryz.prog callf N Tryz.f98 [a0, a1] s = f98 callf N a0 a1 s := by kernel_rfl

theorem f98_run (d : Nat) (a0 : T) (a1 : T) (s : St) : R (d + 1) 98 [a0, a1] s = f98 (R d) 8192 a0 a1 s := (runQ_body rfl Tryz.func98 (by kernel_rfl)).trans (f98_eq ..)

/- twinkeep/store.Open$1 -/
/- twinkeep/store.Open$2 -/
/- slices.Clone[[]twinkeep/api.Entry,twinkeep/api.Entry] -/
def f78 (callf : CallF) (N : Nat) (a0 : T) (s : St) : Option (T × St) :=
  bd (eqB .l a0 (Z .nils)) fun t4 =>
  br t4 (some ((Z .nils), s))
  (bd2 (aNew s (nSlice 0 (aFill [] []))) fun t5 s1 =>
  bd2 (aAppend 8 72 t5 a0 s1) fun t7 s2 =>
  some (t7, s2))

theorem f78_eq (callf : CallF) (N : Nat) (a0 : T) (s : St) : bodyC Tryz.prog callf N Tryz.f78 [a0] s = f78 callf N a0 s := by kernel_rfl

theorem f78_run (d : Nat) (a0 : T) (s : St) : R (d + 1) 78 [a0] s = f78 (R d) 8192 a0 s := (runQ_body rfl Tryz.func78 (by kernel_rfl)).trans (f78_eq ..)

/- (twinkeep/store.Store).Seg$1 -/
/- twinkeep/store.Open: a loop; 0: t1 d, 1: t4 s, 2: t31 , 3: t32 , 4: t33  -/
def f14_l1 (callf : CallF) (N : Nat) (v : List T) (s : St) : Option (JO × St) :=
  bd (aBin .lss (v.getD 4 .any) (v.getD 3 .any)) fun t34 =>
  br t34 (jn (bd (aIndexSl 8 (v.getD 2 .any) (v.getD 4 .any)) fun t35 =>
  bd (aLoadN 8 t35 s.get) fun t36 =>
  bd2 (aNew s (nCells [.int .i64 0, .int .i64 0, .int .i64 0, .int .i64 0, .int .i64 0, .int .i64 0, .int .u32 0, .str []])) fun t10 s7 =>
  bd2 (aStore 8 t10 t36 s7) fun _ s8 =>
  bd (aLoadN 8 t10 s8.get) fun t38 =>
  bd2 (callf 44 [(v.getD 1 .any), t38] s8) fun t39 s9 =>
  bd (aUn .not t39) fun t40 =>
  br t40 (some (.exit 0 [(v.getD 0 .any), (v.getD 1 .any)], s9))
  (some (.normal [(v.getD 0 .any), (v.getD 1 .any), (v.getD 2 .any), (v.getD 3 .any), (v.getD 4 .any)], s9)))
  (fun v10 s11 => bd (aBin .add (v10.getD 4 .any) (I .i64 1)) fun t41 =>
  some (.normal [(v10.getD 0 .any), (v10.getD 1 .any), (v10.getD 2 .any), (v10.getD 3 .any), t41], s11))
  (fun i12 v10 s11 => some (.exit i12 v10, s11))
  (fun r13 s11 => some (.ret r13, s11)))
  (some (.exit 0 [(v.getD 0 .any), (v.getD 1 .any)], s))

/- twinkeep/store.Open: a loop; 0: t1 d, 1: t4 s, 2: t11 infos, 3: t70 , 4: t71 , 5: t72  -/
def f14_l2 (callf : CallF) (N : Nat) (v : List T) (s : St) : Option (JO × St) :=
  bd (aBin .lss (v.getD 5 .any) (v.getD 4 .any)) fun t73 =>
  br t73 (jn (bd (aIndexSl 1 (v.getD 3 .any) (v.getD 5 .any)) fun t74 =>
  bd (aLoad1 t74 s.get) fun t75 =>
  bd2 (callf 52 [t75] s) fun t77 s30 =>
  bd2 (aNew s30 (nCells [.int .i64 0])) fun t14 s31 =>
  bd2 (aStore 1 t14 t77 s31) fun _ s32 =>
  bd (aLoad1 t14 s32.get) fun t78 =>
  bd (aBin .eql t78 (I .i64 0)) fun t79 =>
  bd (gT (gd t79 false) (some (v.getD 2 .any))) fun t81 =>
  bd (gT (gd t79 false) (aClo 53 [t14] [])) fun t82 =>
  bd2 (gS (gd t79 false) s32 (callf 49 [t81, t82] s32)) fun t83 s33 =>
  bd (aPick t79 (B true) t83) fun t84 =>
  br t84 (some (.normal [(v.getD 0 .any), (v.getD 1 .any), (v.getD 2 .any), (v.getD 3 .any), (v.getD 4 .any), (v.getD 5 .any)], s33))
  (bd (aLoad1 (v.getD 0 .any) s33.get) fun t85 =>
  bd2 (callf 54 [t85, t75] s33) fun t87 s34 =>
  some (.normal [(v.getD 0 .any), (v.getD 1 .any), (v.getD 2 .any), (v.getD 3 .any), (v.getD 4 .any), (v.getD 5 .any)], s34)))
  (fun v35 s36 => bd (aBin .add (v35.getD 5 .any) (I .i64 1)) fun t88 =>
  some (.normal [(v35.getD 0 .any), (v35.getD 1 .any), (v35.getD 2 .any), (v35.getD 3 .any), (v35.getD 4 .any), t88], s36))
  (fun i37 v35 s36 => some (.exit i37 v35, s36))
  (fun r38 s36 => some (.ret r38, s36)))
  (some (.exit 2 [(v.getD 1 .any)], s))

/- twinkeep/store.Open -/
def f14 (callf : CallF) (N : Nat) (a0 : T) (s : St) : Option (T × St) :=
  bd2 (aNew s (nBox a0)) fun t1 s1 =>
  bd (aLoad1 t1 s1.get) fun t15 =>
  bd (eqB .p t15 (Z .nilp)) fun t16 =>
  br t16 (bd (retT [(Z .nilp), (I .i64 1)]) fun r2 =>
  some (r2, s1))
  (bd (aLoad1 t1 s1.get) fun t17 =>
  bd2 (callf 41 [] s1) fun t18 s3 =>
  bd (asAggT (aFill [.nilp, .nils, .nils, .nilp, .int .i64 0] [(0, 1, t17), (3, 1, t18)])) fun t19 =>
  bd2 (aNew s3 (nBox t19)) fun t20 s4 =>
  ck ((decide (aLoad1 t1 (overlay 2 s3.get (ovO 3 s3.size (nBox t19) [])) = aLoad1 t1 s1.get) && true) && true) (bd (aLoad1 t1 s4.get) fun t22 =>
  bd2 (callf 42 [t22, (Z (.str [108, 111, 103]))] s4) fun t23 s5 =>
  bd (aExtract t23 0) fun t24 =>
  bd (aExtract t23 1) fun t25 =>
  bd2 (callf 43 [t24] s5) fun t28 s6 =>
  bd (aExtract t28 0) fun t29 =>
  bd (aExtract t28 1) fun t30 =>
  bd (aLenSl t29) fun t32 =>
  jn (jn (loops (f14_l1 callf N) N [t1, t20, t29, t32, (I .i64 0)] s6)
  (fun v14 s15 => some (.normal [.any, .any], s15))
  (fun i16 v14 s15 => if i16 = 0 then some (.normal v14, s15) else some (.exit i16 v14, s15))
  (fun r17 s15 => some (.ret r17, s15)))
  (fun v18 s19 => bd (aLoad1 (v18.getD 0 .any) s19.get) fun t42 =>
  bd (aNil (v18.getD 1 .any)) fun t45 =>
  bd (aFieldAddr 1 t45) fun t46 =>
  bd (aLoad1 t46 s19.get) fun t47 =>
  bd (aLenSl t47) fun t48 =>
  bd2 (callf 46 [(v18.getD 1 .any), t48] s19) fun t49 s22 =>
  bd2 (callf 45 [t42, (Z (.str [108, 111, 103])), t49] s22) fun t50 s23 =>
  ck ((decide (aLoad1 (v18.getD 0 .any) s22.get = aLoad1 (v18.getD 0 .any) s19.get) && true) && true) (bd (aLoad1 (v18.getD 0 .any) s23.get) fun t51 =>
  bd2 (callf 47 [t51, (Z (.str [108, 111, 103]))] s23) fun t52 s24 =>
  bd (aNil (v18.getD 1 .any)) fun t55 =>
  bd (aFieldAddr 1 t55) fun t56 =>
  bd (aLoad1 t56 s24.get) fun t57 =>
  bd (aLenSl t57) fun t58 =>
  bd (aNil (v18.getD 1 .any)) fun t59 =>
  bd (aFieldAddr 4 t59) fun t60 =>
  bd2 (aStore 1 t60 t58 s24) fun _ s25 =>
  bd (aNil (v18.getD 1 .any)) fun t62 =>
  bd (aFieldAddr 3 t62) fun t63 =>
  bd (aLoad1 t63 s25.get) fun t64 =>
  bd2 (callf 48 [t64] s25) fun t65 s26 =>
  bd (aClo 50 [(v18.getD 0 .any)] []) fun t67 =>
  bd2 (callf 49 [t65, t67] s26) fun t68 s27 =>
  br t68 (bd (retT [(Z .nilp), (I .i64 2)]) fun r28 =>
  some (r28, s27))
  (bd (aLoad1 (v18.getD 0 .any) s27.get) fun t69 =>
  bd2 (callf 29 [t69] s27) fun t70 s29 =>
  bd (aLenSl t70) fun t71 =>
  jn (jn (loops (f14_l2 callf N) N [(v18.getD 0 .any), (v18.getD 1 .any), t65, t70, t71, (I .i64 0)] s29)
  (fun v39 s40 => some (.normal [.any], s40))
  (fun i41 v39 s40 => if i41 = 2 then some (.normal v39, s40) else some (.exit i41 v39, s40))
  (fun r42 s40 => some (.ret r42, s40)))
  (fun v43 s44 => bd (retT [(v43.getD 0 .any), (I .i64 0)]) fun r47 =>
  some (r47, s44))
  (fun i45 v43 s44 => none)
  (fun r46 s44 => some (r46, s44)))))
  (fun i20 v18 s19 => none)
  (fun r21 s19 => some (r21, s19))))

theorem f14_eq (callf : CallF) (N : Nat) (a0 : T) (s : St) : bodyC Tryz.prog callf N Tryz.f14 [a0] s = f14 callf N a0 s := by kernel_rfl

theorem f14_run (d : Nat) (a0 : T) (s : St) : R (d + 1) 14 [a0] s = f14 (R d) 8192 a0 s := (runQ_body rfl Tryz.func14 (by kernel_rfl)).trans (f14_eq ..)

/- twinkeep/store.id -/
def f52 (callf : CallF) (N : Nat) (a0 : T) (s : St) : Option (T × St) :=
  bd (aAtStr a0 (I .i64 0)) fun t6 =>
  bd (aBin .neq t6 (I .u8 115)) fun t7 =>
  br t7 (some ((I .i64 0), s))
  (bd (aPieceStr a0 (some (I .i64 1)) none none) fun t10 =>
  bd2 (callf 99 [t10] s) fun t11 s1 =>
  bd (aExtract t11 0) fun t12 =>
  bd (aExtract t11 1) fun t13 =>
  bd (neB .i t13 (Z .nili)) fun t15 =>
  bd (gT (gd t15 false) (some t12)) fun t17 =>
  bd2 (gS (gd t15 false) s1 (callf 69 [t17] s1)) fun t18 s2 =>
  bd (gT (gd t15 false) (some a0)) fun t19 =>
  bd (gT (gd t15 false) (aBin .neq t18 t19)) fun t20 =>
  bd (aPick t15 (B true) t20) fun t21 =>
  br t21 (some ((I .i64 0), s2))
  (some (t12, s2)))

theorem f52_eq (callf : CallF) (N : Nat) (a0 : T) (s : St) : bodyC Tryz.prog callf N Tryz.f52 [a0] s = f52 callf N a0 s := by kernel_rfl

theorem f52_run (d : Nat) (a0 : T) (s : St) : R (d + 1) 52 [a0] s = f52 (R d) 8192 a0 s := (runQ_body rfl Tryz.func52 (by kernel_rfl)).trans (f52_eq ..)

/- twinkeep/store.whole -/
/- (twinkeep/store.Store).place -/
def f46 (callf : CallF) (N : Nat) (a0 : T) (a1 : T) (s : St) : Option (T × St) :=
  bd (aBin .eql a1 (I .i64 0)) fun t6 =>
  br t6 (some ((I .i64 0), s))
  (bd (aNil a0) fun t8 =>
  bd (aFieldAddr 2 t8) fun t9 =>
  bd (aLoad1 t9 s.get) fun t10 =>
  bd (aBin .sub a1 (I .i64 1)) fun t12 =>
  bd (aIndexSl 1 t10 t12) fun t13 =>
  bd (aLoad1 t13 s.get) fun t14 =>
  some (t14, s))

theorem f46_eq (callf : CallF) (N : Nat) (a0 : T) (a1 : T) (s : St) : bodyC Tryz.prog callf N Tryz.f46 [a0, a1] s = f46 callf N a0 a1 s := by kernel_rfl

theorem f46_run (d : Nat) (a0 : T) (a1 : T) (s : St) : R (d + 1) 46 [a0, a1] s = f46 (R d) 8192 a0 a1 s := (runQ_body rfl Tryz.func46 (by kernel_rfl)).trans (f46_eq ..)

/- (twinkeep/store.Store).note -/
def f44 (callf : CallF) (N : Nat) (a0 : T) (a1 : T) (s : St) : Option (T × St) :=
  bd2 (aNew s (nBox a1)) fun t3 s1 =>
  bd (aLoadN 8 t3 s1.get) fun t8 =>
  bd2 (callf 95 [t8] s1) fun t9 s2 =>
  bd (aExtract t9 0) fun t10 =>
  bd (aExtract t9 1) fun t11 =>
  bd (aBin .neq t11 (I .i64 0)) fun t13 =>
  bd (gT (gd t13 false) (some a0)) fun t15 =>
  bd (gT (gd t13 false) (aNil t15)) fun t16 =>
  bd (gT (gd t13 false) (aFieldAddr 3 t16)) fun t17 =>
  bd (gT (gd t13 false) (aLoad1 t17 s2.get)) fun t18 =>
  bd (gT (gd t13 false) (aLoadN 8 t3 s2.get)) fun t19 =>
  bd2 (gS (gd t13 false) s2 (callf 96 [t18, t19] s2)) fun t20 s3 =>
  bd (gT (gd t13 false) (aBin .neq t20 (I .i64 0))) fun t21 =>
  bd (aPick t13 (B true) t21) fun t22 =>
  br t22 (some ((B false), s3))
  (bd (aNil a0) fun t25 =>
  bd (aFieldAddr 2 t25) fun t26 =>
  bd (aLoad1 t26 s3.get) fun t27 =>
  bd (aNil a0) fun t30 =>
  bd (aFieldAddr 1 t30) fun t31 =>
  bd (aLoad1 t31 s3.get) fun t32 =>
  bd (aLenSl t32) fun t33 =>
  bd2 (callf 46 [a0, t33] s3) fun t34 s4 =>
  bd (aLenSl t10) fun t36 =>
  bd (aBin .add t34 t36) fun t37 =>
  bd2 (aNew s4 (nSlice 1 (aFill [.int .i64 0] [(0, 1, t37)]))) fun t38 s5 =>
  bd2 (aAppend 1 8 t27 t38 s5) fun t39 s6 =>
  bd (aNil a0) fun t40 =>
  bd (aFieldAddr 2 t40) fun t41 =>
  bd2 (aStore 1 t41 t39 s6) fun _ s7 =>
  ck ((decide (aLoad1 t26 (overlay 12 s4.get (ovO 15 s4.size (nSlice 1 (aFill [.int .i64 0] [(0, 1, t37)])) [])) = aLoad1 t26 s3.get) && true) && true) (bd (aNil a0) fun t44 =>
  bd (aFieldAddr 1 t44) fun t45 =>
  bd (aLoad1 t45 s7.get) fun t46 =>
  bd (aLoadN 8 t3 s7.get) fun t47 =>
  bd2 (aNew s7 (nSlice 1 (aFill [.int .i64 0, .int .i64 0, .int .i64 0, .int .i64 0, .int .i64 0, .int .i64 0, .int .u32 0, .str []] [(0, 8, t47)]))) fun t48 s8 =>
  bd2 (aAppend 8 72 t46 t48 s8) fun t49 s9 =>
  bd (aNil a0) fun t50 =>
  bd (aFieldAddr 1 t50) fun t51 =>
  bd2 (aStore 1 t51 t49 s9) fun _ s10 =>
  some ((B true), s10)))

theorem f44_eq (callf : CallF) (N : Nat) (a0 : T) (a1 : T) (s : St) : bodyC Tryz.prog callf N Tryz.f44 [a0, a1] s = f44 callf N a0 a1 s := by kernel_rfl

theorem f44_run (d : Nat) (a0 : T) (a1 : T) (s : St) : R (d + 1) 44 [a0, a1] s = f44 (R d) 8192 a0 a1 s := (runQ_body rfl Tryz.func44 (by kernel_rfl)).trans (f44_eq ..)

/- (twinkeep/store.Store).add -/
def f68 (callf : CallF) (N : Nat) (a0 : T) (a1 : T) (s : St) : Option (T × St) :=
  bd2 (aNew s (nBox a1)) fun t3 s1 =>
  bd (aLoadN 8 t3 s1.get) fun t9 =>
  bd2 (callf 95 [t9] s1) fun t10 s2 =>
  bd (aExtract t10 0) fun t11 =>
  bd (aExtract t10 1) fun t12 =>
  bd (aBin .neq t12 (I .i64 0)) fun t14 =>
  br t14 (some (t12, s2))
  (bd (aNil a0) fun t17 =>
  bd (aFieldAddr 0 t17) fun t18 =>
  bd (aLoad1 t18 s2.get) fun t19 =>
  bd2 (callf 12 [t19, (Z (.str [108, 111, 103])), t11] s2) fun t21 s3 =>
  bd (aBin .neq t21 (I .i64 0)) fun t23 =>
  br t23 (some (t21, s3))
  (bd (aLoadN 8 t3 s3.get) fun t26 =>
  bd2 (callf 44 [a0, t26] s3) fun t27 s4 =>
  some ((I .i64 0), s4)))

theorem f68_eq (callf : CallF) (N : Nat) (a0 : T) (a1 : T) (s : St) : bodyC Tryz.prog callf N Tryz.f68 [a0, a1] s = f68 callf N a0 a1 s := by kernel_rfl

theorem f68_run (d : Nat) (a0 : T) (a1 : T) (s : St) : R (d + 1) 68 [a0, a1] s = f68 (R d) 8192 a0 a1 s := (runQ_body rfl Tryz.func68 (by kernel_rfl)).trans (f68_eq ..)

/- (twinkeep/store.Store).asks -/
def f67 (callf : CallF) (N : Nat) (a0 : T) (a1 : T) (s : St) : Option (T × St) :=
  bd2 (aNew s (nBox a1)) fun t3 s1 =>
  bd (aNil a0) fun t7 =>
  bd (aFieldAddr 3 t7) fun t8 =>
  bd (aLoad1 t8 s1.get) fun t9 =>
  bd (aLoadN 8 t3 s1.get) fun t10 =>
  bd2 (callf 110 [t9, t10] s1) fun t11 s2 =>
  bd (aBin .neq t11 (I .i64 0)) fun t13 =>
  br t13 (some (t11, s2))
  (bd (aNil a0) fun t16 =>
  bd (aFieldAddr 1 t16) fun t17 =>
  bd (aLoad1 t17 s2.get) fun t18 =>
  bd (aLenSl t18) fun t19 =>
  bd (aBin .eql t19 (I .i64 2000)) fun t20 =>
  br t20 (some ((I .i64 8), s2))
  (some ((I .i64 0), s2)))

theorem f67_eq (callf : CallF) (N : Nat) (a0 : T) (a1 : T) (s : St) : bodyC Tryz.prog callf N Tryz.f67 [a0, a1] s = f67 callf N a0 a1 s := by kernel_rfl

theorem f67_run (d : Nat) (a0 : T) (a1 : T) (s : St) : R (d + 1) 67 [a0, a1] s = f67 (R d) 8192 a0 a1 s := (runQ_body rfl Tryz.func67 (by kernel_rfl)).trans (f67_eq ..)

/- (twinkeep/store.Store).Put -/
def f18 (callf : CallF) (N : Nat) (a0 : T) (a1 : T) (s : St) : Option (T × St) :=
  bd2 (aNew s (nBox a1)) fun t3 s1 =>
  bd (eqB .p a0 (Z .nilp)) fun t7 =>
  br t7 (some ((I .i64 10), s1))
  (bd (aLoadN 8 t3 s1.get) fun t9 =>
  bd2 (callf 67 [a0, t9] s1) fun t10 s2 =>
  bd (aBin .neq t10 (I .i64 0)) fun t12 =>
  br t12 (some (t10, s2))
  (bd (aFieldAddr 0 t3) fun t14 =>
  bd (aLoad1 t14 s2.get) fun t15 =>
  bd (aBin .eql t15 (I .i64 1)) fun t16 =>
  bd (gT (gd t16 false) (aFieldAddr 0 t3)) fun t18 =>
  bd (gT (gd t16 false) (aLoad1 t18 s2.get)) fun t19 =>
  bd (gT (gd t16 false) (aBin .eql t19 (I .i64 2))) fun t20 =>
  bd (aPick t16 (B true) t20) fun t21 =>
  br t21 (some ((I .i64 1), s2))
  (bd (aLoadN 8 t3 s2.get) fun t23 =>
  bd2 (callf 68 [a0, t23] s2) fun t24 s3 =>
  some (t24, s3))))

theorem f18_eq (callf : CallF) (N : Nat) (a0 : T) (a1 : T) (s : St) : bodyC Tryz.prog callf N Tryz.f18 [a0, a1] s = f18 callf N a0 a1 s := by kernel_rfl

theorem f18_run (d : Nat) (a0 : T) (a1 : T) (s : St) : R (d + 1) 18 [a0, a1] s = f18 (R d) 8192 a0 a1 s := (runQ_body rfl Tryz.func18 (by kernel_rfl)).trans (f18_eq ..)

/- (twinkeep/store.Store).Install -/
def f22 (callf : CallF) (N : Nat) (a0 : T) (a1 : T) (a2 : T) (s : St) : Option (T × St) :=
  bd (eqB .p a0 (Z .nilp)) fun t15 =>
  br t15 (some ((I .i64 10), s))
  (bd2 (callf 77 [a1] s) fun t18 s1 =>
  bd (aExtract t18 0) fun t19 =>
  bd (aExtract t18 1) fun t20 =>
  bd2 (aNew s1 (nCells [.int .i64 0, .int .i64 0, .int .i64 0, .int .i64 0, .int .u32 0])) fun t7 s2 =>
  bd2 (aStore 5 t7 t19 s2) fun _ s3 =>
  bd (aBin .neq t20 (I .i64 0)) fun t22 =>
  br t22 (some (t20, s3))
  (bd (aFieldAddr 0 t7) fun t25 =>
  bd (aLoad1 t25 s3.get) fun t26 =>
  bd (aFieldAddr 1 t7) fun t27 =>
  bd (aLoad1 t27 s3.get) fun t28 =>
  bd (aFieldAddr 2 t7) fun t29 =>
  bd (aLoad1 t29 s3.get) fun t30 =>
  bd (aFieldAddr 3 t7) fun t31 =>
  bd (aLoad1 t31 s3.get) fun t32 =>
  bd (aFieldAddr 4 t7) fun t33 =>
  bd (aLoad1 t33 s3.get) fun t34 =>
  bd (asAggT (aFill [.int .i64 0, .int .i64 0, .int .i64 0, .int .i64 0, .int .i64 0, .int .i64 0, .int .u32 0, .str []] [(0, 1, (I .i64 1)), (1, 1, a2), (2, 1, t26), (3, 1, t28), (4, 1, t30), (5, 1, t32), (6, 1, t34)])) fun t35 =>
  bd2 (aNew s3 (nCells [.int .i64 0, .int .i64 0, .int .i64 0, .int .i64 0, .int .i64 0, .int .i64 0, .int .u32 0, .str []])) fun t9 s4 =>
  bd2 (aStore 8 t9 t35 s4) fun _ s5 =>
  bd (aLoadN 8 t9 s5.get) fun t37 =>
  bd2 (callf 67 [a0, t37] s5) fun t38 s6 =>
  bd (aBin .neq t38 (I .i64 0)) fun t40 =>
  br t40 (some (t38, s6))
  (bd (aFieldAddr 0 t7) fun t42 =>
  bd (aLoad1 t42 s6.get) fun t43 =>
  bd2 (callf 69 [t43] s6) fun t44 s7 =>
  bd (aNil a0) fun t46 =>
  bd (aFieldAddr 0 t46) fun t47 =>
  bd (aLoad1 t47 s7.get) fun t48 =>
  bd2 (callf 54 [t48, t44] s7) fun t50 s8 =>
  bd (aNil a0) fun t52 =>
  bd (aFieldAddr 0 t52) fun t53 =>
  bd (aLoad1 t53 s8.get) fun t54 =>
  bd2 (callf 12 [t54, t44, a1] s8) fun t57 s9 =>
  bd (aBin .neq t57 (I .i64 0)) fun t59 =>
  br t59 (some (t57, s9))
  (bd (aNil a0) fun t62 =>
  bd (aFieldAddr 0 t62) fun t63 =>
  bd (aLoad1 t63 s9.get) fun t64 =>
  bd2 (callf 47 [t64, t44] s9) fun t66 s10 =>
  bd (aLoadN 8 t9 s10.get) fun t68 =>
  bd2 (callf 68 [a0, t68] s10) fun t69 s11 =>
  bd (aBin .neq t69 (I .i64 0)) fun t71 =>
  br t71 (bd (aNil a0) fun t73 =>
  bd (aFieldAddr 0 t73) fun t74 =>
  bd (aLoad1 t74 s11.get) fun t75 =>
  bd2 (callf 54 [t75, t44] s11) fun t77 s12 =>
  some (t69, s12))
  (some ((I .i64 0), s11))))))

/- (twinkeep/store.Store).Sync -/
def f19 (callf : CallF) (N : Nat) (a0 : T) (s : St) : Option (T × St) :=
  bd (eqB .p a0 (Z .nilp)) fun t4 =>
  br t4 (some ((I .i64 10), s))
  (bd (aNil a0) fun t6 =>
  bd (aFieldAddr 0 t6) fun t7 =>
  bd (aLoad1 t7 s.get) fun t8 =>
  bd2 (callf 47 [t8, (Z (.str [108, 111, 103]))] s) fun t9 s1 =>
  bd (aNil a0) fun t12 =>
  bd (aFieldAddr 1 t12) fun t13 =>
  bd (aLoad1 t13 s1.get) fun t14 =>
  bd (aLenSl t14) fun t15 =>
  bd (aNil a0) fun t16 =>
  bd (aFieldAddr 4 t16) fun t17 =>
  bd2 (aStore 1 t17 t15 s1) fun _ s2 =>
  some ((I .i64 0), s2))

theorem f19_eq (callf : CallF) (N : Nat) (a0 : T) (s : St) : bodyC Tryz.prog callf N Tryz.f19 [a0] s = f19 callf N a0 s := by kernel_rfl

theorem f19_run (d : Nat) (a0 : T) (s : St) : R (d + 1) 19 [a0] s = f19 (R d) 8192 a0 s := (runQ_body rfl Tryz.func19 (by kernel_rfl)).trans (f19_eq ..)

/- (twinkeep/store.Store).Infos -/
def f27 (callf : CallF) (N : Nat) (a0 : T) (s : St) : Option (T × St) :=
  bd (eqB .p a0 (Z .nilp)) fun t4 =>
  br t4 (some ((Z .nils), s))
  (bd (aNil a0) fun t6 =>
  bd (aFieldAddr 3 t6) fun t7 =>
  bd (aLoad1 t7 s.get) fun t8 =>
  bd2 (callf 48 [t8] s) fun t9 s1 =>
  some (t9, s1))

/- (twinkeep/store.Store).Entries -/
def f23 (callf : CallF) (N : Nat) (a0 : T) (s : St) : Option (T × St) :=
  bd (eqB .p a0 (Z .nilp)) fun t4 =>
  br t4 (some ((Z .nils), s))
  (bd (aNil a0) fun t6 =>
  bd (aFieldAddr 1 t6) fun t7 =>
  bd (aLoad1 t7 s.get) fun t8 =>
  bd2 (callf 78 [t8] s) fun t9 s1 =>
  some (t9, s1))

theorem f23_eq (callf : CallF) (N : Nat) (a0 : T) (s : St) : bodyC Tryz.prog callf N Tryz.f23 [a0] s = f23 callf N a0 s := by kernel_rfl

theorem f23_run (d : Nat) (a0 : T) (s : St) : R (d + 1) 23 [a0] s = f23 (R d) 8192 a0 s := (runQ_body rfl Tryz.func23 (by kernel_rfl)).trans (f23_eq ..)

/- (twinkeep/store.Store).Sure -/
def f24 (callf : CallF) (N : Nat) (a0 : T) (s : St) : Option (T × St) :=
  bd (eqB .p a0 (Z .nilp)) fun t4 =>
  br t4 (some ((I .i64 0), s))
  (bd (aNil a0) fun t6 =>
  bd (aFieldAddr 4 t6) fun t7 =>
  bd (aLoad1 t7 s.get) fun t8 =>
  some (t8, s))

theorem f24_eq (callf : CallF) (N : Nat) (a0 : T) (s : St) : bodyC Tryz.prog callf N Tryz.f24 [a0] s = f24 callf N a0 s := by kernel_rfl

theorem f24_run (d : Nat) (a0 : T) (s : St) : R (d + 1) 24 [a0] s = f24 (R d) 8192 a0 s := (runQ_body rfl Tryz.func24 (by kernel_rfl)).trans (f24_eq ..)

/- (twinkeep/store.Store).Rule -/
def f32 (callf : CallF) (N : Nat) (a0 : T) (s : St) : Option (T × St) :=
  bd2 (aNew s (nCells [.int .i64 0, .int .i64 0, .int .i64 0, .int .i64 0, .int .i64 0, .int .i64 0])) fun t2 s1 =>
  bd (eqB .p a0 (Z .nilp)) fun t4 =>
  br t4 (bd (asAggT (aFill [.int .i64 0, .int .i64 0, .int .i64 0, .int .i64 0, .int .i64 0, .int .i64 0] [])) fun t5 =>
  bd2 (aStore 6 t2 t5 s1) fun _ s2 =>
  bd (rC (aLoadN 6 t2 s2.get) (some [])) fun l3 => bd (retT l3) fun r4 =>
  some (r4, s2))
  (bd (aNil a0) fun t7 =>
  bd (aFieldAddr 3 t7) fun t8 =>
  bd (aLoad1 t8 s1.get) fun t9 =>
  bd2 (callf 84 [t9] s1) fun t10 s5 =>
  bd2 (aStore 6 t2 t10 s5) fun _ s6 =>
  bd (rC (aLoadN 6 t2 s6.get) (some [])) fun l7 => bd (retT l7) fun r8 =>
  some (r8, s6))

theorem f32_eq (callf : CallF) (N : Nat) (a0 : T) (s : St) : bodyC Tryz.prog callf N Tryz.f32 [a0] s = f32 callf N a0 s := by kernel_rfl

theorem f32_run (d : Nat) (a0 : T) (s : St) : R (d + 1) 32 [a0] s = f32 (R d) 8192 a0 s := (runQ_body rfl Tryz.func32 (by kernel_rfl)).trans (f32_eq ..)

/- (twinkeep/store.Store).Seg -/
def f28 (callf : CallF) (N : Nat) (a0 : T) (a1 : T) (s : St) : Option (T × St) :=
  bd2 (aNew s (nBox a1)) fun t3 s1 =>
  bd2 (aNew s1 (nCells [.int .i64 0, .int .i64 0, .int .i64 0, .int .i64 0, .nils, .nils])) fun t4 s2 =>
  bd (eqB .p a0 (Z .nilp)) fun t9 =>
  br t9 (bd (asAggT (aFill [.int .i64 0, .int .i64 0, .int .i64 0, .int .i64 0, .nils, .nils] [])) fun t10 =>
  bd2 (aStore 6 t4 t10 s2) fun _ s3 =>
  bd (rC (aLoadN 6 t4 s3.get) (rT (I .i64 10) (some []))) fun l4 => bd (retT l4) fun r5 =>
  some (r5, s3))
  (bd (aNil a0) fun t12 =>
  bd (aFieldAddr 3 t12) fun t13 =>
  bd (aLoad1 t13 s2.get) fun t14 =>
  bd2 (callf 48 [t14] s2) fun t15 s6 =>
  bd (aClo 80 [t3] []) fun t16 =>
  bd2 (callf 49 [t15, t16] s6) fun t17 s7 =>
  bd (aUn .not t17) fun t18 =>
  br t18 (bd (asAggT (aFill [.int .i64 0, .int .i64 0, .int .i64 0, .int .i64 0, .nils, .nils] [])) fun t19 =>
  bd2 (aStore 6 t4 t19 s7) fun _ s8 =>
  bd (rC (aLoadN 6 t4 s8.get) (rT (I .i64 9) (some []))) fun l9 => bd (retT l9) fun r10 =>
  some (r10, s8))
  (bd (aNil a0) fun t22 =>
  bd (aFieldAddr 0 t22) fun t23 =>
  bd (aLoad1 t23 s7.get) fun t24 =>
  bd (aLoad1 t3 s7.get) fun t25 =>
  bd2 (callf 69 [t25] s7) fun t26 s11 =>
  bd2 (callf 42 [t24, t26] s11) fun t27 s12 =>
  bd (aExtract t27 0) fun t28 =>
  bd (aExtract t27 1) fun t29 =>
  ck ((decide (aLoad1 t23 s11.get = aLoad1 t23 s7.get) && true) && true) (bd (aBin .neq t29 (I .i64 0)) fun t31 =>
  br t31 (bd (asAggT (aFill [.int .i64 0, .int .i64 0, .int .i64 0, .int .i64 0, .nils, .nils] [])) fun t32 =>
  bd2 (aStore 6 t4 t32 s12) fun _ s13 =>
  bd (rC (aLoadN 6 t4 s13.get) (rT t29 (some []))) fun l14 => bd (retT l14) fun r15 =>
  some (r15, s13))
  (bd2 (callf 81 [t28] s12) fun t35 s16 =>
  bd (aExtract t35 0) fun t36 =>
  bd (aExtract t35 1) fun t37 =>
  bd2 (aStore 6 t4 t36 s16) fun _ s17 =>
  bd (rC (aLoadN 6 t4 s17.get) (rT t37 (some []))) fun l18 => bd (retT l18) fun r19 =>
  some (r19, s17)))))

/- (twinkeep/store.Store).Drop -/
end
end Go.Proofs.YtbohejffelipoaaGreatDoor


/-
  What functions that the laws reach compute, printed by a program of our own: each text is by definition the run of the code. No conditions.
-/
namespace Go.Proofs.YtbohejffelipoaaGreatDoor
open Go Go.Abs Go.Abs.F
set_option linter.unusedVariables false
noncomputable section
/- twinkeep/twinkeeplaw12.StoreRules: a loop; 0: t0 l, 1: t1 keep, 2: t5 d, 3: t6 s, 4: t8 counts, 5: t9 sure, 6: t10 i -/
def f6_l1 (callf : CallF) (N : Nat) (v : List T) (s : St) : Option (JO × St) :=
  bd (aLenSl (v.getD 0 .any)) fun t30 =>
  bd (aBin .lss (v.getD 6 .any) t30) fun t31 =>
  bd (gT (gd t31 true) (some (v.getD 6 .any))) fun t33 =>
  bd (gT (gd t31 true) (aBin .lss t33 (I .i64 10))) fun t34 =>
  bd (aPick t31 t34 (B false)) fun t35 =>
  br t35 (jn (bd (aIndexSl 1 (v.getD 0 .any) (v.getD 6 .any)) fun t40 =>
  bd (aLoad1 t40 s.get) fun t41 =>
  bd (aConv .u64 t41) fun t42 =>
  bd (aBin .rem t42 (I .u64 64)) fun t43 =>
  bd (aConv .i64 t43) fun t44 =>
  bd (aBin .add (I .i64 1) t44) fun t45 =>
  bd (aBin .quo t45 (I .i64 10)) fun t47 =>
  bd (aBin .quo t45 (I .i64 10)) fun t49 =>
  bd (aBin .add t49 (I .i64 1)) fun t50 =>
  bd (aPieceStr (Z (.str [48, 49, 50, 51, 52, 53, 54, 55, 56, 57])) (some t47) (some t50) none) fun t51 =>
  bd (aBin .add (Z (.str [115, 101, 97, 108, 32])) t51) fun t52 =>
  bd (aBin .rem t45 (I .i64 10)) fun t54 =>
  bd (aBin .rem t45 (I .i64 10)) fun t56 =>
  bd (aBin .add t56 (I .i64 1)) fun t57 =>
  bd (aPieceStr (Z (.str [48, 49, 50, 51, 52, 53, 54, 55, 56, 57])) (some t54) (some t57) none) fun t58 =>
  bd (aBin .add t52 t58) fun t59 =>
  bd (asAggT (aFill [.int .i64 0, .int .i64 0, .int .i64 0, .int .i64 0, .int .i64 0, .int .i64 0, .int .u32 0, .str []] [(0, 1, (I .i64 4)), (7, 1, t59)])) fun t62 =>
  bd2 (callf 18 [(v.getD 3 .any), t62] s) fun t63 s3 =>
  bd (aBin .neq t63 (I .i64 0)) fun t64 =>
  br t64 (some (.ret (B false), s3))
  (bd2 (aNew s3 (nSlice 1 (aFill [.int .i64 0] [(0, 1, t45)]))) fun t67 s4 =>
  bd2 (aAppend 1 8 (v.getD 4 .any) t67 s4) fun t68 s5 =>
  bd (aIndexSl 1 (v.getD 0 .any) (v.getD 6 .any)) fun t71 =>
  bd (aLoad1 t71 s5.get) fun t72 =>
  bd (aConv .u64 t72) fun t73 =>
  bd (aBin .quo t73 (I .u64 64)) fun t74 =>
  bd (aBin .rem t74 (I .u64 3)) fun t75 =>
  bd (aBin .eql t75 (I .u64 0)) fun t76 =>
  jn (br t76 (bd2 (callf 19 [(v.getD 3 .any)] s5) fun t78 s6 =>
  bd (aBin .neq t78 (I .i64 0)) fun t79 =>
  br t79 (some (.ret (B false), s6))
  (bd (aLenSl t68) fun t81 =>
  some (.normal [(v.getD 0 .any), (v.getD 1 .any), (v.getD 2 .any), (v.getD 3 .any), t68, t81, (v.getD 6 .any), t45], s6)))
  (some (.normal [(v.getD 0 .any), (v.getD 1 .any), (v.getD 2 .any), (v.getD 3 .any), t68, (v.getD 5 .any), (v.getD 6 .any), t45], s5)))
  (fun v7 s8 => bd2 (callf 32 [(v7.getD 3 .any)] s8) fun t83 s11 =>
  bd (aField none 4 t83) fun t84 =>
  bd (aBin .neq t84 (v7.getD 7 .any)) fun t86 =>
  bd (gT (gd t86 false) (some (v7.getD 3 .any))) fun t88 =>
  bd2 (gS (gd t86 false) s11 (callf 24 [t88] s11)) fun t89 s12 =>
  bd (gT (gd t86 false) (some (v7.getD 5 .any))) fun t90 =>
  bd (gT (gd t86 false) (aBin .neq t89 t90)) fun t91 =>
  bd (aPick t86 (B true) t91) fun t92 =>
  br t92 (some (.ret (B false), s12))
  (some (.normal [(v7.getD 0 .any), (v7.getD 1 .any), (v7.getD 2 .any), (v7.getD 3 .any), (v7.getD 4 .any), (v7.getD 5 .any), (v7.getD 6 .any)], s12)))
  (fun i9 v7 s8 => if i9 = 1 then some (.normal v7, s8) else some (.exit i9 v7, s8))
  (fun r10 s8 => some (.ret r10, s8))))
  (fun v13 s14 => bd (aBin .add (v13.getD 6 .any) (I .i64 1)) fun t37 =>
  some (.normal [(v13.getD 0 .any), (v13.getD 1 .any), (v13.getD 2 .any), (v13.getD 3 .any), (v13.getD 4 .any), (v13.getD 5 .any), t37], s14))
  (fun i15 v13 s14 => some (.exit i15 v13, s14))
  (fun r16 s14 => some (.ret r16, s14)))
  (some (.exit 0 [(v.getD 1 .any), (v.getD 2 .any), (v.getD 4 .any), (v.getD 5 .any)], s))

/- twinkeep/twinkeeplaw12.StoreRules -/
def f6 (callf : CallF) (N : Nat) (a0 : T) (a1 : T) (s : St) : Option (T × St) :=
  bd2 (callf 10 [(I .i64 10000)] s) fun t16 s1 =>
  bd2 (callf 14 [t16] s1) fun t19 s2 =>
  bd (aExtract t19 0) fun t20 =>
  bd (aExtract t19 1) fun t21 =>
  bd (aBin .neq t21 (I .i64 0)) fun t23 =>
  bd (gT (gd t23 false) (some t20)) fun t25 =>
  bd (gT (gd t23 false) (eqB .p t25 (Z .nilp))) fun t26 =>
  bd (aPick t23 (B true) t26) fun t27 =>
  br t27 (some ((B false), s2))
  (jn (jn (loops (f6_l1 callf N) N [a0, a1, t16, t20, (Z .nils), (I .i64 0), (I .i64 0)] s2)
  (fun v17 s18 => some (.normal [.any, .any, .any, .any], s18))
  (fun i19 v17 s18 => if i19 = 0 then some (.normal v17, s18) else some (.exit i19 v17, s18))
  (fun r20 s18 => some (.ret r20, s18)))
  (fun v21 s22 => bd2 (aNew s22 (nSlice 1 (aFill [.int .i64 0] [(0, 1, (v21.getD 0 .any))]))) fun t95 s25 =>
  bd2 (callf 25 [(v21.getD 1 .any), t95] s25) fun t96 s26 =>
  bd2 (callf 14 [(v21.getD 1 .any)] s26) fun t99 s27 =>
  bd (aExtract t99 0) fun t100 =>
  bd (aExtract t99 1) fun t101 =>
  bd (aBin .neq t101 (I .i64 0)) fun t103 =>
  bd (gT (gd t103 false) (some t100)) fun t105 =>
  bd (gT (gd t103 false) (eqB .p t105 (Z .nilp))) fun t106 =>
  bd (aPick t103 (B true) t106) fun t107 =>
  br t107 (some ((B false), s27))
  (bd2 (callf 23 [t100] s27) fun t109 s28 =>
  bd (aLenSl t109) fun t110 =>
  bd (aBin .lss t110 (v21.getD 3 .any)) fun t113 =>
  bd (gT (gd t113 false) (some t110)) fun t115 =>
  bd (gT (gd t113 false) (some (v21.getD 2 .any))) fun t116 =>
  bd (gT (gd t113 false) (aLenSl t116)) fun t117 =>
  bd (gT (gd t113 false) (aBin .gtr t115 t117)) fun t118 =>
  bd (aPick t113 (B true) t118) fun t119 =>
  br t119 (some ((B false), s28))
  (bd2 (callf 7 [] s28) fun t120 s29 =>
  bd (gT (gd t120 true) (some t110)) fun t122 =>
  bd (gT (gd t120 true) (aBin .eql t122 (I .i64 0))) fun t123 =>
  bd (gT (gd t120 true) (some t123)) fun t124 =>
  bd (gT (gd t124 true) (some t100)) fun t125 =>
  bd2 (gS (gd t124 true) s29 (callf 32 [t125] s29)) fun t126 s30 =>
  bd (gT (gd t124 true) (aField none 4 t126)) fun t127 =>
  bd (gT (gd t124 true) (aBin .eql t127 (I .i64 8))) fun t128 =>
  bd (gT (gd t120 true) (aPick t124 t128 (B false))) fun t129 =>
  bd (gT (gd t120 true) (some t129)) fun t130 =>
  bd (gT (gd t130 false) (some t110)) fun t131 =>
  bd (gT (gd t130 false) (aBin .gtr t131 (I .i64 0))) fun t132 =>
  bd (gT (gd t130 false) (some t132)) fun t133 =>
  bd (gT (gd t133 true) (some t100)) fun t134 =>
  bd2 (gS (gd t133 true) s30 (callf 32 [t134] s30)) fun t135 s31 =>
  bd (gT (gd t133 true) (aField none 4 t135)) fun t136 =>
  bd (gT (gd t133 true) (some (v21.getD 2 .any))) fun t137 =>
  bd (gT (gd t133 true) (some t110)) fun t138 =>
  bd (gT (gd t133 true) (aBin .sub t138 (I .i64 1))) fun t139 =>
  bd (gT (gd t133 true) (aIndexSl 1 t137 t139)) fun t140 =>
  bd (gT (gd t133 true) (aLoad1 t140 s31.get)) fun t141 =>
  bd (gT (gd t133 true) (aBin .eql t136 t141)) fun t142 =>
  bd (gT (gd t130 false) (aPick t133 t142 (B false))) fun t143 =>
  bd (gT (gd t120 true) (aPick t130 (B true) t143)) fun t144 =>
  bd (aPick t120 t144 (B false)) fun t145 =>
  bd (gT (gd t145 true) (some (v21.getD 0 .any))) fun t147 =>
  bd (gT (gd t145 true) (aBin .gtr t147 (I .i64 0))) fun t148 =>
  bd (gT (gd t145 true) (some t148)) fun t149 =>
  bd (gT (gd t149 false) (some t110)) fun t150 =>
  bd (gT (gd t149 false) (some (v21.getD 3 .any))) fun t151 =>
  bd (gT (gd t149 false) (aBin .eql t150 t151)) fun t152 =>
  bd (gT (gd t145 true) (aPick t149 (B true) t152)) fun t153 =>
  bd (aPick t145 t153 (B false)) fun t154 =>
  ck ((wq (gd t133 true) (decide (aLoad1 t140 s30.get = aLoad1 t140 s31.get)) && true) && true) (some (t154, s31)))))
  (fun i23 v21 s22 => none)
  (fun r24 s22 => some (r24, s22)))

theorem f6_eq (callf : CallF) (N : Nat) (a0 : T) (a1 : T) (s : St) : bodyC Tryz.prog callf N Tryz.f6 [a0, a1] s = f6 callf N a0 a1 s := by kernel_rfl

theorem f6_run (d : Nat) (a0 : T) (a1 : T) (s : St) : R (d + 1) 6 [a0, a1] s = f6 (R d) 8192 a0 a1 s := (runQ_body rfl Tryz.func6 (by kernel_rfl)).trans (f6_eq ..)

/- twinkeep/twinkeeplaw12.StoreFull: a loop; 0: t3 n, 1: t4 d, 2: t5 s, 3: t7 k, 4: t8 i -/
def f5_l1 (callf : CallF) (N : Nat) (v : List T) (s : St) : Option (JO × St) :=
  bd (aBin .lss (v.getD 4 .any) (I .i64 150)) fun t33 =>
  br t33 (jn (bd2 (aNew s (nSlice 2 (aFill [.int .i64 0, .int .i64 0] [(0, 1, (I .i64 3)), (1, 1, (I .i64 4))]))) fun t39 s3 =>
  bd2 (callf 21 [(v.getD 4 .any), (v.getD 4 .any), t39, (Z .nils)] s3) fun t40 s4 =>
  bd2 (callf 20 [t40] s4) fun t41 s5 =>
  bd (aExtract t41 0) fun t42 =>
  bd (aExtract t41 1) fun t43 =>
  bd2 (aNew s5 (nBytes t42)) fun t46 s6 =>
  bd2 (callf 22 [(v.getD 2 .any), t46, (I .i64 0)] s6) fun t47 s7 =>
  bd (aBin .eql t47 (I .i64 8)) fun t49 =>
  br t49 (some (.exit 0 [(v.getD 0 .any), (v.getD 1 .any), (v.getD 2 .any), (v.getD 3 .any)], s7))
  (bd (aBin .neq t47 (I .i64 0)) fun t51 =>
  br t51 (some (.ret (B false), s7))
  (bd (aBin .add (v.getD 3 .any) (I .i64 1)) fun t53 =>
  some (.normal [(v.getD 0 .any), (v.getD 1 .any), (v.getD 2 .any), t53, (v.getD 4 .any)], s7))))
  (fun v8 s9 => bd (aBin .add (v8.getD 4 .any) (I .i64 1)) fun t35 =>
  some (.normal [(v8.getD 0 .any), (v8.getD 1 .any), (v8.getD 2 .any), (v8.getD 3 .any), t35], s9))
  (fun i10 v8 s9 => some (.exit i10 v8, s9))
  (fun r11 s9 => some (.ret r11, s9)))
  (some (.exit 0 [(v.getD 0 .any), (v.getD 1 .any), (v.getD 2 .any), (v.getD 3 .any)], s))

/- twinkeep/twinkeeplaw12.StoreFull -/
def f5 (callf : CallF) (N : Nat) (a0 : T) (s : St) : Option (T × St) :=
  bd (aConv .u64 a0) fun t15 =>
  bd (aBin .rem t15 (I .u64 1800)) fun t16 =>
  bd (aConv .i64 t16) fun t17 =>
  bd (aBin .add (I .i64 200) t17) fun t18 =>
  bd2 (callf 10 [t18] s) fun t20 s1 =>
  bd2 (callf 14 [t20] s1) fun t23 s2 =>
  bd (aExtract t23 0) fun t24 =>
  bd (aExtract t23 1) fun t25 =>
  bd (aBin .neq t25 (I .i64 0)) fun t27 =>
  bd (gT (gd t27 false) (some t24)) fun t29 =>
  bd (gT (gd t27 false) (eqB .p t29 (Z .nilp))) fun t30 =>
  bd (aPick t27 (B true) t30) fun t31 =>
  br t31 (some ((B false), s2))
  (jn (jn (loops (f5_l1 callf N) N [t18, t20, t24, (I .i64 0), (I .i64 0)] s2)
  (fun v12 s13 => some (.normal [.any, .any, .any, .any], s13))
  (fun i14 v12 s13 => if i14 = 0 then some (.normal v12, s13) else some (.exit i14 v12, s13))
  (fun r15 s13 => some (.ret r15, s13)))
  (fun v16 s17 => bd2 (callf 19 [(v16.getD 2 .any)] s17) fun t55 s20 =>
  bd (aBin .neq t55 (I .i64 0)) fun t56 =>
  bd (gT (gd t56 false) (some (v16.getD 2 .any))) fun t58 =>
  bd2 (gS (gd t56 false) s20 (callf 27 [t58] s20)) fun t59 s21 =>
  bd (gT (gd t56 false) (aLenSl t59)) fun t60 =>
  bd (gT (gd t56 false) (some (v16.getD 3 .any))) fun t61 =>
  bd (gT (gd t56 false) (aBin .neq t60 t61)) fun t62 =>
  bd (aPick t56 (B true) t62) fun t63 =>
  bd (gT (gd t63 false) (some (v16.getD 1 .any))) fun t65 =>
  bd2 (gS (gd t63 false) s21 (callf 30 [t65] s21)) fun t66 s22 =>
  bd (gT (gd t63 false) (some (v16.getD 0 .any))) fun t67 =>
  bd (gT (gd t63 false) (aBin .gtr t66 t67)) fun t68 =>
  bd (aPick t63 (B true) t68) fun t69 =>
  br t69 (some ((B false), s22))
  (bd2 (callf 25 [(v16.getD 1 .any), (Z .nils)] s22) fun t71 s23 =>
  bd2 (callf 14 [(v16.getD 1 .any)] s23) fun t74 s24 =>
  bd (aExtract t74 0) fun t75 =>
  bd (aExtract t74 1) fun t76 =>
  bd2 (callf 7 [] s24) fun t77 s25 =>
  bd (gT (gd t77 true) (some t76)) fun t79 =>
  bd (gT (gd t77 true) (aBin .eql t79 (I .i64 0))) fun t80 =>
  bd (aPick t77 t80 (B false)) fun t81 =>
  bd (gT (gd t81 true) (some t75)) fun t83 =>
  bd (gT (gd t81 true) (neB .p t83 (Z .nilp))) fun t84 =>
  bd (aPick t81 t84 (B false)) fun t85 =>
  bd (gT (gd t85 true) (some t75)) fun t87 =>
  bd2 (gS (gd t85 true) s25 (callf 27 [t87] s25)) fun t88 s26 =>
  bd (gT (gd t85 true) (aLenSl t88)) fun t89 =>
  bd (gT (gd t85 true) (some (v16.getD 3 .any))) fun t90 =>
  bd (gT (gd t85 true) (aBin .eql t89 t90)) fun t91 =>
  bd (aPick t85 t91 (B false)) fun t92 =>
  bd (gT (gd t92 true) (some (v16.getD 3 .any))) fun t94 =>
  bd (gT (gd t92 true) (aBin .eql t94 (I .i64 0))) fun t95 =>
  bd (gT (gd t92 true) (some t95)) fun t96 =>
  bd (gT (gd t96 false) (some (v16.getD 3 .any))) fun t97 =>
  bd (gT (gd t96 false) (aBin .geq t97 (I .i64 150))) fun t98 =>
  bd (gT (gd t92 true) (aPick t96 (B true) t98)) fun t99 =>
  bd (gT (gd t92 true) (some t99)) fun t100 =>
  bd (gT (gd t100 false) (some t75)) fun t101 =>
  bd2 (gS (gd t100 false) s26 (callf 23 [t101] s26)) fun t102 s27 =>
  bd (gT (gd t100 false) (aLenSl t102)) fun t103 =>
  bd (gT (gd t100 false) (some (v16.getD 3 .any))) fun t104 =>
  bd (gT (gd t100 false) (aBin .eql t103 t104)) fun t105 =>
  bd (gT (gd t92 true) (aPick t100 (B true) t105)) fun t106 =>
  bd (aPick t92 t106 (B false)) fun t107 =>
  some (t107, s27)))
  (fun i18 v16 s17 => none)
  (fun r19 s17 => some (r19, s17)))

end
end Go.Proofs.YtbohejffelipoaaGreatDoor


/-
  What functions that the laws reach compute, printed by a program of our own: each text is by definition the run of the code. No conditions.
-/
namespace Go.Proofs.YtbohejffelipoaaGreatDoor
open Go Go.Abs Go.Abs.F
set_option linter.unusedVariables false
noncomputable section
/- twinkeep/twinkeeplaw9.Rows: a loop; 0: t0 l, 1: t3 out, 2: t4 there, 3: t5 view, 4: t6 id, 5: t7 at, 6: t8 i -/
def f9_l1 (callf : CallF) (N : Nat) (v : List T) (s : St) : Option (JO × St) :=
  bd (aLenSl (v.getD 0 .any)) fun t14 =>
  bd (aBin .lss (v.getD 6 .any) t14) fun t15 =>
  bd (gT (gd t15 true) (some (v.getD 6 .any))) fun t17 =>
  bd (gT (gd t15 true) (aBin .lss t17 (I .i64 40))) fun t18 =>
  bd (aPick t15 t18 (B false)) fun t19 =>
  br t19 (jn (bd (aIndexSl 1 (v.getD 0 .any) (v.getD 6 .any)) fun t24 =>
  bd (aLoad1 t24 s.get) fun t25 =>
  bd (aConv .u64 t25) fun t26 =>
  jn (bd (aBin .rem t26 (I .u64 8)) fun t57 =>
  bd (aBin .eql t57 (I .u64 7)) fun t58 =>
  jn (br t58 (bd (aBin .add (v.getD 3 .any) (I .i64 1)) fun t60 =>
  bd (asAggT (aFill [.int .i64 0, .int .i64 0, .int .i64 0, .int .i64 0, .int .i64 0, .int .i64 0, .int .u32 0, .str []] [(0, 1, (I .i64 3)), (1, 1, t60)])) fun t63 =>
  bd2 (aNew s (nSlice 1 (aFill [.int .i64 0, .int .i64 0, .int .i64 0, .int .i64 0, .int .i64 0, .int .i64 0, .int .u32 0, .str []] [(0, 8, t63)]))) fun t64 s1 =>
  bd2 (aAppend 8 72 (v.getD 1 .any) t64 s1) fun t65 s2 =>
  some (.normal [(v.getD 0 .any), t65, (v.getD 2 .any), t60, (v.getD 4 .any), (v.getD 5 .any), (v.getD 6 .any)], s2))
  (bd (aBin .rem t26 (I .u64 8)) fun t68 =>
  bd (aBin .eql t68 (I .u64 6)) fun t69 =>
  jn (br t69 (bd2 (aNew s (nSlice 3 (aFill [.str [], .str [], .str []] [(0, 1, (Z (.str [49]))), (1, 1, (Z (.str [57]))), (2, 1, (Z (.str [51, 51])))]))) fun t72 s3 =>
  bd (aBin .quo t26 (I .u64 8)) fun t74 =>
  bd (aBin .rem t74 (I .u64 3)) fun t75 =>
  bd (aIndexSl 1 t72 t75) fun t76 =>
  bd (aLoad1 t76 s3.get) fun t77 =>
  bd (aBin .add (Z (.str [115, 101, 97, 108, 32])) t77) fun t78 =>
  bd (asAggT (aFill [.int .i64 0, .int .i64 0, .int .i64 0, .int .i64 0, .int .i64 0, .int .i64 0, .int .u32 0, .str []] [(0, 1, (I .i64 4)), (1, 1, (v.getD 3 .any)), (7, 1, t78)])) fun t79 =>
  bd2 (aNew s3 (nSlice 1 (aFill [.int .i64 0, .int .i64 0, .int .i64 0, .int .i64 0, .int .i64 0, .int .i64 0, .int .u32 0, .str []] [(0, 8, t79)]))) fun t80 s4 =>
  bd2 (aAppend 8 72 (v.getD 1 .any) t80 s4) fun t81 s5 =>
  some (.normal [(v.getD 0 .any), t81, (v.getD 2 .any), (v.getD 3 .any), (v.getD 4 .any), (v.getD 5 .any), (v.getD 6 .any)], s5))
  (bd (aBin .rem t26 (I .u64 8)) fun t84 =>
  bd (aBin .gtr t84 (I .u64 3)) fun t85 =>
  bd (gT (gd t85 true) (some (v.getD 2 .any))) fun t87 =>
  bd (gT (gd t85 true) (aLenSl t87)) fun t88 =>
  bd (gT (gd t85 true) (aBin .gtr t88 (I .i64 0))) fun t89 =>
  bd (aPick t85 t89 (B false)) fun t90 =>
  jn (br t90 (bd (aBin .quo t26 (I .u64 8)) fun t92 =>
  bd (aLenSl (v.getD 2 .any)) fun t94 =>
  bd (aConv .u64 t94) fun t95 =>
  bd (aBin .rem t92 t95) fun t96 =>
  bd (aConv .i64 t96) fun t97 =>
  bd (aIndexSl 1 (v.getD 2 .any) t97) fun t102 =>
  bd (aLoad1 t102 s.get) fun t103 =>
  bd (asAggT (aFill [.int .i64 0, .int .i64 0, .int .i64 0, .int .i64 0, .int .i64 0, .int .i64 0, .int .u32 0, .str []] [(0, 1, (I .i64 2)), (1, 1, (v.getD 3 .any)), (2, 1, t103)])) fun t104 =>
  bd2 (aNew s (nSlice 1 (aFill [.int .i64 0, .int .i64 0, .int .i64 0, .int .i64 0, .int .i64 0, .int .i64 0, .int .u32 0, .str []] [(0, 8, t104)]))) fun t105 s6 =>
  bd2 (aAppend 8 72 (v.getD 1 .any) t105 s6) fun t106 s7 =>
  bd (aPieceSl 1 (v.getD 2 .any) none (some t97) (some t97)) fun t110 =>
  bd (aBin .add t97 (I .i64 1)) fun t113 =>
  bd (aPieceSl 1 (v.getD 2 .any) (some t113) none none) fun t114 =>
  bd2 (aAppend 1 8 t110 t114 s7) fun t115 s8 =>
  some (.normal [(v.getD 0 .any), t106, t115, (v.getD 3 .any), (v.getD 4 .any), (v.getD 5 .any), (v.getD 6 .any)], s8))
  (bd (aBin .add (v.getD 4 .any) (I .i64 1)) fun t28 =>
  bd (aBin .add (v.getD 5 .any) (I .i64 1)) fun t30 =>
  bd (aBin .quo t26 (I .u64 8)) fun t32 =>
  bd (aBin .rem t32 (I .u64 30)) fun t33 =>
  bd (aConv .i64 t33) fun t34 =>
  bd (aBin .add t30 t34) fun t35 =>
  bd (aBin .quo t26 (I .u64 8)) fun t40 =>
  bd (aBin .rem t40 (I .u64 4)) fun t41 =>
  bd (aConv .i64 t41) fun t42 =>
  bd (aConv .u32 t26) fun t46 =>
  bd (asAggT (aFill [.int .i64 0, .int .i64 0, .int .i64 0, .int .i64 0, .int .i64 0, .int .i64 0, .int .u32 0, .str []] [(0, 1, (I .i64 1)), (1, 1, (v.getD 3 .any)), (2, 1, t28), (3, 1, t42), (4, 1, (v.getD 5 .any)), (5, 1, t35), (6, 1, t46)])) fun t47 =>
  bd2 (aNew s (nSlice 1 (aFill [.int .i64 0, .int .i64 0, .int .i64 0, .int .i64 0, .int .i64 0, .int .i64 0, .int .u32 0, .str []] [(0, 8, t47)]))) fun t48 s9 =>
  bd2 (aAppend 8 72 (v.getD 1 .any) t48 s9) fun t49 s10 =>
  bd2 (aNew s10 (nSlice 1 (aFill [.int .i64 0] [(0, 1, t28)]))) fun t52 s11 =>
  bd2 (aAppend 1 8 (v.getD 2 .any) t52 s11) fun t53 s12 =>
  some (.normal [(v.getD 0 .any), t49, t53, (v.getD 3 .any), t28, t35, (v.getD 6 .any)], s12)))
  (fun v13 s14 => some (.normal [(v13.getD 0 .any), (v13.getD 1 .any), (v13.getD 2 .any), (v13.getD 3 .any), (v13.getD 4 .any), (v13.getD 5 .any), (v13.getD 6 .any)], s14))
  (fun i15 v13 s14 => some (.exit i15 v13, s14))
  (fun r16 s14 => some (.ret r16, s14))))
  (fun v17 s18 => some (.normal [(v17.getD 0 .any), (v17.getD 1 .any), (v17.getD 2 .any), (v17.getD 3 .any), (v17.getD 4 .any), (v17.getD 5 .any), (v17.getD 6 .any)], s18))
  (fun i19 v17 s18 => some (.exit i19 v17, s18))
  (fun r20 s18 => some (.ret r20, s18))))
  (fun v21 s22 => some (.normal [(v21.getD 0 .any), (v21.getD 1 .any), (v21.getD 2 .any), (v21.getD 3 .any), (v21.getD 4 .any), (v21.getD 5 .any), (v21.getD 6 .any)], s22))
  (fun i23 v21 s22 => if i23 = 2 then some (.normal v21, s22) else some (.exit i23 v21, s22))
  (fun r24 s22 => some (.ret r24, s22)))
  (fun v25 s26 => some (.normal [(v25.getD 0 .any), (v25.getD 1 .any), (v25.getD 2 .any), (v25.getD 3 .any), (v25.getD 4 .any), (v25.getD 5 .any), (v25.getD 6 .any)], s26))
  (fun i27 v25 s26 => if i27 = 1 then some (.normal v25, s26) else some (.exit i27 v25, s26))
  (fun r28 s26 => some (.ret r28, s26)))
  (fun v29 s30 => bd (aBin .add (v29.getD 6 .any) (I .i64 1)) fun t21 =>
  some (.normal [(v29.getD 0 .any), (v29.getD 1 .any), (v29.getD 2 .any), (v29.getD 3 .any), (v29.getD 4 .any), (v29.getD 5 .any), t21], s30))
  (fun i31 v29 s30 => some (.exit i31 v29, s30))
  (fun r32 s30 => some (.ret r32, s30)))
  (some (.exit 0 [(v.getD 1 .any)], s))

/- twinkeep/twinkeeplaw9.Rows -/
def f9 (callf : CallF) (N : Nat) (a0 : T) (s : St) : Option (T × St) :=
  jn (jn (loops (f9_l1 callf N) N [a0, (Z .nils), (Z .nils), (I .i64 0), (I .i64 0), (I .i64 0), (I .i64 0)] s)
  (fun v33 s34 => some (.normal [.any], s34))
  (fun i35 v33 s34 => if i35 = 0 then some (.normal v33, s34) else some (.exit i35 v33, s34))
  (fun r36 s34 => some (.ret r36, s34)))
  (fun v37 s38 => some ((v37.getD 0 .any), s38))
  (fun i39 v37 s38 => none)
  (fun r40 s38 => some (r40, s38))

end
end Go.Proofs.YtbohejffelipoaaGreatDoor


/-
  What functions that the laws reach compute, printed by a program of our own: each text is by definition the run of the code. No conditions.
-/
namespace Go.Proofs.YtbohejffelipoaaGreatDoor
end Go.Proofs.YtbohejffelipoaaGreatDoor


/-
  Pieces of texts: what strings.Split, Cut, slices.Index and Contains compute, in any store. No conditions but those named in each line.
-/
namespace Go.Proofs.YtbohejffelipoaaGreatDoor
open Go Go.Abs Go.Abs.F
set_option linter.unusedVariables false
section
variable {s t : St} {x y : S} {l : Bs} {c : UInt8}

theorem index_run (d : Nat) : R (d + 1) 247 [Z (.str l), Z (.str [c])] s = some (I .i64 (ixB c l 0), s) := runQ_prim (prim_ix (by decide))
theorem index2_run (d : Nat) : R (d + 1) 248 [Z (.str l), Z (.str [c])] s = some (I .i64 (ixB c l 0), s) := runQ_prim (prim_ix (by decide))
theorem count_run (d : Nat) : R (d + 1) 246 [Z (.str l), Z (.str [c])] s = some (I .i64 (cntB c l : Nat), s) := runQ_prim prim_cnt

theorem cut_run (d : Nat) (hl : l.length ≤ 100000) : R (d + 3) 180 [Z (.str l), Z (.str [c])] s = some (.tup [.s (.str (l.takeWhile fun b => !Nat.beq b.toNat c.toNat)), .s (.str (match ixB c l 0 with | .ofNat m => l.drop (m + 1) | _ => [])), .s (.bool (decide (0 ≤ ixB c l 0)))], s) := by
  have key : R (d + 2) 219 [Z (.str l), Z (.str [c])] s = some (.tup [.s (.str (l.takeWhile fun b => !Nat.beq b.toNat c.toNat)), .s (.str (match ixB c l 0 with | .ofNat m => l.drop (m + 1) | _ => [])), .s (.bool (decide (0 ≤ ixB c l 0)))], s) := by
    rw [f219_run]
    unfold f219
    have e := index2_run (s := s) (l := l) (c := c) d
    rcases cut_first c l with ⟨h1, h2⟩ | ⟨m, h0, h1, h2⟩
    · rw [h1] at e ⊢
      have c0 : ¬ (0 : Int) ≤ -1 := by decide
      simp [e, c0, h2, retT, allV]
    · rw [h1] at e ⊢
      have c0 : (0 : Int) ≤ (m : Int) := by omega
      have w1 : IntKind.i64.wrap ((m : Int) + 1) = ((m + 1 : Nat) : Int) := by rw [wrap_in _ (by omega) (by omega)]; omega
      have p1 := aPieceStr_hi (l := l) (m := m) (n := (m : Int)) rfl (by omega)
      have p2 := aPieceStr_lo (l := l) (m := m + 1) (n := ((m + 1 : Nat) : Int)) rfl (by omega)
      generalize ((m + 1 : Nat) : Int) = M1 at w1 p2
      have hd : (match ((m : Nat) : Int) with | .ofNat m => l.drop (m + 1) | _ => []) = l.drop (m + 1) := rfl
      rw [hd]
      generalize ((m : Nat) : Int) = M at *
      simp [e, c0, h2, p1, w1, p2, retT, allV]
  rw [f180_run]
  unfold f180
  simp [key, aExtract, retT, allV]

theorem splitLoop (r : CallF) (hix : ∀ (l : Bs) (u : St), r 247 [Z (.str l), Z (.str [c])] u = some (I .i64 (ixB c l 0), u)) (hl : l.length ≤ 8000) (wf : s.wf) :
    ∃ (m : Bs) (done : List Bs) (τ : St), loops (f218_l1 r 8192) 8192 [Z (.str l), Z (.str [c]), I .i64 0, I .i64 (cntB c l : Nat), Z (.sl s.size 0 (cntB c l + 1) (.known (cntB c l + 1))), I .i64 0] (s.push (.cells true (List.replicate (cntB c l + 1) (.str [])))) =
        some (.exit 0 [Z (.str m), Z (.sl s.size 0 (cntB c l + 1) (.known (cntB c l + 1))), I .i64 (cntB c l : Nat)], τ) ∧ τ.wf ∧ τ.size = s.size + 1 ∧ (∀ b, b < s.size → τ.get b = s.get b) ∧ done ++ [m] = splitB c l ∧ done.length = cntB c l ∧
        τ.get s.size = some (.cells true (strS done ++ [.str []])) := by
  obtain ⟨n, hn⟩ : ∃ n, n = cntB c l := ⟨_, rfl⟩
  have hnl := cntB_le c l
  rw [← hn] at hnl
  rw [← hn]
  obtain ⟨j, τ, lp, m, done, rfl, q1, q2, q3, q4, q5, q6⟩ := loops_inv (f := f218_l1 r 8192) (fun q v u => ∃ (m : Bs) (done : List Bs), q + done.length = n ∧ v = [Z (.str m), Z (.str [c]), I .i64 0, I .i64 (n : Nat), Z (.sl s.size 0 (n + 1) (.known (n + 1))), I .i64 (done.length : Nat)] ∧ u.wf ∧ u.size = s.size + 1 ∧ (∀ b, b < s.size → u.get b = s.get b) ∧
      done ++ splitB c m = splitB c l ∧ cntB c m = q ∧ m.length ≤ l.length ∧ u.get s.size = some (.cells true (strS done ++ List.replicate (n + 1 - done.length) (.str []))))
    (fun j u => ∃ (m : Bs) (done : List Bs), j = .exit 0 [Z (.str m), Z (.sl s.size 0 (n + 1) (.known (n + 1))), I .i64 (n : Nat)] ∧ u.wf ∧ u.size = s.size + 1 ∧ (∀ b, b < s.size → u.get b = s.get b) ∧ done ++ [m] = splitB c l ∧ done.length = n ∧ u.get s.size = some (.cells true (strS done ++ [.str []]))) (by
    rintro q v u ⟨m, done, hq, rfl, h1, h2, h3, h4, h5, h6, h7⟩
    rcases split_first c m with ⟨k1, k2, k3⟩ | ⟨i, k0, k1, k2, k3⟩
    · right
      have : q = 0 := by omega
      subst this
      have hd : done.length = n := by omega
      have c0 : ¬ ((n : Int) < (n : Int)) := by omega
      refine ⟨_, u, ?_, (fun v hv => by cases hv), m, done, rfl, h1, h2, h3, by rw [← h4, k3], hd, ?_⟩
      · unfold f218_l1
        rw [hd]
        simp [c0]
      · rw [h7, hd, show n + 1 - n = 1 by omega]
        rfl
    · left
      have hdl : done.length < n := by omega
      have c0 : ((done.length : Nat) : Int) < (n : Int) := by omega
      have c1 : ¬ ((i : Nat) : Int) < 0 := by omega
      have w0 : IntKind.i64.wrap ((i : Nat) : Int) = ((i : Nat) : Int) := wrap_in _ (by omega) (by omega)
      have w1 : IntKind.i64.wrap ((i : Int) + 1) = ((i + 1 : Nat) : Int) := by rw [wrap_in _ (by omega) (by omega)]; omega
      have w2 : IntKind.i64.wrap (((done.length : Nat) : Int) + 1) = ((done.length + 1 : Nat) : Int) := by rw [wrap_in _ (by omega) (by omega)]; omega
      have p1 := aPieceStr_hi (l := m) (m := i) (n := ((i : Nat) : Int)) rfl (by omega)
      have p2 := aPieceStr_lo (l := m) (m := i + 1) (n := ((i + 1 : Nat) : Int)) rfl (by omega)
      have ix : aIndexSl 1 (Z (.sl s.size 0 (n + 1) (.known (n + 1)))) (I .i64 ((done.length : Nat) : Int)) = some (Z (.ptr s.size done.length)) := by rw [aIndexSl_int (j := done.length) rfl (by omega), Nat.zero_add, Nat.mul_one]
      have hlen : (strS done ++ List.replicate (n + 1 - done.length) (S.str [])).length = n + 1 := by simp; omega
      have st := aStore1_of (σ := u) (i := s.size) (o := done.length) (x := .str (m.take i)) h7 (by omega)
      have hset : setRange (strS done ++ List.replicate (n + 1 - done.length) (S.str [])) done.length [.str (m.take i)] = strS (done ++ [m.take i]) ++ List.replicate (n + 1 - (done ++ [m.take i]).length) (.str []) := by
        rw [setRange_eq _ _ _ (by simp; omega)]
        have e1 : (strS done ++ List.replicate (n + 1 - done.length) (S.str [])).take done.length = strS done := by
          rw [List.take_append_of_le_length (by simp)]
          exact List.take_of_length_le (by simp)
        have e2 : (strS done ++ List.replicate (n + 1 - done.length) (S.str [])).drop (done.length + [S.str (m.take i)].length) = List.replicate (n + 1 - (done.length + 1)) (S.str []) := by
          rw [List.drop_append, List.drop_eq_nil_of_le (by simp), List.nil_append, List.drop_replicate]
          congr 1
          simp
          omega
        rw [e1, e2, strS_append, List.length_append]
        simp [strS]
      rw [hset] at st
      have e := hix m u
      rw [k1] at e
      refine ⟨[Z (.str (m.drop (i + 1))), Z (.str [c]), I .i64 0, I .i64 (n : Nat), Z (.sl s.size 0 (n + 1) (.known (n + 1))), I .i64 ((done.length + 1 : Nat) : Int)], u.set s.size (.cells true (strS (done ++ [m.take i]) ++ List.replicate (n + 1 - (done ++ [m.take i]).length) (.str []))), q - 1, ?_, by omega, m.drop (i + 1), done ++ [m.take i], by simp; omega, by simp, St.wf_set h1 (by omega) _, by simpa using h2, fun b hb => by rw [St.get_set_ne _ _ (by omega)]; exact h3 b hb, by rw [← h4, k2]; simp, by omega, by simp; omega, St.get_set_same _ _ _⟩
      unfold f218_l1
      generalize ((i + 1 : Nat) : Int) = I1 at w1 p2
      generalize ((i : Nat) : Int) = I0 at c1 w0 w1 p1 e
      generalize ((done.length + 1 : Nat) : Int) = D1 at w2 ⊢
      generalize ((done.length : Nat) : Int) = D0 at c0 w2 ix ⊢
      simp [c0, e, c1, w0, w1, p1, ix, st, p2, w2]) 8192 n [Z (.str l), Z (.str [c]), I .i64 0, I .i64 (n : Nat), Z (.sl s.size 0 (n + 1) (.known (n + 1))), I .i64 0] (s.push (.cells true (List.replicate (n + 1) (.str [])))) ⟨l, [], by simp, rfl, St.wf_push wf _, by simp, fun b hb => St.get_push_ne _ _ (by omega), by simp, hn.symm, Nat.le_refl _, by simp [strS]⟩ (by omega)
  exact ⟨m, done, τ, lp, q1, q2, q3, q4, q5, q6⟩

theorem split_run (d : Nat) (wf : s.wf) (hl : l.length ≤ 8000) : ∃ x t, R (d + 3) 179 [Z (.str l), Z (.str [c])] s = some (Z x, t) ∧ FT s t x (splitB c l) := by
  obtain ⟨m, done, τ, lp, q1, q2, q3, q4, q5, q6⟩ := splitLoop (c := c) (R (d + 1)) (fun l u => index_run d) hl wf
  have hnl := cntB_le c l
  have hcnt := count_run (s := s) (l := l) (c := c) d
  have key : R (d + 2) 218 [Z (.str l), Z (.str [c]), I .i64 0, I .i64 (-1)] s = some (Z (.sl s.size 0 (cntB c l + 1) (.known (cntB c l + 1))), τ.set s.size (.cells true (strS (splitB c l)))) := by
    rw [f218_run]
    unfold f218
    obtain ⟨n, hn⟩ : ∃ n, n = cntB c l := ⟨_, rfl⟩
    rw [← hn] at hnl lp q5 hcnt ⊢
    have w1 : IntKind.i64.wrap ((n : Int) + 1) = ((n + 1 : Nat) : Int) := by rw [wrap_in _ (by omega) (by omega)]; omega
    have w2 : IntKind.i64.wrap ((l.length : Int) + 1) = ((l.length + 1 : Nat) : Int) := by rw [wrap_in _ (by omega) (by omega)]; omega
    have hmin : min ((n + 1 : Nat) : Int) ((l.length + 1 : Nat) : Int) = ((n + 1 : Nat) : Int) := by omega
    have w3 : IntKind.i64.wrap (((n + 1 : Nat) : Int) - 1) = (n : Int) := by rw [wrap_in _ (by omega) (by omega)]; omega
    have nw : aNew s (nMake 1 16 [.str []] (I .i64 ((n + 1 : Nat) : Int)) (I .i64 ((n + 1 : Nat) : Int))) = some (Z (.sl s.size 0 (n + 1) (.known (n + 1))), s.push (.cells true (List.replicate (n + 1) (.str [])))) := by
      have h1 : [S.str []].length = 1 ∧ (0 : Int) ≤ ((n + 1 : Nat) : Int) ∧ ((n + 1 : Nat) : Int) ≤ ((n + 1 : Nat) : Int) ∧ ((n + 1 : Nat) : Int) ≤ 2 ^ 62 ∧ ((16 : Nat) : Int) * ((n + 1 : Nat) : Int) ≤ 2 ^ 48 := ⟨rfl, by omega, by omega, by omega, by omega⟩
      simp only [aNew, nMake, if_pos h1, Int.toNat_natCast]
      have hz : ∀ k, zeros k [S.str []] = List.replicate k (.str []) := by
        intro k
        simp [zeros]
      rw [hz]
    have ix : aIndexSl 1 (Z (.sl s.size 0 (n + 1) (.known (n + 1)))) (I .i64 (n : Int)) = some (Z (.ptr s.size n)) := by rw [aIndexSl_int (j := n) rfl (by omega), Nat.zero_add, Nat.mul_one]
    have st := aStore1_of (σ := τ) (i := s.size) (o := n) (x := .str m) q6 (by simp; omega)
    have hset : setRange (strS done ++ [S.str []]) n [.str m] = strS (splitB c l) := by
      rw [setRange_eq _ _ _ (by simp; omega), ← q4, strS_append]
      have e1 : (strS done ++ [S.str []]).take n = strS done := by
        rw [List.take_append_of_le_length (by simp; omega)]
        exact List.take_of_length_le (by simp; omega)
      have e2 : (strS done ++ [S.str []]).drop (n + [S.str m].length) = [] := List.drop_eq_nil_of_le (by simp; omega)
      rw [e1, e2]
      simp [strS]
    rw [hset] at st
    have pc : aPieceSl 1 (Z (.sl s.size 0 (n + 1) (.known (n + 1)))) none (some (I .i64 ((n + 1 : Nat) : Int))) none = some (Z (.sl s.size 0 (n + 1) (.known (n + 1)))) := by
      unfold aPieceSl
      dsimp only
      rw [aBounds_hi (Nat.le_refl _)]
      simp
    have cc : ¬ [c] = ([] : Bs) := by simp
    generalize ((n + 1 : Nat) : Int) = N1 at w1 hmin w3 nw pc
    generalize ((l.length + 1 : Nat) : Int) = L1 at w2 hmin
    simp [hcnt, w1, w2, hmin, nw, w3, lp, ix, st, pc, cc]
  refine ⟨_, _, ?_, ⟨⟨St.wf_set q1 (by omega) _, by simp; omega, fun b hb => by rw [St.get_set_ne _ _ (by omega)]; exact q3 b hb⟩, ⟨by simp, .inr (.inr ⟨s.size, strS (splitB c l), .known (cntB c l + 1), by rw [splitB_len], .inr (by rw [splitB_len]), St.get_set_same _ _ _, by simp, List.take_of_length_le (by simp)⟩)⟩, fun b hb => by cases hb; exact ⟨Nat.le_refl _, by simp; omega⟩⟩⟩
  rw [f179_run]
  unfold f179
  simp [key]

def ixT (v : Bs) : List Bs → Nat → Int
  | [], _ => -1
  | w :: r, k => if v = w then (k : Int) else ixT v r (k + 1)

theorem ixT_contains (v : Bs) : ∀ (l : List Bs) (k : Nat), (0 ≤ ixT v l k) ↔ v ∈ l
  | [], k => by simp [ixT]
  | w :: r, k => by
    unfold ixT
    by_cases h : v = w
    · simp [h]
    · rw [if_neg h, ixT_contains v r (k + 1)]
      simp [h]

theorem ixT_range (v : Bs) : ∀ (l : List Bs) (k : Nat), ixT v l k = -1 ∨ ∃ j, j < l.length ∧ ixT v l k = (k + j : Nat) ∧ l[j]? = some v
  | [], k => .inl rfl
  | w :: r, k => by
    unfold ixT
    by_cases h : v = w
    · exact .inr ⟨0, by simp, by rw [if_pos h]; rfl, by simp [h]⟩
    · rw [if_neg h]
      rcases ixT_range v r (k + 1) with e | ⟨j, h1, h2, h3⟩
      · exact .inl e
      · exact .inr ⟨j + 1, by simp; omega, by rw [h2]; omega, by simpa using h3⟩

theorem ixT_drop (v : Bs) (l : List Bs) (k : Nat) (hk : k ≤ l.length) (hn : ∀ j w, j < k → l[j]? = some w → v ≠ w) : ixT v l 0 = ixT v (l.drop k) k := by
  induction k with
  | zero => rfl
  | succ k ih =>
    rw [ih (by omega) fun j w hj => hn j w (by omega)]
    have hc : l.drop k = l[k] :: l.drop (k + 1) := List.drop_eq_getElem_cons (by omega)
    rw [hc]
    show (if v = l[k] then _ else _) = _
    rw [if_neg (hn k l[k] (by omega) (List.getElem?_eq_getElem (by omega)))]

theorem indexT_run (d : Nat) {ws : List Bs} {v : Bs} (h : RT s x ws) (hl : ws.length ≤ 8000) : R (d + 1) 224 [Z x, Z (.str v)] s = some (I .i64 (ixT v ws 0), s) := by
  rw [f224_run]
  unfold f224
  have hlen := h.lens
  obtain ⟨j, τ, lp, hj, hτ⟩ := loops_inv (f := f224_l1 (R d) 8192) (fun q w u => ∃ k : Nat, q + k = ws.length ∧ w = [Z x, Z (.str v), I .i64 ws.length, I .i64 k] ∧ u = s ∧ ∀ j w, j < k → ws[j]? = some w → v ≠ w)
    (fun j u => (j = .exit 0 [] ∧ ixT v ws 0 = -1 ∨ j = .ret (I .i64 (ixT v ws 0))) ∧ u = s) (by
    rintro q w u ⟨k, hk, rfl, rfl, hn⟩
    have hd := ixT_drop v ws k (by omega) hn
    by_cases hkl : k < ws.length
    · have hc : ws[k]? = some ws[k] := List.getElem?_eq_getElem hkl
      have hdr : ws.drop k = ws[k] :: ws.drop (k + 1) := List.drop_eq_getElem_cons hkl
      obtain ⟨p, ix, ld⟩ := RT.atT h (n := (k : Int)) rfl hc
      have c0 : (k : Int) < (ws.length : Int) := by omega
      have w1 : IntKind.i64.wrap ((k : Int) + 1) = ((k + 1 : Nat) : Int) := by rw [wrap_in _ (by omega) (by omega)]; omega
      by_cases he : v = ws[k]
      · right
        have hx : ixT v ws 0 = k := by rw [hd, hdr]; show (if v = ws[k] then _ else _) = _; rw [if_pos he]
        refine ⟨.ret (I .i64 (ixT v ws 0)), u, ?_, (fun v hv => by cases hv), .inr rfl, rfl⟩
        unfold f224_l1
        rw [hx]
        simp [c0, ix, ld, ← he]
      · left
        refine ⟨[Z x, Z (.str v), I .i64 ws.length, I .i64 ((k + 1 : Nat) : Int)], u, q - 1, ?_, by omega, k + 1, by omega, rfl, rfl, fun j w hj hw => ?_⟩
        · unfold f224_l1
          generalize ((k + 1 : Nat) : Int) = K1 at w1 ⊢
          simp [c0, ix, ld, he, w1]
        · by_cases hjk : j = k
          · subst hjk; rw [hc] at hw; cases hw; exact he
          · exact hn j w (by omega) hw
    · right
      have hk' : k = ws.length := by omega
      have c0 : ¬ (k : Int) < (ws.length : Int) := by omega
      refine ⟨.exit 0 [], u, ?_, (fun v hv => by cases hv), .inl ⟨rfl, ?_⟩, rfl⟩
      · unfold f224_l1
        simp [c0]
      · rw [hd, hk', List.drop_length]; rfl) 8192 ws.length [Z x, Z (.str v), I .i64 ws.length, I .i64 0] s ⟨0, rfl, rfl, rfl, fun j w hj => by omega⟩ (by omega)
  subst hτ
  rcases hj with ⟨rfl, he⟩ | rfl
  · rw [he]
    simp [hlen, lp]
  · simp [hlen, lp]

theorem containsT_run (d : Nat) {ws : List Bs} {v : Bs} (h : RT s x ws) (hl : ws.length ≤ 8000) : R (d + 2) 183 [Z x, Z (.str v)] s = some (B (decide (v ∈ ws)), s) := by
  rw [f183_run]
  unfold f183
  have e := indexT_run (v := v) d h hl
  have : decide (0 ≤ ixT v ws 0) = decide (v ∈ ws) := decide_eq_decide.2 (ixT_contains v ws 0)
  simp [e, this]
end
end Go.Proofs.YtbohejffelipoaaGreatDoor

