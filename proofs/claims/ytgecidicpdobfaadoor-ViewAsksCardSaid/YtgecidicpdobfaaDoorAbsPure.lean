/-
  Operations that read temporaries alone.
-/
import Derived.Test.YtgecidicpdobfaaDoorAbsMem
import Derived.WalkKit
namespace Go.Abs
open Go

abbrev B (b : Bool) : T := .v (.s (.bool b))
abbrev I (k : IntKind) (n : Int) : T := .v (.s (.int k n))
abbrev Z (x : S) : T := .v (.s x)

/-- A constant. -/
def absS : Value → Option S
  | .bool b => some (.bool b)
  | .int k n => some (.int k n)
  | .string s => some (.str s.data.toList)
  | .pointer none => some .nilp
  | .slice none 0 0 => some .nils
  | .map none => some .nilm
  | .nilFunc => some .nilf
  | .nilIface => some .nili
  | _ => none

def absAll : List Value → Option (List S)
  | [] => some []
  | v :: r => match absS v, absAll r with
    | some x, some l => some (x :: l)
    | _, _ => none

def absV : Value → Option V
  | .agg cs => (absAll cs.toList).map .agg
  | v => (absS v).map .s

theorem absS_rel {ι : Inj} {v : Value} {x : S} (h : absS v = some x) : SRel ι x v := by
  unfold absS at h
  split at h <;> first | (cases h; done) | (cases h; first | rfl | exact ⟨_, rfl, rfl⟩)

theorem absAll_rel {ι : Inj} : ∀ {l : List Value} {m : List S}, absAll l = some m → All2 (SRel ι) m l := by
  intro l
  induction l with
  | nil => intro m h; cases h; exact .nil
  | cons v r ih =>
    intro m h
    simp only [absAll] at h
    split at h
    · rename_i x l' h1 h2; cases h; exact .cons (absS_rel h1) (ih h2)
    · cases h

theorem absV_rel {ι : Inj} {v : Value} {x : V} (h : absV v = some x) : VRel ι x v := by
  unfold absV at h
  split at h
  · rename_i cs
    cases hc : absAll cs.toList with
    | none => rw [hc] at h; cases h
    | some l => rw [hc] at h; cases h; exact ⟨cs.toList, by simp, absAll_rel hc⟩
  · cases hc : absS v with
    | none => rw [hc] at h; cases h
    | some l => rw [hc] at h; cases h; exact absS_rel hc

/-- An operand, by what the temporaries hold. -/
def evO (env : List T) : Operand → T
  | .tmp t => env.getD t .any
  | .const v => match absV v with
    | some x => .v x
    | none => .any
  | .func f => .v (.s (.clo f []))
  | .global _ => .any

def EnvRel (ι : Inj) (env : List T) (tmps : Array Value) : Prop := ∀ t, TRel ι (env.getD t .any) (tmps.getD t undef)

theorem EnvRel.mono {ι κ : Inj} (h : ι.le κ) {env : List T} {tmps : Array Value} (k : EnvRel ι env tmps) : EnvRel κ env tmps := fun t => (k t).mono h

theorem evO_rel {ι : Inj} {env : List T} {a : Act} (h : EnvRel ι env a.tmps) (x : Operand) : TRel ι (evO env x) (a.eval x) := by
  cases x with
  | tmp t => exact h t
  | const v =>
    simp only [evO, Act.eval]
    cases hv : absV v with
    | none => trivial
    | some x => exact absV_rel hv
  | func f => exact ⟨[], rfl, .nil⟩
  | global g => trivial

/-! ### what the tables say of a type -/
def szOf (P : Program) (t : TypeId) : Option Nat := (P.info? t).map (·.size)
def byOf (P : Program) (t : TypeId) : Option Nat := (P.info? t).map (·.bytes)
def zeroOf (P : Program) (t : TypeId) : Option V := match (P.info? t).bind (·.zero) with
  | some v => absV v
  | none => none
def aggOf (P : Program) (t : TypeId) : Option Bool := match P.underlying t with
  | some (.struct _) => some true
  | some (.array _ _) => some true
  | some _ => some false
  | none => none

section tables
variable {P : Program} {w : World} {t : TypeId}
theorem run_sz {n : Nat} (h : szOf P t = some n) : (sizeOf t).run P w = .ok n w := by
  unfold szOf at h
  cases hi : P.info? t with
  | none => rw [hi] at h; cases h
  | some i => rw [hi] at h; cases h; simp [sizeOf, typeInfo, run_bind, run_pure, program, Sem.run, hi]
theorem run_by {n : Nat} (h : byOf P t = some n) : ∃ i, (typeInfo t).run P w = .ok i w ∧ i.bytes = n := by
  unfold byOf at h
  cases hi : P.info? t with
  | none => rw [hi] at h; cases h
  | some i => rw [hi] at h; cases h; exact ⟨i, by simp [typeInfo, run_bind, run_pure, program, Sem.run, hi], rfl⟩
theorem run_zero {ι : Inj} {z : V} (h : zeroOf P t = some z) : ∃ v, (zeroValue t).run P w = .ok v w ∧ VRel ι z v := by
  unfold zeroOf at h
  cases hi : P.info? t with
  | none => rw [hi] at h; cases h
  | some i =>
    rw [hi] at h
    simp only [Option.bind_some] at h
    cases hz : i.zero with
    | none => rw [hz] at h; cases h
    | some v =>
      rw [hz] at h
      exact ⟨v, by simp [zeroValue, typeInfo, run_bind, run_pure, program, Sem.run, hi, hz], absV_rel h⟩
theorem run_und {d : TypeDesc} (h : P.underlying t = some d) : (underlying t).run P w = .ok d w := run_underlying h w
theorem run_agg {b : Bool} (h : aggOf P t = some b) : (isAgg t).run P w = .ok b w := by
  unfold aggOf at h
  cases hd : P.underlying t with
  | none => rw [hd] at h; cases h
  | some d => rw [hd] at h; cases d <;> cases h <;> simp [isAgg, run_bind, run_und hd, run_pure]
end tables

/-! ### numbers, strings -/
def aInt (op : BinOp) (k : IntKind) (a b : Int) : Option T :=
  match op with
  | .add => some (I k (k.wrap (a + b)))
  | .sub => some (I k (k.wrap (a - b)))
  | .mul => some (I k (k.wrap (a * b)))
  | .quo => if b = 0 then none else some (I k (k.wrap (a.tdiv b)))
  | .rem => if b = 0 then none else some (I k (a.tmod b))
  | .and => some (I k (k.wrap (BitVec.ofInt k.bits a &&& BitVec.ofInt k.bits b).toNat))
  | .or => some (I k (k.wrap (BitVec.ofInt k.bits a ||| BitVec.ofInt k.bits b).toNat))
  | .xor => some (I k (k.wrap (BitVec.ofInt k.bits a ^^^ BitVec.ofInt k.bits b).toNat))
  | .andNot => some (I k (k.wrap (BitVec.ofInt k.bits a &&& ~~~BitVec.ofInt k.bits b).toNat))
  | .eql => some (B (decide (a = b)))
  | .neq => some (B (!decide (a = b)))
  | .lss => some (B (decide (a < b)))
  | .leq => some (B (decide (a ≤ b)))
  | .gtr => some (B (decide (b < a)))
  | .geq => some (B (decide (b ≤ a)))
  | _ => none

def aShift (op : BinOp) (k : IntKind) (a b : Int) : Option T :=
  if b < 0 then none else
  match op with
  | .shl => some (I k (k.wrap (a * 2 ^ (min b.toNat k.bits))))
  | .shr => some (I k (a.fdiv (2 ^ (min b.toNat k.bits))))
  | _ => none

def aStr (op : BinOp) (a b : List UInt8) : Option T :=
  match op with
  | .add => if ((a.length + b.length : Nat) : Int) > IntKind.i64.max then none else some (Z (.str (a ++ b)))
  | .eql => some (B (decide (a = b)))
  | .neq => some (B (!decide (a = b)))
  | .lss => some (B (Op.bytesLess a b))
  | .leq => some (B (Op.bytesLess a b || decide (a = b)))
  | .gtr => some (B (!(Op.bytesLess a b || decide (a = b))))
  | .geq => some (B (!Op.bytesLess a b))
  | _ => none

def aBin (op : BinOp) (x y : T) : Option T :=
  match x, y with
  | .v (.s (.int k a)), .v (.s (.int k' b)) => match op with
    | .shl => aShift .shl k a b
    | .shr => aShift .shr k a b
    | op => if k = k' then aInt op k a b else none
  | .v (.s (.str a)), .v (.s (.str b)) => aStr op a b
  | _, _ => none

theorem beq_decide (a b : Int) : (a == b) = decide (a = b) := by
  by_cases h : a = b <;> simp [h]
theorem beq_decide_list (a b : List UInt8) : (a == b) = decide (a = b) := by
  by_cases h : a = b <;> simp [h]

theorem eqGuard_int {P : Program} {op : BinOp} {t : TypeId} {x y : Operand} {k : IntKind} {n : Int} {v : Value} : eqGuard op t x y (.int k n) v = pure () := eqGuard_at_int ..
theorem aInt_run {P : Program} {w : World} {op : BinOp} {t : TypeId} {k : IntKind} {a b : Int} {r : T} (hs : op ≠ .shl) (hs' : op ≠ .shr) (h : aInt op k a b = some r) :
    ∃ v, (Go.binOp op t (.int k a) (.int k b)).run P w = .ok v w ∧ ∀ ι, TRel ι r v := by
  have hd : ∀ (q : Int), (if b = 0 then none else some (I k q)) = some r → b ≠ 0 ∧ r = I k q := by
    intro q hq
    by_cases hb : b = 0
    · rw [if_pos hb] at hq; cases hq
    · rw [if_neg hb] at hq; cases hq; exact ⟨hb, rfl⟩
  cases op <;> simp only [aInt] at h
  case shl => exact (hs rfl).elim
  case shr => exact (hs' rfl).elim
  case quo =>
    obtain ⟨hb, rfl⟩ := hd _ h
    exact ⟨.int k (k.wrap (a.tdiv b)), by simp only [Go.binOp, ne_eq, not_true_eq_false, if_false, Op.intDiv, if_neg hb]; rfl, fun _ => rfl⟩
  case rem =>
    obtain ⟨hb, rfl⟩ := hd _ h
    exact ⟨.int k (a.tmod b), by simp only [Go.binOp, ne_eq, not_true_eq_false, if_false, Op.intDiv, if_neg hb]; rfl, fun _ => rfl⟩
  all_goals first
    | (cases h; done)
    | (cases h; exact ⟨_, by simp only [Go.binOp, ne_eq, not_true_eq_false, if_false, Op.intArith, Op.intBits, Op.intCmp]; rfl, fun _ => by
          first | rfl | (show Value.bool _ = Value.bool _; simp [bne])⟩)

theorem aShift_run {P : Program} {w : World} {op : BinOp} {t : TypeId} {k k' : IntKind} {a b : Int} {r : T} (hs : op = .shl ∨ op = .shr) (h : aShift op k a b = some r) :
    ∃ v, (Go.binOp op t (.int k a) (.int k' b)).run P w = .ok v w ∧ ∀ ι, TRel ι r v := by
  unfold aShift at h
  split at h
  · cases h
  · rename_i hb
    rcases hs with rfl | rfl
    · cases h
      refine ⟨.int k (k.wrap (a * 2 ^ (min b.toNat k.bits))), ?_, fun _ => rfl⟩
      show (Op.shift .shl k a k' b).run P w = _
      unfold Op.shift
      rw [if_neg hb]
      rfl
    · cases h
      refine ⟨.int k (a.fdiv (2 ^ (min b.toNat k.bits))), ?_, fun _ => rfl⟩
      show (Op.shift .shr k a k' b).run P w = _
      unfold Op.shift
      rw [if_neg hb]
      rfl

theorem size_data (s : ByteArray) : s.size = s.data.toList.length := by rw [Array.length_toList]; rfl

theorem aStr_run {P : Program} {w : World} {op : BinOp} {t : TypeId} {a b : ByteArray} {r : T} (h : aStr op a.data.toList b.data.toList = some r) :
    ∃ v, (Go.binOp op t (.string a) (.string b)).run P w = .ok v w ∧ ∀ ι, TRel ι r v := by
  cases op <;> simp only [aStr] at h <;>
    first
      | (cases h; done)
      | (split at h
         · cases h
         · rename_i hb
           cases h
           rw [← size_data, ← size_data] at hb
           refine ⟨.string (a ++ b), ?_, fun _ => ⟨a ++ b, rfl, by simp⟩⟩
           show (Op.stringOp .add a b).run P w = _
           unfold Op.stringOp
           show (if _ then _ else _ : Sem Value).run P w = _
           rw [if_neg hb]
           rfl)
      | (cases h; exact ⟨_, by simp only [Go.binOp, Op.stringOp]; rfl, fun _ => by
          show Value.bool _ = Value.bool _
          simp only [ByteArray.toList_eq, beq_decide_list]⟩)

theorem aBin_run {P : Program} {w : World} {ι : Inj} {op : BinOp} {t : TypeId} {x y : T} {u v : Value} {r : T} (hx : TRel ι x u) (hy : TRel ι y v) (h : aBin op x y = some r) (p q : Operand) :
    ∃ z, (do eqGuard op t p q u v; Go.binOp op t u v : Sem Value).run P w = .ok z w ∧ TRel ι r z := by
  unfold aBin at h
  split at h
  · rename_i k a k' b
    simp only [TRel, VRel, SRel] at hx hy
    subst hx hy
    have hg : eqGuard op t p q (.int k a) (.int k' b) = pure () := eqGuard_at_int ..
    rw [hg]
    simp only [run_bind, run_pure]
    split at h
    · obtain ⟨v, h1, h2⟩ := aShift_run (P := P) (w := w) (t := t) (k' := k') (.inl rfl) h
      exact ⟨v, h1, h2 ι⟩
    · obtain ⟨v, h1, h2⟩ := aShift_run (P := P) (w := w) (t := t) (k' := k') (.inr rfl) h
      exact ⟨v, h1, h2 ι⟩
    · rename_i hn1 hn2
      split at h
      · rename_i e; subst e
        obtain ⟨v, h1, h2⟩ := aInt_run (P := P) (w := w) (t := t) (fun e => hn1 (by rw [e])) (fun e => hn2 (by rw [e])) h
        exact ⟨v, h1, h2 ι⟩
      · cases h
  · rename_i a b
    obtain ⟨sa, rfl, rfl⟩ := hx
    obtain ⟨sb, rfl, rfl⟩ := hy
    have hg : eqGuard op t p q (.string sa) (.string sb) = pure () := eqGuard_at_string ..
    rw [hg]
    simp only [run_bind, run_pure]
    obtain ⟨v, h1, h2⟩ := aStr_run (P := P) (w := w) (t := t) h
    exact ⟨v, h1, h2 ι⟩
  · cases h
end Go.Abs
