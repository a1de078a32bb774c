/-
  Words for printed texts of functions: what a function computes, step by step.
-/
import Derived.Test.YtgecidicpdobfaaDoorAbsFast2
import Derived.KernelRfl
namespace Go.Abs.F
open Go Go.Abs

def eqB (k : EK) (x y : T) : Option T := match aEq k x y with | some b => some (B b) | none => none
def neB (k : EK) (x y : T) : Option T := match aEq k x y with | some b => some (B (!b)) | none => none

def look (k : KK) (ok : Bool) (z : V) (m q : T) (g : Mem) : Option T := if isKey k q then aLookup ok z m q g else none
def mset (k : KK) (m q x : T) (σ : St) : Option (T × St) := if isKey k q then aMapSet m q x σ else none
def mdel (k : KK) (m q : T) (σ : St) : Option (T × St) := if isKey k q then aDelete m q σ else none

abbrev New := Option (Blk × (Nat → T))
def nCells (l : List S) : New := some (.cells true l, fun n => Z (.ptr n 0))
def nBox (x : T) : New := match x with
  | .v y => some (.cells true y.cells, fun n => Z (.ptr n 0))
  | _ => none
def nSlice (len : Nat) (x : Option (List S)) : New := match x with
  | some l => some (.cells true l, fun k => Z (.sl k 0 len (.known len)))
  | none => none
def nMap : New := some (.map [], fun n => Z (.map n))
def nMapR (x : T) : New := match x with
  | .v (.s (.int _ _)) => some (.map [], fun n => Z (.map n))
  | _ => none
def nMake (n by_ : Nat) (z : List S) (l c : T) : New := match l, c with
  | .v (.s (.int _ l)), .v (.s (.int _ c)) => if z.length = n ∧ 0 ≤ l ∧ l ≤ c ∧ c ≤ 2 ^ 62 ∧ by_ * c ≤ 2 ^ 48 then
      some (.cells true (zeros c.toNat z), fun k => Z (.sl k 0 l.toNat (.known c.toNat)))
    else none
  | _, _ => none
def nBytes (x : T) : New := match x with
  | .v (.s (.str l)) => some (.cells true (strBytes l), fun k => Z (.sl k 0 l.length (.grown 1)))
  | _ => none

/-- A call of a function value. -/
def dyn (P : Program) (callf : CallF) (f : T) (args : List T) (σ : St) : Option (T × St) := match f with
  | .v (.s (.clo g caps)) => if callable P g then callf g (args ++ caps.map capT) σ else none
  | _ => none

def rT (t : T) (x : Option (List T)) : Option (List T) := match x with
  | some l => some (t :: l)
  | none => none
def rC (x : Option T) (y : Option (List T)) : Option (List T) := match x, y with
  | some x, some l => some (x :: l)
  | _, _ => none

/-- Calls of at most so many levels, run quickly. -/
noncomputable def runQ (P : Program) (N : Nat) (prim : CallF) : Nat → CallF
  | 0 => fun _ _ _ => none
  | d + 1 => fun f args σ => match prim f args σ with
    | some r => some r
    | none => match P.funcs[f]? with
      | none => none
      | some fn => match fn.body.isSome && Nat.ble args.length fn.ntmps with
        | true => bodyC P (runQ P N prim d) N fn args σ
        | false => none

theorem runQ_body {P : Program} {N : Nat} {prim : CallF} {d : Nat} {f : FuncId} {fn : Func} {args : List T} {σ : St} (hp : prim f args σ = none) (hfn : P.funcs[f]? = some fn)
    (hb : (fn.body.isSome && Nat.ble args.length fn.ntmps) = true) : runQ P N prim (d + 1) f args σ = bodyC P (runQ P N prim d) N fn args σ := by
  rw [runQ]
  simp only [hp, hfn, hb]

theorem runQ_some {P : Program} {N : Nat} {prim : CallF} {d : Nat} {f : FuncId} {args : List T} {σ : St} {r : T × St} (h : runQ P N prim (d + 1) f args σ = some r) :
    prim f args σ = some r ∨ body P (runQ P N prim d) N f args σ = some r := by
  simp only [runQ] at h
  split at h
  · rename_i q hq; cases h; exact .inl hq
  · split at h
    · cases h
    · rename_i fn hfn
      split at h
      · rename_i hb
        rw [Bool.and_eq_true] at hb
        exact .inr ((body_eq hfn hb.1 hb.2).trans h)
      · cases h

theorem runQ_sound {P : Program} {prim : CallF} (hp : CallSound P prim) (N : Nat) : ∀ d, CallSound P (runQ P N prim d) := by
  intro d
  induction d with
  | zero => exact ⟨(fun f ts σ t τ h => by cases h), (fun f ts σ t τ h => by cases h)⟩
  | succ d ih =>
    have hb := body_sound ih N
    constructor
    · intro f ts σ t τ h wf
      rcases runQ_some h with h | h
      · exact hp.wf _ _ _ _ _ h wf
      · exact hb.wf _ _ _ _ _ h wf
    · intro f ts σ t τ h wf
      rcases runQ_some h with h | h
      · exact hp.calls _ _ _ _ _ h wf
      · exact hb.calls _ _ _ _ _ h wf

def noPrim : CallF := fun _ _ _ => none

theorem plain_sound (P : Program) (N d : Nat) : CallSound P (runQ P N noPrim d) := runQ_sound noPrim_sound N d

/-- Did a run give this bool? -/
def gave (b : Bool) (x : Option (T × St)) : Bool := match x with
  | some (.v (.s (.bool c)), _) => c == b
  | _ => false

theorem gave_some {b : Bool} {x : Option (T × St)} (h : gave b x = true) : ∃ τ, x = some (B b, τ) := by
  unfold gave at h
  split at h
  · rename_i c τ
    have : c = b := by simpa using h
    subst this
    exact ⟨τ, rfl⟩
  · cases h
end Go.Abs.F
