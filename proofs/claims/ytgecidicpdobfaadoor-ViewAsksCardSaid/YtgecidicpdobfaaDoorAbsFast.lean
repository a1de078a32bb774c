/-
  The same runs with what the temporaries hold as a function: quick to reduce. By equations, nothing new.
-/
import Derived.Test.YtgecidicpdobfaaDoorAbsTop
namespace Go.Abs.F
open Go Go.Abs

abbrev Env := Nat → T

def evF (ρ : Env) : Operand → T
  | .tmp t => ρ t
  | .const v => match absV v with
    | some x => .v x
    | none => .any
  | .func f => .v (.s (.clo f []))
  | .global _ => .any

def updF (ρ : Env) (d : Nat) (t : T) : Env := fun i => match Nat.beq i d with
  | true => t
  | false => ρ i

def putF (n : Nat) (ρ : Env) (dst : Option Tmp) (t : T) : Env := match dst with
  | some d => match Nat.blt d n with
    | true => updF ρ d t
    | false => ρ
  | none => ρ

def gd (t : T) (want : Bool) : Option Bool := match t with
  | .any => none
  | .v (.s (.bool b)) => some (b == want)
  | _ => some false

def wantF (ops : List Oper) (ρ : Env) (o : Oper) : Option Bool := match o.guard with
  | none => some true
  | some (j, want) => match ops[j]? with
    | none => some false
    | some oj => match oj.dst with
      | none => some false
      | some d => gd (ρ d) want

def asB (c : T) : Option Bool := match c with
  | .v (.s (.bool b)) => some b
  | _ => none

/-- How an operation is done; a plain move on its own. -/
inductive KF where
  | M (x : Operand) | P | L | A | W

def kf : Abs.K → KF
  | .P => .P
  | .L => .L
  | .A => .A
  | .W => .W

def kindF (P : Program) (o : Oper) : KF :=
  match o.guard, o.op with
  | none, .move x => .M x
  | none, .assign x => .M x
  | _, op => kf (kindOf P op)

noncomputable def bd {α R : Type} (x : Option α) (K : α → Option R) : Option R := Option.rec none K x
noncomputable def bd2 {R : Type} (x : Option (T × St)) (K : T → St → Option R) : Option R := Option.rec none (fun p => Prod.rec K p) x
noncomputable def ck {R : Type} (b : Bool) (x : Option R) : Option R := Bool.rec none x b
noncomputable def br {R : Type} (c : T) (a b : Option R) : Option R := Option.rec none (fun v => Bool.rec b a v) (asB c)

noncomputable def stepF {R : Type} (P : Program) (callf : CallF) (n : Nat) (ops : List Oper) (o : Oper) (ρ : Env) (σ : St) (K : Env → St → Option R) : Option R :=
  KF.rec (fun x => K (putF n ρ o.dst (evF ρ x)) σ)
    (bd (gT (wantF ops ρ o) (opP P o.op (evF ρ))) fun t => K (putF n ρ o.dst t) σ)
    (bd (gT (wantF ops ρ o) (opL P o.op (evF ρ) σ.get)) fun t => K (putF n ρ o.dst t) σ)
    (bd2 (gS (wantF ops ρ o) σ (aNew σ (opA P o.op (evF ρ)))) fun t τ => K (putF n ρ o.dst t) τ)
    (bd2 (gS (wantF ops ρ o) σ (opWC P callf o.op (evF ρ) σ)) fun t τ => K (putF n ρ o.dst t) τ)
    (kindF P o)

noncomputable def runF {R : Type} (P : Program) (callf : CallF) (n : Nat) (ops : List Oper) (l : List Oper) : Env → St → (Env → St → Option R) → Option R :=
  List.rec (fun ρ σ K => K ρ σ) (fun o _ ih ρ σ K => stepF P callf n ops o ρ σ fun ρ' σ' => ih ρ' σ' K) l

abbrev HistF := List (Env × St)
def HistF.at (h : HistF) (k : Nat) : Env × St := h.getD k ((fun _ => .any), St.empty)

def aBlksF (P : Program) (ops : List Oper) (h : HistF) : List (Oper × Nat) → List (Nat × Nat × Blk)
  | [] => []
  | (o, k) :: r => match kindOf P o.op with
    | .A => match wantF ops (h.at k).1 o with
      | some true => match opA P o.op (evF (h.at k).1) with
        | some (b, _) => (k, (h.at k).2.size, b) :: aBlksF P ops h r
        | none => aBlksF P ops h r
      | _ => aBlksF P ops h r
    | _ => aBlksF P ops h r

def chiF (P : Program) (ops : List Oper) (h : HistF) (p : Nat) : Mem := overlay p (h.at p).2.get (aBlksF P ops h ops.zipIdx)

def wq (g : Option Bool) (b : Bool) : Bool := match g with
  | some true => b
  | _ => true

def winF (P : Program) (ops : List Oper) (ms : List Nat) (h : HistF) : Bool :=
  ops.zipIdx.all fun (o, k) => match kindOf P o.op with
    | .L => (0 :: (wpos P ops.zipIdx).map (· + 1)).all fun p => !(okAt (wpos P ops.zipIdx) ms k p) || (Nat.beq p (canon (wpos P ops.zipIdx) k) ||
        wq (wantF ops (h.at k).1 o) (decide (opL P o.op (evF (h.at k).1) (chiF P ops h p) = opL P o.op (evF (h.at k).1) (h.at k).2.get)))
    | _ => true

noncomputable def runDF {R : Type} (P : Program) (callf : CallF) (n : Nat) (ops : List Oper) (ms : List Nat) (l : List Oper) : HistF → Env → St → (Env → St → Option R) → Option R :=
  List.rec (fun h ρ σ K => Bool.rec none (K ρ σ) (winF P ops ms (h ++ [(ρ, σ)])))
    (fun o _ ih h ρ σ K => stepF P callf n ops o ρ σ fun ρ' σ' => ih (h ++ [(ρ, σ)]) ρ' σ' K) l

def placeF (vals : List T) : List Nat → Nat → Env
  | [], _ => fun _ => .any
  | k :: ks, j => fun i => match Nat.beq k i with
    | true => vals.getD j .any
    | false => placeF vals ks (j + 1) i

def projF (keep : List Nat) (ρ : Env) : List T := keep.map ρ

inductive OutF where
  | normal (ρ : Env)
  | exit (id : Nat) (vals : List T)
  | ret (r : T)

noncomputable def jn {R : Type} (x : Option (JO × St)) (f : List T → St → Option R) (g : Nat → List T → St → Option R) (h : T → St → Option R) : Option R :=
  Option.rec none (fun p => Prod.rec (fun j τ => JO.rec (fun v => f v τ) (fun i v => g i v τ) (fun r => h r τ) j) p) x

noncomputable def fromF {R : Type} (keep : List Nat) (K : OutF → St → Option R) (x : Option (JO × St)) : Option R :=
  jn x (fun v τ => K (.normal (placeF v keep 0)) τ) (fun i v τ => K (.exit i v) τ) (fun r τ => K (.ret r) τ)

noncomputable def toF (keep : List Nat) (o : OutF) (τ : St) : Option (JO × St) :=
  OutF.rec (fun ρ => some (.normal (projF keep ρ), τ)) (fun i v => some (.exit i v, τ)) (fun r => some (.ret r, τ)) o

def resF (P : Program) (ρ : Env) (g : Mem) : List ResultVar → Option (List T)
  | [] => some []
  | .tmp t :: r => match resF P ρ g r with
    | some l => some (ρ t :: l)
    | none => none
  | .cell a t :: r => match aggOf P t with
    | some true => match szOf P t with
      | some n => match aLoadN n (ρ a) g, resF P ρ g r with
        | some x, some l => some (x :: l)
        | _, _ => none
      | none => none
    | some false => match aLoad1 (ρ a) g, resF P ρ g r with
      | some x, some l => some (x :: l)
      | _, _ => none
    | none => none

abbrev ExecT : Type 1 := ∀ (R : Type), (Nat → Nat) → Nat → Env → St → (OutF → St → Option R) → Option R

noncomputable def execF (P : Program) (callf : CallF) (rets : List ResultVar) (n N : Nat) (c : Code) : ExecT :=
  Code.rec (motive := fun _ => ExecT)
    (fun _ _ _ ρ σ K => K (.normal ρ) σ)
    (fun _ ops draw _ _ _ ρ σ K => Bool.rec
      (runF P callf n ops.toList ops.toList ρ σ fun ρ' σ' => K (.normal ρ') σ')
      (Bool.rec none (runDF P callf n ops.toList (masks ops.toList) ops.toList [] ρ σ fun ρ' σ' => K (.normal ρ') σ') (P.follows .mixedOrders && staticOk P ops.toList (masks ops.toList)))
      draw)
    (fun _ b ihx ihy R ctx lo ρ σ K => ihx R ctx (live_ (resSlots rets) b ctx lo) ρ σ fun o τ => OutF.rec (fun ρ' => ihy R ctx lo ρ' τ K) (fun i v => K (.exit i v) τ) (fun r => K (.ret r) τ) o)
    (fun c a b ihx ihy R ctx lo ρ σ K => Bool.rec
      (br (evF ρ c) (ihx R ctx lo ρ σ K) (ihy R ctx lo ρ σ K))
      (fromF (keepOf n lo) K (br (evF ρ c) (ihx _ ctx lo ρ σ (toF (keepOf n lo))) (ihy _ ctx lo ρ σ (toF (keepOf n lo)))))
      (ends a && ends b))
    (fun id _ ih _ ctx lo ρ σ K => fromF (keepOf n lo) K (ih _ (fun i => if i = id then lo else ctx i) lo ρ σ fun o τ =>
      OutF.rec (fun ρ' => some (.normal (projF (keepOf n lo) ρ'), τ)) (fun i v => if i = id then some (.normal v, τ) else some (.exit i v, τ)) (fun r => some (.ret r, τ)) o))
    (fun c ih _ ctx lo ρ σ K => fromF [] K (loops (fun vals τ => ih _ ctx (live_ (resSlots rets) (.loop c) ctx lo) (placeF vals (keepOf n (live_ (resSlots rets) (.loop c) ctx lo)) 0) τ
      (toF (keepOf n (live_ (resSlots rets) (.loop c) ctx lo)))) N (projF (keepOf n (live_ (resSlots rets) (.loop c) ctx lo)) ρ) σ))
    (fun _ _ _ _ _ _ _ _ _ _ _ _ => none)
    (fun id _ ctx _ ρ σ K => K (.exit id (projF (keepOf n (ctx id)) ρ)) σ)
    (fun _ ih R ctx lo ρ σ K => ih R ctx lo ρ σ K)
    (fun _ _ _ _ ρ σ K => K (.normal ρ) σ)
    (fun _ _ _ _ _ _ _ => none)
    (fun _ _ _ ρ σ K => bd (resF P ρ σ.get rets) fun l => bd (retT l) fun r => K (.ret r) σ)
    (fun _ _ _ _ _ _ _ => none) c

/-- A function's arguments; the other temporaries hold nothing yet. -/
def argF (n : Nat) : List T → Nat → T
  | [], i => match Nat.blt i n with
    | true => tt
    | false => .any
  | t :: r, 0 => match n with
    | 0 => .any
    | _ + 1 => t
  | _ :: r, i + 1 => argF (n - 1) r i

/-- A function's text run. -/
noncomputable def bodyC (P : Program) (callf : CallF) (N : Nat) (fn : Func) (args : List T) (σ : St) : Option (T × St) :=
  execF P callf fn.results.toList fn.ntmps N (fn.body.getD .skip) _ (fun _ => 0) 0 (argF fn.ntmps args) σ fun o τ =>
    OutF.rec (fun ρ => bd (resF P ρ τ.get fn.results.toList) fun l => bd (retT l) fun r => some (r, τ)) (fun _ _ => none) (fun r => some (r, τ)) o
end Go.Abs.F
