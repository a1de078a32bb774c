/-
  Code: branches, loops, blocks; a function's body; calls of so many levels.
-/
import Derived.Test.YtgecidicpdobfaaDoorAbsDraw5
namespace Go.Abs
open Go

/-- How a piece of code ends. -/
inductive Out where
  | normal (env : List T)
  | exit (id : Nat) (vals : List T)
  | ret (r : T)

/-! ### which temporaries are read later (advice alone: what is not kept is forgotten) -/
def useO (s : Nat) : Operand → Nat
  | .tmp t => s ||| 2 ^ t
  | _ => s

def useL (s : Nat) (l : List Operand) : Nat := l.foldl useO s

def clear (s t : Nat) : Nat := match s.testBit t with
  | true => s ^^^ 2 ^ t
  | false => s

def liveOps (ops : List Oper) : List Oper → Nat → Nat
  | [], s => s
  | o :: r, s =>
    let s := liveOps ops r s
    let s := match o.dst with | some d => clear s d | none => s
    let s := useL s o.op.operands.toList
    (guardSlot ops o).foldl (fun s t => s ||| 2 ^ t) s

def live_ (rets : Nat) : Code → (Nat → Nat) → Nat → Nat
  | .region _ ops _, _, lo => liveOps ops.toList ops.toList lo
  | .seq a b, ctx, lo => live_ rets a ctx (live_ rets b ctx lo)
  | .cond c a b, ctx, lo => useO (live_ rets a ctx lo ||| live_ rets b ctx lo) c
  | .block id c, ctx, lo => live_ rets c (fun i => if i = id then lo else ctx i) lo
  | .loop c, ctx, _ => live_ rets c ctx (live_ rets c ctx (live_ rets c ctx 0))
  | .scope c, ctx, lo => live_ rets c ctx lo
  | .exit id, ctx, _ => ctx id
  | .ret, _, _ => rets
  | _, _, lo => lo

def resSlots (rs : List ResultVar) : Nat := rs.foldl (fun s r => match r with | .tmp t => s ||| 2 ^ t | .cell a _ => s ||| 2 ^ a) 0

def ends : Code → Bool
  | .seq a b => ends a && ends b
  | .cond _ a b => ends a || ends b
  | .loop _ => false
  | .exit _ => false
  | .ret => false
  | .scope c => ends c
  | _ => true

def keepOf (n s : Nat) : List Nat := (List.range n).filter fun i => s.testBit i

def proj (keep : List Nat) (env : List T) : List T := keep.map fun i => env.getD i .any

def placeGo (vals : List T) : Nat → Nat → List Nat → Nat → List T
  | 0, _, _, _ => []
  | n + 1, i, [], j => .any :: placeGo vals n (i + 1) [] j
  | n + 1, i, k :: ks, j => match Nat.beq k i with
    | true => vals.getD j .any :: placeGo vals n (i + 1) ks (j + 1)
    | false => .any :: placeGo vals n (i + 1) (k :: ks) j

def place (n : Nat) (keep : List Nat) (vals : List T) : List T := placeGo vals n 0 keep 0

/-- A piece's end as a datum. -/
inductive JO where
  | normal (vals : List T)
  | exit (id : Nat) (vals : List T)
  | ret (r : T)

def loops (f : List T → St → Option (JO × St)) : Nat → List T → St → Option (JO × St)
  | 0, _, _ => none
  | n + 1, vals, σ => match f vals σ with
    | none => none
    | some (.normal vals', τ) => loops f n vals' τ
    | some (.exit i v, τ) => some (.exit i v, τ)
    | some (.ret r, τ) => some (.ret r, τ)

def toJ (keep : List Nat) (o : Out) (τ : St) : Option (JO × St) :=
  match o with
  | .normal e => some (.normal (proj keep e), τ)
  | .exit i v => some (.exit i v, τ)
  | .ret r => some (.ret r, τ)

def fromJ {R : Type} (n : Nat) (keep : List Nat) (K : Out → St → Option R) (x : Option (JO × St)) : Option R :=
  match x with
  | none => none
  | some (.normal v, τ) => K (.normal (place n keep v)) τ
  | some (.exit i v, τ) => K (.exit i v) τ
  | some (.ret r, τ) => K (.ret r) τ

def cif {R : Type} (c : T) (a b : Option R) : Option R :=
  match c with
  | .v (.s (.bool true)) => a
  | .v (.s (.bool false)) => b
  | _ => none

/-- An operation under its guard: not wanted, it gives nothing. -/
def gT (g : Option Bool) (x : Option T) : Option T := match g with
  | none => none
  | some false => some tt
  | some true => x
def gS (g : Option Bool) (σ : St) (x : Option (T × St)) : Option (T × St) := match g with
  | none => none
  | some false => some (tt, σ)
  | some true => x

def aNew (σ : St) (x : Option (Blk × (Nat → T))) : Option (T × St) := match x with
  | some (b, f) => some (f σ.size, σ.push b)
  | none => none

def thn {α R : Type} (x : Option α) (K : α → Option R) : Option R := match x with
  | some a => K a
  | none => none

def thn2 {R : Type} (x : Option (T × St)) (K : T → St → Option R) : Option R := match x with
  | some (t, τ) => K t τ
  | none => none

/-- One operation, and then. -/
def stepK {R : Type} (P : Program) (callf : CallF) (ops : List Oper) (o : Oper) (s : List T × St) (K : List T × St → Option R) : Option R :=
  match kindOf P o.op with
  | .P => thn (gT (wantedA ops s.1 o) (opP P o.op (evO s.1))) fun t => K (putE s.1 o.dst t, s.2)
  | .L => thn (gT (wantedA ops s.1 o) (opL P o.op (evO s.1) s.2.get)) fun t => K (putE s.1 o.dst t, s.2)
  | .A => thn2 (gS (wantedA ops s.1 o) s.2 (aNew s.2 (opA P o.op (evO s.1)))) fun t τ => K (putE s.1 o.dst t, τ)
  | .W => thn2 (gS (wantedA ops s.1 o) s.2 (opWC P callf o.op (evO s.1) s.2)) fun t τ => K (putE s.1 o.dst t, τ)

theorem stepK_some {R : Type} {P : Program} {callf : CallF} {ops : List Oper} {o : Oper} {s : List T × St} {K : List T × St → Option R} {r : R} (h : stepK P callf ops o s K = some r) :
    ∃ s', step P callf ops o s = some s' ∧ K s' = some r := by
  have hT : ∀ (g : Option Bool) (x : Option T) (K : T → Option R), thn (gT g x) K = some r → ∃ t, K t = some r ∧ ((g = some false ∧ t = tt) ∨ (g = some true ∧ x = some t)) := by
    intro g x K h
    cases g with
    | none => cases h
    | some b => cases b with
      | false => exact ⟨_, h, .inl ⟨rfl, rfl⟩⟩
      | true => cases x with
        | none => cases h
        | some t => exact ⟨t, h, .inr ⟨rfl, rfl⟩⟩
  have hS : ∀ (g : Option Bool) (σ : St) (x : Option (T × St)) (K : T → St → Option R), thn2 (gS g σ x) K = some r → ∃ t τ, K t τ = some r ∧ ((g = some false ∧ t = tt ∧ τ = σ) ∨ (g = some true ∧ x = some (t, τ))) := by
    intro g σ x K h
    cases g with
    | none => cases h
    | some b => cases b with
      | false => exact ⟨_, _, h, .inl ⟨rfl, rfl, rfl⟩⟩
      | true => cases x with
        | none => cases h
        | some t => exact ⟨t.1, t.2, h, .inr ⟨rfl, rfl⟩⟩
  unfold stepK at h
  unfold step
  split at h
  · rename_i hk
    obtain ⟨t, h1, ⟨h2, rfl⟩ | ⟨h2, h3⟩⟩ := hT _ _ _ h
    · exact ⟨_, by simp only [h2], h1⟩
    · exact ⟨_, by simp only [h2, hk, h3], h1⟩
  · rename_i hk
    obtain ⟨t, h1, ⟨h2, rfl⟩ | ⟨h2, h3⟩⟩ := hT _ _ _ h
    · exact ⟨_, by simp only [h2], h1⟩
    · exact ⟨_, by simp only [h2, hk, h3], h1⟩
  · rename_i hk
    obtain ⟨t, τ, h1, ⟨h2, rfl, rfl⟩ | ⟨h2, h3⟩⟩ := hS _ _ _ _ h
    · exact ⟨_, by simp only [h2], h1⟩
    · unfold aNew at h3
      split at h3
      · rename_i h4
        cases h3
        exact ⟨_, by simp only [h2, hk, h4], h1⟩
      · cases h3
  · rename_i hk
    obtain ⟨t, τ, h1, ⟨h2, rfl, rfl⟩ | ⟨h2, h3⟩⟩ := hS _ _ _ _ h
    · exact ⟨_, by simp only [h2], h1⟩
    · exact ⟨_, by simp only [h2, hk, h3], h1⟩

def runK {R : Type} (P : Program) (callf : CallF) (ops : List Oper) : List Oper → List T × St → (List T × St → Option R) → Option R
  | [], s, K => K s
  | o :: r, s, K => stepK P callf ops o s fun s' => runK P callf ops r s' K

/-- Where a check holds, go on. -/
def chk {R : Type} (b : Bool) (x : Option R) : Option R := match b with
  | true => x
  | false => none

def runDK {R : Type} (P : Program) (callf : CallF) (ops : List Oper) (ms : List Nat) : List Oper → Hist → List T × St → (List T × St → Option R) → Option R
  | [], h, s, K => chk (winOk P ops ms (h ++ [s])) (K s)
  | o :: r, h, s, K => stepK P callf ops o s fun s' => runDK P callf ops ms r (h ++ [s]) s' K

/-- The results of a function. -/
def resVals (P : Program) (env : List T) (g : Mem) : List ResultVar → Option (List T)
  | [] => some []
  | .tmp t :: r => match resVals P env g r with
    | some l => some (env.getD t .any :: l)
    | none => none
  | .cell a t :: r => match aggOf P t with
    | some true => match szOf P t with
      | some n => match aLoadN n (env.getD a .any) g, resVals P env g r with
        | some x, some l => some (x :: l)
        | _, _ => none
      | none => none
    | some false => match aLoad1 (env.getD a .any) g, resVals P env g r with
      | some x, some l => some (x :: l)
      | _, _ => none
    | none => none

def allV : List T → Option (List V)
  | [] => some []
  | .v x :: r => match allV r with
    | some l => some (x :: l)
    | none => none
  | _ :: _ => none

def retT : List T → Option T
  | [x] => some x
  | l => match allV l with
    | some vs => some (.tup vs)
    | none => none

structure Ctx where
  rets : List ResultVar
  fuel : Nat
  lv : Nat → Nat

def exec {R : Type} (P : Program) (callf : CallF) (rets : List ResultVar) (N : Nat) : Code → (Nat → Nat) → Nat → List T → St → (Out → St → Option R) → Option R
  | .skip, _, _, env, σ, K => K (.normal env) σ
  | .label _, _, _, env, σ, K => K (.normal env) σ
  | .region _ ops draw, _, _, env, σ, K => match draw with
    | false => runK P callf ops.toList ops.toList (env, σ) fun s => K (.normal s.1) s.2
    | true => match P.follows .mixedOrders && staticOk P ops.toList (masks ops.toList) with
      | true => runDK P callf ops.toList (masks ops.toList) ops.toList [] (env, σ) fun s => K (.normal s.1) s.2
      | false => none
  | .seq a b, ctx, lo, env, σ, K => exec P callf rets N a ctx (live_ (resSlots rets) b ctx lo) env σ fun o τ => match o with
    | .normal env' => exec P callf rets N b ctx lo env' τ K
    | .exit i v => K (.exit i v) τ
    | .ret r => K (.ret r) τ
  | .cond c a b, ctx, lo, env, σ, K => match ends a && ends b with
    | true => fromJ env.length (keepOf env.length lo) K (cif (evO env c) (exec P callf rets N a ctx lo env σ (toJ (keepOf env.length lo))) (exec P callf rets N b ctx lo env σ (toJ (keepOf env.length lo))))
    | false => cif (evO env c) (exec P callf rets N a ctx lo env σ K) (exec P callf rets N b ctx lo env σ K)
  | .block id c, ctx, lo, env, σ, K =>
    fromJ env.length (keepOf env.length lo) K (exec P callf rets N c (fun i => if i = id then lo else ctx i) lo env σ fun o τ => match o with
      | .normal e => some (.normal (proj (keepOf env.length lo) e), τ)
      | .exit i v => if i = id then some (.normal v, τ) else some (.exit i v, τ)
      | .ret r => some (.ret r, τ))
  | .loop c, ctx, lo, env, σ, K =>
    let keep := keepOf env.length (live_ (resSlots rets) (.loop c) ctx lo)
    fromJ env.length [] K (loops (fun vals τ => exec P callf rets N c ctx (live_ (resSlots rets) (.loop c) ctx lo) (place env.length keep vals) τ (toJ keep)) N (proj keep env) σ)
  | .scope c, ctx, lo, env, σ, K => exec P callf rets N c ctx lo env σ K
  | .exit id, ctx, _, env, σ, K => K (.exit id (proj (keepOf env.length (ctx id)) env)) σ
  | .ret, _, _, env, σ, K => match resVals P env σ.get rets with
    | some l => match retT l with
      | some r => K (.ret r) σ
      | none => none
    | none => none
  | _, _, _, _, _, _ => none

/-- A function's body run. -/
def body (P : Program) (callf : CallF) (N : Nat) (f : FuncId) (args : List T) (σ : St) : Option (T × St) :=
  match P.funcs[f]? with
  | none => none
  | some fn => match fn.body with
    | none => none
    | some c => if args.length ≤ fn.ntmps then
        exec P callf fn.results.toList N c (fun _ => 0) 0 (args ++ List.replicate (fn.ntmps - args.length) tt) σ fun o τ => match o with
          | .ret r => some (r, τ)
          | .normal env => match resVals P env τ.get fn.results.toList with
            | some l => match retT l with
              | some r => some (r, τ)
              | none => none
            | none => none
          | .exit _ _ => none
      else none

/-- Calls of at most so many levels. -/
def run (P : Program) (N : Nat) (prim : CallF) : Nat → CallF
  | 0 => fun _ _ _ => none
  | d + 1 => fun f args σ => match prim f args σ with
    | some r => some r
    | none => body P (run P N prim d) N f args σ
end Go.Abs
