/-
  A library of our own, several texts in one: an abstract store for the model, and runs over it. Nothing here speaks of any program. No conditions.
-/
import Derived.Test.YtbohejffelipoaaGreatDoorAbsC
import Derived.KernelRfl
/-
  The same runs with what the temporaries hold as a function: quick to reduce. By equations, nothing new.
-/
namespace Go.Abs.F
open Go Go.Abs

abbrev Env := Nat → T

def evF (ρ : Env) : Operand → T
  | .tmp t => ρ t
  | .const v => match absV v with
    | some x => .v x
    | none => .any
  | .func f => .v (.s (.clo f []))
  | .global _ => .any

def updF (ρ : Env) (d : Nat) (t : T) : Env := fun i => match Nat.beq i d with
  | true => t
  | false => ρ i

def putF (n : Nat) (ρ : Env) (dst : Option Tmp) (t : T) : Env := match dst with
  | some d => match Nat.blt d n with
    | true => updF ρ d t
    | false => ρ
  | none => ρ

def gd (t : T) (want : Bool) : Option Bool := match t with
  | .any => none
  | .v (.s .any) => none
  | .v (.s (.bool b)) => some (b == want)
  | _ => some false

def wantF (ops : List Oper) (ρ : Env) (o : Oper) : Option Bool := match o.guard with
  | none => some true
  | some (j, want) => match ops[j]? with
    | none => some false
    | some oj => match oj.dst with
      | none => some false
      | some d => gd (ρ d) want

def asB (c : T) : Option Bool := match c with
  | .v (.s (.bool b)) => some b
  | _ => none

inductive KF where
  | M (x : Operand) | P | L | A | W

def kf : Abs.K → KF
  | .P => .P
  | .L => .L
  | .A => .A
  | .W => .W

def kindF (P : Program) (o : Oper) : KF :=
  match o.guard, o.op with
  | none, .move x => .M x
  | none, .assign x => .M x
  | _, op => kf (kindOf P op)

noncomputable def bd {α R : Type} (x : Option α) (K : α → Option R) : Option R := Option.rec none K x
noncomputable def bd2 {R : Type} (x : Option (T × St)) (K : T → St → Option R) : Option R := Option.rec none (fun p => Prod.rec K p) x
noncomputable def ck {R : Type} (b : Bool) (x : Option R) : Option R := Bool.rec none x b
noncomputable def br {R : Type} (c : T) (a b : Option R) : Option R := Option.rec none (fun v => Bool.rec b a v) (asB c)

noncomputable def stepF {R : Type} (P : Program) (callf : CallF) (n : Nat) (ops : List Oper) (o : Oper) (ρ : Env) (σ : St) (K : Env → St → Option R) : Option R :=
  KF.rec (fun x => K (putF n ρ o.dst (evF ρ x)) σ)
    (bd (gT (wantF ops ρ o) (opP P o.op (evF ρ))) fun t => K (putF n ρ o.dst t) σ)
    (bd (gT (wantF ops ρ o) (opL P o.op (evF ρ) σ.get)) fun t => K (putF n ρ o.dst t) σ)
    (bd2 (gS (wantF ops ρ o) σ (aNew σ (opA P o.op (evF ρ)))) fun t τ => K (putF n ρ o.dst t) τ)
    (bd2 (gS (wantF ops ρ o) σ (opWC P callf o.op (evF ρ) σ)) fun t τ => K (putF n ρ o.dst t) τ)
    (kindF P o)

noncomputable def runF {R : Type} (P : Program) (callf : CallF) (n : Nat) (ops : List Oper) (l : List Oper) : Env → St → (Env → St → Option R) → Option R :=
  List.rec (fun ρ σ K => K ρ σ) (fun o _ ih ρ σ K => stepF P callf n ops o ρ σ fun ρ' σ' => ih ρ' σ' K) l

abbrev HistF := List (Env × St)
def HistF.at (h : HistF) (k : Nat) : Env × St := h.getD k ((fun _ => .any), St.empty)

def aBlksF (P : Program) (ops : List Oper) (h : HistF) : List (Oper × Nat) → List (Nat × Nat × Blk)
  | [] => []
  | (o, k) :: r => match kindOf P o.op with
    | .A => match wantF ops (h.at k).1 o with
      | some true => match opA P o.op (evF (h.at k).1) with
        | some (b, _) => (k, (h.at k).2.size, b) :: aBlksF P ops h r
        | none => aBlksF P ops h r
      | _ => aBlksF P ops h r
    | _ => aBlksF P ops h r

def chiF (P : Program) (ops : List Oper) (h : HistF) (p : Nat) : Mem := overlay p (h.at p).2.get (aBlksF P ops h ops.zipIdx)

def wq (g : Option Bool) (b : Bool) : Bool := match g with
  | some true => b
  | _ => true

def winF (P : Program) (ops : List Oper) (ms : List Nat) (h : HistF) : Bool :=
  ops.zipIdx.all fun (o, k) => match kindOf P o.op with
    | .L => (0 :: (wpos P ops.zipIdx).map (· + 1)).all fun p => !(okAt (wpos P ops.zipIdx) ms k p) || (Nat.beq p (canon (wpos P ops.zipIdx) k) ||
        wq (wantF ops (h.at k).1 o) (decide (opL P o.op (evF (h.at k).1) (chiF P ops h p) = opL P o.op (evF (h.at k).1) (h.at k).2.get)))
    | _ => true

noncomputable def runDF {R : Type} (P : Program) (callf : CallF) (n : Nat) (ops : List Oper) (ms : List Nat) (l : List Oper) : HistF → Env → St → (Env → St → Option R) → Option R :=
  List.rec (fun h ρ σ K => Bool.rec none (K ρ σ) (winF P ops ms (h ++ [(ρ, σ)])))
    (fun o _ ih h ρ σ K => stepF P callf n ops o ρ σ fun ρ' σ' => ih (h ++ [(ρ, σ)]) ρ' σ' K) l

def placeF (vals : List T) : List Nat → Nat → Env
  | [], _ => fun _ => .any
  | k :: ks, j => fun i => match Nat.beq k i with
    | true => vals.getD j .any
    | false => placeF vals ks (j + 1) i

def projF (keep : List Nat) (ρ : Env) : List T := keep.map ρ

inductive OutF where
  | normal (ρ : Env)
  | exit (id : Nat) (vals : List T)
  | ret (r : T)

noncomputable def jn {R : Type} (x : Option (JO × St)) (f : List T → St → Option R) (g : Nat → List T → St → Option R) (h : T → St → Option R) : Option R :=
  Option.rec none (fun p => Prod.rec (fun j τ => JO.rec (fun v => f v τ) (fun i v => g i v τ) (fun r => h r τ) j) p) x

noncomputable def fromF {R : Type} (keep : List Nat) (K : OutF → St → Option R) (x : Option (JO × St)) : Option R :=
  jn x (fun v τ => K (.normal (placeF v keep 0)) τ) (fun i v τ => K (.exit i v) τ) (fun r τ => K (.ret r) τ)

noncomputable def toF (keep : List Nat) (o : OutF) (τ : St) : Option (JO × St) :=
  OutF.rec (fun ρ => some (.normal (projF keep ρ), τ)) (fun i v => some (.exit i v, τ)) (fun r => some (.ret r, τ)) o

def resF (P : Program) (ρ : Env) (g : Mem) : List ResultVar → Option (List T)
  | [] => some []
  | .tmp t :: r => match resF P ρ g r with
    | some l => some (ρ t :: l)
    | none => none
  | .cell a t :: r => match aggOf P t with
    | some true => match szOf P t with
      | some n => match aLoadN n (ρ a) g, resF P ρ g r with
        | some x, some l => some (x :: l)
        | _, _ => none
      | none => none
    | some false => match aLoad1 (ρ a) g, resF P ρ g r with
      | some x, some l => some (x :: l)
      | _, _ => none
    | none => none

abbrev ExecT : Type 1 := ∀ (R : Type), (Nat → Nat) → Nat → Env → St → (OutF → St → Option R) → Option R

noncomputable def execF (P : Program) (callf : CallF) (rets : List ResultVar) (n N : Nat) (c : Code) : ExecT :=
  Code.rec (motive := fun _ => ExecT)
    (fun _ _ _ ρ σ K => K (.normal ρ) σ)
    (fun _ ops draw _ _ _ ρ σ K => Bool.rec
      (runF P callf n ops.toList ops.toList ρ σ fun ρ' σ' => K (.normal ρ') σ')
      (Bool.rec none (runDF P callf n ops.toList (masks ops.toList) ops.toList [] ρ σ fun ρ' σ' => K (.normal ρ') σ') (P.follows .mixedOrders && staticOk P ops.toList (masks ops.toList)))
      draw)
    (fun _ b ihx ihy R ctx lo ρ σ K => ihx R ctx (live_ (resSlots rets) b ctx lo) ρ σ fun o τ => OutF.rec (fun ρ' => ihy R ctx lo ρ' τ K) (fun i v => K (.exit i v) τ) (fun r => K (.ret r) τ) o)
    (fun c a b ihx ihy R ctx lo ρ σ K => Bool.rec
      (br (evF ρ c) (ihx R ctx lo ρ σ K) (ihy R ctx lo ρ σ K))
      (fromF (keepOf n lo) K (br (evF ρ c) (ihx _ ctx lo ρ σ (toF (keepOf n lo))) (ihy _ ctx lo ρ σ (toF (keepOf n lo)))))
      (ends a && ends b))
    (fun id _ ih _ ctx lo ρ σ K => fromF (keepOf n lo) K (ih _ (fun i => if i = id then lo else ctx i) lo ρ σ fun o τ =>
      OutF.rec (fun ρ' => some (.normal (projF (keepOf n lo) ρ'), τ)) (fun i v => if i = id then some (.normal v, τ) else some (.exit i v, τ)) (fun r => some (.ret r, τ)) o))
    (fun c ih _ ctx lo ρ σ K => fromF [] K (loops (fun vals τ => ih _ ctx (live_ (resSlots rets) (.loop c) ctx lo) (placeF vals (keepOf n (live_ (resSlots rets) (.loop c) ctx lo)) 0) τ
      (toF (keepOf n (live_ (resSlots rets) (.loop c) ctx lo)))) N (projF (keepOf n (live_ (resSlots rets) (.loop c) ctx lo)) ρ) σ))
    (fun _ _ _ _ _ _ _ _ _ _ _ _ => none)
    (fun id _ ctx _ ρ σ K => K (.exit id (projF (keepOf n (ctx id)) ρ)) σ)
    (fun _ ih R ctx lo ρ σ K => ih R ctx lo ρ σ K)
    (fun _ _ _ _ ρ σ K => K (.normal ρ) σ)
    (fun _ _ _ _ _ _ _ => none)
    (fun _ _ _ ρ σ K => bd (resF P ρ σ.get rets) fun l => bd (retT l) fun r => K (.ret r) σ)
    (fun _ _ _ _ _ _ _ => none) c

def argF (n : Nat) : List T → Nat → T
  | [], i => match Nat.blt i n with
    | true => tt
    | false => .any
  | t :: r, 0 => match n with
    | 0 => .any
    | _ + 1 => t
  | _ :: r, i + 1 => argF (n - 1) r i

noncomputable def bodyC (P : Program) (callf : CallF) (N : Nat) (fn : Func) (args : List T) (σ : St) : Option (T × St) :=
  execF P callf fn.results.toList fn.ntmps N (fn.body.getD .skip) _ (fun _ => 0) 0 (argF fn.ntmps args) σ fun o τ =>
    OutF.rec (fun ρ => bd (resF P ρ τ.get fn.results.toList) fun l => bd (retT l) fun r => some (r, τ)) (fun _ _ => none) (fun r => some (r, τ)) o
end Go.Abs.F


/-
  The quick runs are the runs.
-/
namespace Go.Abs.F
open Go Go.Abs

def G (env : List T) (ρ : Env) : Prop := ∀ i, env.getD i .any = ρ i

theorem G.ev {env : List T} {ρ : Env} (h : G env ρ) : evO env = evF ρ := by
  funext x
  cases x with
  | tmp t => exact h t
  | const v => rfl
  | func f => rfl
  | global g => rfl

theorem G.want {env : List T} {ρ : Env} (h : G env ρ) (ops : List Oper) (o : Oper) : wantedA ops env o = wantF ops ρ o := by
  unfold wantedA wantF
  cases o.guard with
  | none => rfl
  | some p =>
    obtain ⟨j, w⟩ := p
    simp only
    cases ops[j]? with
    | none => rfl
    | some oj =>
      simp only
      cases oj.dst with
      | none => rfl
      | some d =>
        show gd (env.getD d .any) w = gd (ρ d) w
        rw [h d]

theorem G.put {env : List T} {ρ : Env} (h : G env ρ) (dst : Option Tmp) (t : T) : G (putE env dst t) (putF env.length ρ dst t) := by
  intro i
  unfold putE putF
  cases dst with
  | none => exact h i
  | some d =>
    simp only
    cases hd : Nat.blt d env.length with
    | false =>
      simp only
      have : ¬ d < env.length := fun hlt => by
        have : Nat.blt d env.length = true := by simpa [Nat.blt_eq] using hlt
        rw [this] at hd; cases hd
      rw [List.set_eq_of_length_le (Nat.le_of_not_lt this)]
      exact h i
    | true =>
      have hlt : d < env.length := by simpa [Nat.blt_eq] using hd
      simp only [updF]
      cases hb : Nat.beq i d with
      | true =>
        have : i = d := Nat.eq_of_beq_eq_true hb
        subst this
        simp [List.getD_eq_getElem?_getD, hlt]
      | false =>
        have : i ≠ d := fun e => by subst e; rw [Nat.beq_refl] at hb; cases hb
        simp only
        rw [← h i, List.getD_eq_getElem?_getD, List.getD_eq_getElem?_getD, List.getElem?_set_ne (by omega)]

theorem put_len (env : List T) (dst : Option Tmp) (t : T) : (putE env dst t).length = env.length := by
  unfold putE
  cases dst <;> simp

section
variable {P : Program} {callf : CallF} {n : Nat}

theorem bd_thn {α R : Type} (x : Option α) (K : α → Option R) : bd x K = Abs.thn x K := by cases x <;> rfl
theorem bd2_thn {R : Type} (x : Option (T × St)) (K : T → St → Option R) : bd2 x K = Abs.thn2 x K := by
  cases x with
  | none => rfl
  | some p => rfl
theorem br_cif {R : Type} (c : T) (a b : Option R) : br c a b = Abs.cif c a b := by
  cases c with
  | any => rfl
  | tup l => rfl
  | v x => cases x with
    | agg l => rfl
    | s y => cases y with
      | bool q => cases q <;> rfl
      | _ => rfl

theorem stepF_eq {R : Type} {ops : List Oper} {o : Oper} {env : List T} {ρ : Env} {σ : St} {K : List T × St → Option R} {K' : Env → St → Option R} (hn : env.length = n) (h : G env ρ)
    (hK : ∀ env' ρ' σ', env'.length = n → G env' ρ' → K (env', σ') = K' ρ' σ') : Abs.stepK P callf ops o (env, σ) K = stepF P callf n ops o ρ σ K' := by
  have hp : ∀ t, G (putE env o.dst t) (putF n ρ o.dst t) := fun t => by rw [← hn]; exact h.put _ _
  have hl : ∀ t, (putE env o.dst t).length = n := fun t => by rw [put_len, hn]
  have key : ∀ t τ, K (putE env o.dst t, τ) = K' (putF n ρ o.dst t) τ := fun t τ => hK _ _ _ (hl t) (hp t)
  have main : Abs.stepK P callf ops o (env, σ) K = KF.rec (fun x => K' (putF n ρ o.dst (evF ρ x)) σ)
      (bd (gT (wantF ops ρ o) (opP P o.op (evF ρ))) fun t => K' (putF n ρ o.dst t) σ)
      (bd (gT (wantF ops ρ o) (opL P o.op (evF ρ) σ.get)) fun t => K' (putF n ρ o.dst t) σ)
      (bd2 (gS (wantF ops ρ o) σ (aNew σ (opA P o.op (evF ρ)))) fun t τ => K' (putF n ρ o.dst t) τ)
      (bd2 (gS (wantF ops ρ o) σ (opWC P callf o.op (evF ρ) σ)) fun t τ => K' (putF n ρ o.dst t) τ) (kf (kindOf P o.op)) := by
    unfold Abs.stepK
    simp only [h.ev, h.want, key, bd_thn, bd2_thn]
    cases kindOf P o.op <;> rfl
  rw [main]
  obtain ⟨dst, op, ty, pos, after, guard⟩ := o
  unfold stepF
  cases guard with
  | some g => rfl
  | none => cases op <;> rfl

theorem runF_eq {R : Type} {ops : List Oper} : ∀ (l : List Oper) {env : List T} {ρ : Env} {σ : St} {K : List T × St → Option R} {K' : Env → St → Option R}, env.length = n → G env ρ →
    (∀ env' ρ' σ', env'.length = n → G env' ρ' → K (env', σ') = K' ρ' σ') → Abs.runK P callf ops l (env, σ) K = runF P callf n ops l ρ σ K' := by
  intro l
  induction l with
  | nil => intro env ρ σ K K' hn h hK; exact hK _ _ _ hn h
  | cons o l ih =>
    intro env ρ σ K K' hn h hK
    show Abs.stepK P callf ops o (env, σ) _ = stepF P callf n ops o ρ σ fun ρ' σ' => runF P callf n ops l ρ' σ' K'
    exact stepF_eq hn h fun env' ρ' σ' hn' h' => ih hn' h' hK

def HG (h : Hist) (hF : HistF) : Prop := ∀ k, G (h.at k).1 (hF.at k).1 ∧ (h.at k).2 = (hF.at k).2

theorem HG.nil : HG [] [] := fun k => ⟨fun i => by simp [Hist.at, HistF.at], rfl⟩

theorem HG.snoc {h : Hist} {hF : HistF} (hl : h.length = hF.length) (k : HG h hF) {env : List T} {ρ : Env} (σ : St) (g : G env ρ) : HG (h ++ [(env, σ)]) (hF ++ [(ρ, σ)]) := by
  intro j
  unfold Hist.at HistF.at
  rcases Nat.lt_trichotomy j h.length with hj | hj | hj
  · have := k j
    unfold Hist.at HistF.at at this
    simp only [List.getD_eq_getElem?_getD] at this ⊢
    rw [List.getElem?_append_left hj, List.getElem?_append_left (by omega)]
    exact this
  · simp only [List.getD_eq_getElem?_getD]
    rw [List.getElem?_append_right (by omega), List.getElem?_append_right (by omega)]
    simp [hj, hl]
    exact g
  · simp only [List.getD_eq_getElem?_getD]
    rw [List.getElem?_eq_none (by simp; omega), List.getElem?_eq_none (by simp; omega)]
    exact ⟨fun i => by simp, rfl⟩

theorem aBlks_eq {ops : List Oper} {h : Hist} {hF : HistF} (k : HG h hF) : ∀ l, aBlks P ops h l = aBlksF P ops hF l := by
  intro l
  induction l with
  | nil => rfl
  | cons p l ih =>
    obtain ⟨o, q⟩ := p
    simp only [aBlks, aBlksF, (k q).1.want, (k q).1.ev, (k q).2, ih]
    rfl

theorem win_eq {ops : List Oper} {ms : List Nat} {h : Hist} {hF : HistF} (k : HG h hF) : winOk P ops ms h = winF P ops ms hF := by
  unfold winOk winF
  show List.all _ _ = List.all _ _
  congr 1
  funext ⟨o, q⟩
  have hchi : ∀ p, chi P ops h p = chiF P ops hF p := fun p => by unfold chi chiF; rw [aBlks_eq k, (k p).2]
  simp only [(k q).1.want, (k q).1.ev, (k q).2, hchi]
  cases kindOf P o.op <;> rfl

theorem runDF_eq {R : Type} {ops : List Oper} {ms : List Nat} : ∀ (l : List Oper) {h : Hist} {hF : HistF} {env : List T} {ρ : Env} {σ : St} {K : List T × St → Option R} {K' : Env → St → Option R},
    h.length = hF.length → HG h hF → env.length = n → G env ρ → (∀ env' ρ' σ', env'.length = n → G env' ρ' → K (env', σ') = K' ρ' σ') → Abs.runDK P callf ops ms l h (env, σ) K = runDF P callf n ops ms l hF ρ σ K' := by
  intro l
  induction l with
  | nil =>
    intro h hF env ρ σ K K' hl hh hn g hK
    show Abs.chk (winOk P ops ms (h ++ [(env, σ)])) (K (env, σ)) = Bool.rec none (K' ρ σ) (winF P ops ms (hF ++ [(ρ, σ)]))
    rw [win_eq (hh.snoc hl σ g), hK _ _ _ hn g]
    cases winF P ops ms (hF ++ [(ρ, σ)]) <;> rfl
  | cons o l ih =>
    intro h hF env ρ σ K K' hl hh hn g hK
    show Abs.stepK P callf ops o (env, σ) _ = stepF P callf n ops o ρ σ fun ρ' σ' => runDF P callf n ops ms l (hF ++ [(ρ, σ)]) ρ' σ' K'
    exact stepF_eq hn g fun env' ρ' σ' hn' g' => ih (by simp [hl]) (hh.snoc hl σ g) hn' g' hK

theorem proj_eq {env : List T} {ρ : Env} (g : G env ρ) (keep : List Nat) : proj keep env = projF keep ρ := by
  unfold proj projF
  congr 1
  funext i
  exact g i

theorem placeGo_get (v : List T) : ∀ (m i : Nat) (ks : List Nat) (j d : Nat), ks.Pairwise (· < ·) → (∀ k ∈ ks, i ≤ k ∧ k < i + m) → (placeGo v m i ks j).getD d .any = placeF v ks j (i + d) := by
  intro m
  induction m with
  | zero =>
    intro i ks j d hp hk
    cases ks with
    | nil => simp [placeGo, placeF]
    | cons k ks => have := hk k (by simp); omega
  | succ m ih =>
    intro i ks j d hp hk
    cases ks with
    | nil =>
      cases d with
      | zero => rfl
      | succ d => simp only [placeGo, List.getD_cons_succ]; rw [ih (i + 1) [] j d .nil (by simp)]; rfl
    | cons k ks =>
      have hk0 := hk k (by simp)
      cases hb : Nat.beq k i with
      | true =>
        have : k = i := Nat.eq_of_beq_eq_true hb
        subst this
        simp only [placeGo, hb]
        cases d with
        | zero => simp [placeF]
        | succ d =>
          simp only [List.getD_cons_succ]
          rw [ih (k + 1) ks (j + 1) d (List.pairwise_cons.1 hp).2 (fun q hq => ⟨(List.pairwise_cons.1 hp).1 q hq, by have := (hk q (by simp [hq])).2; omega⟩)]
          have : Nat.beq k (k + (d + 1)) = false := by
            cases hx : Nat.beq k (k + (d + 1)) with
            | false => rfl
            | true => have := Nat.eq_of_beq_eq_true hx; omega
          simp only [placeF, this]
          congr 1
          omega
      | false =>
        have hne : k ≠ i := fun e => by subst e; rw [Nat.beq_refl] at hb; cases hb
        simp only [placeGo, hb]
        cases d with
        | zero =>
          have hrest : ∀ (ks : List Nat) (j : Nat), (∀ q ∈ ks, i < q) → placeF v ks j i = .any := by
            intro ks
            induction ks with
            | nil => intro j _; rfl
            | cons q ks ih =>
              intro j h
              have h0 := h q (by simp)
              have : Nat.beq q i = false := by
                cases hx : Nat.beq q i with
                | false => rfl
                | true => have := Nat.eq_of_beq_eq_true hx; omega
              simp only [placeF, this]
              exact ih _ fun q hq => h q (by simp [hq])
          show T.any = _
          rw [Nat.add_zero, hrest (k :: ks) j]
          intro q hq
          rcases List.mem_cons.1 hq with rfl | hq
          · omega
          · have := (List.pairwise_cons.1 hp).1 q hq; omega
        | succ d =>
          simp only [List.getD_cons_succ]
          rw [ih (i + 1) (k :: ks) j d hp (fun q hq => ⟨by
            rcases List.mem_cons.1 hq with rfl | hq
            · omega
            · have := (List.pairwise_cons.1 hp).1 q hq; omega, by have := (hk q hq).2; omega⟩)]
          congr 1
          omega

theorem keepOf_sorted (n s : Nat) : (keepOf n s).Pairwise (· < ·) := (List.pairwise_lt_range).filter _
theorem keepOf_lt {n s k : Nat} (h : k ∈ keepOf n s) : k < n := by
  unfold keepOf at h
  exact List.mem_range.1 (List.mem_filter.1 h).1

theorem place_eq (v : List T) (n s : Nat) : G (place n (keepOf n s) v) (placeF v (keepOf n s) 0) := by
  intro i
  unfold place
  rw [placeGo_get v n 0 _ 0 i (keepOf_sorted n s) (fun k hk => ⟨Nat.zero_le _, by have := keepOf_lt hk; omega⟩), Nat.zero_add]

theorem place_nil (v : List T) (n : Nat) : G (place n [] v) (placeF v [] 0) := by
  intro i
  unfold place
  rw [placeGo_get v n 0 [] 0 i .nil (by simp), Nat.zero_add]

theorem place_len (n : Nat) (keep : List Nat) (v : List T) : (place n keep v).length = n := by rw [place, placeGo_len]

theorem res_eq {env : List T} {ρ : Env} (g : G env ρ) (m : Mem) : ∀ l, resVals P env m l = resF P ρ m l := by
  intro l
  induction l with
  | nil => rfl
  | cons r l ih => cases r <;> (simp only [resVals, resF, ih, g _]; rfl)

structure KG {R : Type} (n : Nat) (K : Out → St → Option R) (K' : OutF → St → Option R) : Prop where
  normal : ∀ env ρ τ, env.length = n → G env ρ → K (.normal env) τ = K' (.normal ρ) τ
  exit : ∀ i v τ, K (.exit i v) τ = K' (.exit i v) τ
  ret : ∀ r τ, K (.ret r) τ = K' (.ret r) τ

theorem KG.to (n s : Nat) : KG n (toJ (keepOf n s)) (toF (keepOf n s)) :=
  ⟨fun env ρ τ _ g => by show some _ = some _; rw [proj_eq g], fun _ _ _ => rfl, fun _ _ => rfl⟩

theorem from_eq {R : Type} {keep : List Nat} {K : Out → St → Option R} {K' : OutF → St → Option R} (k : KG n K K') (hp : ∀ v, G (place n keep v) (placeF v keep 0)) (x : Option (JO × St)) : fromJ n keep K x = fromF keep K' x := by
  cases x with
  | none => rfl
  | some p =>
    obtain ⟨j, τ⟩ := p
    cases j with
    | normal v => exact k.normal _ _ _ (place_len _ _ _) (hp v)
    | exit i v => exact k.exit _ _ _
    | ret r => exact k.ret _ _

theorem exec_eq (rets : List ResultVar) (N : Nat) : ∀ (c : Code) {R : Type} (ctx : Nat → Nat) (lo : Nat) (env : List T) (ρ : Env) (σ : St) (K : Out → St → Option R) (K' : OutF → St → Option R),
    env.length = n → G env ρ → KG n K K' → exec P callf rets N c ctx lo env σ K = execF P callf rets n N c R ctx lo ρ σ K' := by
  intro c
  induction c with
  | skip => intro R ctx lo env ρ σ K K' hn g k; exact k.normal _ _ _ hn g
  | region id ops draw =>
    intro R ctx lo env ρ σ K K' hn g k
    cases draw with
    | false => exact runF_eq _ hn g fun env' ρ' σ' hn' g' => k.normal _ _ _ hn' g'
    | true =>
      show (match P.follows .mixedOrders && staticOk P ops.toList (masks ops.toList) with
        | true => runDK P callf ops.toList (masks ops.toList) ops.toList [] (env, σ) fun s => K (.normal s.1) s.2
        | false => none) = Bool.rec none (runDF P callf n ops.toList (masks ops.toList) ops.toList [] ρ σ fun ρ' σ' => K' (.normal ρ') σ') (P.follows .mixedOrders && staticOk P ops.toList (masks ops.toList))
      cases P.follows .mixedOrders && staticOk P ops.toList (masks ops.toList) with
      | false => rfl
      | true => exact runDF_eq _ rfl HG.nil hn g fun env' ρ' σ' hn' g' => k.normal _ _ _ hn' g'
  | seq x y ihx ihy =>
    intro R ctx lo env ρ σ K K' hn g k
    refine ihx ctx _ env ρ σ _ _ hn g ⟨fun env' ρ' τ hn' g' => ihy ctx lo env' ρ' τ _ _ hn' g' k, fun _ _ _ => k.exit _ _ _, fun _ _ => k.ret _ _⟩
  | cond c x y ihx ihy =>
    intro R ctx lo env ρ σ K K' hn g k
    show (match ends x && ends y with
      | true => fromJ env.length (keepOf env.length lo) K (Abs.cif (evO env c) (exec P callf rets N x ctx lo env σ (toJ (keepOf env.length lo))) (exec P callf rets N y ctx lo env σ (toJ (keepOf env.length lo))))
      | false => Abs.cif (evO env c) (exec P callf rets N x ctx lo env σ K) (exec P callf rets N y ctx lo env σ K)) = Bool.rec
        (br (evF ρ c) (execF P callf rets n N x R ctx lo ρ σ K') (execF P callf rets n N y R ctx lo ρ σ K'))
        (fromF (keepOf n lo) K' (br (evF ρ c) (execF P callf rets n N x _ ctx lo ρ σ (toF (keepOf n lo))) (execF P callf rets n N y _ ctx lo ρ σ (toF (keepOf n lo)))))
        (ends x && ends y)
    rw [hn]
    cases ends x && ends y with
    | true =>
      simp only
      rw [from_eq k (fun v => place_eq v n lo), ihx ctx lo env ρ σ _ _ hn g (KG.to n lo), ihy ctx lo env ρ σ _ _ hn g (KG.to n lo), br_cif, g.ev]
    | false =>
      simp only
      rw [ihx ctx lo env ρ σ _ _ hn g k, ihy ctx lo env ρ σ _ _ hn g k, br_cif, g.ev]
  | block id c ih =>
    intro R ctx lo env ρ σ K K' hn g k
    show fromJ env.length (keepOf env.length lo) K _ = fromF (keepOf n lo) K' _
    rw [hn, from_eq k (fun v => place_eq v n lo)]
    congr 1
    refine ih _ lo env ρ σ _ _ hn g ⟨fun env' ρ' τ hn' g' => ?_, fun i v τ => rfl, fun r τ => rfl⟩
    show some _ = some _
    rw [proj_eq g']
  | loop c ih =>
    intro R ctx lo env ρ σ K K' hn g k
    show fromJ env.length [] K (loops _ N (proj (keepOf env.length (live_ (resSlots rets) (.loop c) ctx lo)) env) σ) = fromF [] K' (loops _ N (projF (keepOf n (live_ (resSlots rets) (.loop c) ctx lo)) ρ) σ)
    rw [hn, from_eq k (fun v => place_nil v n), proj_eq g]
    congr 2
    funext vals τ
    exact ih ctx _ _ _ τ _ _ (place_len _ _ _) (place_eq _ _ _) (KG.to n _)
  | scope c ih => intro R ctx lo env ρ σ K K' hn g k; exact ih ctx lo env ρ σ K K' hn g k
  | exit id =>
    intro R ctx lo env ρ σ K K' hn g k
    show K (.exit id (proj (keepOf env.length (ctx id)) env)) σ = K' (.exit id (projF (keepOf n (ctx id)) ρ)) σ
    rw [hn, proj_eq g]
    exact k.exit _ _ _
  | ret =>
    intro R ctx lo env ρ σ K K' hn g k
    show (match resVals P env σ.get rets with
      | some l => match retT l with
        | some r => K (.ret r) σ
        | none => none
      | none => none) = bd (resF P ρ σ.get rets) fun l => bd (retT l) fun r => K' (.ret r) σ
    rw [res_eq g]
    cases resF P ρ σ.get rets with
    | none => rfl
    | some l =>
      show (match retT l with
        | some r => K (.ret r) σ
        | none => none) = bd (retT l) fun r => K' (.ret r) σ
      cases retT l with
      | none => rfl
      | some r => exact k.ret _ _
  | rangeFunc f ps x y => intro R ctx lo env ρ σ K K' hn g k; rfl
  | label l => intro R ctx lo env ρ σ K K' hn g k; exact k.normal _ _ _ hn g
  | goto l => intro R ctx lo env ρ σ K K' hn g k; rfl
  | refuse s => intro R ctx lo env ρ σ K K' hn g k; rfl

theorem arg_eq : ∀ (args : List T) (n : Nat), args.length ≤ n → G (args ++ List.replicate (n - args.length) tt) (argF n args) := by
  intro args
  induction args with
  | nil =>
    intro n _ i
    simp only [List.nil_append, List.length_nil, Nat.sub_zero, argF]
    rw [List.getD_eq_getElem?_getD, List.getElem?_replicate]
    cases hb : Nat.blt i n with
    | true => rw [if_pos (by simpa [Nat.blt_eq] using hb)]; rfl
    | false =>
      have : ¬ i < n := fun h => by
        have : Nat.blt i n = true := by simpa [Nat.blt_eq] using h
        rw [this] at hb; cases hb
      rw [if_neg this]; rfl
  | cons t args ih =>
    intro n hn i
    simp only [List.length_cons] at hn
    cases n with
    | zero => omega
    | succ m =>
      cases i with
      | zero => rfl
      | succ i =>
        have := ih m (by omega) i
        simp only [List.cons_append, List.length_cons, List.getD_cons_succ, argF, Nat.add_sub_cancel]
        rw [← this, show m + 1 - (args.length + 1) = m - args.length by omega]

theorem body_eq {f : FuncId} {fn : Func} {N : Nat} {args : List T} {σ : St} (hfn : P.funcs[f]? = some fn) (hc : fn.body.isSome = true) (hl : Nat.ble args.length fn.ntmps = true) :
    body P callf N f args σ = bodyC P callf N fn args σ := by
  have hl' : args.length ≤ fn.ntmps := Nat.le_of_ble_eq_true hl
  obtain ⟨c, hc⟩ := Option.isSome_iff_exists.1 hc
  unfold body bodyC
  simp only [hfn, hc, if_pos hl', Option.getD_some]
  refine exec_eq _ _ c _ _ _ _ _ _ _ (by simp; omega) (arg_eq args fn.ntmps hl') ⟨fun env ρ τ _ g => ?_, fun i v τ => rfl, fun r τ => rfl⟩
  show (match resVals P env τ.get fn.results.toList with
    | some l => match retT l with
      | some r => some (r, τ)
      | none => none
    | none => none) = bd (resF P ρ τ.get fn.results.toList) fun l => bd (retT l) fun r => some (r, τ)
  rw [res_eq g]
  cases resF P ρ τ.get fn.results.toList with
  | none => rfl
  | some l =>
    show (match retT l with
      | some r => some (r, τ)
      | none => none) = bd (retT l) fun r => some (r, τ)
    cases retT l <;> rfl
end
end Go.Abs.F


/-
  Words for printed texts of functions: what a function computes, step by step.
-/
namespace Go.Abs.F
open Go Go.Abs

def eqB (k : EK) (x y : T) : Option T := match aEq k x y with | some b => some (B b) | none => none
def neB (k : EK) (x y : T) : Option T := match aEq k x y with | some b => some (B (!b)) | none => none

def look (k : KK) (ok : Bool) (z : V) (m q : T) (g : Mem) : Option T := if isKey k q then aLookup ok z m q g else none
def mset (k : KK) (m q x : T) (σ : St) : Option (T × St) := if isKey k q then aMapSet m q x σ else none
abbrev New := Option (Blk × (Nat → T))
def nCells (l : List S) : New := some (.cells true l, fun n => Z (.ptr n 0))
def nBox (x : T) : New := match x with
  | .v y => some (.cells true y.cells, fun n => Z (.ptr n 0))
  | _ => none
def nSlice (len : Nat) (x : Option (List S)) : New := match x with
  | some l => some (.cells true l, fun k => Z (.sl k 0 len (.known len)))
  | none => none
def nMap : New := some (.map [], fun n => Z (.map n))
def nMake (n by_ : Nat) (z : List S) (l c : T) : New := match l, c with
  | .v (.s (.int _ l)), .v (.s (.int _ c)) => if z.length = n ∧ 0 ≤ l ∧ l ≤ c ∧ c ≤ 2 ^ 62 ∧ by_ * c ≤ 2 ^ 48 then
      some (.cells true (zeros c.toNat z), fun k => Z (.sl k 0 l.toNat (.known c.toNat)))
    else none
  | _, _ => none
def nBytes (x : T) : New := match x with
  | .v (.s (.str l)) => some (.cells false (strBytes l), fun k => Z (.sl k 0 l.length (.grown 1)))
  | _ => none

def dyn (P : Program) (callf : CallF) (f : T) (args : List T) (σ : St) : Option (T × St) := match f with
  | .v (.s (.clo g caps)) => if callable P g then callf g (args ++ caps.map capT) σ else xOver P g (args ++ caps.map capT) σ
  | _ => none

def ovO (k n : Nat) (x : New) (r : List (Nat × Nat × Blk)) : List (Nat × Nat × Blk) := match x with
  | some (b, _) => (k, n, b) :: r
  | none => r

def rT (t : T) (x : Option (List T)) : Option (List T) := match x with
  | some l => some (t :: l)
  | none => none
def rC (x : Option T) (y : Option (List T)) : Option (List T) := match x, y with
  | some x, some l => some (x :: l)
  | _, _ => none

noncomputable def runQ (P : Program) (N : Nat) (prim : CallF) : Nat → CallF
  | 0 => fun _ _ _ => none
  | d + 1 => fun f args σ => match prim f args σ with
    | some r => some r
    | none => match P.funcs[f]? with
      | none => none
      | some fn => match fn.body.isSome && Nat.ble args.length fn.ntmps with
        | true => bodyC P (runQ P N prim d) N fn args σ
        | false => none

theorem runQ_body {P : Program} {N : Nat} {prim : CallF} {d : Nat} {f : FuncId} {fn : Func} {args : List T} {σ : St} (hp : prim f args σ = none) (hfn : P.funcs[f]? = some fn)
    (hb : (fn.body.isSome && Nat.ble args.length fn.ntmps) = true) : runQ P N prim (d + 1) f args σ = bodyC P (runQ P N prim d) N fn args σ := by
  rw [runQ]
  simp only [hp, hfn, hb]

theorem runQ_some {P : Program} {N : Nat} {prim : CallF} {d : Nat} {f : FuncId} {args : List T} {σ : St} {r : T × St} (h : runQ P N prim (d + 1) f args σ = some r) :
    prim f args σ = some r ∨ body P (runQ P N prim d) N f args σ = some r := by
  simp only [runQ] at h
  split at h
  · rename_i q hq; cases h; exact .inl hq
  · split at h
    · cases h
    · rename_i fn hfn
      split at h
      · rename_i hb
        rw [Bool.and_eq_true] at hb
        exact .inr ((body_eq hfn hb.1 hb.2).trans h)
      · cases h

theorem runQ_sound {P : Program} {prim : CallF} (hp : CallSound P prim) (N : Nat) : ∀ d, CallSound P (runQ P N prim d) := by
  intro d
  induction d with
  | zero => exact ⟨(fun f ts σ t τ h => by cases h), (fun f ts σ t τ h => by cases h)⟩
  | succ d ih =>
    have hb := body_sound ih N
    constructor
    · intro f ts σ t τ h wf
      rcases runQ_some h with h | h
      · exact hp.wf _ _ _ _ _ h wf
      · exact hb.wf _ _ _ _ _ h wf
    · intro f ts σ t τ h wf
      rcases runQ_some h with h | h
      · exact hp.calls _ _ _ _ _ h wf
      · exact hb.calls _ _ _ _ _ h wf

def noPrim : CallF := fun _ _ _ => none

theorem plain_sound (P : Program) (N d : Nat) : CallSound P (runQ P N noPrim d) := runQ_sound noPrim_sound N d

def gave (b : Bool) (x : Option (T × St)) : Bool := match x with
  | some (.v (.s (.bool c)), _) => c == b
  | _ => false

end Go.Abs.F


/-
  A call on plain values that gives plain values may be run in an empty store: the caller's store is as it was.
-/
namespace Go.Abs.F
open Go Go.Abs

def plainS : S → Bool
  | .bool _ | .int _ _ | .str _ | .nilp | .nils | .nilm | .nilf | .nili => true
  | .clo _ caps => caps.isEmpty
  | _ => false
def plainV : V → Bool
  | .s x => plainS x
  | .agg l => l.all plainS
def plainT : T → Bool
  | .any => false
  | .v x => plainV x
  | .tup l => l.all plainV

theorem plainS_rel {x : S} {v : Value} {ι κ : Inj} (hp : plainS x = true) (h : SRel ι x v) : SRel κ x v := by
  cases x with
  | ptr i o => cases hp
  | sl i o len cap => cases hp
  | emp i e => cases hp
  | map i => cases hp
  | tptr t i n => cases hp
  | buf e i n => cases hp
  | clo f caps =>
    cases caps with
    | nil =>
      obtain ⟨cs, e, r⟩ := h
      cases r
      exact ⟨[], e, .nil⟩
    | cons a l => cases hp
  | _ => exact h

theorem plainL_rel {l : List S} {vs : List Value} {ι κ : Inj} (hp : l.all plainS = true) (h : All2 (SRel ι) l vs) : All2 (SRel κ) l vs := by
  induction h with
  | nil => exact .nil
  | cons a _ ih =>
    simp only [List.all_cons, Bool.and_eq_true] at hp
    exact .cons (plainS_rel hp.1 a) (ih hp.2)

theorem plainV_rel {x : V} {v : Value} {ι κ : Inj} (hp : plainV x = true) (h : VRel ι x v) : VRel κ x v := by
  cases x with
  | s x => exact plainS_rel hp h
  | agg l => obtain ⟨cs, e, r⟩ := h; exact ⟨cs, e, plainL_rel hp r⟩

theorem plainT_rel {x : T} {v : Value} {ι κ : Inj} (hp : plainT x = true) (h : TRel ι x v) : TRel κ x v := by
  cases x with
  | any => cases hp
  | v x => exact plainV_rel hp h
  | tup l =>
    obtain ⟨cs, e, r⟩ := h
    refine ⟨cs, e, ?_⟩
    clear e
    simp only [plainT] at hp
    induction r with
    | nil => exact .nil
    | cons a _ ih =>
      simp only [List.all_cons, Bool.and_eq_true] at hp
      exact .cons (plainV_rel hp.1 a) (ih hp.2)

theorem plains_rel {ts : List T} {vs : List Value} {ι κ : Inj} (hp : ts.all plainT = true) (h : All2 (TRel ι) ts vs) : All2 (TRel κ) ts vs := by
  induction h with
  | nil => exact .nil
  | cons a _ ih =>
    simp only [List.all_cons, Bool.and_eq_true] at hp
    exact .cons (plainT_rel hp.1 a) (ih hp.2)

def pureP (callf : CallF) (fs : List Nat) : CallF := fun f ts σ =>
  match fs.contains f && ts.all plainT with
  | false => none
  | true => match callf f ts St.empty with
    | none => none
    | some (r, _) => match plainT r with
      | true => some (r, σ)
      | false => none

theorem pureP_some {callf : CallF} {fs : List Nat} {f : FuncId} {ts : List T} {σ τ : St} {r : T} (h : pureP callf fs f ts σ = some (r, τ)) :
    τ = σ ∧ ts.all plainT = true ∧ plainT r = true ∧ ∃ τ0, callf f ts St.empty = some (r, τ0) := by
  unfold pureP at h
  split at h
  · cases h
  · rename_i hb
    rw [Bool.and_eq_true] at hb
    split at h
    · cases h
    · rename_i q τ0 hq
      split at h
      · rename_i hp
        cases h
        exact ⟨rfl, hb.2, hp, τ0, hq⟩
      · cases h

theorem pureP_sound {P : Program} {callf : CallF} (hs : CallSound P callf) (fs : List Nat) : CallSound P (pureP callf fs) := by
  constructor
  · intro f ts σ t τ h wf
    obtain ⟨rfl, _⟩ := pureP_some h
    exact ⟨wf, Nat.le_refl _⟩
  · intro f ts σ t τ h wf ι w vs hR hF hA
    obtain ⟨rfl, hp, hr, τ0, h0⟩ := pureP_some h
    refine (hs.calls f ts St.empty t τ0 h0 St.wf_empty (fun _ => none) w vs ⟨(fun i L b h => by cases h), (fun i j L M h => by cases h), (fun i n vs h => by cases h)⟩ (fun _ _ _ => rfl) (plains_rel hp hA)).mono ?_
    intro e u ⟨κ, v, he, hX, _, hT⟩
    have hkeep : ∀ k, k < w.heap.size → u.heap[k]? = w.heap[k]? := fun k hk => hX.keep k hk fun i L hi => by cases hi
    refine ⟨ι, v, he, ⟨Nat.le_refl _, fun _ _ => rfl, fun _ _ h => h, fun _ _ h => h, fun _ _ _ => rfl, fun i L h1 h2 => by omega, hX.os, hX.output, hX.hsize, fun k hk _ => hkeep k hk⟩, ⟨?_, hR.sep, hR.glob⟩, plainT_rel hr hT⟩
    intro i L b hi hb
    have hB := hR.blk i L b hi hb
    cases b with
    | dead => trivial
    | cells own vs => exact hB.congr (hkeep _ (hB.lt trivial))
    | map es => exact hB.congr (hkeep _ (hB.lt trivial))
    | glob g vs => exact hB.congr (hkeep _ (hB.lt trivial))
end Go.Abs.F
namespace Go.Abs.F
open Go Go.Abs

def toldP (f : Nat) (b : Bool) : CallF := fun g ts σ => match Nat.beq g f && ts.isEmpty with
  | true => some (B b, σ)
  | false => none

theorem sound_mono {P : Program} {c d : CallF} (h : ∀ f ts σ r, c f ts σ = some r → d f ts σ = some r) (hd : CallSound P d) : CallSound P c :=
  ⟨fun f ts σ t τ e => hd.wf f ts σ t τ (h f ts σ _ e), fun f ts σ t τ e => hd.calls f ts σ t τ (h f ts σ _ e)⟩

theorem toldP_sound {P : Program} {callf : CallF} (hs : CallSound P callf) {f : Nat} {b : Bool} (h : gave b (callf f [] St.empty) = true) : CallSound P (toldP f b) := by
  refine sound_mono ?_ (pureP_sound hs [f])
  intro g ts σ r e
  unfold toldP at e
  split at e
  · rename_i hb
    rw [Bool.and_eq_true] at hb
    have h1 := Nat.eq_of_beq_eq_true hb.1
    have h2 : ts = [] := by simpa using hb.2
    subst h1; subst h2
    cases e
    unfold gave at h
    split at h
    · rename_i c τ hc
      have : c = b := by simpa using h
      subst this
      simp only [pureP, hc, List.contains_cons, beq_self_eq_true, Bool.true_or, List.all_nil, Bool.and_self]
      rfl
    · cases h
  · cases e
end Go.Abs.F
namespace Go.Abs.F
open Go Go.Abs

def orP (a b : CallF) : CallF := fun f ts σ => match a f ts σ with
  | some r => some r
  | none => b f ts σ

theorem orP_sound {P : Program} {a b : CallF} (ha : CallSound P a) (hb : CallSound P b) : CallSound P (orP a b) := by
  constructor
  · intro f ts σ t τ h
    unfold orP at h
    split at h
    · rename_i r hr
      cases h
      exact ha.wf f ts σ t τ hr
    · exact hb.wf f ts σ t τ h
  · intro f ts σ t τ h
    unfold orP at h
    split at h
    · rename_i r hr
      cases h
      exact ha.calls f ts σ t τ hr
    · exact hb.calls f ts σ t τ h

theorem orP_left {a b : CallF} {f : FuncId} {ts : List T} {σ : St} {r : T × St} (h : a f ts σ = some r) : orP a b f ts σ = some r := by
  simp only [orP, h]

theorem orP_right {a b : CallF} {f : FuncId} {ts : List T} {σ : St} (h : a f ts σ = none) : orP a b f ts σ = b f ts σ := by
  simp only [orP, h]
end Go.Abs.F
namespace Go.Abs.F
open Go Go.Abs

theorem pureP_val {callf : CallF} {fs : List Nat} {f : FuncId} {ts : List T} {σ : St} {r : T} (hb : (fs.contains f && ts.all plainT) = true) (h : Option.map Prod.fst (callf f ts St.empty) = some r) (hr : plainT r = true) :
    pureP callf fs f ts σ = some (r, σ) := by
  rw [Option.map_eq_some_iff] at h
  obtain ⟨x, h, rfl⟩ := h
  simp only [pureP, hb, h, hr]
end Go.Abs.F


/-
  Rewriting rules for printed texts.
-/
namespace Go.Abs.F
open Go Go.Abs

theorem nz {α : Sort _} {a b : α} (h : a = b) : a = b := h

section
variable {α R : Type}
@[simp] theorem bd_some (a : α) (K : α → Option R) : bd (some a) K = K a := nz rfl
@[simp] theorem bd_none (K : α → Option R) : bd none K = none := nz rfl
@[simp] theorem bd2_some (t : T) (τ : St) (K : T → St → Option R) : bd2 (some (t, τ)) K = K t τ := nz rfl
@[simp] theorem bd2_none (K : T → St → Option R) : bd2 none K = none := nz rfl
@[simp] theorem br_true (x y : Option R) : br (B true) x y = x := nz rfl
@[simp] theorem br_false (x y : Option R) : br (B false) x y = y := nz rfl
@[simp] theorem jn_normal (v : List T) (τ : St) (f : List T → St → Option R) (g : Nat → List T → St → Option R) (h : T → St → Option R) : jn (some (.normal v, τ)) f g h = f v τ := nz rfl
@[simp] theorem jn_exit (i : Nat) (v : List T) (τ : St) (f : List T → St → Option R) (g : Nat → List T → St → Option R) (h : T → St → Option R) : jn (some (.exit i v, τ)) f g h = g i v τ := nz rfl
@[simp] theorem jn_ret (r : T) (τ : St) (f : List T → St → Option R) (g : Nat → List T → St → Option R) (h : T → St → Option R) : jn (some (.ret r, τ)) f g h = h r τ := nz rfl
@[simp] theorem jn_none (f : List T → St → Option R) (g : Nat → List T → St → Option R) (h : T → St → Option R) : jn none f g h = none := nz rfl
@[simp] theorem gd_bool (b w : Bool) : gd (B b) w = some (b == w) := nz rfl
@[simp] theorem gT_true (x : Option T) : gT (some true) x = x := nz rfl
@[simp] theorem gT_false (x : Option T) : gT (some false) x = some tt := nz rfl
@[simp] theorem gS_true (σ : St) (x : Option (T × St)) : gS (some true) σ x = x := nz rfl
@[simp] theorem gS_false (σ : St) (x : Option (T × St)) : gS (some false) σ x = some (tt, σ) := nz rfl
@[simp] theorem ck_true (x : Option R) : ck true x = x := nz rfl
@[congr] theorem bd_cong {x y : Option α} {K : α → Option R} (h : x = y) : bd x K = bd y K := by rw [h]
@[congr] theorem bd2_cong {x y : Option (T × St)} {K : T → St → Option R} (h : x = y) : bd2 x K = bd2 y K := by rw [h]
@[congr] theorem br_cong {x y : T} {u v : Option R} (h : x = y) : br x u v = br y u v := by rw [h]
@[congr] theorem gT_cong {x y : Option Bool} {z : Option T} (h : x = y) : gT x z = gT y z := by rw [h]
@[congr] theorem gS_cong {x y : Option Bool} {σ : St} {z : Option (T × St)} (h : x = y) : gS x σ z = gS y σ z := by rw [h]
@[congr] theorem ck_cong {x y : Bool} {z : Option R} (h : x = y) : ck x z = ck y z := by rw [h]
@[simp] theorem aPick_bool_true (a b : T) : aPick (B true) a b = some a := nz rfl
@[simp] theorem aPick_bool_false (a b : T) : aPick (B false) a b = some b := nz rfl
@[simp] theorem aNil_ptr (i o : Nat) : aNil (Z (.ptr i o)) = some (Z (.ptr i o)) := nz rfl
@[simp] theorem eqB_nil : eqB .p (Z .nilp) (Z .nilp) = some (B true) := nz rfl
@[simp] theorem eqB_ptr (i o : Nat) : eqB .p (Z (.ptr i o)) (Z .nilp) = some (B false) := nz rfl
@[simp] theorem neB_nil : neB .p (Z .nilp) (Z .nilp) = some (B false) := nz rfl
@[simp] theorem neB_ptr (i o : Nat) : neB .p (Z (.ptr i o)) (Z .nilp) = some (B true) := nz rfl
@[simp] theorem eqB_bool (a b : Bool) : eqB .b (B a) (B b) = some (B (decide (a = b))) := nz rfl
@[simp] theorem neB_bool (a b : Bool) : neB .b (B a) (B b) = some (B (!decide (a = b))) := nz rfl
@[simp] theorem aFieldAddr_ptr (k i o : Nat) : aFieldAddr k (Z (.ptr i o)) = some (Z (.ptr i (o + k))) := nz rfl
@[simp] theorem aUn_not (b : Bool) : aUn .not (B b) = some (B (!b)) := nz rfl
@[simp] theorem aConv_int (k q : IntKind) (n : Int) : aConv k (I q n) = some (I k (k.wrap n)) := nz rfl
@[simp] theorem lss_int (k : IntKind) (a b : Int) : aBin .lss (I k a) (I k b) = some (B (decide (a < b))) := by simp [aBin, aInt]
@[simp] theorem leq_int (k : IntKind) (a b : Int) : aBin .leq (I k a) (I k b) = some (B (decide (a ≤ b))) := by simp [aBin, aInt]
@[simp] theorem gtr_int (k : IntKind) (a b : Int) : aBin .gtr (I k a) (I k b) = some (B (decide (b < a))) := by simp [aBin, aInt]
@[simp] theorem geq_int (k : IntKind) (a b : Int) : aBin .geq (I k a) (I k b) = some (B (decide (b ≤ a))) := by simp [aBin, aInt]
@[simp] theorem eql_int (k : IntKind) (a b : Int) : aBin .eql (I k a) (I k b) = some (B (decide (a = b))) := by simp [aBin, aInt]
@[simp] theorem neq_int (k : IntKind) (a b : Int) : aBin .neq (I k a) (I k b) = some (B (!decide (a = b))) := by simp [aBin, aInt]
@[simp] theorem add_int (k : IntKind) (a b : Int) : aBin .add (I k a) (I k b) = some (I k (k.wrap (a + b))) := by simp [aBin, aInt]
@[simp] theorem sub_int (k : IntKind) (a b : Int) : aBin .sub (I k a) (I k b) = some (I k (k.wrap (a - b))) := by simp [aBin, aInt]
@[simp] theorem mul_int (k : IntKind) (a b : Int) : aBin .mul (I k a) (I k b) = some (I k (k.wrap (a * b))) := by simp [aBin, aInt]
theorem rem_int (k : IntKind) (a b : Int) (h : b ≠ 0) : aBin .rem (I k a) (I k b) = some (I k (a.tmod b)) := by simp [aBin, aInt, h]
theorem quo_int (k : IntKind) (a b : Int) (h : b ≠ 0) : aBin .quo (I k a) (I k b) = some (I k (k.wrap (a.tdiv b))) := by simp [aBin, aInt, h]
@[simp] theorem aFold_min (k q : IntKind) (a b : Int) : aFold aMin2 (I k a) [I q b] = some (I k (min a b)) := by
  have h : (if b < a then b else a) = min a b := by split <;> omega
  show some (I k (if b < a then b else a)) = _
  rw [h]
@[simp] theorem aFold_max (k q : IntKind) (a b : Int) : aFold aMax2 (I k a) [I q b] = some (I k (max a b)) := by
  have h : (if a < b then b else a) = max a b := by split <;> omega
  show some (I k (if a < b then b else a)) = _
  rw [h]
theorem aLoad1_of {g : Mem} {i o : Nat} {own : Bool} {vs : List S} {x : S} (h : g i = some (.cells own vs)) (hx : vs[o]? = some x) : aLoad1 (Z (.ptr i o)) g = some (Z x) := by
  simp [aLoad1, h, hx]
theorem aStore1_of {σ : St} {i o : Nat} {vs : List S} {x : S} (h : σ.get i = some (.cells true vs)) (hx : o < vs.length) : aStore 1 (Z (.ptr i o)) (Z x) σ = some (tt, σ.set i (.cells true (setRange vs o [x]))) := by
  simp [aStore, h, V.cells]
  omega
end

theorem runQ_prim {P : Program} {N : Nat} {prim : CallF} {d : Nat} {f : FuncId} {args : List T} {σ : St} {r : T × St} (h : prim f args σ = some r) : runQ P N prim (d + 1) f args σ = some r := by
  simp only [runQ, h]

end Go.Abs.F
namespace Go.Abs
@[simp] theorem St.size_empty : St.empty.size = 0 := rfl
end Go.Abs


/-
  A slice of unknown capacity may be run as one of each capacity that it could have; a loop over a long list may be run with as many rounds as the list has elements.
-/
namespace Go.Abs.F
open Go Go.Abs

theorem grown_sound {P : Program} {callf prim : CallF} (hs : CallSound P callf)
    (H : ∀ f ts σ r, prim f ts σ = some r → ∃ (i o n e n' : Nat) (rest : List T) (b : Blk) (τ : St), ts = Z (.sl i o n (.grown e)) :: rest ∧ σ.get i = some b ∧ r = (Z (.sl i o n' (.grown e)), τ) ∧
      ∀ c, n ≤ c → callf f (Z (.sl i o n (.known c)) :: rest) σ = some (Z (.sl i o n' (.known c)), τ)) : CallSound P prim := by
  constructor
  · intro f ts σ t τ h wf
    obtain ⟨i, o, n, e, n', rest, b, τ', rfl, hb, hr, hc⟩ := H f ts σ _ h
    cases hr
    exact hs.wf _ _ _ _ _ (hc n (Nat.le_refl _)) wf
  · intro f ts σ t τ h wf ι w vs hR hF hA
    obtain ⟨i, o, n, e, n', rest, b, τ', rfl, hb, hr, hc⟩ := H f ts σ _ h
    cases hr
    cases hA with
    | cons hx hrest =>
      obtain ⟨L, c, hL, rfl, hn, hsz⟩ := hx
      refine (hs.calls _ _ _ _ _ (hc c hn) wf ι w _ hR hF (.cons ⟨L, hL, rfl, hn⟩ hrest)).mono ?_
      intro ex u ⟨κ, v, he, hX, hRr, hT⟩
      refine ⟨κ, v, he, hX, hRr, ?_⟩
      obtain ⟨L', hL', rfl, hn'⟩ := hT
      have : κ i = ι i := hX.agree i (.inl (wf.lt hb))
      rw [this, hL] at hL'
      cases hL'
      exact ⟨L, c, by rw [this]; exact hL, rfl, hn', hsz⟩

def delP (f0 e : Nat) (z : List S) : CallF := fun f ts σ => match Nat.beq f f0 with
  | false => none
  | true => match ts with
    | [.v (.s (.sl i o n (.grown q))), .v (.s (.int .i64 a)), .v (.s (.int .i64 b))] => match σ.get i with
      | some (.cells true vs) => match decide (q = e ∧ 0 ≤ a ∧ b = a + 1 ∧ b ≤ n ∧ n ≤ 1000000 ∧ o + n * e ≤ vs.length) with
        | true => some (Z (.sl i o (n - 1) (.grown e)), (σ.set i (.cells true (setRange vs (o + a.toNat * e) ((vs.drop (o + (a.toNat + 1) * e)).take ((n - 1 - a.toNat) * e))))).set i (.cells true (setRange (setRange vs (o + a.toNat * e) ((vs.drop (o + (a.toNat + 1) * e)).take ((n - 1 - a.toNat) * e))) (o + (n - 1) * e) z)))
        | false => none
      | _ => none
    | _ => none

def insP (f0 e : Nat) : CallF := fun f ts σ => match Nat.beq f f0 with
  | false => none
  | true => match ts with
    | [.v (.s (.sl i o n (.grown q))), .v (.s (.int .i64 k)), .v (.s (.sl j p m (.known c)))] => match σ.get i, σ.get j with
      | some (.cells true vs), some (.cells true us) => match decide (q = e ∧ o = 0 ∧ 0 ≤ k ∧ k < n ∧ m = 1 ∧ c = 1 ∧ n ≤ 1000000 ∧ n * e ≤ vs.length ∧ i ≠ j ∧ p + e ≤ us.length ∧ e ≠ 0) with
        | true => some (Z (.sl σ.size 0 (n + 1) (.grown e)), (σ.set i .dead).push (.cells true (vs.take (k.toNat * e) ++ (us.drop p).take e ++ (vs.drop (k.toNat * e)).take ((n - k.toNat) * e))))
        | false => none
      | _, _ => none
    | _ => none

theorem rel_same {ι : Inj} {g h : Mem} {w : World} (e : ∀ k, h k = g k) (hR : Rel ι g w) : Rel ι h w := by
  have : h = g := funext e
  rw [this]
  exact hR

theorem ext_same {ι κ : Inj} {σ τ τ' : St} {w u : World} (e : ∀ k, τ'.get k = τ.get k) (z : τ'.size = τ.size) (h : Ext ι σ w κ τ u) : Ext ι σ w κ τ' u where
  size := by rw [z]; exact h.size
  agree := fun i hi => h.agree i (by rwa [z] at hi)
  own := fun i hi hl => h.own i hi (by rwa [e] at hl)
  hold := fun i hi hl => h.hold i hi (by rwa [e] at hl)
  ghost := fun i hi hn => by rw [e]; exact h.ghost i hi hn
  fresh := fun i L h1 h2 hL hl => h.fresh i L h1 (by rwa [z] at h2) hL (by rwa [e] at hl)
  os := h.os
  output := h.output
  hsize := h.hsize
  keep := h.keep

theorem ext_wide {ι κ : Inj} {σ τ : St} {w u : World} {i : Nat} {L : Loc} {vs us : List S} (hL : ι i = some L) (hb : σ.get i = some (.cells true vs)) (h : Ext ι (σ.set i (.cells true us)) w κ τ u) : Ext ι σ w κ τ u := by
  have hg : ∀ k, k ≠ i → (σ.set i (.cells true us)).get k = σ.get k := fun k hk => St.get_set_ne _ _ hk
  have hl : ∀ k, live ((σ.set i (.cells true us)).get k) → live (σ.get k) := fun k hk => by
    by_cases e : k = i
    · subst e; rw [hb]; trivial
    · rwa [hg k e] at hk
  have hl' : ∀ k, live (σ.get k) → live ((σ.set i (.cells true us)).get k) := fun k hk => by
    by_cases e : k = i
    · subst e; rw [St.get_set_same]; trivial
    · rwa [hg k e]
  refine ⟨h.size, h.agree, fun k hk hh => hl k (h.own k hk hh), fun k hk hh => ?_, fun k hk hn => ?_, fun k M h1 h2 hM hh => ?_, h.os, h.output, h.hsize, fun b hb' hn => h.keep b hb' fun k M hk hM hh => hn k M hk hM (hl k hh)⟩
  · by_cases e : k = i
    · subst e; rw [hb]; trivial
    · have := h.hold k hk hh
      rwa [hg k e] at this
  · by_cases e : k = i
    · subst e; rw [hL] at hn; cases hn
    · rw [h.ghost k hk hn, hg k e]
  · rcases h.fresh k M h1 h2 hM hh with f | ⟨j, N, a1, a2, a3, a4⟩
    · exact .inl f
    · exact .inr ⟨j, N, a1, a2, a3, hl j a4⟩

theorem rel_wide {ι : Inj} {σ : St} {w : World} {i : Nat} {L : Loc} {vs : List S} {m q : Nat} (hR : Rel ι σ.get w) (hL : ι i = some L) (hb : σ.get i = some (.cells true vs)) (hm : m ≤ vs.length) (hq : L.base + m + q ≤ L.size) :
    Rel ι (σ.set i (.cells true (vs.take m ++ List.replicate q .any))).get w := by
  have hg : ∀ k, k ≠ i → (σ.set i (.cells true (vs.take m ++ List.replicate q .any))).get k = σ.get k := fun k hk => St.get_set_ne _ _ hk
  refine ⟨fun k M b hM hb' => ?_, fun k j M N hM hN hl hh hne => ?_, fun k g us hk => ?_⟩
  · by_cases e : k = i
    · subst e
      rw [St.get_set_same] at hb'
      cases hb'
      rw [hL] at hM
      cases hM
      obtain ⟨c, el, fz, h1, h2, h3, h4, h5⟩ := hR.blk k L _ hL hb
      have hml : (vs.take m).length = m := by rw [List.length_take]; omega
      refine ⟨c, el, fz, h1, h2, by simp; omega, fun j x hx => ?_, h5⟩
      by_cases hj : j < m
      · rw [List.getElem?_append_left (by omega), List.getElem?_take, if_pos hj] at hx
        exact h4 j x hx
      · rw [List.getElem?_append_right (by omega), hml] at hx
        have hjq : j - m < q := by
          have := (List.getElem?_eq_some_iff.1 hx).1
          simpa using this
        have hx' : x = .any := by
          rw [List.getElem?_replicate, if_pos hjq] at hx
          cases hx; rfl
        subst hx'
        have hlt : L.base + j < c.size := by omega
        exact ⟨c[L.base + j], Array.getElem?_eq_getElem hlt, (h5 rfl).2 _ _ (Array.getElem?_eq_getElem hlt)⟩
    · rw [hg k e] at hb'
      exact hR.blk k M b hM hb'
  · have h1 : live (σ.get k) := by
      by_cases e : k = i
      · subst e; rw [hb]; trivial
      · rwa [hg k e] at hl
    have h2 : held (σ.get j) := by
      by_cases e : j = i
      · subst e; rw [hb]; trivial
      · rwa [hg j e] at hh
    exact hR.sep k j M N hM hN h1 h2 hne
  · by_cases e : k = i
    · subst e; rw [St.get_set_same] at hk; cases hk
    · rw [hg k e] at hk
      exact hR.glob k g us hk

theorem ins_sound {P : Program} {callf : CallF} {f0 e : Nat} (hs : CallSound P callf)
    (H1 : ∀ (σ : St) (i n k j p : Nat) (vs us : List S), σ.wf → σ.get i = some (.cells true vs) → σ.get j = some (.cells true us) → k < n → n ≤ 1000000 → n * e ≤ vs.length → i ≠ j → p + e ≤ us.length →
      ∃ τ, callf f0 [Z (.sl i 0 n (.known n)), I .i64 k, Z (.sl j p 1 (.known 1))] σ = some (Z (.sl σ.size 0 (n + 1) (.grown e)), τ) ∧ τ.size = σ.size + 1 ∧ τ.get σ.size = some (.cells true (vs.take (k * e) ++ (us.drop p).take e ++ (vs.drop (k * e)).take ((n - k) * e))) ∧ ∀ b, b < σ.size → τ.get b = σ.get b)
    (H2 : ∀ (σ : St) (i n k j p c : Nat) (vs us : List S), σ.get i = some (.cells true vs) → σ.get j = some (.cells true us) → k < n → n ≤ 1000000 → n + 1 ≤ c → vs.length = c * e → i ≠ j → p + e ≤ us.length →
      ∃ τ B, callf f0 [Z (.sl i 0 n (.known c)), I .i64 k, Z (.sl j p 1 (.known 1))] σ = some (Z (.sl i 0 (n + 1) (.known c)), τ) ∧ τ.size = σ.size ∧ τ.get i = some (.cells true B) ∧ B.length = vs.length ∧
        B.take ((n + 1) * e) = vs.take (k * e) ++ (us.drop p).take e ++ (vs.drop (k * e)).take ((n - k) * e) ∧ ∀ b, b ≠ i → τ.get b = σ.get b) : CallSound P (insP f0 e) := by
  have inv : ∀ f ts σ r, insP f0 e f ts σ = some r → f = f0 ∧ ∃ (i n k j p : Nat) (vs us : List S), ts = [Z (.sl i 0 n (.grown e)), I .i64 k, Z (.sl j p 1 (.known 1))] ∧ σ.get i = some (.cells true vs) ∧ σ.get j = some (.cells true us) ∧ k < n ∧ n ≤ 1000000 ∧ n * e ≤ vs.length ∧ i ≠ j ∧ p + e ≤ us.length ∧ e ≠ 0 ∧
      r = (Z (.sl σ.size 0 (n + 1) (.grown e)), (σ.set i .dead).push (.cells true (vs.take (k * e) ++ (us.drop p).take e ++ (vs.drop (k * e)).take ((n - k) * e)))) := by
    intro f ts σ r h
    unfold insP at h
    split at h
    · cases h
    · rename_i hf
      refine ⟨Nat.eq_of_beq_eq_true hf, ?_⟩
      split at h
      · rename_i i o n q k j p m c
        split at h
        · rename_i vs us hi hj
          split at h
          · rename_i hd
            obtain ⟨rfl, rfl, h0, h1, rfl, rfl, h2, h3, h4, h5, h6⟩ := of_decide_eq_true hd
            cases h
            obtain ⟨k', rfl⟩ : ∃ k' : Nat, k = k' := ⟨k.toNat, by omega⟩
            exact ⟨i, n, k', j, p, vs, us, rfl, hi, hj, by omega, h2, h3, h4, h5, h6, by rw [Int.toNat_natCast]⟩
          · cases h
        · cases h
      · cases h
  constructor
  · intro f ts σ t τ h wf
    obtain ⟨rfl, i, n, k, j, p, vs, us, rfl, hi, hj, _, _, _, _, _, _, hr⟩ := inv _ _ _ _ h
    cases hr
    exact ⟨St.wf_push (St.wf_set wf (wf.lt hi) _) _, by simp⟩
  · intro f ts σ t τ h wf ι w args hR hF hA
    obtain ⟨rfl, i, n, k, j, p, vs, us, rfl, hi, hj, hkn, hn, hlen, hij, hp, he0, hr⟩ := inv _ _ _ _ h
    cases hr
    obtain ⟨NEW, hNEW⟩ : ∃ NEW, NEW = vs.take (k * e) ++ (us.drop p).take e ++ (vs.drop (k * e)).take ((n - k) * e) := ⟨_, rfl⟩
    rw [← hNEW] at hF ⊢
    have hil := wf.lt hi
    have hfree : ι σ.size = none := hF σ.size (Nat.le_refl _) (by simp)
    cases hA with
    | cons hx hrest =>
      obtain ⟨L, c, hL, rfl, hnc, hsz⟩ := hx
      have hbr := hR.blk i L _ hL hi
      by_cases hc : n + 1 ≤ c
      · -- there is room
        have hq : L.base + n * e + (c - n) * e ≤ L.size := by
          have : n * e + (c - n) * e = c * e := by rw [← Nat.add_mul]; congr 1; omega
          omega
        have hRw := rel_wide hR hL hi hlen hq
        obtain ⟨vw, hvw⟩ : ∃ vw, vw = vs.take (n * e) ++ List.replicate ((c - n) * e) S.any := ⟨_, rfl⟩
        rw [← hvw] at hRw
        have hvl : vw.length = c * e := by
          rw [hvw]
          simp only [List.length_append, List.length_take, List.length_replicate]
          have : n * e + (c - n) * e = c * e := by rw [← Nat.add_mul]; congr 1; omega
          omega
        have hjw : (σ.set i (.cells true vw)).get j = some (.cells true us) := by rw [St.get_set_ne _ _ (fun h => hij h.symm)]; exact hj
        obtain ⟨τ, B, hrun, hτs, hτi, hBl, hB, hτo⟩ := H2 (σ.set i (.cells true vw)) i n k j p c vw us (St.get_set_same _ _ _) hjw hkn hn hc hvl hij hp
        have hke : (k + 1) * e ≤ n * e := Nat.mul_le_mul_right _ hkn
        have hke' : k * e ≤ n * e := Nat.mul_le_mul_right _ (by omega)
        have hnk : k * e + (n - k) * e = n * e := by rw [← Nat.add_mul]; congr 1; omega
        have hBN : B.take ((n + 1) * e) = NEW := by
          rw [hB, hNEW, hvw]
          have h1 : (vs.take (n * e) ++ List.replicate ((c - n) * e) S.any).take (k * e) = vs.take (k * e) := by
            rw [List.take_append_of_le_length (by rw [List.length_take]; omega), List.take_take]
            congr 1; omega
          have h2 : ((vs.take (n * e) ++ List.replicate ((c - n) * e) S.any).drop (k * e)).take ((n - k) * e) = (vs.drop (k * e)).take ((n - k) * e) := by
            rw [List.drop_append_of_le_length (by rw [List.length_take]; omega), List.take_append_of_le_length (by rw [List.length_drop, List.length_take]; omega), List.drop_take, List.take_take]
            congr 1; omega
          rw [h1, h2]
        have hFw : Free ι (σ.set i (.cells true vw)).size τ.size := fun q h1 h2 => by simp at h1 hτs; omega
        refine (hs.calls _ _ _ _ _ hrun (St.wf_set wf hil _) ι w _ hRw hFw (.cons ⟨L, hL, rfl, hnc⟩ hrest)).mono ?_
        rintro ex u ⟨κ, v, rfl, hX, hRr, hT⟩
        have hX' := ext_wide hL hi hX
        have hκi : κ i = some L := by rw [hX.agree i (.inl hil)]; exact hL
        have hκf : κ σ.size = none := by rw [hX.agree σ.size (.inr (by simp at hτs; omega))]; exact hfree
        have hτs' : τ.size = σ.size := by simpa using hτs
        have wfτ : τ.wf := (hs.wf _ _ _ _ _ hrun (St.wf_set wf hil _)).1
        obtain ⟨cc, el, fz, b1, b2, b3, b4, b5⟩ := hRr.blk i L _ hκi hτi
        have hu : ({ u with heap := u.heap.setIfInBounds L.b (.cells cc el fz) } : World) = u := by
          have hh : u.heap.setIfInBounds L.b (.cells cc el fz) = u.heap := by
            apply Array.ext_getElem?
            intro q
            by_cases hq : L.b = q
            · subst hq
              rw [b1, Array.getElem?_setIfInBounds_self_of_lt (Array.getElem?_eq_some_iff.1 b1).1]
            · rw [Array.getElem?_setIfInBounds_ne hq]
          rw [hh]
        have hbk : BlkRel κ L { u with heap := u.heap.setIfInBounds L.b (.cells cc el fz) } (.cells true NEW) := by
          rw [hu]
          have hNl : NEW.length ≤ B.length := by rw [← hBN, List.length_take]; omega
          refine ⟨cc, el, fz, b1, b2, by omega, fun q x hx => ?_, b5⟩
          rw [← hBN, List.getElem?_take] at hx
          split at hx
          · exact b4 q x hx
          · cases hx
        have hmv := rel_move (σ := τ) hRr wfτ (by rw [hτs']; exact hκf) hκi hτi (.cells cc el fz) (M := L) rfl (.cells true NEW) hbk
        rw [hu, hτs'] at hmv
        obtain ⟨hE2, hR2⟩ := hmv
        have hsame : ∀ q, ((σ.set i .dead).push (.cells true NEW)).get q = ((τ.set i .dead).push (.cells true NEW)).get q := fun q => by
          by_cases hq : q = σ.size
          · have a1 : ((σ.set i .dead).push (.cells true NEW)).get q = some (.cells true NEW) := by rw [hq]; exact St.get_push_same (σ.set i .dead) _
            have a2 : ((τ.set i .dead).push (.cells true NEW)).get q = some (.cells true NEW) := by rw [hq, ← hτs']; exact St.get_push_same (τ.set i .dead) _
            rw [a1, a2]
          · rw [St.get_push_ne (σ.set i .dead) _ (by simpa using hq), St.get_push_ne (τ.set i .dead) _ (by simp; omega)]
            by_cases hq' : q = i
            · rw [hq', St.get_set_same, St.get_set_same]
            · rw [St.get_set_ne _ _ hq', St.get_set_ne _ _ hq', hτo q hq', St.get_set_ne _ _ hq']
        refine ⟨_, v, rfl, ext_same hsame (by simp [hτs']) (hX'.trans hE2), rel_same hsame hR2, ?_⟩
        obtain ⟨L', hL', rfl, hn'⟩ := hT
        rw [hκi] at hL'
        cases hL'
        exact ⟨L, c, upd_same _ _ _, rfl, hn', hsz⟩
      · -- there is none
        have hcn : c = n := by omega
        subst hcn
        have hrun' : ∃ τ, callf f [Z (.sl i 0 c (.known c)), I .i64 k, Z (.sl j p 1 (.known 1))] σ = some (Z (.sl σ.size 0 (c + 1) (.grown e)), τ) ∧ τ.size = σ.size + 1 ∧ τ.get σ.size = some (.cells true NEW) ∧ ∀ b, b < σ.size → τ.get b = σ.get b := by
          rw [hNEW]
          exact H1 σ i c k j p vs us wf hi hj hkn hn hlen hij hp
        obtain ⟨τ, hrun, hτs, hτn, hτo⟩ := hrun'
        refine (hs.calls _ _ _ _ _ hrun wf ι w _ hR (by rw [hτs]; simpa using hF) (.cons ⟨L, hL, rfl, hnc⟩ hrest)).mono ?_
        rintro ex u ⟨κ, v, rfl, hX, hRr, hT⟩
        have hκi : κ i = some L := by rw [hX.agree i (.inl hil)]; exact hL
        have hτi : τ.get i = some (.cells true vs) := by rw [hτo i hil]; exact hi
        have wfτ : τ.wf := (hs.wf _ _ _ _ _ hrun wf).1
        obtain ⟨hE2, hR2⟩ := ext_kill hRr hκi hτi
        have hsame : ∀ q, ((σ.set i .dead).push (.cells true NEW)).get q = (τ.set i .dead).get q := fun q => by
          by_cases hq : q = σ.size
          · have a1 : ((σ.set i .dead).push (.cells true NEW)).get q = some (.cells true NEW) := by rw [hq]; exact St.get_push_same (σ.set i .dead) _
            rw [a1, St.get_set_ne _ _ (by omega), hq, hτn]
          · rw [St.get_push_ne (σ.set i .dead) _ (by simpa using hq)]
            by_cases hq' : q = i
            · rw [hq', St.get_set_same, St.get_set_same]
            · rw [St.get_set_ne _ _ hq', St.get_set_ne _ _ hq']
              rcases Nat.lt_or_ge q σ.size with hl | hl
              · rw [hτo q hl]
              · rw [wf q hl, wfτ q (by omega)]
        exact ⟨κ, v, rfl, ext_same hsame (by simp [hτs]) (hX.trans hE2), rel_same hsame hR2, hT⟩
end Go.Abs.F

