/-
  One operation of a region; a region in the text's order.
-/
import Derived.Test.YtgecidicpdobfaaDoorAbsWrite4
namespace Go.Abs
open Go

abbrev CallF := FuncId → List T → St → Option (T × St)

def callable (P : Program) (f : FuncId) : Bool :=
  match P.funcs[f]? with
  | some fn => fn.body.isSome && fn.name != "runtime.NumGoroutine"
  | none => false

def capT (p : Nat × Nat) : T := Z (.ptr p.1 p.2)

/-- A call of a function value. -/
def aCall (callf : CallF) (f : T) (args : List T) (σ : St) : Option (T × St) :=
  match f with
  | .v (.s (.clo g caps)) => callf g (args ++ caps.map capT) σ
  | _ => none

def opWC (P : Program) (callf : CallF) (op : Op) (ev : Operand → T) (σ : St) : Option (T × St) :=
  match op with
  | .call { callee := .value f, args, .. } => match ev f with
    | .v (.s (.clo g caps)) => if callable P g then callf g (args.toList.map ev ++ caps.map capT) σ else none
    | _ => none
  | op => opW P op ev σ

structure CallSound (P : Program) (callf : CallF) : Prop where
  wf : ∀ f ts σ t τ, callf f ts σ = some (t, τ) → σ.wf → τ.wf ∧ σ.size ≤ τ.size
  calls : ∀ f ts σ t τ, callf f ts σ = some (t, τ) → σ.wf → ∀ ι w vs, Rel ι σ.get w → Free ι σ.size τ.size → All2 (TRel ι) ts vs →
    Calls P f vs.toArray w fun e u => ∃ κ v, e = .returned v ∧ Ext ι σ w κ τ u ∧ Rel κ τ.get u ∧ TRel κ t v

inductive K where
  | P | L | A | W
  deriving DecidableEq

def kindOf (P : Program) (op : Op) : K :=
  match op with
  | .load _ _ => .L
  | .lookup _ _ _ _ => .L
  | .convert s d _ => match P.underlying s, P.underlying d with
    | some (.slice _), some .string => .L
    | some .string, some (.slice _) => .A
    | some (.slice _), some (.slice _) => .W
    | _, _ => .P
  | .alloc _ => .A
  | .box _ _ => .A
  | .buildSlice _ _ _ => .A
  | .makeMap _ _ => .A
  | .makeSlice _ _ _ => .A
  | .store _ _ _ => .W
  | .mapUpdate _ _ _ _ => .W
  | .insert _ _ _ _ => .W
  | .call { callee := .builtin .len, argTypes, .. } => match argTypes.toList with
    | [t] => match P.underlying t with
      | some (.map _ _) => .L
      | _ => .P
    | _ => .P
  | .call { callee := .builtin .cap, .. } => .P
  | .call { callee := .builtin .min, .. } => .P
  | .call { callee := .builtin .max, .. } => .P
  | .call _ => .W
  | _ => .P

def putE (env : List T) (dst : Option Tmp) (t : T) : List T :=
  match dst with
  | some d => env.set d t
  | none => env

def wantedA (ops : List Oper) (env : List T) (o : Oper) : Option Bool :=
  match o.guard with
  | none => some true
  | some (j, want) => match ops[j]? with
    | none => some false
    | some oj => match oj.dst with
      | none => some false
      | some d => match env.getD d .any with
        | .any => none
        | .v (.s (.bool b)) => some (b == want)
        | _ => some false

def step (P : Program) (callf : CallF) (ops : List Oper) (o : Oper) (s : List T × St) : Option (List T × St) :=
  match wantedA ops s.1 o with
  | none => none
  | some false => some (putE s.1 o.dst tt, s.2)
  | some true => match kindOf P o.op with
    | .P => match opP P o.op (evO s.1) with
      | some t => some (putE s.1 o.dst t, s.2)
      | none => none
    | .L => match opL P o.op (evO s.1) s.2.get with
      | some t => some (putE s.1 o.dst t, s.2)
      | none => none
    | .A => match opA P o.op (evO s.1) with
      | some (b, f) => some (putE s.1 o.dst (f s.2.size), s.2.push b)
      | none => none
    | .W => match opWC P callf o.op (evO s.1) s.2 with
      | some (t, τ) => some (putE s.1 o.dst t, τ)
      | none => none

def runOps (P : Program) (callf : CallF) (ops : List Oper) : List Oper → List T × St → Option (List T × St)
  | [], s => some s
  | o :: r, s => match step P callf ops o s with
    | some s' => runOps P callf ops r s'
    | none => none

section
variable {P : Program} {callf : CallF} {ι : Inj} {w : World} {σ : St}

theorem opW_wf {op : Op} {ev : Operand → T} {t : T} {τ : St} (wf : σ.wf) (h : opW P op ev σ = some (t, τ)) : τ.wf ∧ σ.size ≤ τ.size := by
  have hset : ∀ {i : Nat} {b b' : Blk}, σ.get i = some b → (σ.set i b').wf ∧ σ.size ≤ (σ.set i b').size := fun hb => ⟨St.wf_set wf (wf.lt hb) _, Nat.le_refl _⟩
  have hpush : ∀ b : Blk, (σ.push b).wf ∧ σ.size ≤ (σ.push b).size := fun b => ⟨St.wf_push wf b, by simp⟩
  have hsp : ∀ {i : Nat} {b b' c : Blk}, σ.get i = some b → ((σ.set i b').push c).wf ∧ σ.size ≤ ((σ.set i b').push c).size := fun hb => ⟨St.wf_push (St.wf_set wf (wf.lt hb) _) _, by simp⟩
  have hid : σ.wf ∧ σ.size ≤ σ.size := ⟨wf, Nat.le_refl _⟩
  have h1 : ∀ n a x, aStore n a x σ = some (t, τ) → τ.wf ∧ σ.size ≤ τ.size := by
    intro n a x h
    unfold aStore at h
    (repeat' split at h) <;> first | (cases h; done) | (cases h; exact hset ‹_›)
  have h2 : ∀ m k x, aMapSet m k x σ = some (t, τ) → τ.wf ∧ σ.size ≤ τ.size := by
    intro n a x h
    unfold aMapSet at h
    (repeat' split at h) <;> first | (cases h; done) | (cases h; exact hset ‹_›)
  have h3 : ∀ m k, aDelete m k σ = some (t, τ) → τ.wf ∧ σ.size ≤ τ.size := by
    intro n a h
    unfold aDelete at h
    (repeat' split at h) <;> first | (cases h; done) | (cases h; first | exact hid | exact hset ‹_›)
  have h4 : ∀ e b s x, aAppend e b s x σ = some (t, τ) → τ.wf ∧ σ.size ≤ τ.size := by
    intro e b s x h
    unfold aAppend at h
    (repeat' split at h) <;> first | (cases h; done) | (cases h; first | exact hid | exact hpush _ | exact hset ‹_› | exact hsp ‹_›)
  have h5 : ∀ e d x, aCopy e d x σ = some (t, τ) → τ.wf ∧ σ.size ≤ τ.size := by
    intro e d x h
    unfold aCopy at h
    (repeat' split at h) <;> first | (cases h; done) | (cases h; first | exact hid | exact hset ‹_›)
  have h6 : ∀ x, aMark x σ = some (t, τ) → τ.wf ∧ σ.size ≤ τ.size := by
    intro x h
    unfold aMark at h
    (repeat' split at h) <;> first | (cases h; done) | (cases h; exact hset ‹_›)
  unfold opW at h
  (repeat' split at h) <;> first | (cases h; done) | exact h1 _ _ _ h | exact h2 _ _ _ h | exact h3 _ _ h | exact h4 _ _ _ _ h | exact h5 _ _ _ h | exact h6 _ h

theorem opWC_wf (hs : CallSound P callf) {op : Op} {ev : Operand → T} {t : T} {τ : St} (wf : σ.wf) (h : opWC P callf op ev σ = some (t, τ)) : τ.wf ∧ σ.size ≤ τ.size := by
  unfold opWC at h
  split at h
  · split at h
    · split at h
      · exact hs.wf _ _ _ _ _ h wf
      · cases h
    · cases h
  · exact opW_wf wf h

/-- What is left of an operation's run is a value for its temporary. -/
theorem wp_value {o : Oper} {a : Act} {nx : Next} {v : Value} {u : World} {K' : Act → World → Prop} {Q : Exit → Act → World → Prop} (h : (execOp a.eval o).run P w = .ok nx u) (hn : nx = .value v ∨ nx = .skip ∧ v = undef)
    (hK : K' (a.put o.dst v) u) : o.wp P a w K' Q := by
  unfold Oper.wp
  rw [h]
  rcases hn with rfl | ⟨rfl, rfl⟩
  · exact hK
  · exact hK

theorem callFunc_run {f : FuncId} {args : Array Value} (h : callable P f = true) : (callFunc f args).run P w = .ok (.enter f args) w := by
  unfold callable at h
  cases hf : P.funcs[f]? with
  | none => rw [hf] at h; cases h
  | some fn =>
    rw [hf] at h
    simp only [Bool.and_eq_true, bne_iff_ne, ne_eq] at h
    have hb : fn.body.isNone = false := by
      cases hb : fn.body with
      | none => rw [hb] at h; simp at h
      | some c => rfl
    simp only [callFunc, run_bind, program, Sem.run, hf]
    rw [if_neg (by simpa using h.2), if_neg (by simp [hb])]
    rfl

theorem opWC_wp (hs : CallSound P callf) {o : Oper} {a : Act} {ev : Operand → T} {t : T} {τ : St} {K' : Act → World → Prop} {Q : Exit → Act → World → Prop} (hR : Rel ι σ.get w) (wf : σ.wf) (hf : Free ι σ.size τ.size)
    (hev : ∀ x ∈ o.op.operands, TRel ι (ev x) (a.eval x)) (h : opWC P callf o.op ev σ = some (t, τ))
    (hK : ∀ κ u v, Ext ι σ w κ τ u → Rel κ τ.get u → TRel κ t v → K' (a.put o.dst v) u) : o.wp P a w K' Q := by
  unfold opWC at h
  split at h
  · rename_i f args at_ ho
    split at h
    · rename_i g caps hg
      split at h
      · rename_i hc
        have hfr := hev f (by rw [ho]; simp [Op.operands, Call.operands])
        rw [hg] at hfr
        obtain ⟨cs, hfe, hcs⟩ := hfr
        have hargs : All2 (TRel ι) (args.toList.map ev) (args.toList.map a.eval) := all2_map fun x hx => hev x (by rw [ho]; simp [Op.operands, Call.operands]; exact .inr (by simpa using hx))
        have hcaps : All2 (TRel ι) (caps.map capT) cs := by
          clear hfe hg h
          induction hcs with
          | nil => exact .nil
          | cons r _ ih => exact .cons r ih
        have hall := forall2_append hargs hcaps
        have hcall := hs.calls _ _ _ _ _ h wf ι w _ hR hf hall
        have hrun : (execOp a.eval o).run P w = .ok (.enter g (args.toList.map a.eval ++ cs).toArray) w := by
          have e1 : ((args.map a.eval) ++ cs.toArray : Array Value) = (args.toList.map a.eval ++ cs).toArray := by
            apply Array.toList_inj.1; simp
          simp only [execOp, ho, resolve, run_bind, hfe, Deferred.ofValue, run_pure, invoke]
          rw [Array.empty_append, e1]
          exact callFunc_run hc
        unfold Oper.wp
        rw [hrun]
        refine Calls.mono hcall ?_
        rintro e u ⟨κ, v, rfl, hE, hRr, hT⟩
        exact hK κ u v hE hRr hT
      · cases h
    · cases h
  · obtain ⟨κ, u, nx, v, h1, h2, h3, h4, h5, _⟩ := opW_run hR wf hf hev h
    exact wp_value h1 h2 (hK κ u v h3 h4 h5)

theorem opA_wp {o : Oper} {a : Act} {ev : Operand → T} {b : Blk} {f : Nat → T} {K' : Act → World → Prop} {Q : Exit → Act → World → Prop}
    (hev : ∀ x ∈ o.op.operands, TRel ι (ev x) (a.eval x)) (h : opA P o.op ev = some (b, f))
    (hK : ∀ L u v, NewBlk ι w u L b → (∀ n, TRel (upd ι n L) (f n) v) → K' (a.put o.dst v) u) : o.wp P a w K' Q := by
  obtain ⟨L, v, u, h1, h2, h3⟩ := opA_run hev h w
  exact wp_value h1 (.inl rfl) (hK L u v h2 h3)

theorem opP_wp {o : Oper} {a : Act} {ev : Operand → T} {t : T} {K' : Act → World → Prop} {Q : Exit → Act → World → Prop}
    (hev : ∀ x ∈ o.op.operands, TRel ι (ev x) (a.eval x)) (h : opP P o.op ev = some t) (hK : ∀ v, TRel ι t v → K' (a.put o.dst v) w) : o.wp P a w K' Q := by
  obtain ⟨v, h1, h2⟩ := opP_run (w := w) hev h
  exact wp_value h1 (.inl rfl) (hK v h2)

theorem opL_wp {g : Mem} {o : Oper} {a : Act} {ev : Operand → T} {t : T} {K' : Act → World → Prop} {Q : Exit → Act → World → Prop} (hR : Rel ι g w)
    (hev : ∀ x ∈ o.op.operands, TRel ι (ev x) (a.eval x)) (h : opL P o.op ev g = some t) (hK : ∀ v, TRel ι t v → K' (a.put o.dst v) w) : o.wp P a w K' Q := by
  obtain ⟨v, h1, h2⟩ := opL_run hR hev h
  exact wp_value h1 (.inl rfl) (hK v h2)

/-- The temporaries in a state. -/
structure EnvR (ι : Inj) (env : List T) (tmps : Array Value) : Prop where
  len : env.length ≤ tmps.size
  rel : ∀ t, TRel ι (env.getD t .any) (tmps.getD t undef)

theorem EnvR.mono {κ : Inj} (h : ι.le κ) {env : List T} {tmps : Array Value} (k : EnvR ι env tmps) : EnvR κ env tmps := ⟨k.len, fun t => (k.rel t).mono h⟩

theorem getD_set (env : List T) (d t : Nat) (x : T) : (env.set d x).getD t .any = if d = t ∧ d < env.length then x else env.getD t .any := by
  rw [List.getD_eq_getElem?_getD, List.getD_eq_getElem?_getD]
  by_cases e : d = t
  · subst e
    by_cases hl : d < env.length
    · rw [List.getElem?_set_self hl, if_pos ⟨rfl, hl⟩]; rfl
    · rw [if_neg (by omega), List.set_eq_of_length_le (by omega)]
  · rw [List.getElem?_set_ne e, if_neg (by omega)]

theorem getD_setA (tmps : Array Value) (d t : Nat) (v : Value) : (tmps.setIfInBounds d v).getD t undef = if d = t ∧ d < tmps.size then v else tmps.getD t undef := by
  rw [Array.getD_eq_getD_getElem?, Array.getD_eq_getD_getElem?]
  by_cases e : d = t
  · subst e
    by_cases hl : d < tmps.size
    · rw [Array.getElem?_setIfInBounds_self_of_lt hl, if_pos ⟨rfl, hl⟩]; rfl
    · rw [if_neg (by omega)]
      have : tmps.setIfInBounds d v = tmps := by
        apply Array.ext_getElem?
        intro j
        by_cases ej : d = j
        · subst ej
          rw [Array.getElem?_eq_none (by simp; omega), Array.getElem?_eq_none (by omega)]
        · rw [Array.getElem?_setIfInBounds_ne ej]
      rw [this]
  · rw [Array.getElem?_setIfInBounds_ne e, if_neg (by omega)]

theorem EnvR.put {env : List T} {a : Act} {t : T} {v : Value} (h : EnvR ι env a.tmps) (dst : Option Tmp) (ht : TRel ι t v) : EnvR ι (putE env dst t) (a.put dst v).tmps := by
  cases dst with
  | none => exact h
  | some d =>
    refine ⟨?_, ?_⟩
    · simp only [putE, Act.put, List.length_set, Array.size_setIfInBounds]; exact h.len
    · intro k
      simp only [putE, Act.put]
      rw [getD_set, getD_setA]
      by_cases e : d = k
      · subst e
        by_cases hl : d < env.length
        · rw [if_pos ⟨rfl, hl⟩, if_pos ⟨rfl, Nat.lt_of_lt_of_le hl h.len⟩]; exact ht
        · rw [if_neg (fun h => hl h.2)]
          have : env.getD d .any = .any := by rw [List.getD_eq_getElem?_getD, List.getElem?_eq_none (Nat.le_of_not_lt hl)]; rfl
          rw [this]; trivial
      · rw [if_neg (fun h => e h.1), if_neg (fun h => e h.1)]; exact h.rel k

theorem wanted_of {ops : Array Oper} {env : List T} {tmps : Array Value} {o : Oper} {b : Bool} (h : wantedA ops.toList env o = some b)
    (hg : ∀ j want oj d, o.guard = some (j, want) → ops[j]? = some oj → oj.dst = some d → TRel ι (env.getD d .any) (tmps.getD d undef)) : Region.wanted o (yielded ops tmps) = b := by
  unfold wantedA at h
  unfold Region.wanted
  split at h
  · rename_i hgd; rw [hgd]; cases h; rfl
  · rename_i j want hgd
    rw [hgd]
    simp only
    split at h
    · rename_i hj
      cases h
      rw [Array.getElem?_toList] at hj
      simp [yielded, hj]
    · rename_i oj hj
      rw [Array.getElem?_toList] at hj
      split at h
      · rename_i hd
        cases h
        simp [yielded, hj, hd]
      · rename_i d hd
        have hr := hg j want oj d hgd hj hd
        have key : ∀ x : Value, (∀ q, x ≠ .bool q) → tmps.getD d undef = x → yielded ops tmps j = none := by
          intro x hx he
          simp only [yielded, hj, Option.bind_some, hd]
          rw [Array.getD_eq_getD_getElem?] at he
          cases ht : tmps[d]? with
          | none => rfl
          | some y =>
            rw [ht] at he
            simp only [Option.getD_some] at he
            subst he
            cases y <;> first | rfl | exact (hx _ rfl).elim
        split at h
        · cases h
        · rename_i q he
          cases h
          rw [he] at hr
          simp only [TRel, VRel, SRel] at hr
          have : yielded ops tmps j = some q := by
            simp only [yielded, hj, Option.bind_some, hd]
            rw [Array.getD_eq_getD_getElem?] at hr
            cases ht : tmps[d]? with
            | none => rw [ht] at hr; cases hr
            | some y => rw [ht] at hr; simp only [Option.getD_some] at hr; subst hr; rfl
          rw [this]
          cases q <;> cases want <;> rfl
        · rename_i h1 h2
          cases h
          generalize hxe : env.getD d .any = x at hr h1 h2
          have hnb : ∀ q, tmps.getD d undef ≠ .bool q := by
            intro q hq
            rw [hq] at hr
            cases x with
            | any => exact h1 rfl
            | tup l => obtain ⟨vs, e, _⟩ := hr; cases e
            | v y => cases y with
              | agg l => obtain ⟨vs, e, _⟩ := hr; cases e
              | s z =>
                cases z with
                | bool b => exact h2 b rfl
                | int k n => cases hr
                | str l => obtain ⟨_, e, _⟩ := hr; cases e
                | ptr i o => obtain ⟨_, _, e⟩ := hr; cases e
                | nilp => cases hr
                | sl i o n c => obtain ⟨_, _, _, e, _⟩ := sl_shape hr; cases e
                | emp i e => obtain ⟨_, _, _, _, e, _⟩ := hr; cases e
                | nils => cases hr
                | map i => obtain ⟨_, _, e⟩ := hr; cases e
                | nilm => cases hr
                | clo f c => obtain ⟨_, e, _⟩ := hr; cases e
                | nilf => cases hr
                | nili => cases hr
          rw [key _ hnb rfl]
          cases want <;> rfl
end
end Go.Abs
