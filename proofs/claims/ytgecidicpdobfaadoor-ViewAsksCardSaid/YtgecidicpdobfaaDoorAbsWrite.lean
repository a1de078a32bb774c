/-
  Operations that write: stores, map entries, append, copy.
-/
import Derived.Test.YtgecidicpdobfaaDoorAbsAlloc
namespace Go.Abs
open Go

def tt : T := .tup []

def aStore (n : Nat) (a x : T) (σ : St) : Option (T × St) :=
  match a, x with
  | .v (.s (.ptr i o)), .v y => match σ.get i with
    | some (.cells true vs) => if y.cells.length = n ∧ o + n ≤ vs.length then some (tt, σ.set i (.cells true (setRange vs o y.cells))) else none
    | _ => none
  | _, _ => none

def aMapSet (m k x : T) (σ : St) : Option (T × St) :=
  match m, k, x with
  | .v (.s (.map i)), .v (.s k), .v y => match σ.get i with
    | some (.map es) => match aFind k es 0 with
      | some (some (j, _)) => some (tt, σ.set i (.map (es.set j (k, y))))
      | some none => some (tt, σ.set i (.map (es ++ [(k, y)])))
      | none => none
    | _ => none
  | _, _, _ => none

def aDelete (m k : T) (σ : St) : Option (T × St) :=
  match m, k with
  | .v (.s .nilm), .v (.s _) => some (tt, σ)
  | .v (.s (.map i)), .v (.s k) => match σ.get i with
    | some (.map es) => match aFind k es 0 with
      | some (some (j, _)) => some (tt, σ.set i (.map (es.eraseIdx j)))
      | some none => some (tt, σ)
      | none => none
    | _ => none
  | _, _ => none

/-- What is appended or copied: how many elements, their cells. -/
def aSrc (e : Nat) (x : T) (g : Mem) : Option (Nat × List S) :=
  match x with
  | .v (.s .nils) => some (0, [])
  | .v (.s (.emp _ _)) => some (0, [])
  | .v (.s (.sl i o n _)) => if n = 0 then some (0, []) else match g i with
    | some (.cells _ vs) => if o + n * e ≤ vs.length then some (n, (vs.drop o).take (n * e)) else none
    | _ => none
  | .v (.s (.str l)) => if e = 1 then some (l.length, strBytes l) else none
  | _ => none

/-- append: elements of e cells and so many bytes each. -/
def aAppend (e by_ : Nat) (s x : T) (σ : St) : Option (T × St) :=
  match aSrc e x σ.get with
  | none => none
  | some (n, xs) => if e = 0 then none else match s with
    | .v (.s .nils) => if n = 0 then some (Z .nils, σ) else if n * by_ ≤ 140737488355328 then
        some (Z (.sl σ.size 0 n (.grown e)), σ.push (.cells true xs)) else none
    | .v (.s (.sl i o len (.known c))) => if (len + n) * by_ ≤ 140737488355328 then match σ.get i with
        | some (.cells own vs) =>
          if len + n ≤ c then (if own = true ∧ o + len * e + n * e ≤ vs.length then some (Z (.sl i o (len + n) (.known c)), σ.set i (.cells true (setRange vs (o + len * e) xs))) else if n = 0 then some (s, σ) else none)
          else if o + len * e ≤ vs.length then some (Z (.sl σ.size 0 (len + n) (.grown e)), σ.push (.cells true ((vs.drop o).take (len * e) ++ xs))) else none
        | _ => none
        else none
    | .v (.s (.sl i o len (.grown q))) => if q = e ∧ (len + n) * by_ ≤ 140737488355328 then
        if n = 0 then some (s, σ) else match σ.get i with
        | some (.cells true vs) =>
          if o + (len + n) * e ≤ vs.length then some (Z (.sl i o (len + n) (.grown e)), σ.set i (.cells true (setRange vs (o + len * e) xs)))
          else if o + len * e ≤ vs.length then some (Z (.sl σ.size 0 (len + n) (.grown e)), (σ.set i .dead).push (.cells true ((vs.drop o).take (len * e) ++ xs))) else none
        | _ => none
        else none
    | .v (.s (.emp i q)) => if q = e ∧ n * by_ ≤ 140737488355328 then
        if n = 0 then some (s, σ) else match σ.get i with
        | some (.cells true _) => some (Z (.sl σ.size 0 n (.grown e)), (σ.set i .dead).push (.cells true xs))
        | _ => none
        else none
    | _ => none

def aCopy (e : Nat) (d x : T) (σ : St) : Option (T × St) :=
  match aSrc e x σ.get with
  | none => none
  | some (n, xs) => match d with
    | .v (.s .nils) => some (I .i64 0, σ)
    | .v (.s (.emp _ _)) => some (I .i64 0, σ)
    | .v (.s (.sl i o len _)) => match σ.get i with
      | some (.cells true vs) => if o + Nat.min n len * e ≤ vs.length then some (I .i64 (Nat.min n len), σ.set i (.cells true (setRange vs o (xs.take (Nat.min n len * e))))) else none
      | _ => none
    | _ => none

def asSrcT (P : Program) (t : TypeId) : Bool := match P.underlying t with
  | some (.slice _) => true
  | some .string => true
  | _ => false

/-- A slice of bytes turned into itself: its block is marked behind its end. -/
def aMark (x : T) (σ : St) : Option (T × St) :=
  match x with
  | .v (.s (.sl i _ _ _)) => match σ.get i with
    | some (.cells true vs) => some (x, σ.set i (.cells true vs))
    | _ => none
  | _ => none

def opW (P : Program) (op : Op) (ev : Operand → T) (σ : St) : Option (T × St) :=
  match op with
  | .store t a x => match szOf P t with
    | some n => aStore n (ev a) (ev x) σ
    | none => none
  | .mapUpdate t m k x => match P.underlying t with
    | some (.map kt _) => match kkOf P kt with
      | some kk => if isKey kk (ev k) then aMapSet (ev m) (ev k) (ev x) σ else none
      | none => none
    | _ => none
  | .convert s d x => match P.underlying s, P.underlying d with
    | some (.slice _), some (.slice e) => match s == d, P.underlying e with
      | true, some (.int .u8) => aMark (ev x) σ
      | _, _ => none
    | _, _ => none
  | .insert t m k x => match P.underlying t with
    | some (.map kt _) => match kkOf P kt with
      | some kk => if isKey kk (ev k) then aMapSet (ev m) (ev k) (ev x) σ else none
      | none => none
    | _ => none
  | .call { callee := .builtin .delete, args, argTypes } => match args.toList, argTypes.toList with
    | [m, k], [t, _] => match P.underlying t with
      | some (.map kt _) => match kkOf P kt with
        | some kk => if isKey kk (ev k) then aDelete (ev m) (ev k) σ else none
        | none => none
      | _ => none
    | _, _ => none
  | .call { callee := .builtin .append, args, argTypes } => match args.toList, argTypes.toList with
    | [s, x], [t, u] => match P.underlying t with
      | some (.slice e) => match szOf P e, byOf P e, zeroOf P e with
        | some n, some b, some z => if asSrcT P u ∧ b ≠ 0 ∧ z.cells.length = n then aAppend n b (ev s) (ev x) σ else none
        | _, _, _ => none
      | _ => none
    | _, _ => none
  | .call { callee := .builtin .copy, args, argTypes } => match args.toList, argTypes.toList with
    | [d, x], [t, _] => match P.underlying t with
      | some (.slice e) => match szOf P e with
        | some n => aCopy n (ev d) (ev x) σ
        | none => none
      | _ => none
    | _, _ => none
  | _ => none

/-- A writing operation's end. -/
def Wrote (P : Program) (ι : Inj) (σ : St) (w : World) (ρ : Operand → Value) (o : Oper) (t : T) (τ : St) : Prop :=
  ∃ κ u nx v, (execOp ρ o).run P w = .ok nx u ∧ (nx = .value v ∨ nx = .skip ∧ v = undef) ∧ Ext ι σ w κ τ u ∧ Rel κ τ.get u ∧ TRel κ t v ∧ τ.wf

section
variable {P : Program} {ι : Inj} {w : World} {σ : St}

theorem tt_undef {κ : Inj} : TRel κ tt undef := ⟨[], rfl, .nil⟩

theorem aStore_run {t : TypeId} {n : Nat} {a x : T} {u v : Value} {r : T} {τ : St} (hn : szOf P t = some n) (hR : Rel ι σ.get w) (wf : σ.wf) (ha : TRel ι a u) (hx : TRel ι x v) (h : aStore n a x σ = some (r, τ)) :
    ∃ w', (Instr.storeAt t u v).run P w = .ok () w' ∧ Ext ι σ w ι τ w' ∧ Rel ι τ.get w' ∧ r = tt ∧ τ.wf := by
  unfold aStore at h
  split at h
  · rename_i i o y
    obtain ⟨L, hL, rfl⟩ := ha
    split at h
    · rename_i vs hb
      split at h
      · rename_i hc
        cases h
        have hcells := VRel.cells hx
        have hlen := forall2_length hcells
        obtain ⟨κ, w', a, hrun, he, hr, rfl⟩ := does_storeCells (P := P) hR wf hL hb (o := o) (by omega) hcells
        refine ⟨w', ?_, he, hr, rfl, St.wf_set wf (wf.lt hb) _⟩
        simp only [Instr.storeAt, Instr.sureAddr, run_bind, run_pure, storeVar, run_sz hn]
        have hsz : v.cells.size = n := by simp only [Array.length_toList] at hlen; omega
        rw [if_neg (by simp [hsz])]
        exact hrun
      · cases h
    · cases h
  · cases h

theorem rel_setMap {κ : Inj} {i : Nat} {L : Loc} {es es' : List (S × V)} {mes' : Array MapEntry} {clk' : Nat} (hR : Rel ι σ.get w) (wf : σ.wf) (hL : ι i = some L) (hb : σ.get i = some (.map es))
    (hκ : κ = ι) (h1 : All2 (EntRel ι) es' mes'.toList) (h2 : mes'.toList.Pairwise fun x y => x.born < y.born) (h3 : ∀ e ∈ mes'.toList, e.born < clk') :
    ∃ w', (setObj L.b (.map mes' clk')).run P w = .ok () w' ∧ Ext ι σ w κ (σ.set i (.map es')) w' ∧ Rel κ (σ.set i (.map es')).get w' := by
  subst hκ
  obtain ⟨mes, clk, hh, _⟩ := hR.blk i L _ hL hb
  have hlt := (Array.getElem?_eq_some_iff.1 hh).1
  obtain ⟨he, hr⟩ := rel_set hR wf hL hb trivial (.map mes' clk') (.map es') trivial ⟨mes', clk', by simp [hlt], h1, h2, h3⟩
  exact ⟨_, by simp [setObj, Sem.run, hh], he, hr⟩

theorem key_eq {a b : S} (h : keyEq a b = some true) : a = b := by
  cases a <;> cases b <;> simp only [keyEq] at h <;> first | (cases h; done) | skip
  · simp at h; subst h; rfl
  · rename_i k a k' b
    by_cases e : k = k'
    · subst e; simp at h; subst h; rfl
    · rw [if_neg e] at h; cases h
  · simp at h; subst h; rfl

theorem sameBits_key {a b : S} {u v : Value} (ha : SRel ι a u) (hb : SRel ι b v) (h : keyEq a b = some true) (n : Nat) : Instr.sameBits n v u = true := by
  have e := key_eq h
  subst e
  cases a <;> simp only [keyEq] at h <;> first | (cases h; done) | skip
  · simp only [SRel] at ha hb; subst ha hb; cases n <;> simp [Instr.sameBits]
  · simp only [SRel] at ha hb; subst ha hb; cases n <;> simp [Instr.sameBits]
  · obtain ⟨s, rfl, hs⟩ := ha
    obtain ⟨s', rfl, hs'⟩ := hb
    have : s = s' := by
      cases s; cases s'
      simp only at hs hs'
      congr
      apply Array.ext'
      rw [hs, hs']
    subst this
    cases n <;> (simp only [Instr.sameBits]; rw [beq_toListBytes]; simp)

theorem pairwise_map_born {l : List MapEntry} {f : MapEntry → MapEntry} (hf : ∀ e, (f e).born = e.born) (j : Nat) (h : l.Pairwise fun x y => x.born < y.born) : (l.modify j f).Pairwise fun x y => x.born < y.born := by
  induction l generalizing j with
  | nil => simp
  | cons a l ih =>
    rw [List.pairwise_cons] at h
    cases j with
    | zero =>
      rw [List.modify_zero_cons] 
      rw [List.pairwise_cons]
      exact ⟨fun b hb => by rw [hf]; exact h.1 b hb, h.2⟩
    | succ j =>
      rw [List.modify_succ_cons]
      rw [List.pairwise_cons]
      refine ⟨fun b hb => ?_, ih j h.2⟩
      have : ∃ c ∈ l, c.born = b.born := by
        clear ih h
        induction l generalizing j with
        | nil => simp at hb
        | cons c l ih2 =>
          cases j with
          | zero =>
            rw [List.modify_zero_cons] at hb
            cases hb with
            | head => exact ⟨c, by simp, (hf c).symm⟩
            | tail _ hb => exact ⟨b, List.mem_cons_of_mem _ hb, rfl⟩
          | succ j =>
            rw [List.modify_succ_cons] at hb
            cases hb with
            | head => exact ⟨b, by simp, rfl⟩
            | tail _ hb =>
              obtain ⟨c', h1, h2⟩ := ih2 j hb
              exact ⟨c', by simp [h1], h2⟩
      obtain ⟨c, hc, e⟩ := this
      rw [← e]; exact h.1 c hc

theorem mem_modify_born {l : List MapEntry} {f : MapEntry → MapEntry} (hf : ∀ e, (f e).born = e.born) {j clk : Nat} (h : ∀ e ∈ l, e.born < clk) : ∀ e ∈ l.modify j f, e.born < clk := by
  induction l generalizing j with
  | nil => intro e he; simp at he
  | cons a l ih =>
    intro e he
    cases j with
    | zero =>
      rw [List.modify_zero_cons] at he
      cases he with
      | head => rw [hf]; exact h a (by simp)
      | tail _ he => exact h e (List.mem_cons_of_mem _ he)
    | succ j =>
      rw [List.modify_succ_cons] at he
      cases he with
      | head => exact h a (by simp)
      | tail _ he => exact ih (fun e he => h e (by simp [he])) e he

theorem all2_modify {es : List (S × V)} {mes : List MapEntry} {f : MapEntry → MapEntry} {p : S × V} : ∀ {j : Nat}, All2 (EntRel ι) es mes → (∀ e, mes[j]? = some e → EntRel ι p (f e)) →
    All2 (EntRel ι) (es.set j p) (mes.modify j f) := by
  intro j h
  induction h generalizing j with
  | nil => intro _; simpa using All2.nil
  | @cons a b l m hr h ih =>
    intro hp
    cases j with
    | zero => rw [List.set_cons_zero, List.modify_zero_cons]; exact .cons (hp b rfl) h
    | succ j => rw [List.set_cons_succ, List.modify_succ_cons]; exact .cons hr (ih fun e he => hp e (by simpa using he))

theorem all2_erase {α β : Type} {R : α → β → Prop} {l : List α} {m : List β} (h : All2 R l m) : ∀ j, All2 R (l.eraseIdx j) (m.eraseIdx j) := by
  induction h with
  | nil => intro j; simpa using All2.nil
  | cons a h ih => intro j; cases j with
    | zero => simpa using h
    | succ j => simpa using All2.cons a (ih j)

theorem aMapSet_run {t kt et : TypeId} {kk : KK} {m k x : T} {um uk ux : Value} {r : T} {τ : St} (hu : P.underlying t = some (.map kt et)) (hkk : kkOf P kt = some kk) (hik : isKey kk k = true) (hR : Rel ι σ.get w) (wf : σ.wf)
    (hm : TRel ι m um) (hk : TRel ι k uk) (hx : TRel ι x ux) (h : aMapSet m k x σ = some (r, τ)) :
    ∃ w', (Instr.mapUpdate t um uk ux).run P w = .ok () w' ∧ Ext ι σ w ι τ w' ∧ Rel ι τ.get w' ∧ r = tt ∧ τ.wf := by
  unfold aMapSet at h
  split at h
  · rename_i i kv y
    obtain ⟨L, hL, rfl⟩ := hm
    split at h
    · rename_i es hb
      obtain ⟨mes, clk, hh, hall, hpw, hlt⟩ := hR.blk i L _ hL hb
      obtain ⟨d, hd, _, hchk⟩ := kk_fits (P := P) (w := w) hkk hik hk false 9999
      have hchk' : (Instr.checkKey false 10000 kt uk).run P w = .ok () w := hchk
      have hget : (getObj L.b).run P w = .ok (.map mes clk) w := by simp [getObj, Sem.run, hh]
      split at h
      · rename_i j v hf
        cases h
        obtain ⟨v', h1, h2, q, e, h3, h4, h5, h6⟩ := findKey_run (P := P) (w := w) hkk hik hk hall hf
        have hqe : EntRel ι (q, v) e := by
          obtain ⟨e', he', r⟩ := forall2_get hall j _ h3
          rw [h4] at he'; cases he'; exact r
        have hstay : (Instr.keyThatStays (((mes[j]?).map (·.key)).getD uk) uk).run P w = .ok uk w := by
          have e1 : mes[j]? = some e := by rw [← Array.getElem?_toList]; exact h4
          simp only [Instr.keyThatStays, e1, Option.map_some, Option.getD_some]
          rw [sameBits_key hk hqe.1 h5]
          rfl
        have hrel : EntRel ι (kv, y) { e with key := uk, val := ux } := ⟨hk, hx⟩
        obtain ⟨w', hs, hE, hRr⟩ := rel_setMap (P := P) (κ := ι) (es' := es.set j (kv, y)) (mes' := mes.modify j fun e => { e with key := uk, val := ux }) (clk' := clk) hR wf hL hb rfl
          (by rw [Array.toList_modify]; exact all2_modify hall (fun e' _ => ⟨hk, hx⟩))
          (by rw [Array.toList_modify]; exact pairwise_map_born (f := fun e => { e with key := uk, val := ux }) (fun _ => rfl) j hpw)
          (by rw [Array.toList_modify]; exact mem_modify_born (f := fun e => { e with key := uk, val := ux }) (fun _ => rfl) hlt)
        refine ⟨w', ?_, hE, hRr, rfl, St.wf_set wf (wf.lt hb) _⟩
        simp only [Instr.mapUpdate, run_bind, run_und hu, hget, hchk', h1, hstay, hs]
      · rename_i hf
        cases h
        have h1 := findKey_run (P := P) (w := w) hkk hik hk hall hf
        simp only at h1
        obtain ⟨w', hs, hE, hRr⟩ := rel_setMap (P := P) (κ := ι) (es' := es ++ [(kv, y)]) (mes' := mes.push { key := uk, val := ux, born := clk }) (clk' := clk + 1) hR wf hL hb rfl
          (by rw [Array.toList_push]; exact forall2_append hall (.cons ⟨hk, hx⟩ .nil))
          (by
            rw [Array.toList_push, List.pairwise_append]
            refine ⟨hpw, by simp, ?_⟩
            intro a ha b hb
            simp only [List.mem_singleton] at hb
            subst hb
            exact hlt a ha)
          (by
            intro e he
            rw [Array.toList_push, List.mem_append] at he
            rcases he with he | he
            · have := hlt e he; omega
            · simp only [List.mem_singleton] at he; subst he; simp)
        refine ⟨w', ?_, hE, hRr, rfl, St.wf_set wf (wf.lt hb) _⟩
        simp only [Instr.mapUpdate, run_bind, run_und hu, hget, hchk', h1, hs]
      · cases h
    · cases h
  · cases h

theorem aDelete_run {t kt et t' : TypeId} {ty : TypeId} {kk : KK} {m k : T} {um uk : Value} {r : T} {τ : St} (hu : P.underlying t = some (.map kt et)) (hkk : kkOf P kt = some kk) (hik : isKey kk k = true) (hR : Rel ι σ.get w) (wf : σ.wf)
    (hm : TRel ι m um) (hk : TRel ι k uk) (h : aDelete m k σ = some (r, τ)) :
    ∃ w', (Builtin.delete_ #[t, t'] ty #[um, uk]).run P w = .ok undef w' ∧ Ext ι σ w ι τ w' ∧ Rel ι τ.get w' ∧ r = tt ∧ τ.wf := by
  unfold aDelete at h
  split at h
  · rename_i kv
    simp only [TRel, VRel, SRel] at hm
    subst hm
    cases h
    obtain ⟨d, hd, _, hchk⟩ := kk_fits (P := P) (w := w) hkk hik hk true 9999
    have hchk' : (Instr.checkKey true 10000 kt uk).run P w = .ok () w := hchk
    refine ⟨w, ?_, Ext.refl _ _ _, hR, rfl, wf⟩
    simp [Builtin.delete_, run_bind, run_und hu, hchk', run_pure, undef]
  · rename_i i kv
    obtain ⟨L, hL, rfl⟩ := hm
    split at h
    · rename_i es hb
      obtain ⟨mes, clk, hh, hall, hpw, hlt⟩ := hR.blk i L _ hL hb
      obtain ⟨d, hd, _, hchk⟩ := kk_fits (P := P) (w := w) hkk hik hk mes.isEmpty 9999
      have hchk' : (Instr.checkKey mes.isEmpty 10000 kt uk).run P w = .ok () w := hchk
      have hget : (getObj L.b).run P w = .ok (.map mes clk) w := by simp [getObj, Sem.run, hh]
      split at h
      · rename_i j v hf
        cases h
        obtain ⟨v', h1, h2, q, e, h3, h4, h5, h6⟩ := findKey_run (P := P) (w := w) hkk hik hk hall hf
        have hj : j < mes.size := by
          have := (List.getElem?_eq_some_iff.1 h4).1
          simpa using this
        have herase : (mes.eraseIdxIfInBounds j).toList = mes.toList.eraseIdx j := by
          unfold Array.eraseIdxIfInBounds
          rw [dif_pos hj]
          simp
        obtain ⟨w', hs, hE, hRr⟩ := rel_setMap (P := P) (κ := ι) (es' := es.eraseIdx j) (mes' := mes.eraseIdxIfInBounds j) (clk' := clk) hR wf hL hb rfl
          (by rw [herase]; exact all2_erase hall j)
          (by rw [herase]; exact hpw.sublist (List.eraseIdx_sublist ..))
          (by rw [herase]; intro e he; exact hlt e (List.mem_of_mem_eraseIdx he))
        refine ⟨w', ?_, hE, hRr, rfl, St.wf_set wf (wf.lt hb) _⟩
        simp [Builtin.delete_, run_bind, run_und hu, hget, hchk', h1, hs, run_pure, undef]
      · rename_i hf
        cases h
        have h1 := findKey_run (P := P) (w := w) hkk hik hk hall hf
        simp only at h1
        have hlt' := (Array.getElem?_eq_some_iff.1 hh).1
        have heq : w.heap.setIfInBounds L.b (.map mes clk) = w.heap := by
          apply Array.ext_getElem?
          intro j
          by_cases h : L.b = j
          · subst h
            rw [hh, Array.getElem?_setIfInBounds_self_of_lt hlt']
          · rw [Array.getElem?_setIfInBounds_ne h]
        have hs : (setObj L.b (.map mes clk)).run P w = .ok () w := by
          simp only [setObj, Sem.run, hh, heq]
        refine ⟨w, ?_, Ext.refl _ _ _, hR, rfl, wf⟩
        simp [Builtin.delete_, run_bind, run_und hu, hget, hchk', h1, hs, run_pure, undef]
      · cases h
    · cases h
  · cases h
end
end Go.Abs
