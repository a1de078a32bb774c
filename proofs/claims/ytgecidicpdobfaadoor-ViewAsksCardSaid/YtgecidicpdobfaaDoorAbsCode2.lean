/-
  Code does what 'exec' says.
-/
import Derived.Test.YtgecidicpdobfaaDoorAbsCode
namespace Go.Abs
open Go
section
variable {P : Program} {callf : CallF}

theorem placeGo_len (vals : List T) : ∀ (n i : Nat) (ks : List Nat) (j : Nat), (placeGo vals n i ks j).length = n := by
  intro n
  induction n with
  | zero => intro i ks j; rfl
  | succ n ih =>
    intro i ks j
    cases ks with
    | nil => simp [placeGo, ih]
    | cons k ks =>
      simp only [placeGo]
      split <;> simp [ih]

theorem placeGo_get (vals : List T) : ∀ (n i : Nat) (ks : List Nat) (j t : Nat), (placeGo vals n i ks j).getD t .any = .any ∨ ∃ m, ks[m]? = some (i + t) ∧ (placeGo vals n i ks j).getD t .any = vals.getD (j + m) .any := by
  intro n
  induction n with
  | zero => intro i ks j t; left; simp [placeGo]
  | succ n ih =>
    intro i ks j t
    cases ks with
    | nil =>
      simp only [placeGo]
      cases t with
      | zero => left; rfl
      | succ t =>
        rcases ih (i + 1) [] j t with h | ⟨m, h, _⟩
        · left; simpa using h
        · simp at h
    | cons k ks =>
      simp only [placeGo]
      cases hb : Nat.beq k i with
      | true =>
        have hki : k = i := Nat.eq_of_beq_eq_true hb
        cases t with
        | zero => right; exact ⟨0, by simp [hki], by simp⟩
        | succ t =>
          rcases ih (i + 1) ks (j + 1) t with h | ⟨m, h1, h2⟩
          · left; simpa using h
          · right
            refine ⟨m + 1, by simp only [List.getElem?_cons_succ]; rw [h1]; congr 1; omega, ?_⟩
            simp only [List.getD_cons_succ]
            rw [h2]; congr 1; omega
      | false =>
        cases t with
        | zero => left; rfl
        | succ t =>
          rcases ih (i + 1) (k :: ks) j t with h | ⟨m, h1, h2⟩
          · left; simpa using h
          · right
            refine ⟨m, by rw [h1]; congr 1; omega, ?_⟩
            simp only [List.getD_cons_succ]
            exact h2

theorem place_proj {κ : Inj} {n : Nat} {keep : List Nat} {env : List T} {tmps : Array Value} (h : EnvR κ env tmps) (hn : n = env.length) : EnvR κ (place n keep (proj keep env)) tmps := by
  subst hn
  refine ⟨by rw [place, placeGo_len]; exact h.len, fun t => ?_⟩
  unfold place
  rcases placeGo_get (proj keep env) env.length 0 keep 0 t with e | ⟨m, h1, h2⟩
  · rw [e]; trivial
  · rw [h2]
    have : (proj keep env).getD (0 + m) .any = env.getD t .any := by
      rw [Nat.zero_add] at h1 ⊢
      rw [List.getD_eq_getElem?_getD, proj, List.getElem?_map, h1]
      rfl
    rw [this]
    exact h.rel t

theorem runK_some {R : Type} {ops : List Oper} : ∀ (l : List Oper) (s : List T × St) (K' : List T × St → Option R) (r : R), runK P callf ops l s K' = some r → ∃ s', runOps P callf ops l s = some s' ∧ K' s' = some r := by
  intro l
  induction l with
  | nil => intro s K' r h; exact ⟨s, rfl, h⟩
  | cons o l ih =>
    intro s K' r h
    simp only [runK] at h
    obtain ⟨s1, h1, h⟩ := stepK_some h
    obtain ⟨s', h2, h3⟩ := ih s1 K' r h
    exact ⟨s', by simp only [runOps, h1, h2], h3⟩

theorem runDK_some {R : Type} {ops : List Oper} {ms : List Nat} : ∀ (l : List Oper) (hh : Hist) (s : List T × St) (K' : List T × St → Option R) (r : R), runDK P callf ops ms l hh s K' = some r →
    ∃ s', runD P callf ops ms l hh s = some s' ∧ K' s' = some r ∧ runOps P callf ops l s = some s' := by
  intro l
  induction l with
  | nil =>
    intro hh s K' r h
    simp only [runDK] at h
    unfold chk at h
    split at h
    · rename_i hw
      exact ⟨s, by simp only [runD, hw, if_true], h, rfl⟩
    · cases h
  | cons o l ih =>
    intro hh s K' r h
    simp only [runDK] at h
    obtain ⟨s1, h1, h⟩ := stepK_some h
    obtain ⟨s', h2, h3, h4⟩ := ih _ s1 K' r h
    exact ⟨s', by simp only [runD, h1, h2], h3, by simp only [runOps, h1, h4]⟩

theorem runOps_len {ops : List Oper} : ∀ (l : List Oper) (s s' : List T × St), runOps P callf ops l s = some s' → s'.1.length = s.1.length := by
  intro l
  induction l with
  | nil => intro s s' h; cases h; rfl
  | cons o l ih =>
    intro s s' h
    simp only [runOps] at h
    split at h
    · rename_i s1 h1
      obtain ⟨v, hv⟩ := step_env h1
      rw [ih s1 s' h, hv, putE_len]
    · cases h

/-- A piece's end, in the model. -/
def OutR (P : Program) (rets : Array ResultVar) (κ : Inj) (ctx : Nat → Nat) (n : Nat) (o : Out) (e : Exit) (a : Act) (u : World) : Prop :=
  match o with
  | .normal env => e = .normal ∧ EnvR κ env a.tmps ∧ env.length = n
  | .exit i v => e = .exit i ∧ EnvR κ (place n (keepOf n (ctx i)) v) a.tmps
  | .ret r => e = .ret ∧ ∃ v, (∀ fn : Func, fn.results = rets → (results fn a.tmps).run P u = .ok v u) ∧ TRel κ r v

theorem resVals_run {κ : Inj} {env : List T} {tmps : Array Value} {g : Mem} {u : World} (hE : EnvR κ env tmps) (hR : Rel κ g u) : ∀ (rs : List ResultVar) (l : List T), resVals P env g rs = some l →
    ∃ vs : List Value, (rs.mapM fun r => (match r with | .tmp t => pure (tmps.getD t undef) | .cell a t => do loadVar t (← asAddr (tmps.getD a undef)) : Sem Value)).run P u = .ok vs u ∧ All2 (TRel κ) l vs := by
  intro rs
  induction rs with
  | nil => intro l h; cases h; exact ⟨[], by simp [run_pure], .nil⟩
  | cons r rs ih =>
    intro l h
    cases r with
    | tmp t =>
      simp only [resVals] at h
      split at h
      · rename_i l' h'
        cases h
        obtain ⟨vs, h1, h2⟩ := ih l' h'
        exact ⟨tmps.getD t undef :: vs, by simp only [List.mapM_cons, run_bind, run_pure, h1], .cons (hE.rel t) h2⟩
      · cases h
    | cell a t =>
      simp only [resVals] at h
      have hx := hE.rel a
      split at h
      · rename_i ha
        split at h
        · rename_i n hn
          split at h
          · rename_i x l' hx' h'
            cases h
            obtain ⟨v, hv, rv⟩ := loadN_run (P := P) (t := t) ha hn hR hx hx'
            obtain ⟨vs, h1, h2⟩ := ih l' h'
            refine ⟨v :: vs, ?_, .cons rv h2⟩
            have hv' : (do loadVar t (← asAddr (tmps.getD a undef)) : Sem Value).run P u = .ok v u := by
              unfold aLoadN at hx'
              split at hx'
              · rename_i i o he
                rw [he] at hx
                obtain ⟨L, hL, e⟩ := hx
                rw [e] at hv ⊢
                exact hv
              · cases hx'
            simp only [run_bind] at hv'
            simp only [List.mapM_cons, run_bind, hv', run_pure, h1]
          · cases h
        · cases h
      · rename_i ha
        split at h
        · rename_i x l' hx' h'
          cases h
          obtain ⟨v, hv, rv⟩ := load1_run (P := P) (t := t) ha hR hx hx'
          obtain ⟨vs, h1, h2⟩ := ih l' h'
          refine ⟨v :: vs, ?_, .cons rv h2⟩
          have hv' : (do loadVar t (← asAddr (tmps.getD a undef)) : Sem Value).run P u = .ok v u := by
            unfold aLoad1 at hx'
            split at hx'
            · rename_i i o he
              rw [he] at hx
              obtain ⟨L, hL, e⟩ := hx
              rw [e] at hv ⊢
              exact hv
            · cases hx'
          simp only [run_bind] at hv'
          simp only [List.mapM_cons, run_bind, hv', run_pure, h1]
        · cases h
      · cases h

theorem allV_rel {κ : Inj} : ∀ {l : List T} {m : List V} {vs : List Value}, allV l = some m → All2 (TRel κ) l vs → All2 (VRel κ) m vs := by
  intro l
  induction l with
  | nil => intro m vs h k; cases h; cases k; exact .nil
  | cons x l ih =>
    intro m vs h k
    cases k with
    | cons a k =>
      unfold allV at h
      split at h
      · rename_i he; cases he
      · rename_i y r he
        cases he
        split at h
        · rename_i m' hm
          cases h
          exact .cons a (ih hm k)
        · cases h
      · cases h

theorem results_run {κ : Inj} {env : List T} {tmps : Array Value} {g : Mem} {u : World} (hE : EnvR κ env tmps) (hR : Rel κ g u) {rets : Array ResultVar} {l : List T} {r : T} (hl : resVals P env g rets.toList = some l) (hr : retT l = some r) :
    ∃ v, (∀ fn : Func, fn.results = rets → (results fn tmps).run P u = .ok v u) ∧ TRel κ r v := by
  obtain ⟨vs, h1, h2⟩ := resVals_run hE hR rets.toList l hl
  have hmap : ∀ fn : Func, fn.results = rets → (fn.results.mapM fun r => (match r with | .tmp t => pure (tmps.getD t undef) | .cell a t => do loadVar t (← asAddr (tmps.getD a undef)) : Sem Value)).run P u = .ok vs.toArray u := by
    intro fn hfn
    rw [hfn, ← Array.toArray_toList (xs := rets), List.mapM_toArray]
    show ((Functor.map _ _ : Sem _)).run P u = _
    rw [map_eq_pure_bind, run_bind, h1]
    rfl
  have hres : ∀ fn : Func, fn.results = rets → (results fn tmps).run P u = .ok (if h : vs.toArray.size = 1 then vs.toArray[0] else .tuple vs.toArray) u := by
    intro fn hfn
    have key : (results fn tmps).run P u = (do
        let vs ← fn.results.mapM fun r => (match r with | .tmp t => pure (tmps.getD t undef) | .cell a t => do loadVar t (← asAddr (tmps.getD a undef)) : Sem Value)
        pure (if h : vs.size = 1 then vs[0] else .tuple vs) : Sem Value).run P u := rfl
    rw [key, run_bind, hmap fn hfn]
    rfl
  unfold retT at hr
  split at hr
  · rename_i x
    cases hr
    cases h2 with
    | @cons _ v _ vs hx hn =>
      cases hn
      refine ⟨v, fun fn hfn => ?_, hx⟩
      rw [hres fn hfn]
      rfl
  · rename_i l' hne
    split at hr
    · rename_i m hm
      cases hr
      refine ⟨.tuple vs.toArray, fun fn hfn => ?_, vs, rfl, allV_rel hm h2⟩
      rw [hres fn hfn]
      have hlen := forall2_length h2
      have : ¬ vs.toArray.size = 1 := by
        intro e
        simp only [List.size_toArray] at e
        rw [e] at hlen
        cases l with
        | nil => simp at hlen
        | cons x l => cases l with
          | nil => exact hne x rfl
          | cons y l => simp at hlen
      rw [dif_neg this]
    · cases hr

theorem cif_some {R : Type} {c : T} {a b : Option R} {r : R} (h : cif c a b = some r) : (c = B true ∧ a = some r) ∨ (c = B false ∧ b = some r) := by
  unfold cif at h
  split at h
  · exact .inl ⟨rfl, h⟩
  · exact .inr ⟨rfl, h⟩
  · cases h
end
end Go.Abs
