/-
  The quick runs are the runs.
-/
import Derived.Test.YtgecidicpdobfaaDoorAbsFast
namespace Go.Abs.F
open Go Go.Abs

/-- A list of what the temporaries hold, and the same as a function. -/
def G (env : List T) (ρ : Env) : Prop := ∀ i, env.getD i .any = ρ i

theorem G.ev {env : List T} {ρ : Env} (h : G env ρ) : evO env = evF ρ := by
  funext x
  cases x with
  | tmp t => exact h t
  | const v => rfl
  | func f => rfl
  | global g => rfl

theorem G.want {env : List T} {ρ : Env} (h : G env ρ) (ops : List Oper) (o : Oper) : wantedA ops env o = wantF ops ρ o := by
  unfold wantedA wantF
  cases o.guard with
  | none => rfl
  | some p =>
    obtain ⟨j, w⟩ := p
    simp only
    cases ops[j]? with
    | none => rfl
    | some oj =>
      simp only
      cases oj.dst with
      | none => rfl
      | some d =>
        show gd (env.getD d .any) w = gd (ρ d) w
        rw [h d]

theorem G.put {env : List T} {ρ : Env} (h : G env ρ) (dst : Option Tmp) (t : T) : G (putE env dst t) (putF env.length ρ dst t) := by
  intro i
  unfold putE putF
  cases dst with
  | none => exact h i
  | some d =>
    simp only
    cases hd : Nat.blt d env.length with
    | false =>
      simp only
      have : ¬ d < env.length := fun hlt => by
        have : Nat.blt d env.length = true := by simpa [Nat.blt_eq] using hlt
        rw [this] at hd; cases hd
      rw [List.set_eq_of_length_le (Nat.le_of_not_lt this)]
      exact h i
    | true =>
      have hlt : d < env.length := by simpa [Nat.blt_eq] using hd
      simp only [updF]
      cases hb : Nat.beq i d with
      | true =>
        have : i = d := Nat.eq_of_beq_eq_true hb
        subst this
        simp [List.getD_eq_getElem?_getD, hlt]
      | false =>
        have : i ≠ d := fun e => by subst e; rw [Nat.beq_refl] at hb; cases hb
        simp only
        rw [← h i, List.getD_eq_getElem?_getD, List.getD_eq_getElem?_getD, List.getElem?_set_ne (by omega)]

theorem put_len (env : List T) (dst : Option Tmp) (t : T) : (putE env dst t).length = env.length := by
  unfold putE
  cases dst <;> simp

section
variable {P : Program} {callf : CallF} {n : Nat}

theorem bd_thn {α R : Type} (x : Option α) (K : α → Option R) : bd x K = Abs.thn x K := by cases x <;> rfl
theorem bd2_thn {R : Type} (x : Option (T × St)) (K : T → St → Option R) : bd2 x K = Abs.thn2 x K := by
  cases x with
  | none => rfl
  | some p => rfl
theorem br_cif {R : Type} (c : T) (a b : Option R) : br c a b = Abs.cif c a b := by
  cases c with
  | any => rfl
  | tup l => rfl
  | v x => cases x with
    | agg l => rfl
    | s y => cases y with
      | bool q => cases q <;> rfl
      | _ => rfl

theorem stepF_eq {R : Type} {ops : List Oper} {o : Oper} {env : List T} {ρ : Env} {σ : St} {K : List T × St → Option R} {K' : Env → St → Option R} (hn : env.length = n) (h : G env ρ)
    (hK : ∀ env' ρ' σ', env'.length = n → G env' ρ' → K (env', σ') = K' ρ' σ') : Abs.stepK P callf ops o (env, σ) K = stepF P callf n ops o ρ σ K' := by
  have hp : ∀ t, G (putE env o.dst t) (putF n ρ o.dst t) := fun t => by rw [← hn]; exact h.put _ _
  have hl : ∀ t, (putE env o.dst t).length = n := fun t => by rw [put_len, hn]
  have key : ∀ t τ, K (putE env o.dst t, τ) = K' (putF n ρ o.dst t) τ := fun t τ => hK _ _ _ (hl t) (hp t)
  have main : Abs.stepK P callf ops o (env, σ) K = KF.rec (fun x => K' (putF n ρ o.dst (evF ρ x)) σ)
      (bd (gT (wantF ops ρ o) (opP P o.op (evF ρ))) fun t => K' (putF n ρ o.dst t) σ)
      (bd (gT (wantF ops ρ o) (opL P o.op (evF ρ) σ.get)) fun t => K' (putF n ρ o.dst t) σ)
      (bd2 (gS (wantF ops ρ o) σ (aNew σ (opA P o.op (evF ρ)))) fun t τ => K' (putF n ρ o.dst t) τ)
      (bd2 (gS (wantF ops ρ o) σ (opWC P callf o.op (evF ρ) σ)) fun t τ => K' (putF n ρ o.dst t) τ) (kf (kindOf P o.op)) := by
    unfold Abs.stepK
    simp only [h.ev, h.want, key, bd_thn, bd2_thn]
    cases kindOf P o.op <;> rfl
  rw [main]
  obtain ⟨dst, op, ty, pos, after, guard⟩ := o
  unfold stepF
  cases guard with
  | some g => rfl
  | none => cases op <;> rfl

theorem runF_eq {R : Type} {ops : List Oper} : ∀ (l : List Oper) {env : List T} {ρ : Env} {σ : St} {K : List T × St → Option R} {K' : Env → St → Option R}, env.length = n → G env ρ →
    (∀ env' ρ' σ', env'.length = n → G env' ρ' → K (env', σ') = K' ρ' σ') → Abs.runK P callf ops l (env, σ) K = runF P callf n ops l ρ σ K' := by
  intro l
  induction l with
  | nil => intro env ρ σ K K' hn h hK; exact hK _ _ _ hn h
  | cons o l ih =>
    intro env ρ σ K K' hn h hK
    show Abs.stepK P callf ops o (env, σ) _ = stepF P callf n ops o ρ σ fun ρ' σ' => runF P callf n ops l ρ' σ' K'
    exact stepF_eq hn h fun env' ρ' σ' hn' h' => ih hn' h' hK

def HG (h : Hist) (hF : HistF) : Prop := ∀ k, G (h.at k).1 (hF.at k).1 ∧ (h.at k).2 = (hF.at k).2

theorem HG.nil : HG [] [] := fun k => ⟨fun i => by simp [Hist.at, HistF.at], rfl⟩

theorem HG.snoc {h : Hist} {hF : HistF} (hl : h.length = hF.length) (k : HG h hF) {env : List T} {ρ : Env} (σ : St) (g : G env ρ) : HG (h ++ [(env, σ)]) (hF ++ [(ρ, σ)]) := by
  intro j
  unfold Hist.at HistF.at
  rcases Nat.lt_trichotomy j h.length with hj | hj | hj
  · have := k j
    unfold Hist.at HistF.at at this
    simp only [List.getD_eq_getElem?_getD] at this ⊢
    rw [List.getElem?_append_left hj, List.getElem?_append_left (by omega)]
    exact this
  · simp only [List.getD_eq_getElem?_getD]
    rw [List.getElem?_append_right (by omega), List.getElem?_append_right (by omega)]
    simp [hj, hl]
    exact g
  · simp only [List.getD_eq_getElem?_getD]
    rw [List.getElem?_eq_none (by simp; omega), List.getElem?_eq_none (by simp; omega)]
    exact ⟨fun i => by simp, rfl⟩

theorem aBlks_eq {ops : List Oper} {h : Hist} {hF : HistF} (k : HG h hF) : ∀ l, aBlks P ops h l = aBlksF P ops hF l := by
  intro l
  induction l with
  | nil => rfl
  | cons p l ih =>
    obtain ⟨o, q⟩ := p
    simp only [aBlks, aBlksF, (k q).1.want, (k q).1.ev, (k q).2, ih]
    rfl

theorem win_eq {ops : List Oper} {ms : List Nat} {h : Hist} {hF : HistF} (k : HG h hF) : winOk P ops ms h = winF P ops ms hF := by
  unfold winOk winF
  show List.all _ _ = List.all _ _
  congr 1
  funext ⟨o, q⟩
  have hchi : ∀ p, chi P ops h p = chiF P ops hF p := fun p => by unfold chi chiF; rw [aBlks_eq k, (k p).2]
  simp only [(k q).1.want, (k q).1.ev, (k q).2, hchi]
  cases kindOf P o.op <;> rfl

theorem runDF_eq {R : Type} {ops : List Oper} {ms : List Nat} : ∀ (l : List Oper) {h : Hist} {hF : HistF} {env : List T} {ρ : Env} {σ : St} {K : List T × St → Option R} {K' : Env → St → Option R},
    h.length = hF.length → HG h hF → env.length = n → G env ρ → (∀ env' ρ' σ', env'.length = n → G env' ρ' → K (env', σ') = K' ρ' σ') → Abs.runDK P callf ops ms l h (env, σ) K = runDF P callf n ops ms l hF ρ σ K' := by
  intro l
  induction l with
  | nil =>
    intro h hF env ρ σ K K' hl hh hn g hK
    show Abs.chk (winOk P ops ms (h ++ [(env, σ)])) (K (env, σ)) = Bool.rec none (K' ρ σ) (winF P ops ms (hF ++ [(ρ, σ)]))
    rw [win_eq (hh.snoc hl σ g), hK _ _ _ hn g]
    cases winF P ops ms (hF ++ [(ρ, σ)]) <;> rfl
  | cons o l ih =>
    intro h hF env ρ σ K K' hl hh hn g hK
    show Abs.stepK P callf ops o (env, σ) _ = stepF P callf n ops o ρ σ fun ρ' σ' => runDF P callf n ops ms l (hF ++ [(ρ, σ)]) ρ' σ' K'
    exact stepF_eq hn g fun env' ρ' σ' hn' g' => ih (by simp [hl]) (hh.snoc hl σ g) hn' g' hK

theorem proj_eq {env : List T} {ρ : Env} (g : G env ρ) (keep : List Nat) : proj keep env = projF keep ρ := by
  unfold proj projF
  congr 1
  funext i
  exact g i

theorem placeGo_get (v : List T) : ∀ (m i : Nat) (ks : List Nat) (j d : Nat), ks.Pairwise (· < ·) → (∀ k ∈ ks, i ≤ k ∧ k < i + m) → (placeGo v m i ks j).getD d .any = placeF v ks j (i + d) := by
  intro m
  induction m with
  | zero =>
    intro i ks j d hp hk
    cases ks with
    | nil => simp [placeGo, placeF]
    | cons k ks => have := hk k (by simp); omega
  | succ m ih =>
    intro i ks j d hp hk
    cases ks with
    | nil =>
      cases d with
      | zero => rfl
      | succ d => simp only [placeGo, List.getD_cons_succ]; rw [ih (i + 1) [] j d .nil (by simp)]; rfl
    | cons k ks =>
      have hk0 := hk k (by simp)
      cases hb : Nat.beq k i with
      | true =>
        have : k = i := Nat.eq_of_beq_eq_true hb
        subst this
        simp only [placeGo, hb]
        cases d with
        | zero => simp [placeF]
        | succ d =>
          simp only [List.getD_cons_succ]
          rw [ih (k + 1) ks (j + 1) d (List.pairwise_cons.1 hp).2 (fun q hq => ⟨(List.pairwise_cons.1 hp).1 q hq, by have := (hk q (by simp [hq])).2; omega⟩)]
          have : Nat.beq k (k + (d + 1)) = false := by
            cases hx : Nat.beq k (k + (d + 1)) with
            | false => rfl
            | true => have := Nat.eq_of_beq_eq_true hx; omega
          simp only [placeF, this]
          congr 1
          omega
      | false =>
        have hne : k ≠ i := fun e => by subst e; rw [Nat.beq_refl] at hb; cases hb
        simp only [placeGo, hb]
        cases d with
        | zero =>
          have hrest : ∀ (ks : List Nat) (j : Nat), (∀ q ∈ ks, i < q) → placeF v ks j i = .any := by
            intro ks
            induction ks with
            | nil => intro j _; rfl
            | cons q ks ih =>
              intro j h
              have h0 := h q (by simp)
              have : Nat.beq q i = false := by
                cases hx : Nat.beq q i with
                | false => rfl
                | true => have := Nat.eq_of_beq_eq_true hx; omega
              simp only [placeF, this]
              exact ih _ fun q hq => h q (by simp [hq])
          show T.any = _
          rw [Nat.add_zero, hrest (k :: ks) j]
          intro q hq
          rcases List.mem_cons.1 hq with rfl | hq
          · omega
          · have := (List.pairwise_cons.1 hp).1 q hq; omega
        | succ d =>
          simp only [List.getD_cons_succ]
          rw [ih (i + 1) (k :: ks) j d hp (fun q hq => ⟨by
            rcases List.mem_cons.1 hq with rfl | hq
            · omega
            · have := (List.pairwise_cons.1 hp).1 q hq; omega, by have := (hk q hq).2; omega⟩)]
          congr 1
          omega

theorem keepOf_sorted (n s : Nat) : (keepOf n s).Pairwise (· < ·) := (List.pairwise_lt_range).filter _
theorem keepOf_lt {n s k : Nat} (h : k ∈ keepOf n s) : k < n := by
  unfold keepOf at h
  exact List.mem_range.1 (List.mem_filter.1 h).1

theorem place_eq (v : List T) (n s : Nat) : G (place n (keepOf n s) v) (placeF v (keepOf n s) 0) := by
  intro i
  unfold place
  rw [placeGo_get v n 0 _ 0 i (keepOf_sorted n s) (fun k hk => ⟨Nat.zero_le _, by have := keepOf_lt hk; omega⟩), Nat.zero_add]

theorem place_nil (v : List T) (n : Nat) : G (place n [] v) (placeF v [] 0) := by
  intro i
  unfold place
  rw [placeGo_get v n 0 [] 0 i .nil (by simp), Nat.zero_add]

theorem place_len (n : Nat) (keep : List Nat) (v : List T) : (place n keep v).length = n := by rw [place, placeGo_len]

theorem res_eq {env : List T} {ρ : Env} (g : G env ρ) (m : Mem) : ∀ l, resVals P env m l = resF P ρ m l := by
  intro l
  induction l with
  | nil => rfl
  | cons r l ih => cases r <;> (simp only [resVals, resF, ih, g _]; rfl)

structure KG {R : Type} (n : Nat) (K : Out → St → Option R) (K' : OutF → St → Option R) : Prop where
  normal : ∀ env ρ τ, env.length = n → G env ρ → K (.normal env) τ = K' (.normal ρ) τ
  exit : ∀ i v τ, K (.exit i v) τ = K' (.exit i v) τ
  ret : ∀ r τ, K (.ret r) τ = K' (.ret r) τ

theorem KG.to (n s : Nat) : KG n (toJ (keepOf n s)) (toF (keepOf n s)) :=
  ⟨fun env ρ τ _ g => by show some _ = some _; rw [proj_eq g], fun _ _ _ => rfl, fun _ _ => rfl⟩

theorem from_eq {R : Type} {keep : List Nat} {K : Out → St → Option R} {K' : OutF → St → Option R} (k : KG n K K') (hp : ∀ v, G (place n keep v) (placeF v keep 0)) (x : Option (JO × St)) : fromJ n keep K x = fromF keep K' x := by
  cases x with
  | none => rfl
  | some p =>
    obtain ⟨j, τ⟩ := p
    cases j with
    | normal v => exact k.normal _ _ _ (place_len _ _ _) (hp v)
    | exit i v => exact k.exit _ _ _
    | ret r => exact k.ret _ _

theorem exec_eq (rets : List ResultVar) (N : Nat) : ∀ (c : Code) {R : Type} (ctx : Nat → Nat) (lo : Nat) (env : List T) (ρ : Env) (σ : St) (K : Out → St → Option R) (K' : OutF → St → Option R),
    env.length = n → G env ρ → KG n K K' → exec P callf rets N c ctx lo env σ K = execF P callf rets n N c R ctx lo ρ σ K' := by
  intro c
  induction c with
  | skip => intro R ctx lo env ρ σ K K' hn g k; exact k.normal _ _ _ hn g
  | region id ops draw =>
    intro R ctx lo env ρ σ K K' hn g k
    cases draw with
    | false => exact runF_eq _ hn g fun env' ρ' σ' hn' g' => k.normal _ _ _ hn' g'
    | true =>
      show (match P.follows .mixedOrders && staticOk P ops.toList (masks ops.toList) with
        | true => runDK P callf ops.toList (masks ops.toList) ops.toList [] (env, σ) fun s => K (.normal s.1) s.2
        | false => none) = Bool.rec none (runDF P callf n ops.toList (masks ops.toList) ops.toList [] ρ σ fun ρ' σ' => K' (.normal ρ') σ') (P.follows .mixedOrders && staticOk P ops.toList (masks ops.toList))
      cases P.follows .mixedOrders && staticOk P ops.toList (masks ops.toList) with
      | false => rfl
      | true => exact runDF_eq _ rfl HG.nil hn g fun env' ρ' σ' hn' g' => k.normal _ _ _ hn' g'
  | seq x y ihx ihy =>
    intro R ctx lo env ρ σ K K' hn g k
    refine ihx ctx _ env ρ σ _ _ hn g ⟨fun env' ρ' τ hn' g' => ihy ctx lo env' ρ' τ _ _ hn' g' k, fun _ _ _ => k.exit _ _ _, fun _ _ => k.ret _ _⟩
  | cond c x y ihx ihy =>
    intro R ctx lo env ρ σ K K' hn g k
    show (match ends x && ends y with
      | true => fromJ env.length (keepOf env.length lo) K (Abs.cif (evO env c) (exec P callf rets N x ctx lo env σ (toJ (keepOf env.length lo))) (exec P callf rets N y ctx lo env σ (toJ (keepOf env.length lo))))
      | false => Abs.cif (evO env c) (exec P callf rets N x ctx lo env σ K) (exec P callf rets N y ctx lo env σ K)) = Bool.rec
        (br (evF ρ c) (execF P callf rets n N x R ctx lo ρ σ K') (execF P callf rets n N y R ctx lo ρ σ K'))
        (fromF (keepOf n lo) K' (br (evF ρ c) (execF P callf rets n N x _ ctx lo ρ σ (toF (keepOf n lo))) (execF P callf rets n N y _ ctx lo ρ σ (toF (keepOf n lo)))))
        (ends x && ends y)
    rw [hn]
    cases ends x && ends y with
    | true =>
      simp only
      rw [from_eq k (fun v => place_eq v n lo), ihx ctx lo env ρ σ _ _ hn g (KG.to n lo), ihy ctx lo env ρ σ _ _ hn g (KG.to n lo), br_cif, g.ev]
    | false =>
      simp only
      rw [ihx ctx lo env ρ σ _ _ hn g k, ihy ctx lo env ρ σ _ _ hn g k, br_cif, g.ev]
  | block id c ih =>
    intro R ctx lo env ρ σ K K' hn g k
    show fromJ env.length (keepOf env.length lo) K _ = fromF (keepOf n lo) K' _
    rw [hn, from_eq k (fun v => place_eq v n lo)]
    congr 1
    refine ih _ lo env ρ σ _ _ hn g ⟨fun env' ρ' τ hn' g' => ?_, fun i v τ => rfl, fun r τ => rfl⟩
    show some _ = some _
    rw [proj_eq g']
  | loop c ih =>
    intro R ctx lo env ρ σ K K' hn g k
    show fromJ env.length [] K (loops _ N (proj (keepOf env.length (live_ (resSlots rets) (.loop c) ctx lo)) env) σ) = fromF [] K' (loops _ N (projF (keepOf n (live_ (resSlots rets) (.loop c) ctx lo)) ρ) σ)
    rw [hn, from_eq k (fun v => place_nil v n), proj_eq g]
    congr 2
    funext vals τ
    exact ih ctx _ _ _ τ _ _ (place_len _ _ _) (place_eq _ _ _) (KG.to n _)
  | scope c ih => intro R ctx lo env ρ σ K K' hn g k; exact ih ctx lo env ρ σ K K' hn g k
  | exit id =>
    intro R ctx lo env ρ σ K K' hn g k
    show K (.exit id (proj (keepOf env.length (ctx id)) env)) σ = K' (.exit id (projF (keepOf n (ctx id)) ρ)) σ
    rw [hn, proj_eq g]
    exact k.exit _ _ _
  | ret =>
    intro R ctx lo env ρ σ K K' hn g k
    show (match resVals P env σ.get rets with
      | some l => match retT l with
        | some r => K (.ret r) σ
        | none => none
      | none => none) = bd (resF P ρ σ.get rets) fun l => bd (retT l) fun r => K' (.ret r) σ
    rw [res_eq g]
    cases resF P ρ σ.get rets with
    | none => rfl
    | some l =>
      show (match retT l with
        | some r => K (.ret r) σ
        | none => none) = bd (retT l) fun r => K' (.ret r) σ
      cases retT l with
      | none => rfl
      | some r => exact k.ret _ _
  | rangeFunc f ps x y => intro R ctx lo env ρ σ K K' hn g k; rfl
  | label l => intro R ctx lo env ρ σ K K' hn g k; exact k.normal _ _ _ hn g
  | goto l => intro R ctx lo env ρ σ K K' hn g k; rfl
  | refuse s => intro R ctx lo env ρ σ K K' hn g k; rfl

theorem arg_eq : ∀ (args : List T) (n : Nat), args.length ≤ n → G (args ++ List.replicate (n - args.length) tt) (argF n args) := by
  intro args
  induction args with
  | nil =>
    intro n _ i
    simp only [List.nil_append, List.length_nil, Nat.sub_zero, argF]
    rw [List.getD_eq_getElem?_getD, List.getElem?_replicate]
    cases hb : Nat.blt i n with
    | true => rw [if_pos (by simpa [Nat.blt_eq] using hb)]; rfl
    | false =>
      have : ¬ i < n := fun h => by
        have : Nat.blt i n = true := by simpa [Nat.blt_eq] using h
        rw [this] at hb; cases hb
      rw [if_neg this]; rfl
  | cons t args ih =>
    intro n hn i
    simp only [List.length_cons] at hn
    cases n with
    | zero => omega
    | succ m =>
      cases i with
      | zero => rfl
      | succ i =>
        have := ih m (by omega) i
        simp only [List.cons_append, List.length_cons, List.getD_cons_succ, argF, Nat.add_sub_cancel]
        rw [← this, show m + 1 - (args.length + 1) = m - args.length by omega]

theorem body_eq {f : FuncId} {fn : Func} {N : Nat} {args : List T} {σ : St} (hfn : P.funcs[f]? = some fn) (hc : fn.body.isSome = true) (hl : Nat.ble args.length fn.ntmps = true) :
    body P callf N f args σ = bodyC P callf N fn args σ := by
  have hl' : args.length ≤ fn.ntmps := Nat.le_of_ble_eq_true hl
  obtain ⟨c, hc⟩ := Option.isSome_iff_exists.1 hc
  unfold body bodyC
  simp only [hfn, hc, if_pos hl', Option.getD_some]
  refine exec_eq _ _ c _ _ _ _ _ _ _ (by simp; omega) (arg_eq args fn.ntmps hl') ⟨fun env ρ τ _ g => ?_, fun i v τ => rfl, fun r τ => rfl⟩
  show (match resVals P env τ.get fn.results.toList with
    | some l => match retT l with
      | some r => some (r, τ)
      | none => none
    | none => none) = bd (resF P ρ τ.get fn.results.toList) fun l => bd (retT l) fun r => some (r, τ)
  rw [res_eq g]
  cases resF P ρ τ.get fn.results.toList with
  | none => rfl
  | some l =>
    show (match retT l with
      | some r => some (r, τ)
      | none => none) = bd (retT l) fun r => some (r, τ)
    cases retT l <;> rfl
end
end Go.Abs.F
