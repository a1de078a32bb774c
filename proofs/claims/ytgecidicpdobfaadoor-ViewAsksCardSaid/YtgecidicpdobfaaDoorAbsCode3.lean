/-
  'exec' is sound; so are calls of so many levels.
-/
import Derived.Test.YtgecidicpdobfaaDoorAbsCode2
namespace Go.Abs
open Go
section
variable {P : Program} {callf : CallF}

/-- What is known of a piece of code that ends as said. -/
def Good (P : Program) (rets : Array ResultVar) (c : Code) (ctx : Nat → Nat) (env : List T) (σ : St) (o : Out) (τ : St) : Prop :=
  τ.wf ∧ σ.size ≤ τ.size ∧ ∀ (ι : Inj) (a : Act) (w : World), EnvR ι env a.tmps → Rel ι σ.get w → Free ι σ.size τ.size →
    ∀ (Q : Exit → Act → World → Prop), (∀ e a' u κ, a'.defers = a.defers → Ext ι σ w κ τ u → Rel κ τ.get u → OutR P rets κ ctx env.length o e a' u → Q e a' u) → c.wp P Q a w

/-- The same of an end that is a datum. -/
def OutJ (P : Program) (rets : Array ResultVar) (κ : Inj) (ctx : Nat → Nat) (n : Nat) (keep : List Nat) (o : JO) (e : Exit) (a : Act) (u : World) : Prop :=
  match o with
  | .normal v => e = .normal ∧ EnvR κ (place n keep v) a.tmps
  | .exit i v => OutR P rets κ ctx n (.exit i v) e a u
  | .ret r => OutR P rets κ ctx n (.ret r) e a u

theorem toJ_out {rets : Array ResultVar} {κ : Inj} {ctx : Nat → Nat} {n : Nat} {keep : List Nat} {o : Out} {τ τ' : St} {j : JO} {e : Exit} {a : Act} {u : World} (h : toJ keep o τ = some (j, τ')) (ho : OutR P rets κ ctx n o e a u) :
    τ' = τ ∧ OutJ P rets κ ctx n keep j e a u := by
  cases o with
  | normal env => cases h; exact ⟨rfl, ho.1, place_proj ho.2.1 ho.2.2.symm⟩
  | exit i v => cases h; exact ⟨rfl, ho⟩
  | ret r => cases h; exact ⟨rfl, ho⟩

theorem toJ_st {keep : List Nat} {o : Out} {τ τ' : St} {j : JO} (h : toJ keep o τ = some (j, τ')) : τ' = τ := by cases o <;> cases h <;> rfl

theorem fromJ_some {R : Type} {n : Nat} {keep : List Nat} {K' : Out → St → Option R} {x : Option (JO × St)} {r : R} (h : fromJ n keep K' x = some r) : ∃ j τ, x = some (j, τ) ∧
    match j with
    | .normal v => K' (.normal (place n keep v)) τ = some r
    | .exit i v => K' (.exit i v) τ = some r
    | .ret q => K' (.ret q) τ = some r := by
  unfold fromJ at h
  split at h
  · cases h
  · exact ⟨_, _, rfl, h⟩
  · exact ⟨_, _, rfl, h⟩
  · exact ⟨_, _, rfl, h⟩

def JO.out (n : Nat) (keep : List Nat) : JO → Out
  | .normal v => .normal (place n keep v)
  | .exit i v => .exit i v
  | .ret r => .ret r

theorem fromJ_out {R : Type} {n : Nat} {keep : List Nat} {K' : Out → St → Option R} {x : Option (JO × St)} {r : R} (h : fromJ n keep K' x = some r) : ∃ j τ, x = some (j, τ) ∧ K' (j.out n keep) τ = some r := by
  obtain ⟨j, τ, h1, h2⟩ := fromJ_some h
  refine ⟨j, τ, h1, ?_⟩
  cases j <;> exact h2

theorem outJ_out {rets : Array ResultVar} {κ : Inj} {ctx : Nat → Nat} {n : Nat} {keep : List Nat} {j : JO} {e : Exit} {a : Act} {u : World} (h : OutJ P rets κ ctx n keep j e a u) : OutR P rets κ ctx n (j.out n keep) e a u := by
  cases j with
  | normal v => exact ⟨h.1, h.2, by rw [place, placeGo_len]⟩
  | exit i v => exact h
  | ret r => exact h

/-- Rounds of a loop. -/
theorem loops_good {rets : Array ResultVar} {c : Code} {ctx : Nat → Nat} {n : Nat} {keep : List Nat} {f : List T → St → Option (JO × St)}
    (hf : ∀ vals σ j τ, f vals σ = some (j, τ) → σ.wf → τ.wf ∧ σ.size ≤ τ.size ∧ ∀ (ι : Inj) (a : Act) (w : World), EnvR ι (place n keep vals) a.tmps → Rel ι σ.get w → Free ι σ.size τ.size →
      ∀ (Q : Exit → Act → World → Prop), (∀ e a' u κ, a'.defers = a.defers → Ext ι σ w κ τ u → Rel κ τ.get u → OutJ P rets κ ctx n keep j e a' u → Q e a' u) → c.wp P Q a w) :
    ∀ (N : Nat) (vals : List T) (σ : St) (j : JO) (τ : St), loops f N vals σ = some (j, τ) → σ.wf → τ.wf ∧ σ.size ≤ τ.size ∧ (∀ v, j ≠ .normal v) ∧ ∀ (ι : Inj) (a : Act) (w : World), EnvR ι (place n keep vals) a.tmps → Rel ι σ.get w →
      Free ι σ.size τ.size → ∀ (Q : Exit → Act → World → Prop), (∀ e a' u κ, a'.defers = a.defers → Ext ι σ w κ τ u → Rel κ τ.get u → OutJ P rets κ ctx n keep j e a' u → Q e a' u) → Code.rounds P c Q N a w := by
  intro N
  induction N with
  | zero => intro vals σ j τ h; cases h
  | succ N ih =>
    intro vals σ j τ h wf
    simp only [loops] at h
    split at h
    · cases h
    · rename_i vals' τ1 h1
      obtain ⟨wf1, z1, g1⟩ := hf vals σ _ τ1 h1 wf
      obtain ⟨wf2, z2, hn, g2⟩ := ih vals' τ1 j τ h wf1
      refine ⟨wf2, Nat.le_trans z1 z2, hn, fun ι a w hE hR hF Q hQ => ?_⟩
      rw [rounds_succ]
      refine g1 ι a w hE hR (hF.sub (Nat.le_refl _) z2) _ fun e a' u κ hd hX hR' hJ => ?_
      obtain ⟨rfl, hE'⟩ := hJ
      refine g2 κ a' u hE' hR' (hF.next hX) Q fun e a'' u' κ' hd' hX' hR'' hJ' => ?_
      exact hQ e a'' u' κ' (hd'.trans hd) (hX.trans hX') hR'' hJ'
    · rename_i i v τ1 h1
      cases h
      obtain ⟨wf1, z1, g1⟩ := hf vals σ _ τ h1 wf
      refine ⟨wf1, z1, (fun v h => by cases h), fun ι a w hE hR hF Q hQ => ?_⟩
      rw [rounds_succ]
      refine g1 ι a w hE hR hF _ fun e a' u κ hd hX hR' hJ => ?_
      have hJ' := hJ
      obtain ⟨rfl, _⟩ := hJ
      exact hQ _ a' u κ hd hX hR' hJ'
    · rename_i r τ1 h1
      cases h
      obtain ⟨wf1, z1, g1⟩ := hf vals σ _ τ h1 wf
      refine ⟨wf1, z1, (fun v h => by cases h), fun ι a w hE hR hF Q hQ => ?_⟩
      rw [rounds_succ]
      refine g1 ι a w hE hR hF _ fun e a' u κ hd hX hR' hJ => ?_
      have hJ' := hJ
      obtain ⟨rfl, _⟩ := hJ
      exact hQ _ a' u κ hd hX hR' hJ'

theorem exec_good (hs : CallSound P callf) (rets : Array ResultVar) (N : Nat) : ∀ (c : Code) {R : Type} (ctx : Nat → Nat) (lo : Nat) (env : List T) (σ : St) (K' : Out → St → Option R) (r : R),
    exec P callf rets.toList N c ctx lo env σ K' = some r → σ.wf → ∃ o τ, K' o τ = some r ∧ Good P rets c ctx env σ o τ := by
  intro c
  induction c with
  | skip =>
    intro R ctx lo env σ K' r h wf
    simp only [exec] at h
    refine ⟨_, _, h, wf, Nat.le_refl _, fun ι a w hE hR hF Q hQ => wp_skip (hQ _ a w ι rfl (Ext.refl _ _ _) hR ⟨rfl, hE, rfl⟩)⟩
  | region id ops draw =>
    intro R ctx lo env σ K' r h wf
    simp only [exec] at h
    split at h
    · obtain ⟨s', h1, h2⟩ := runK_some _ _ _ _ h
      obtain ⟨env', τ⟩ := s'
      obtain ⟨wf', z⟩ := runOps_wf hs h1 wf
      have hl := runOps_len _ _ _ h1
      refine ⟨_, _, h2, wf', z, fun ι a w hE hR hF Q hQ => ?_⟩
      exact region_seq hs h1 hE hR wf hF fun κ u a' hd hE' hX hR' => hQ _ a' u κ hd hX hR' ⟨rfl, hE', hl⟩
    · split at h
      · rename_i hc
        obtain ⟨s', h1, h2, h3⟩ := runDK_some _ _ _ _ _ h
        obtain ⟨env', τ⟩ := s'
        obtain ⟨wf', z⟩ := runOps_wf hs h3 wf
        have hl := runOps_len _ _ _ h3
        refine ⟨_, _, h2, wf', z, fun ι a w hE hR hF Q hQ => ?_⟩
        have hrun : runDraw P callf ops.toList (env, σ) = some (env', τ) := by
          unfold runDraw
          rw [if_pos hc]
          exact h1
        exact region_draw hs hrun hE hR wf hF fun κ u a' hd hE' hX hR' => hQ _ a' u κ hd hX hR' ⟨rfl, hE', hl⟩
      · cases h
  | seq x y ihx ihy =>
    intro R ctx lo env σ K' r h wf
    simp only [exec] at h
    obtain ⟨o1, τ1, h1, wf1, z1, g1⟩ := ihx _ _ _ _ _ _ h wf
    cases o1 with
    | normal env1 =>
      obtain ⟨o2, τ2, h2, wf2, z2, g2⟩ := ihy _ _ _ _ _ _ h1 wf1
      refine ⟨o2, τ2, h2, wf2, Nat.le_trans z1 z2, fun ι a w hE hR hF Q hQ => ?_⟩
      refine wp_seq (g1 ι a w hE hR (hF.sub (Nat.le_refl _) z2) _ fun e a' u κ hd hX hR' hO => ?_)
      obtain ⟨rfl, hE', hl⟩ := hO
      refine g2 κ a' u hE' hR' (hF.next hX) Q fun e a'' u' κ' hd' hX' hR'' hO' => ?_
      rw [hl] at hO'
      exact hQ e a'' u' κ' (hd'.trans hd) (hX.trans hX') hR'' hO'
    | exit i v =>
      refine ⟨_, _, h1, wf1, z1, fun ι a w hE hR hF Q hQ => ?_⟩
      refine wp_seq (g1 ι a w hE hR hF _ fun e a' u κ hd hX hR' hO => ?_)
      have hO' := hO
      obtain ⟨rfl, _⟩ := hO
      exact hQ _ a' u κ hd hX hR' hO'
    | ret q =>
      refine ⟨_, _, h1, wf1, z1, fun ι a w hE hR hF Q hQ => ?_⟩
      refine wp_seq (g1 ι a w hE hR hF _ fun e a' u κ hd hX hR' hO => ?_)
      have hO' := hO
      obtain ⟨rfl, _⟩ := hO
      exact hQ _ a' u κ hd hX hR' hO'
  | cond c x y ihx ihy =>
    intro R ctx lo env σ K' r h wf
    have hev : ∀ (b : Bool) (ι : Inj) (a : Act), EnvR ι env a.tmps → evO env c = B b → a.eval c = .bool b := by
      intro b ι a hE he
      have := evO_rel (a := a) hE.rel c
      rw [he] at this
      exact this
    simp only [exec] at h
    split at h
    · obtain ⟨j, τ, hx, hk⟩ := fromJ_out h
      rcases cif_some hx with ⟨hb, hx⟩ | ⟨hb, hx⟩
      · obtain ⟨o, τ', h1, wf1, z1, g1⟩ := ihx _ _ _ _ _ _ hx wf
        have := toJ_st h1
        subst this
        refine ⟨_, _, hk, wf1, z1, fun ι a w hE hR hF Q hQ => wp_cond_true (hev true ι a hE hb) ?_⟩
        exact g1 ι a w hE hR hF Q fun e a' u κ hd hX hR' hO => hQ e a' u κ hd hX hR' (outJ_out (toJ_out h1 hO).2)
      · obtain ⟨o, τ', h1, wf1, z1, g1⟩ := ihy _ _ _ _ _ _ hx wf
        have := toJ_st h1
        subst this
        refine ⟨_, _, hk, wf1, z1, fun ι a w hE hR hF Q hQ => wp_cond_false (hev false ι a hE hb) ?_⟩
        exact g1 ι a w hE hR hF Q fun e a' u κ hd hX hR' hO => hQ e a' u κ hd hX hR' (outJ_out (toJ_out h1 hO).2)
    · rcases cif_some h with ⟨hb, hx⟩ | ⟨hb, hx⟩
      · obtain ⟨o, τ, h1, wf1, z1, g1⟩ := ihx _ _ _ _ _ _ hx wf
        refine ⟨o, τ, h1, wf1, z1, fun ι a w hE hR hF Q hQ => wp_cond_true (hev true ι a hE hb) (g1 ι a w hE hR hF Q hQ)⟩
      · obtain ⟨o, τ, h1, wf1, z1, g1⟩ := ihy _ _ _ _ _ _ hx wf
        refine ⟨o, τ, h1, wf1, z1, fun ι a w hE hR hF Q hQ => wp_cond_false (hev false ι a hE hb) (g1 ι a w hE hR hF Q hQ)⟩
  | block id c ih =>
    intro R ctx lo env σ K' r h wf
    simp only [exec] at h
    obtain ⟨j, τ, hx, hk⟩ := fromJ_out h
    obtain ⟨o, τ', h1, wf1, z1, g1⟩ := ih _ _ _ _ _ _ hx wf
    have hτ : τ' = τ := by
      cases o with
      | normal e => cases h1; rfl
      | exit i v => simp only at h1; split at h1 <;> cases h1 <;> rfl
      | ret q => cases h1; rfl
    subst hτ
    refine ⟨_, _, hk, wf1, z1, fun ι a w hE hR hF Q hQ => ?_⟩
    refine wp_block (g1 ι a w hE hR hF _ fun e a' u κ hd hX hR' hO => ?_)
    cases o with
    | normal e' =>
      cases h1
      obtain ⟨rfl, hE', hl⟩ := hO
      exact hQ _ a' u κ hd hX hR' ⟨rfl, place_proj hE' hl.symm, by rw [place, placeGo_len]⟩
    | exit i v =>
      simp only at h1
      obtain ⟨rfl, hE'⟩ := hO
      split at h1
      · rename_i hi
        subst hi
        cases h1
        simp only [if_true] at hE'
        show (if i = i then Q .normal a' u else _)
        rw [if_pos rfl]
        exact hQ _ a' u κ hd hX hR' ⟨rfl, hE', by rw [place, placeGo_len]⟩
      · rename_i hi
        cases h1
        simp only [if_neg hi] at hE'
        show (if i = id then Q .normal a' u else Q (.exit i) a' u)
        rw [if_neg hi]
        exact hQ _ a' u κ hd hX hR' ⟨rfl, hE'⟩
    | ret q =>
      cases h1
      have hO' := hO
      obtain ⟨rfl, _⟩ := hO
      exact hQ _ a' u κ hd hX hR' hO'
  | loop c ih =>
    intro R ctx lo env σ K' r h wf
    simp only [exec] at h
    obtain ⟨j, τ, hx, hk⟩ := fromJ_out h
    let lv := live_ (resSlots rets.toList) (.loop c) ctx lo
    let keep := keepOf env.length lv
    have hplen : ∀ vals, (place env.length keep vals).length = env.length := fun vals => by rw [place, placeGo_len]
    obtain ⟨wf1, z1, hn, g1⟩ := loops_good (P := P) (rets := rets) (c := c) (ctx := ctx) (n := env.length) (keep := keep)
      (f := fun vals τ => exec P callf rets.toList N c ctx lv (place env.length keep vals) τ (toJ keep)) (by
        intro vals σ j τ h wf
        obtain ⟨o, τ', h1, wf1, z1, g1⟩ := ih _ _ _ _ _ _ h wf
        have := toJ_st h1
        subst this
        refine ⟨wf1, z1, fun ι a w hE hR hF Q hQ => ?_⟩
        refine g1 ι a w hE hR hF Q fun e a' u κ hd hX hR' hO => ?_
        rw [hplen] at hO
        exact hQ e a' u κ hd hX hR' (toJ_out h1 hO).2) N _ σ j τ hx wf
    refine ⟨_, _, hk, wf1, z1, fun ι a w hE hR hF Q hQ => ?_⟩
    refine wp_loop_rounds N (g1 ι a w (place_proj hE rfl) hR hF Q fun e a' u κ hd hX hR' hJ => ?_)
    refine hQ e a' u κ hd hX hR' ?_
    cases j with
    | normal v => exact (hn v rfl).elim
    | exit i v => exact hJ
    | ret q => exact hJ
  | scope c ih =>
    intro R ctx lo env σ K' r h wf
    simp only [exec] at h
    obtain ⟨o, τ, h1, wf1, z1, g1⟩ := ih _ _ _ _ _ _ h wf
    refine ⟨o, τ, h1, wf1, z1, fun ι a w hE hR hF Q hQ => ?_⟩
    refine wp_scope_straight (g1 ι a w hE hR hF _ fun e a' u κ hd hX hR' hO => ?_)
    have hq := hQ e a' u κ hd hX hR' hO
    cases o with
    | normal e' => obtain ⟨rfl, _⟩ := hO; exact hq
    | exit i v => obtain ⟨rfl, _⟩ := hO; exact hq
    | ret q => obtain ⟨rfl, _⟩ := hO; exact hq
  | exit id =>
    intro R ctx lo env σ K' r h wf
    simp only [exec] at h
    refine ⟨_, _, h, wf, Nat.le_refl _, fun ι a w hE hR hF Q hQ => wp_exit (hQ _ a w ι rfl (Ext.refl _ _ _) hR ⟨rfl, place_proj hE rfl⟩)⟩
  | ret =>
    intro R ctx lo env σ K' r h wf
    simp only [exec] at h
    split at h
    · rename_i l hl
      split at h
      · rename_i q hq
        refine ⟨_, _, h, wf, Nat.le_refl _, fun ι a w hE hR hF Q hQ => wp_ret (hQ _ a w ι rfl (Ext.refl _ _ _) hR ⟨rfl, results_run hE hR hl hq⟩)⟩
      · cases h
    · cases h
  | rangeFunc f ps x y => intro R ctx lo env σ K' r h wf; simp only [exec] at h; cases h
  | label l =>
    intro R ctx lo env σ K' r h wf
    simp only [exec] at h
    refine ⟨_, _, h, wf, Nat.le_refl _, fun ι a w hE hR hF Q hQ => wp_label (hQ _ a w ι rfl (Ext.refl _ _ _) hR ⟨rfl, hE, rfl⟩)⟩
  | goto l => intro R ctx lo env σ K' r h wf; simp only [exec] at h; cases h
  | refuse s => intro R ctx lo env σ K' r h wf; simp only [exec] at h; cases h

theorem getD_append_undef (ts : List T) (vs : List Value) (ι : Inj) (n : Nat) (h : All2 (TRel ι) ts vs) : EnvR ι (ts ++ List.replicate n tt) (vs.toArray ++ Array.replicate n undef) := by
  have hl := forall2_length h
  refine ⟨by simp [hl], fun t => ?_⟩
  rw [List.getD_eq_getElem?_getD, Array.getD_eq_getD_getElem?]
  by_cases ht : t < ts.length
  · rw [List.getElem?_append_left ht, Array.getElem?_append_left (by simp; omega)]
    obtain ⟨v, hv, r⟩ := forall2_get h t ts[t] (List.getElem?_eq_getElem ht)
    rw [List.getElem?_eq_getElem ht]
    simp only [List.getElem?_toArray, hv, Option.getD_some]
    exact r
  · rw [List.getElem?_append_right (by omega), Array.getElem?_append_right (by simp; omega)]
    by_cases h2 : t - ts.length < n
    · rw [List.getElem?_replicate, if_pos h2, Array.getElem?_replicate, if_pos (by simp; omega)]
      exact tt_undef
    · rw [List.getElem?_replicate, if_neg h2]
      trivial

theorem body_sound (hs : CallSound P callf) (N : Nat) : CallSound P (body P callf N) := by
  have key : ∀ f ts σ t τ, body P callf N f ts σ = some (t, τ) → σ.wf → ∃ fn c o, P.funcs[f]? = some fn ∧ fn.body = some c ∧ ts.length ≤ fn.ntmps ∧
      Good P fn.results c (fun _ => 0) (ts ++ List.replicate (fn.ntmps - ts.length) tt) σ o τ ∧
      (match o with
        | .ret r => r = t
        | .normal env => ∃ l, resVals P env τ.get fn.results.toList = some l ∧ retT l = some t
        | .exit _ _ => False) := by
    intro f ts σ t τ h wf
    unfold body at h
    split at h
    · cases h
    · rename_i fn hfn
      split at h
      · cases h
      · rename_i c hc
        split at h
        · rename_i hle
          obtain ⟨o, τ', h1, hg⟩ := exec_good hs fn.results N c _ _ _ _ _ _ h wf
          cases o with
          | ret r => cases h1; exact ⟨fn, c, .ret t, hfn, hc, hle, hg, rfl⟩
          | normal env =>
            simp only at h1
            split at h1
            · rename_i l hl
              split at h1
              · rename_i q hq
                cases h1
                exact ⟨fn, c, .normal env, hfn, hc, hle, hg, l, hl, hq⟩
              · cases h1
            · cases h1
          | exit i v => cases h1
        · cases h
  constructor
  · intro f ts σ t τ h wf
    obtain ⟨fn, c, o, _, _, _, hg, _⟩ := key f ts σ t τ h wf
    exact ⟨hg.1, hg.2.1⟩
  · intro f ts σ t τ h wf ι w vs hR hF hargs
    obtain ⟨fn, c, o, hfn, hc, hle, hg, ho⟩ := key f ts σ t τ h wf
    obtain ⟨_, _, g⟩ := hg
    have hl := forall2_length hargs
    refine calls_of_wp hfn hc ?_
    have henv := getD_append_undef ts vs ι (fn.ntmps - ts.length) hargs
    have hsz : fn.ntmps - vs.toArray.size = fn.ntmps - ts.length := by simp [hl]
    rw [hsz]
    refine g ι _ w henv hR hF _ fun e a' u κ hd hX hR' hO => ?_
    cases o with
    | ret r =>
      obtain ⟨rfl, v, hv, hT⟩ := hO
      simp only at ho
      subst ho
      exact ⟨hd, v, hv fn rfl, κ, v, rfl, hX, hR', hT⟩
    | normal env =>
      obtain ⟨rfl, hE', _⟩ := hO
      obtain ⟨l, hl', hq⟩ := ho
      obtain ⟨v, hv, hT⟩ := results_run hE' hR' hl' hq
      exact ⟨hd, v, hv fn rfl, κ, v, rfl, hX, hR', hT⟩
    | exit i v => exact ho.elim

/-- Calls that a contract of its own answers ahead of the text. -/
theorem run_sound {prim : CallF} (hp : CallSound P prim) (N : Nat) : ∀ d, CallSound P (run P N prim d) := by
  intro d
  induction d with
  | zero => exact ⟨(fun f ts σ t τ h => by cases h), (fun f ts σ t τ h => by cases h)⟩
  | succ d ih =>
    have hb := body_sound ih N
    constructor
    · intro f ts σ t τ h wf
      simp only [run] at h
      split at h
      · rename_i r hr; cases h; exact hp.wf _ _ _ _ _ hr wf
      · exact hb.wf _ _ _ _ _ h wf
    · intro f ts σ t τ h wf
      simp only [run] at h
      split at h
      · rename_i r hr; cases h; exact hp.calls _ _ _ _ _ hr wf
      · exact hb.calls _ _ _ _ _ h wf

theorem noPrim_sound : CallSound P (fun _ _ _ => none) := ⟨(fun f ts σ t τ h => by cases h), (fun f ts σ t τ h => by cases h)⟩
end
#print axioms run_sound
end Go.Abs
