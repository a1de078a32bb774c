/-
  A region in the text's order.
-/
import Derived.Test.YtgecidicpdobfaaDoorAbsStep
namespace Go.Abs
open Go
section
variable {P : Program} {callf : CallF}

theorem step_wf (hs : CallSound P callf) {ops : List Oper} {o : Oper} {s s' : List T × St} (h : step P callf ops o s = some s') (wf : s.2.wf) : s'.2.wf ∧ s.2.size ≤ s'.2.size := by
  unfold step at h
  split at h
  · cases h
  · cases h; exact ⟨wf, Nat.le_refl _⟩
  · split at h
    · split at h
      · cases h; exact ⟨wf, Nat.le_refl _⟩
      · cases h
    · split at h
      · cases h; exact ⟨wf, Nat.le_refl _⟩
      · cases h
    · split at h
      · cases h; exact ⟨St.wf_push wf _, by simp⟩
      · cases h
    · split at h
      · rename_i t τ hw; cases h; exact opWC_wf hs wf hw
      · cases h

theorem runOps_wf (hs : CallSound P callf) {ops : List Oper} : ∀ {l : List Oper} {s s' : List T × St}, runOps P callf ops l s = some s' → s.2.wf → s'.2.wf ∧ s.2.size ≤ s'.2.size := by
  intro l
  induction l with
  | nil => intro s s' h wf; cases h; exact ⟨wf, Nat.le_refl _⟩
  | cons o l ih =>
    intro s s' h wf
    simp only [runOps] at h
    split at h
    · rename_i s1 h1
      obtain ⟨w1, z1⟩ := step_wf hs h1 wf
      obtain ⟨w2, z2⟩ := ih h w1
      exact ⟨w2, Nat.le_trans z1 z2⟩
    · cases h

theorem put_defers (a : Act) (d : Option Tmp) (v : Value) : (a.put d v).defers = a.defers := by cases d <;> rfl

theorem step_wp (hs : CallSound P callf) {ops : Array Oper} {i : Nat} {o : Oper} {env env' : List T} {σ τ : St} {ι : Inj} {a : Act} {w : World} {K' : Act → World → Prop} {Q : Exit → Act → World → Prop}
    (hi : ops[i]? = some o) (h : step P callf ops.toList o (env, σ) = some (env', τ)) (hE : EnvR ι env a.tmps) (hR : Rel ι σ.get w) (wf : σ.wf) (hf : Free ι σ.size τ.size)
    (hK : ∀ κ u a', a'.defers = a.defers → EnvR κ env' a'.tmps → Ext ι σ w κ τ u → Rel κ τ.get u → K' a' u) : wpOp P ops Q i K' a w := by
  unfold wpOp
  rw [hi]
  simp only
  unfold step at h
  have hev : ∀ x ∈ o.op.operands, TRel ι (evO env x) (a.eval x) := fun x _ => evO_rel hE.rel x
  split at h
  · cases h
  · rename_i hw
    have hw' := wanted_of hw (fun j want oj d _ _ _ => hE.rel d)
    rw [hw']
    cases h
    simp only [Bool.false_eq_true, if_false]
    exact hK ι w _ (put_defers ..) (hE.put _ tt_undef) (Ext.refl _ _ _) hR
  · rename_i hw
    have hw' := wanted_of hw (fun j want oj d _ _ _ => hE.rel d)
    rw [hw']
    simp only [if_true]
    left
    split at h
    · split at h
      · rename_i t ht
        cases h
        exact opP_wp hev ht fun v hv => hK ι w _ (put_defers ..) (hE.put _ hv) (Ext.refl _ _ _) hR
      · cases h
    · split at h
      · rename_i t ht
        cases h
        exact opL_wp hR hev ht fun v hv => hK ι w _ (put_defers ..) (hE.put _ hv) (Ext.refl _ _ _) hR
      · cases h
    · split at h
      · rename_i b f hb
        cases h
        refine opA_wp (w := w) hev hb fun L u v hN hT => ?_
        have hfree : ι σ.size = none := hf σ.size (Nat.le_refl _) (by simp)
        refine hK _ u _ (put_defers ..) ((hE.mono (le_upd L hfree)).put _ (hT σ.size)) (ext_new hN) ?_
        rw [push_updM]; exact rel_new hR hfree hN
      · cases h
    · split at h
      · rename_i t τ' hw
        cases h
        refine opWC_wp hs hR wf hf hev hw fun κ u v hX hRr hT => ?_
        exact hK κ u _ (put_defers ..) ((hE.mono (hX.le hf)).put _ hT) hX hRr
      · cases h

theorem runOps_seq (hs : CallSound P callf) {ops : Array Oper} {Q : Exit → Act → World → Prop} : ∀ (l : List Oper) (k : Nat) (env env' : List T) (σ τ : St) (ι : Inj) (a : Act) (w : World),
    ops.toList.drop k = l → runOps P callf ops.toList l (env, σ) = some (env', τ) → EnvR ι env a.tmps → Rel ι σ.get w → σ.wf → Free ι σ.size τ.size →
    (∀ κ u a', a'.defers = a.defers → EnvR κ env' a'.tmps → Ext ι σ w κ τ u → Rel κ τ.get u → Q .normal a' u) → wpOps P ops Q (List.range' k l.length) a w := by
  intro l
  induction l with
  | nil =>
    intro k env env' σ τ ι a w hd h hE hR wf hf hK
    cases h
    simpa [wpOps] using hK ι w a rfl hE (Ext.refl _ _ _) hR
  | cons o l ih =>
    intro k env env' σ τ ι a w hd h hE hR wf hf hK
    simp only [runOps] at h
    split at h
    · rename_i s1 h1
      obtain ⟨env1, σ1⟩ := s1
      obtain ⟨wf1, z1⟩ := step_wf hs h1 wf
      obtain ⟨_, z2⟩ := runOps_wf hs h wf1
      have hk : ops[k]? = some o := by
        have := congrArg (·[0]?) hd
        simpa using this
      have hd' : ops.toList.drop (k + 1) = l := by
        have := congrArg List.tail hd
        simpa using this
      rw [List.length_cons, List.range'_succ, wpOps_cons]
      refine step_wp hs hk h1 hE hR wf (hf.sub (Nat.le_refl _) z2) fun κ u a' hda hE' hX hR' => ?_
      refine ih (k + 1) env1 env' σ1 τ κ a' u hd' h hE' hR' wf1 (hf.next hX) fun κ' u' a'' hda' hE'' hX' hR'' => ?_
      exact hK κ' u' a'' (hda'.trans hda) hE'' (hX.trans hX') hR''
    · cases h

theorem region_seq (hs : CallSound P callf) {id : Nat} {ops : Array Oper} {Q : Exit → Act → World → Prop} {env env' : List T} {σ τ : St} {ι : Inj} {a : Act} {w : World}
    (h : runOps P callf ops.toList ops.toList (env, σ) = some (env', τ)) (hE : EnvR ι env a.tmps) (hR : Rel ι σ.get w) (wf : σ.wf) (hf : Free ι σ.size τ.size)
    (hK : ∀ κ u a', a'.defers = a.defers → EnvR κ env' a'.tmps → Ext ι σ w κ τ u → Rel κ τ.get u → Q .normal a' u) : (Code.region id ops false).wp P Q a w := by
  refine wp_region ?_
  have := runOps_seq hs (Q := Q) ops.toList 0 env env' σ τ ι a w (by simp) h hE hR wf hf hK
  rw [Array.length_toList] at this
  rw [List.range_eq_range']
  exact this
end
end Go.Abs
