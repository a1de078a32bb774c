/-
  copy; all writing operations.
-/
import Derived.Test.YtgecidicpdobfaaDoorAbsWrite3
namespace Go.Abs
open Go
section
variable {P : Program} {ι : Inj} {w : World} {σ : St}

theorem aCopy_run {t u ty el : TypeId} {e : Nat} {d x : T} {ud ux : Value} {r : T} {τ : St} (ht : P.underlying t = some (.slice el)) (hn : szOf P el = some e)
    (hR : Rel ι σ.get w) (wf : σ.wf) (hd : TRel ι d ud) (hx : TRel ι x ux) (h : aCopy e d x σ = some (r, τ)) :
    ∃ v w', (Builtin.copy_ #[t, u] ty #[ud, ux]).run P w = .ok v w' ∧ Ext ι σ w ι τ w' ∧ Rel ι τ.get w' ∧ TRel ι r v ∧ τ.wf := by
  unfold aCopy at h
  split at h
  · cases h
  rename_i n xs hsrc
  obtain ⟨hxl, hlen, hfirst⟩ := aSrc_run (P := P) hR hx hsrc
  split at h
  · simp only [TRel, VRel, SRel] at hd; subst hd
    cases h
    obtain ⟨cs, hc, hcr⟩ := hfirst 0 (Nat.zero_le _)
    refine ⟨.int .i64 0, w, ?_, Ext.refl _ _ _, hR, rfl, wf⟩
    simp [Builtin.copy_, run_bind, run_und ht, hlen, run_sz hn, hc, run_pure, goInt]
  · obtain ⟨L, o, c, hL, rfl, _⟩ := hd
    cases h
    obtain ⟨cs, hc, hcr⟩ := hfirst 0 (Nat.zero_le _)
    have hcs : cs = [] := List.eq_nil_of_length_eq_zero (by have := forall2_length hcr; simp at this; omega)
    subst hcs
    refine ⟨.int .i64 0, w, ?_, Ext.refl _ _ _, hR, rfl, wf⟩
    simp [Builtin.copy_, run_bind, run_und ht, hlen, run_sz hn, hc, run_pure, goInt, storeCells]
  · rename_i i o len c
    obtain ⟨L, k, hL, rfl, _⟩ := sl_shape hd
    split at h
    · rename_i vs hb
      split at h
      · rename_i hle
        cases h
        obtain ⟨cs, hc, hcr⟩ := hfirst (Nat.min n len) (Nat.min_le_left ..)
        have hmul : Nat.min n len * e ≤ n * e := Nat.mul_le_mul_right e (Nat.min_le_left ..)
        have htl : (xs.take (Nat.min n len * e)).length = Nat.min n len * e := by simp; omega
        obtain ⟨κ, w', _, hst, hE, hRr, rfl⟩ := does_storeCells (P := P) hR wf hL hb (o := o) (by omega) hcr
        refine ⟨.int .i64 (Nat.min n len), w', ?_, hE, hRr, rfl, St.wf_set wf (wf.lt hb) _⟩
        simp only [Builtin.copy_, run_bind, run_und ht, hlen, run_sz hn, hc, run_pure, goInt, List.getElem?_toArray, List.getElem?_cons_zero, List.getElem?_cons_succ, hst]
      · cases h
    · cases h
  · cases h

theorem aMark_run {x : T} {ux : Value} {r : T} {τ : St} (hR : Rel ι σ.get w) (wf : σ.wf) (hx : TRel ι x ux) (h : aMark x σ = some (r, τ)) :
    ∃ a n c w', ux = .slice (some a) n c ∧ (markStringish a).run P w = .ok () w' ∧ Ext ι σ w ι τ w' ∧ Rel ι τ.get w' ∧ TRel ι r ux ∧ τ.wf := by
  unfold aMark at h
  split at h
  · rename_i i o len cap
    split at h
    · rename_i vs hb
      cases h
      obtain ⟨L, k, hL, rfl, _⟩ := sl_shape hx
      obtain ⟨c, e, fz, h1, h2, h3, h4, h5⟩ := hR.blk i L _ hL hb
      have hlt := (Array.getElem?_eq_some_iff.1 h1).1
      have hg := (Array.getElem?_eq_some_iff.1 h1).2
      have hrun : (markStringish ⟨L.b, L.base + o, none⟩).run P w = .ok () (w.freeze ⟨L.b, c.size, none⟩ 1) := by
        unfold markStringish
        rw [run_bind]
        have hs : w.shape? L.b = some (e, c.size) := by
          unfold World.shape?
          rw [h1]
        have : (shape L.b).run P w = .ok (some (e, c.size)) w := by
          rw [← hs]
          rfl
        simp only [this]
        rfl
      have hmod : w.freeze ⟨L.b, c.size, none⟩ 1 = { w with heap := w.heap.setIfInBounds L.b (.cells c e (if fz.1 == fz.2 then (c.size, c.size + 1) else (min fz.1 c.size, max fz.2 (c.size + 1)))) } := by
        unfold World.freeze
        rw [if_neg (by omega)]
        congr 1
        apply Array.ext_getElem?
        intro k
        rw [Array.getElem?_modify, Array.getElem?_setIfInBounds]
        by_cases hk : L.b = k
        · subst hk
          rw [if_pos rfl, if_pos rfl, if_pos hlt, h1]
          rfl
        · rw [if_neg hk, if_neg hk]
      have hz : c.size ≤ (if fz.1 == fz.2 then (c.size, c.size + 1) else (min fz.1 c.size, max fz.2 (c.size + 1))).1 := by
        have := h5 rfl
        by_cases hh : fz.1 = fz.2
        · simp [hh]
        · simp [hh]; omega
      generalize (if fz.1 == fz.2 then (c.size, c.size + 1) else (min fz.1 c.size, max fz.2 (c.size + 1))) = fz' at hmod hz
      obtain ⟨he, hr⟩ := rel_set hR wf hL hb trivial (.cells c e fz') (.cells true vs) trivial ⟨c, e, fz', by simp [hlt], h2, h3, h4, fun _ => .inr hz⟩
      rw [← hmod] at he hr
      exact ⟨_, _, _, _, rfl, hrun, he, hr, hx, St.wf_set wf (wf.lt hb) _⟩
    · cases h
  · cases h

theorem opW_run {o : Oper} {ev : Operand → T} {ρ : Operand → Value} {t : T} {τ : St} (hR : Rel ι σ.get w) (wf : σ.wf) (hf : Free ι σ.size τ.size) (hev : ∀ x ∈ o.op.operands, TRel ι (ev x) (ρ x)) (h : opW P o.op ev σ = some (t, τ)) :
    Wrote P ι σ w ρ o t τ := by
  obtain ⟨dst, op, ty, pos, after, guard⟩ := o
  simp only at hev h
  have two : ∀ {α : Type} {l : Array α} {x y : α}, l.toList = [x, y] → l = #[x, y] := by
    intro α l x y e; rw [← Array.toArray_toList (xs := l), e]
  cases op with
  | store tt' a x =>
    simp only [opW] at h
    split at h
    · rename_i n hn
      obtain ⟨w', h1, h2, h3, rfl, h5⟩ := aStore_run (P := P) (t := tt') hn hR wf (hev a (by simp [Op.operands])) (hev x (by simp [Op.operands])) h
      exact ⟨ι, w', .skip, undef, by simp only [execOp, run_bind, h1, run_pure], .inr ⟨rfl, rfl⟩, h2, h3, tt_undef, h5⟩
    · cases h
  | convert s d x =>
    simp only [opW] at h
    split at h
    · rename_i e' e hs hd
      split at h
      · rename_i hsd he
        obtain ⟨a, n, c, w', hx, h1, h2, h3, h4, h5⟩ := aMark_run (P := P) hR wf (hev x (by simp [Op.operands])) h
        refine ⟨ι, w', .value (ρ x), ρ x, ?_, .inl rfl, h2, h3, h4, h5⟩
        simp only [execOp, run_bind, Go.convert, run_und hs, run_und hd, hx, hsd, run_und he, h1, run_pure]
      · cases h
    · cases h
  | mapUpdate tm m k x =>
    simp only [opW] at h
    split at h
    · rename_i kt et hu
      split at h
      · rename_i kk hkk
        split at h
        · rename_i hik
          obtain ⟨w', h1, h2, h3, rfl, h5⟩ := aMapSet_run (P := P) hu hkk hik hR wf (hev m (by simp [Op.operands])) (hev k (by simp [Op.operands])) (hev x (by simp [Op.operands])) h
          exact ⟨ι, w', .skip, undef, by simp only [execOp, run_bind, h1, run_pure], .inr ⟨rfl, rfl⟩, h2, h3, tt_undef, h5⟩
        · cases h
      · cases h
    · cases h
  | insert tm m k x =>
    simp only [opW] at h
    split at h
    · rename_i kt et hu
      split at h
      · rename_i kk hkk
        split at h
        · rename_i hik
          obtain ⟨w', h1, h2, h3, rfl, h5⟩ := aMapSet_run (P := P) hu hkk hik hR wf (hev m (by simp [Op.operands])) (hev k (by simp [Op.operands])) (hev x (by simp [Op.operands])) h
          exact ⟨ι, w', .skip, undef, by simp only [execOp, run_bind, h1, run_pure], .inr ⟨rfl, rfl⟩, h2, h3, tt_undef, h5⟩
        · cases h
      · cases h
    · cases h
  | call c =>
    obtain ⟨callee, args, argTypes⟩ := c
    cases callee with
    | value f => simp [opW] at h
    | invoke r n => simp [opW] at h
    | builtin b =>
      have ha : ∀ x ∈ args, TRel ι (ev x) (ρ x) := fun x hx => hev x (by simp [Op.operands, Call.operands, hx])
      cases b <;> first | (simp [opW] at h; done) | skip
      · simp only [opW] at h
        split at h
        · rename_i s x t' u' hx' ht'
          have ea := two hx'; have et := two ht'; subst ea et
          split at h
          · rename_i el hu
            split at h
            · rename_i n b z hn hb hz
              split at h
              · rename_i hc
                obtain ⟨κ, v, w', h1, h2, h3, h4, h5⟩ := aAppend_run (P := P) (ty := ty) hu hn hb hz hc.2.2 hc.1 hc.2.1 hR wf hf (ha s (by simp)) (ha x (by simp)) h
                refine ⟨κ, w', .value v, v, ?_, .inl rfl, h2, h3, h4, h5⟩
                simp [execOp, resolve, invoke, Go.builtin, run_bind, run_pure, h1]
              · cases h
            · cases h
          · cases h
        · cases h
      · simp only [opW] at h
        split at h
        · rename_i d x t' u' hx' ht'
          have ea := two hx'; have et := two ht'; subst ea et
          split at h
          · rename_i el hu
            split at h
            · rename_i n hn
              obtain ⟨v, w', h1, h2, h3, h4, h5⟩ := aCopy_run (P := P) (u := u') (ty := ty) hu hn hR wf (ha d (by simp)) (ha x (by simp)) h
              refine ⟨ι, w', .value v, v, ?_, .inl rfl, h2, h3, h4, h5⟩
              simp [execOp, resolve, invoke, Go.builtin, run_bind, run_pure, h1]
            · cases h
          · cases h
        · cases h
      · simp only [opW] at h
        split at h
        · rename_i m k t' u' hx' ht'
          have ea := two hx'; have et := two ht'; subst ea et
          split at h
          · rename_i kt et hu
            split at h
            · rename_i kk hkk
              split at h
              · rename_i hik
                obtain ⟨w', h1, h2, h3, rfl, h5⟩ := aDelete_run (P := P) (t' := u') (ty := ty) hu hkk hik hR wf (ha m (by simp)) (ha k (by simp)) h
                refine ⟨ι, w', .value undef, undef, ?_, .inl rfl, h2, h3, tt_undef, h5⟩
                simp [execOp, resolve, invoke, Go.builtin, run_bind, run_pure, h1]
              · cases h
            · cases h
          · cases h
        · cases h
  | _ => simp [opW] at h
end
end Go.Abs
