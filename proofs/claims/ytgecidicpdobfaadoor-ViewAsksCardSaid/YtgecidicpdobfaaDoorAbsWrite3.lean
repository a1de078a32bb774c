/-
  append and copy: the store.
-/
import Derived.Test.YtgecidicpdobfaaDoorAbsWrite2
namespace Go.Abs
open Go
section
variable {P : Program} {ι : Inj} {w : World} {σ : St}

theorem ext_kill {i : Nat} {L : Loc} {vs : List S} (hR : Rel ι σ.get w) (hL : ι i = some L) (hb : σ.get i = some (.cells true vs)) : Ext ι σ w ι (σ.set i .dead) w ∧ Rel ι (σ.set i .dead).get w := by
  constructor
  · refine ⟨Nat.le_refl _, fun _ _ => rfl, ?_, ?_, ?_, fun k M h1 h2 => by simp at h2; omega, rfl, rfl, Nat.le_refl _, fun _ _ _ => rfl⟩
    · intro k hk hl
      by_cases e : k = i
      · subst e; rw [St.get_set_same] at hl; exact hl.elim
      · rwa [St.get_set_ne _ _ e] at hl
    · intro k hk hl
      by_cases e : k = i
      · subst e; rw [St.get_set_same] at hl; exact hl.elim
      · rwa [St.get_set_ne _ _ e] at hl
    · intro k hk hn
      by_cases e : k = i
      · subst e; rw [hL] at hn; cases hn
      · exact St.get_set_ne _ _ e
  · constructor
    · intro k M b hM hbk
      by_cases e : k = i
      · subst e; rw [St.get_set_same] at hbk; cases hbk; trivial
      · rw [St.get_set_ne _ _ e] at hbk; exact hR.blk k M b hM hbk
    · intro k j M N hM hN hl hh hne
      by_cases e : k = i
      · subst e; rw [St.get_set_same] at hl; exact hl.elim
      · rw [St.get_set_ne _ _ e] at hl
        by_cases ej : j = i
        · subst ej; rw [St.get_set_same] at hh; exact hh.elim
        · rw [St.get_set_ne _ _ ej] at hh
          exact hR.sep k j M N hM hN hl hh hne

theorem wf_kill (wf : σ.wf) {i : Nat} (hi : i < σ.size) : (σ.set i .dead).wf := St.wf_set wf hi _

/-- A block goes on under a new number. -/
theorem rel_move (hR : Rel ι σ.get w) (wf : σ.wf) (hf : ι σ.size = none) {i : Nat} {L M : Loc} {vs : List S} (hL : ι i = some L) (hb : σ.get i = some (.cells true vs)) (ob : Obj) (hM : M.b = L.b) (b : Blk)
    (hbr : BlkRel ι M { w with heap := w.heap.setIfInBounds L.b ob } b) :
    Ext ι σ w (upd ι σ.size M) ((σ.set i .dead).push b) { w with heap := w.heap.setIfInBounds L.b ob } ∧
      Rel (upd ι σ.size M) ((σ.set i .dead).push b).get { w with heap := w.heap.setIfInBounds L.b ob } := by
  have hi := wf.lt hb
  have hle := le_upd M hf
  have hold : ∀ k, k ≠ L.b → (w.heap.setIfInBounds L.b ob)[k]? = w.heap[k]? := fun k hk => Array.getElem?_setIfInBounds_ne (fun e => hk e.symm)
  have hget : ∀ k, k ≠ σ.size → k ≠ i → ((σ.set i .dead).push b).get k = σ.get k := by
    intro k h1 h2
    rw [St.get_push_ne _ _ (by simpa using h1), St.get_set_ne _ _ h2]
  have hgi : ((σ.set i .dead).push b).get i = some .dead := by
    rw [St.get_push_ne _ _ (by simp; omega), St.get_set_same]
  have hgn : ((σ.set i .dead).push b).get σ.size = some b := by
    have := St.get_push_same (σ.set i .dead) b
    simpa using this
  constructor
  · refine ⟨by simp, ?_, ?_, ?_, ?_, ?_, rfl, rfl, by simp, ?_⟩
    · intro k hk
      simp only [St.size_push, St.size_set] at hk
      exact upd_ne _ _ (by omega)
    · intro k hk hl
      by_cases e : k = i
      · subst e; rw [hgi] at hl; exact hl.elim
      · rwa [hget k (by omega) e] at hl
    · intro k hk hl
      by_cases e : k = i
      · subst e; rw [hgi] at hl; exact hl.elim
      · rwa [hget k (by omega) e] at hl
    · intro k hk hn
      by_cases e : k = i
      · subst e; rw [hL] at hn; cases hn
      · exact hget k (by omega) e
    · intro k N h1 h2 hN _
      simp only [St.size_push, St.size_set] at h2
      have : k = σ.size := by omega
      subst this
      rw [upd_same] at hN; cases hN
      exact .inr ⟨i, L, hi, hL, hM.symm, by rw [hb]; trivial⟩
    · intro k hk hn
      refine hold k fun e => ?_
      exact hn i L hi hL (by rw [hb]; trivial) e.symm
  · constructor
    · intro k N c hN hc
      by_cases e : k = σ.size
      · subst e
        rw [upd_same] at hN; cases hN
        rw [hgn] at hc; cases hc
        exact hbr.mono hle
      · rw [upd_ne _ _ e] at hN
        by_cases e2 : k = i
        · subst e2; rw [hgi] at hc; cases hc; trivial
        · rw [hget k e e2] at hc
          have hr := hR.blk k N c hN hc
          cases c with
          | dead => trivial
          | cells own vs' => exact (hr.mono hle).congr (hold _ (Ne.symm (hR.sep i k L N hL hN (by rw [hb]; trivial) (by rw [hc]; trivial) (Ne.symm e2))))
          | map es => exact (hr.mono hle).congr (hold _ (Ne.symm (hR.sep i k L N hL hN (by rw [hb]; trivial) (by rw [hc]; trivial) (Ne.symm e2))))
    · intro k j N N' hN hN' hl hh hne
      by_cases ek : k = i
      · subst ek; rw [hgi] at hl; exact hl.elim
      · by_cases ej : j = i
        · subst ej; rw [hgi] at hh; exact hh.elim
        · by_cases e : k = σ.size
          · subst e
            rw [upd_same] at hN; cases hN
            have ej2 : j ≠ σ.size := fun x => hne x.symm
            rw [upd_ne _ _ ej2] at hN'
            rw [hget j ej2 ej] at hh
            rw [hM]
            exact hR.sep i j L N' hL hN' (by rw [hb]; trivial) hh (Ne.symm ej)
          · rw [upd_ne _ _ e] at hN
            rw [hget k e ek] at hl
            by_cases e2 : j = σ.size
            · subst e2
              rw [upd_same] at hN'; cases hN'
              rw [hM]
              exact hR.sep k i N L hN hL hl (by rw [hb]; trivial) ek
            · rw [upd_ne _ _ e2] at hN'
              rw [hget j e2 ej] at hh
              exact hR.sep k j N N' hN hN' hl hh hne

/-- The cells of a block, from a place on, read on with what a run of stores wrote behind them. -/
theorem moved_blk {i o m : Nat} {L : Loc} {vs xs : List S} {cs : List Value} (hR : Rel ι σ.get w) (hL : ι i = some L) (hb : σ.get i = some (.cells true vs)) (hm : o + m ≤ vs.length)
    (hx : All2 (SRel ι) xs cs) (hsz : L.base + o + m + xs.length ≤ L.size) :
    ∃ ob, (storeCells ⟨L.b, L.base + o + m, none⟩ cs).run P w = .ok () { w with heap := w.heap.setIfInBounds L.b ob } ∧
      BlkRel ι ⟨L.b, L.base + o, L.size⟩ { w with heap := w.heap.setIfInBounds L.b ob } (.cells true ((vs.drop o).take m ++ xs)) := by
  obtain ⟨c, e, fz, h1, h2, h3, h4, h5⟩ := hR.blk i L _ hL hb
  have hlen := forall2_length hx
  obtain ⟨c', hrun, hs, hget⟩ := run_storeCells P L.b e fz cs (L.base + o + m) 0 w c h1 (by omega) (fun j hj hh => by have := h5 rfl; omega) (all2_oneCell hx)
  have hlt := (Array.getElem?_eq_some_iff.1 h1).1
  refine ⟨.cells c' e fz, hrun, c', e, fz, by simp [hlt], by show c'.size = L.size; omega, ?_, ?_, fun _ => by have := h5 rfl; omega⟩
  · show L.base + o + ((vs.drop o).take m ++ xs).length ≤ L.size
    simp; omega
  · intro j x hj
    have hml : ((vs.drop o).take m).length = m := by simp; omega
    show ∃ v, c'[L.base + o + j]? = some v ∧ SRel ι x v
    rw [hget]
    by_cases hjm : j < m
    · rw [List.getElem?_append_left (by omega), List.getElem?_take, if_pos hjm, List.getElem?_drop] at hj
      rw [if_neg (by omega)]
      have := h4 (o + j) x hj
      rw [← Nat.add_assoc] at this
      exact this
    · rw [List.getElem?_append_right (by omega), hml] at hj
      obtain ⟨v, hv, r⟩ := forall2_get hx _ _ hj
      have hjl := (List.getElem?_eq_some_iff.1 hv).1
      rw [if_pos (by omega)]
      have e1 : L.base + o + j - (L.base + o + m + 0) = j - m := by omega
      rw [e1]
      exact ⟨v, hv, r⟩

/-- A new row behind a draw. -/
theorem grown_new {e : TypeId} {xs : List S} {cs : List Value} (hx : All2 (SRel ι) xs cs) (more : Array Value) :
    NewBlk ι w { w with drawn := w.drawn + 1, heap := w.heap.push (.cells (cs.toArray ++ more) e (0, 0)) } ⟨w.heap.size, 0, cs.length + more.size⟩ (.cells true xs) := by
  have h := newRow_blk (ι := ι) (w := w) (e := e) hx more _ rfl
  exact ⟨h.b_eq, h.os, h.output, h.size, h.keep, h.blk⟩

theorem take_zero_mul (xs : List S) (n e : Nat) (h : xs.length = n * e) : xs.take (n * e) = xs := List.take_of_length_le (by omega)

theorem sl_known {i o n c : Nat} {L : Loc} (hL : ι i = some L) (h : n ≤ c) : TRel ι (Z (.sl i o n (.known c))) (.slice (some ⟨L.b, L.base + o, none⟩) n c) := ⟨L, hL, rfl, h⟩
theorem sl_grown {i o n c e : Nat} {L : Loc} (hL : ι i = some L) (h : n ≤ c) (hs : L.base + o + c * e = L.size) : TRel ι (Z (.sl i o n (.grown e))) (.slice (some ⟨L.b, L.base + o, none⟩) n c) := ⟨L, c, hL, rfl, h, hs⟩

set_option maxHeartbeats 400000 in
theorem aAppend_run {t u ty el : TypeId} {e b : Nat} {z : V} {s x : T} {us ux : Value} {r : T} {τ : St} (ht : P.underlying t = some (.slice el)) (hn : szOf P el = some e) (hby : byOf P el = some b) (hz : zeroOf P el = some z)
    (hzl : z.cells.length = e) (hu : asSrcT P u = true) (hb0 : b ≠ 0) (hR : Rel ι σ.get w) (wf : σ.wf) (hf : Free ι σ.size τ.size) (hs : TRel ι s us) (hx : TRel ι x ux) (h : aAppend e b s x σ = some (r, τ)) :
    ∃ κ v w', (Builtin.append_ #[t, u] ty #[us, ux]).run P w = .ok v w' ∧ Ext ι σ w κ τ w' ∧ Rel κ τ.get w' ∧ TRel κ r v ∧ τ.wf := by
  unfold aAppend at h
  split at h
  · cases h
  rename_i n xs hsrc
  obtain ⟨hxl, hlen, hfirst⟩ := aSrc_run (P := P) hR hx hsrc
  have hR1 : Rel ι σ.get { w with drawn := w.drawn + 1 } := hR.heap rfl
  obtain ⟨_, _, hfirst1⟩ := aSrc_run (P := P) hR1 hx hsrc
  obtain ⟨cs, hc, hcr⟩ := hfirst n (Nat.le_refl _)
  obtain ⟨ds, hd, hdr⟩ := hfirst1 n (Nat.le_refl _)
  rw [take_zero_mul xs n e hxl] at hcr hdr
  have hcl := forall2_length hcr
  have hdl := forall2_length hdr
  split at h
  · cases h
  rename_i he0
  split at h
  · simp only [TRel, VRel, SRel] at hs
    subst hs
    split at h
    · rename_i h0
      subst h0
      cases h
      obtain ⟨hin, _⟩ := run_append (P := P) (w := w) (ty := ty) ht hn hby hz hu hb0 (a := none) (len := 0) (cap := 0) hlen (cs := cs) (Nat.le_refl _) (by omega)
      exact ⟨ι, .slice none 0 0, w, hin (Nat.le_refl _) hc, Ext.refl _ _ _, hR, rfl, wf⟩
    · rename_i h0
      split at h
      · rename_i hsm
        cases h
        obtain ⟨_, hgr⟩ := run_append (P := P) (w := w) (ty := ty) ht hn hby hz hu hb0 (a := none) (len := 0) (cap := 0) hlen (cs := ds) (Nat.le_refl _) (by simpa using hsm)
        obtain ⟨c, more, hcge, hmore, hrun⟩ := hgr (by omega) [] hd (by simp [Builtin.firstCells, run_pure])
        have hfree : ι σ.size = none := hf σ.size (Nat.le_refl _) (by simp)
        have hN := grown_new (ι := ι) (w := w) (e := el) hdr more
        refine ⟨_, _, _, hrun, ext_new hN, by rw [push_updM]; exact rel_new hR hfree hN, ?_, St.wf_push wf _⟩
        simp only [Nat.zero_add] at hcge hmore ⊢
        refine sl_grown (upd_same _ _ _) hcge ?_
        show 0 + 0 + c * e = ds.length + more.size
        rw [hmore, hzl, ← hdl, hxl, ← Nat.add_mul]
        simp only [Nat.zero_add]
        congr 1; omega
      · cases h
  · rename_i i o len c
    split at h
    · rename_i hsm
      obtain ⟨L, hL, rfl, hlc⟩ := hs
      split at h
      · rename_i own vs hb
        split at h
        · rename_i hle
          obtain ⟨hin, _⟩ := run_append (P := P) (w := w) (ty := ty) ht hn hby hz hu hb0 (a := some ⟨L.b, L.base + o, none⟩) (len := len) (cap := c) hlen (cs := cs) hlc hsm
          have hrun := hin hle hc
          split at h
          · rename_i hcond
            obtain ⟨rfl, hvs⟩ := hcond
            cases h
            obtain ⟨κ, w', _, hst, hE, hRr, rfl⟩ := does_storeCells (P := P) hR wf hL hb (o := o + len * e) (xs := xs) (by omega) hcr
            simp only [add_eq] at hrun
            rw [Nat.add_assoc, hst] at hrun
            exact ⟨_, _, w', hrun, hE, hRr, sl_known hL hle, St.wf_set wf (wf.lt hb) _⟩
          · split at h
            · rename_i h0
              subst h0
              cases h
              have hcs : cs = [] := List.eq_nil_of_length_eq_zero (by omega)
              subst hcs
              simp only [storeCells, run_pure] at hrun
              exact ⟨ι, _, w, hrun, Ext.refl _ _ _, hR, sl_known hL (by omega), wf⟩
            · cases h
        · rename_i hgt
          split at h
          · rename_i hvs
            cases h
            obtain ⟨_, hgr⟩ := run_append (P := P) (w := w) (ty := ty) ht hn hby hz hu hb0 (a := some ⟨L.b, L.base + o, none⟩) (len := len) (cap := c) hlen (cs := ds) hlc hsm
            obtain ⟨old, ho, hor⟩ := run_loadCells (P := P) hR1 hL hb (o := o) (n := len * e) rfl (by simp; omega)
            obtain ⟨c', more, hcge, hmore, hrun⟩ := hgr (by omega) old hd (by simpa [Builtin.firstCells] using ho)
            have hfree : ι σ.size = none := hf σ.size (Nat.le_refl _) (by simp)
            have hall := forall2_append hor hdr
            have hol := forall2_length hor
            have hN := grown_new (ι := ι) (w := w) (e := el) hall more
            refine ⟨_, _, _, hrun, ext_new hN, by rw [push_updM]; exact rel_new hR hfree hN, ?_, St.wf_push wf _⟩
            refine sl_grown (upd_same _ _ _) hcge ?_
            show 0 + 0 + c' * e = (old ++ ds).length + more.size
            have hll : ((vs.drop o).take (len * e)).length = len * e := by simp; omega
            rw [hmore, hzl, List.length_append, ← hdl, hxl, ← hol, hll, ← Nat.add_mul, ← Nat.add_mul]
            simp only [Nat.zero_add]
            congr 1; omega
          · cases h
      · cases h
    · cases h
  · rename_i i o len q
    split at h
    · rename_i hcond
      obtain ⟨hq, hsm⟩ := hcond
      have hq' := hq.symm
      subst hq'
      obtain ⟨L, c, hL, rfl, hlc, hsz⟩ := hs
      obtain ⟨hin, _⟩ := run_append (P := P) (w := w) (ty := ty) ht hn hby hz hu hb0 (a := some ⟨L.b, L.base + o, none⟩) (len := len) (cap := c) hlen (cs := cs) hlc hsm
      obtain ⟨_, hgr⟩ := run_append (P := P) (w := w) (ty := ty) ht hn hby hz hu hb0 (a := some ⟨L.b, L.base + o, none⟩) (len := len) (cap := c) hlen (cs := ds) hlc hsm
      split at h
      · rename_i h0
        subst h0
        cases h
        have hcs : cs = [] := List.eq_nil_of_length_eq_zero (by omega)
        subst hcs
        have hrun := hin (by omega) hc
        simp only [storeCells, run_pure] at hrun
        exact ⟨ι, _, w, hrun, Ext.refl _ _ _, hR, sl_grown hL (by omega) hsz, wf⟩
      · rename_i h0
        split at h
        · rename_i vs hb
          have hbr := hR.blk i L _ hL hb
          obtain ⟨bc, be, bfz, bh1, bh2, bh3, _⟩ := hbr
          split at h
          · rename_i hvs
            cases h
            have hle : len + n ≤ c := by
              have h1 : (len + n) * e ≤ c * e := by omega
              exact Nat.le_of_mul_le_mul_right h1 (Nat.pos_of_ne_zero he0)
            have hrun := hin hle hc
            have e1 : (len + n) * e = len * e + n * e := Nat.add_mul ..
            obtain ⟨κ, w', _, hst, hE, hRr, rfl⟩ := does_storeCells (P := P) hR wf hL hb (o := o + len * e) (xs := xs) (by omega) hcr
            simp only [add_eq] at hrun
            rw [Nat.add_assoc, hst] at hrun
            exact ⟨_, _, w', hrun, hE, hRr, sl_grown hL hle hsz, St.wf_set wf (wf.lt hb) _⟩
          · split at h
            · rename_i hvs
              cases h
              have hfree : ι σ.size = none := hf σ.size (Nat.le_refl _) (by simp)
              by_cases hle : len + n ≤ c
              · have hrun := hin hle hc
                have e1 : (len + n) * e = len * e + n * e := Nat.add_mul ..
                have e2 : (len + n) * e ≤ c * e := Nat.mul_le_mul_right e hle
                obtain ⟨ob, hst, hbk⟩ := moved_blk (P := P) hR hL hb (o := o) (m := len * e) hvs hcr (by omega)
                simp only [add_eq] at hrun
                rw [hst] at hrun
                obtain ⟨hE, hRr⟩ := rel_move hR wf hfree hL hb ob (M := ⟨L.b, L.base + o, L.size⟩) rfl _ hbk
                refine ⟨_, _, _, hrun, hE, hRr, ?_, St.wf_push (wf_kill wf (wf.lt hb)) _⟩
                exact sl_grown (L := ⟨L.b, L.base + o, L.size⟩) (upd_same _ _ _) hle (by simpa using hsz)
              · obtain ⟨old, ho, hor⟩ := run_loadCells (P := P) hR1 hL hb (o := o) (n := len * e) rfl (by simp; omega)
                obtain ⟨c', more, hcge, hmore, hrun⟩ := hgr (by omega) old hd (by simpa [Builtin.firstCells] using ho)
                have hall := forall2_append hor hdr
                have hol := forall2_length hor
                have hN := grown_new (ι := ι) (w := w) (e := el) hall more
                obtain ⟨hE, hRk⟩ := ext_kill hR hL hb
                refine ⟨_, _, _, hrun, hE.trans (ext_new hN), by rw [push_updM]; exact rel_new hRk hfree hN, ?_, St.wf_push (wf_kill wf (wf.lt hb)) _⟩
                refine sl_grown (upd_same _ _ _) hcge ?_
                show 0 + 0 + c' * e = (old ++ ds).length + more.size
                have hll : ((vs.drop o).take (len * e)).length = len * e := by simp; omega
                rw [hmore, hzl, List.length_append, ← hdl, hxl, ← hol, hll, ← Nat.add_mul, ← Nat.add_mul]
                simp only [Nat.zero_add]
                congr 1; omega
            · cases h
        · cases h
    · cases h
  · rename_i i q
    split at h
    · rename_i hcond
      obtain ⟨hq, hsm⟩ := hcond
      have hq' := hq.symm
      subst hq'
      obtain ⟨L, o, c, hL, rfl, hsz⟩ := hs
      obtain ⟨hin, _⟩ := run_append (P := P) (w := w) (ty := ty) ht hn hby hz hu hb0 (a := some ⟨L.b, L.base + o, none⟩) (len := 0) (cap := c) hlen (cs := cs) (Nat.zero_le _) (by simpa using hsm)
      obtain ⟨_, hgr⟩ := run_append (P := P) (w := w) (ty := ty) ht hn hby hz hu hb0 (a := some ⟨L.b, L.base + o, none⟩) (len := 0) (cap := c) hlen (cs := ds) (Nat.zero_le _) (by simpa using hsm)
      split at h
      · rename_i h0
        subst h0
        cases h
        have hcs : cs = [] := List.eq_nil_of_length_eq_zero (by omega)
        subst hcs
        have hrun := hin (by omega) hc
        simp only [storeCells, run_pure] at hrun
        exact ⟨ι, _, w, hrun, Ext.refl _ _ _, hR, ⟨L, o, c, hL, rfl, hsz⟩, wf⟩
      · rename_i h0
        split at h
        · rename_i vs hb
          cases h
          have hfree : ι σ.size = none := hf σ.size (Nat.le_refl _) (by simp)
          by_cases hle : 0 + n ≤ c
          · have hrun := hin hle hc
            have hsz' : L.base + o + c * e = L.size := hsz.resolve_left (by omega)
            have e2 : n * e ≤ c * e := Nat.mul_le_mul_right e (by omega)
            obtain ⟨bc, be, bfz, bh1, bh2, bh3, bh4, bh5⟩ := hR.blk i L _ hL hb
            obtain ⟨c', hst, hs', hget⟩ := run_storeCells P L.b be bfz cs (L.base + o) 0 w bc bh1 (by omega) (fun j hj hh => by have := bh5 rfl; omega) (all2_oneCell hcr)
            have hlt := (Array.getElem?_eq_some_iff.1 bh1).1
            have hbk : BlkRel ι ⟨L.b, L.base + o, L.size⟩ { w with heap := w.heap.setIfInBounds L.b (.cells c' be bfz) } (.cells true xs) := by
              refine ⟨c', be, bfz, by simp [hlt], by show c'.size = L.size; omega, by show L.base + o + xs.length ≤ L.size; omega, ?_, fun _ => by have := bh5 rfl; omega⟩
              intro j x hj
              show ∃ v, c'[L.base + o + j]? = some v ∧ SRel ι x v
              obtain ⟨v, hv, r⟩ := forall2_get hcr _ _ hj
              have hjl := (List.getElem?_eq_some_iff.1 hv).1
              rw [hget, if_pos (by omega)]
              have e1 : L.base + o + j - (L.base + o + 0) = j := by omega
              rw [e1]
              exact ⟨v, hv, r⟩
            simp only [Nat.zero_mul, add_eq, Nat.add_zero, Nat.zero_add] at hrun hst
            rw [hst] at hrun
            obtain ⟨hE, hRr⟩ := rel_move hR wf hfree hL hb _ (M := ⟨L.b, L.base + o, L.size⟩) rfl _ hbk
            refine ⟨_, _, _, hrun, hE, hRr, ?_, St.wf_push (wf_kill wf (wf.lt hb)) _⟩
            exact sl_grown (L := ⟨L.b, L.base + o, L.size⟩) (upd_same _ _ _) (by omega) (by simpa using hsz')
          · obtain ⟨c', more, hcge, hmore, hrun⟩ := hgr (by omega) [] hd (by simp [Builtin.firstCells, loadCells, loadCellsFrom, run_pure])
            have hN := grown_new (ι := ι) (w := w) (e := el) hdr more
            obtain ⟨hE, hRk⟩ := ext_kill hR hL hb
            refine ⟨_, _, _, hrun, hE.trans (ext_new hN), by rw [push_updM]; exact rel_new hRk hfree hN, ?_, St.wf_push (wf_kill wf (wf.lt hb)) _⟩
            simp only [Nat.zero_add] at hcge hmore ⊢
            refine sl_grown (upd_same _ _ _) hcge ?_
            show 0 + 0 + c' * e = ds.length + more.size
            rw [hmore, hzl, ← hdl, hxl, ← Nat.add_mul]
            simp only [Nat.zero_add]
            congr 1; omega
        · cases h
    · cases h
  · cases h
end
end Go.Abs
