/-
  A region whose order is drawn.
-/
import Derived.Test.YtgecidicpdobfaaDoorAbsDraw4
namespace Go.Abs
open Go
section
variable {P : Program} {callf : CallF} {ops : Array Oper} {st : Nat → List T × St}
variable {ι0 : Inj} {w0 : World} {a0 : Act} {listed : Array Bool} {a : Act} {w : World} {p : Nat} {ι : Inj}

/-- What a load finds in whatever state its turn comes. -/
theorem load_found (hs : CallSound P callf) (h : Trk P callf ops.toList st) (hS : Static P ops) (hw : winOk P ops.toList (masks ops.toList) (histOf st (ops.toList.length + 1)) = true)
    (I : Inv P ops st ι0 w0 a0 listed a w p ι) {k : Nat} {o : Oper} (ho : ops[k]? = some o) (hk : ¬ Lst listed k) (hdir : ∀ e ∈ directs o, Lst listed e) (hkL : kindOf P o.op = .L)
    (hwant : wantedA ops.toList (st k).1 o = some true) {t : T} (ht : opL P o.op (evO (st k).1) (st k).2.get = some t) : opL P o.op (evO (st k).1) (X P ops.toList st p) = some t := by
  have hkn := ltL ho
  have hlen : ops.toList.length = ops.size := Array.length_toList
  have hanc := anc_closed hS.low (Lst listed) I.closed
  -- the writing operations' places
  have hws : ∀ j, j ∈ wpos P ops.toList.zipIdx ↔ ∃ oj, ops[j]? = some oj ∧ isW P oj = true := by
    have gen : ∀ (l : List (Oper × Nat)) (j : Nat), j ∈ wpos P l ↔ ∃ oj, (oj, j) ∈ l ∧ isW P oj = true := by
      intro l
      induction l with
      | nil => intro j; simp [wpos]
      | cons x l ih =>
        intro j
        obtain ⟨o', k'⟩ := x
        simp only [wpos]
        cases hb : isW P o' with
        | true =>
          rw [List.mem_cons, ih]
          constructor
          · rintro (rfl | ⟨oj, h1, h2⟩)
            · exact ⟨o', by simp, hb⟩
            · exact ⟨oj, by simp [h1], h2⟩
          · rintro ⟨oj, h1, h2⟩
            simp only [List.mem_cons, Prod.mk.injEq] at h1
            rcases h1 with ⟨_, rfl⟩ | h1
            · exact .inl rfl
            · exact .inr ⟨oj, h1, h2⟩
        | false =>
          rw [ih]
          constructor
          · rintro ⟨oj, h1, h2⟩; exact ⟨oj, by simp [h1], h2⟩
          · rintro ⟨oj, h1, h2⟩
            simp only [List.mem_cons, Prod.mk.injEq] at h1
            rcases h1 with ⟨rfl, _⟩ | h1
            · rw [hb] at h2; cases h2
            · exact ⟨oj, h1, h2⟩
    intro j
    rw [gen]
    constructor
    · rintro ⟨oj, h1, h2⟩; exact ⟨oj, ofL (zipIdx_mem.1 h1), h2⟩
    · rintro ⟨oj, h1, h2⟩; exact ⟨oj, zipIdx_mem.2 (toL h1), h2⟩
  let ws := wpos P ops.toList.zipIdx
  obtain ⟨c1, c2, c3⟩ := canon_spec ws p
  have same : ∀ q, q ≤ ops.size → X P ops.toList st (canon ws q) = X P ops.toList st q := by
    intro q hq
    obtain ⟨d1, d2, d3⟩ := canon_spec ws q
    have := X_same hs h (q - canon ws q) (canon ws q) (by omega) (fun j oj h1 h2 hj => by
      cases hb : isW P oj with
      | false => rfl
      | true =>
        have := d2 j ((hws j).2 ⟨oj, ofL hj, hb⟩) (by omega)
        omega)
    rwa [show canon ws q + (q - canon ws q) = q from by omega] at this
  rw [← same p I.ple]
  -- it is one of the places that were looked at
  have hmem : canon ws p ∈ 0 :: ws.map (· + 1) := by
    rcases c3 with h0 | ⟨j, hj, e⟩
    · rw [h0]; simp
    · rw [e]; simp [hj]
  have hok : okAt ws (masks ops.toList) k (canon ws p) = true := by
    simp only [okAt, List.all_eq_true, Bool.and_eq_true, Bool.or_eq_true, Bool.not_eq_true']
    intro j hj
    obtain ⟨oj, hoj, hWj⟩ := (hws j).1 hj
    constructor
    · cases hb : ((masks ops.toList).getD k 0).testBit j with
      | false => exact .inl rfl
      | true =>
        right
        have hL := hanc k o j (toL ho) hdir hb
        exact blt_iff.2 (c2 j hj ((I.below j oj hoj hWj).1 hL))
    · cases hb : ((masks ops.toList).getD j 0).testBit k with
      | false => exact .inl rfl
      | true =>
        right
        have hnL : ¬ Lst listed j := fun hL => hk (hanc j oj k (toL hoj) (I.closed j oj (toL hoj) hL) hb)
        have : ¬ j < p := fun hlt => hnL ((I.below j oj hoj hWj).2 hlt)
        exact Nat.ble_eq_true_of_le (by omega)
  have hthis : (Nat.beq (canon ws p) (canon ws k) || (match wantedA ops.toList ((histOf st (ops.toList.length + 1)).at k).1 o with
      | some true => decide (opL P o.op (evO ((histOf st (ops.toList.length + 1)).at k).1) (chi P ops.toList (histOf st (ops.toList.length + 1)) (canon ws p)) = opL P o.op (evO ((histOf st (ops.toList.length + 1)).at k).1) ((histOf st (ops.toList.length + 1)).at k).2.get)
      | _ => true)) = true := by
    simp only [winOk, List.all_eq_true] at hw
    have h1 := hw (o, k) (zipIdx_mem.2 (toL ho))
    simp only [hkL, List.all_eq_true] at h1
    have h2 := h1 (canon ws p) hmem
    rw [Bool.or_eq_true] at h2
    rcases h2 with h2 | h2
    · have : okAt ws (masks ops.toList) k (canon ws p) = false := by simpa using h2
      rw [hok] at this; cases this
    · exact h2
  rw [Bool.or_eq_true] at hthis
  rcases hthis with he | he
  · rw [beq_iff'.1 he, same k (by omega)]
    refine opL_mono (g := (st k).2.get) ?_ ht
    intro i b hb
    rw [X_low hs h (by omega) ((h.wf hs k (by omega)).lt hb)]
    exact hb
  · rw [histOf_at st (by omega), hwant] at he
    simp only [decide_eq_true_eq] at he
    rw [ht] at he
    exact he

/-- How many are left. -/
def left (n : Nat) (listed : Array Bool) : Nat := (List.range n).countP fun i => !listed.getD i false

theorem left_set {n k : Nat} (hk : k < n) (hl : listed.size = n) (h : ¬ Lst listed k) : left n (listed.setIfInBounds k true) + 1 = left n listed := by
  unfold left
  have gen : ∀ (l : List Nat), l.Nodup → k ∈ l → l.countP (fun i => !(listed.setIfInBounds k true).getD i false) + 1 = l.countP fun i => !listed.getD i false := by
    intro l
    induction l with
    | nil => intro _ h; cases h
    | cons x l ih =>
      intro hnd hm
      rw [List.nodup_cons] at hnd
      by_cases e : x = k
      · subst e
        have h1 : (listed.setIfInBounds x true).getD x false = true := by simp [hl, hk]
        have h2 : listed.getD x false = false := by
          cases hb : listed.getD x false with
          | false => rfl
          | true => exact (h hb).elim
        rw [List.countP_cons_of_neg (by simp only [h1]; simp), List.countP_cons_of_pos (by simp only [h2]; simp)]
        congr 1
        apply List.countP_congr
        intro y hy
        have : y ≠ x := fun e => hnd.1 (e ▸ hy)
        rw [getD_set_ne false (Ne.symm this)]
      · have hm' : k ∈ l := by
          cases hm with
          | head => exact (e rfl).elim
          | tail _ h => exact h
        have := ih hnd.2 hm'
        have hx : (listed.setIfInBounds k true).getD x false = listed.getD x false := getD_set_ne false (Ne.symm e)
        cases hb : listed.getD x false with
        | true =>
          rw [List.countP_cons_of_neg (by simp only [hx, hb]; simp), List.countP_cons_of_neg (by simp only [hb]; simp)]
          exact this
        | false =>
          rw [List.countP_cons_of_pos (by simp only [hx, hb]; simp), List.countP_cons_of_pos (by simp only [hb]; simp)]
          omega
  exact gen _ List.nodup_range (List.mem_range.2 hk)

theorem all_listed {n : Nat} (h : left n listed = 0) : ∀ k, k < n → Lst listed k := by
  intro k hk
  unfold left at h
  rw [List.countP_eq_zero] at h
  have := h k (List.mem_range.2 hk)
  simpa [Lst] using this

theorem ready_nil (hS : Static P ops) (hl : listed.size = ops.size) (h : Region.ready .any ops listed = []) : ∀ k, k < ops.size → Lst listed k := by
  intro k
  induction k using Nat.strongRecOn with
  | _ k ih =>
    intro hk
    cases hb : listed.getD k false with
    | true => exact hb
    | false =>
      have ho : ops[k]? = some ops[k] := Array.getElem?_eq_getElem hk
      have : k ∈ Region.ready .any ops listed := by
        rw [mem_ready]
        refine ⟨?_, ops[k], ho, ?_⟩
        · simp only [Array.getD_eq_getD_getElem?] at hb ⊢
          cases hc : listed[k]? with
          | none => rw [Array.getElem?_eq_none_iff] at hc; omega
          | some b => rw [hc] at hb; simpa using hb
        · intro e he hbind
          have := hS.low k _ (toL ho) e.on (mem_directs.2 ⟨e, he, hbind, rfl⟩)
          exact ih e.on this (by omega)
      rw [h] at this; cases this

theorem draw_any (hs : CallSound P callf) (h : Trk P callf ops.toList st) (hS : Static P ops) (hw : winOk P ops.toList (masks ops.toList) (histOf st (ops.toList.length + 1)) = true) {Q : Exit → Act → World → Prop}
    (hQ : ∀ listed a w p ι, Inv P ops st ι0 w0 a0 listed a w p ι → (∀ k, k < ops.size → Lst listed k) → Q .normal a w) :
    ∀ (fuel : Nat) (listed : Array Bool) (a : Act) (w : World) (p : Nat) (ι : Inj), left ops.size listed ≤ fuel → Inv P ops st ι0 w0 a0 listed a w p ι → wpAny P .any ops Q fuel listed a w := by
  have hlen : ops.toList.length = ops.size := Array.length_toList
  intro fuel
  induction fuel with
  | zero =>
    intro listed a w p ι hf I
    have hall := all_listed (listed := listed) (n := ops.size) (by omega)
    refine ⟨?_, hQ listed a w p ι I hall⟩
    cases hr : Region.ready .any ops listed with
    | nil => rfl
    | cons k l =>
      have : k ∈ Region.ready .any ops listed := by rw [hr]; simp
      rw [mem_ready] at this
      obtain ⟨hk, o, ho, _⟩ := this
      have hL := hall k (ltL ho)
      unfold Lst at hL
      simp only [Array.getD_eq_getD_getElem?] at hk hL
      cases hc : listed[k]? with
      | none => rw [hc] at hk; cases hk
      | some b => rw [hc] at hk hL; simp at hk hL; rw [hk] at hL; cases hL
  | succ fuel ih =>
    intro listed a w p ι hf I
    refine ⟨fun hr => hQ listed a w p ι I (ready_nil hS I.lsz hr), ?_⟩
    intro k hk
    rw [mem_ready] at hk
    obtain ⟨hkl, o, ho, hed⟩ := hk
    have hkn := ltL ho
    have hnk : ¬ Lst listed k := by
      intro hL
      unfold Lst at hL
      simp only [Array.getD_eq_getD_getElem?] at hkl hL
      cases hc : listed[k]? with
      | none => rw [hc] at hkl; cases hkl
      | some b => rw [hc] at hkl hL; simp at hkl hL; rw [hkl] at hL; cases hL
    have hdir : ∀ e ∈ directs o, Lst listed e := by
      intro e he
      obtain ⟨d, hd, hb, rfl⟩ := mem_directs.1 he
      exact hed d hd hb
    have hleft := left_set hkn I.lsz hnk
    have hgo : ∀ (a' : Act) (w' : World) (p' : Nat) (ι' : Inj), Inv P ops st ι0 w0 a0 (listed.setIfInBounds k true) a' w' p' ι' → wpAny P .any ops Q fuel (listed.setIfInBounds k true) a' w' :=
      fun a' w' p' ι' I' => ih _ a' w' p' ι' (by omega) I'
    have hstep := h.step k o (toL ho)
    have hev := I.operand h hS ho hnk hdir
    unfold wpOp
    rw [ho]
    simp only
    cases hwa : wantedA ops.toList (st k).1 o with
    | none => unfold step at hstep; rw [hwa] at hstep; cases hstep
    | some b =>
      have hwant := I.wanted h hS ho hnk hdir hwa
      rw [hwant]
      unfold step at hstep
      rw [hwa] at hstep
      cases b with
      | false =>
        simp only [Bool.false_eq_true, if_false]
        have e := Option.some.inj hstep
        obtain ⟨p', I'⟩ := I.quiet hs h hS ho hnk hdir (v := undef) (tv := tt) (by rw [← e]) tt_undef (.inr hwa)
        exact hgo _ _ _ _ I'
      | true =>
        simp only [if_true]
        left
        simp only at hstep
        split at hstep
        · rename_i hkP
          split at hstep
          · rename_i t ht
            have e := Option.some.inj hstep
            refine opP_wp hev ht fun v hv => ?_
            obtain ⟨p', I'⟩ := I.quiet hs h hS ho hnk hdir (v := v) (tv := t) (by rw [← e]) hv (.inl (by simp [isW, hkP]))
            exact hgo _ _ _ _ I'
          · cases hstep
        · rename_i hkL
          split at hstep
          · rename_i t ht
            have e := Option.some.inj hstep
            have hfound := load_found hs h hS hw I ho hnk hdir hkL hwa ht
            refine opL_wp I.rel hev hfound fun v hv => ?_
            obtain ⟨p', I'⟩ := I.quiet hs h hS ho hnk hdir (v := v) (tv := t) (by rw [← e]) hv (.inl (by simp [isW, hkL]))
            exact hgo _ _ _ _ I'
          · cases hstep
        · rename_i hkA
          split at hstep
          · rename_i b f hb
            have e := Option.some.inj hstep
            have hA : isA P ops.toList st k b := ⟨o, f, toL ho, hkA, hwa, hb⟩
            refine opA_wp (w := w) hev hb fun L u v hN hT => ?_
            exact hgo _ _ _ _ (I.make hs h hS ho hnk hdir hA hkA (by rw [← e]) hN (hT _))
          · cases hstep
        · rename_i hkW
          split at hstep
          · rename_i t τ hwr
            have e := Option.some.inj hstep
            obtain ⟨hRk, hF, hnext⟩ := I.write hs h hS ho hnk hdir (by simp [isW, hkW])
            have e2 : (st (k + 1)).2 = τ := by rw [← e]
            rw [e2] at hF hnext
            refine opWC_wp hs hRk (h.wf hs k (by omega)) hF hev hwr fun κ u v hE hR hT => ?_
            exact hgo _ _ _ _ (hnext κ u v t (by rw [← e]) hE hR hT)
          · cases hstep

theorem region_draw (hs : CallSound P callf) {id : Nat} {Q : Exit → Act → World → Prop} {env env' : List T} {σ τ : St}
    (hrun : runDraw P callf ops.toList (env, σ) = some (env', τ)) (hE : EnvR ι env a.tmps) (hR : Rel ι σ.get w) (wf : σ.wf) (hf : Free ι σ.size τ.size)
    (hK : ∀ κ u a', a'.defers = a.defers → EnvR κ env' a'.tmps → Ext ι σ w κ τ u → Rel κ τ.get u → Q .normal a' u) : (Code.region id ops true).wp P Q a w := by
  have hlen : ops.toList.length = ops.size := Array.length_toList
  unfold runDraw at hrun
  split at hrun
  · rename_i hc
    rw [Bool.and_eq_true] at hc
    have hS := static_of hc.2
    obtain ⟨st, h0, hst, hn, hw⟩ := runD_tr ops.toList 0 (fun _ => (env, σ)) (env, σ) (env', τ) (by simp) (Nat.zero_le _) rfl (fun j o hj _ => by omega) hrun
    have hst0 : st 0 = (env, σ) := h0 0 (Nat.le_refl _)
    have h : Trk P callf ops.toList st := ⟨hst, by rw [hst0]; exact wf⟩
    rw [hlen] at hn
    have e1 : (st 0).1 = env := by rw [hst0]
    have e2 : (st 0).2 = σ := by rw [hst0]
    have e3 : (st ops.size).1 = env' := by rw [hn]
    have e4 : (st ops.size).2 = τ := by rw [hn]
    have hno : ∀ j, ¬ Lst (Array.replicate ops.size false) j := by
      intro j hL
      unfold Lst at hL
      simp only [Array.getD_eq_getD_getElem?] at hL
      cases hc : (Array.replicate ops.size false)[j]? with
      | none => rw [hc] at hL; cases hL
      | some b =>
        rw [hc] at hL
        rw [Array.getElem?_replicate] at hc
        split at hc
        · cases hc; cases hL
        · cases hc
    refine wp_region_any hc.1 ?_
    have hR' : Rel ι σ.get { w with drawn := w.drawn + 1 } := hR.heap rfl
    refine draw_any hs h hS hw (ι0 := ι) (w0 := w) (a0 := a) ?_ ops.size _ a _ 0 ι ?_ ?_
    · intro listed a' u p κ I hall
      have hXn : X P ops.toList st p = X P ops.toList st ops.size := by
        refine X_to hs h I (Nat.le_refl _) I.ple fun j oj hj _ hlt => hall j hlt
      have hlow : ∀ i b, τ.get i = some b → X P ops.toList st p i = some b := by
        intro i b hb
        rw [hXn, X_low hs h (by omega) (by rw [e4]; exact (e4 ▸ h.wf hs ops.size (by omega)).lt hb), e4]
        exact hb
      have hlow' : ∀ i, i < τ.size → X P ops.toList st p i = τ.get i := by
        intro i hi
        rw [hXn, X_low hs h (by omega) (by rw [e4]; exact hi), e4]
      have hsz : σ.size ≤ τ.size := by
        have := h.size_le hs (Nat.zero_le ops.size) (by omega)
        rwa [e2, e4] at this
      have F := I.far
      rw [e2, e4] at F
      refine hK κ u a' I.defers ?_ ?_ ?_
      · refine ⟨by rw [← e3, h.len ops.size (by omega)]; exact I.len, fun t => ?_⟩
        rw [← e3]
        by_cases hex : ∃ (j : Nat) (oj : Oper), ops[j]? = some oj ∧ oj.dst = some t
        · obtain ⟨j, oj, hj, hd⟩ := hex
          have hjn := ltL hj
          have es := h.env_same t (ops.size - (j + 1)) (j + 1) (by omega) (fun j' o' h1 h2 hj' hd' => by
            have : j' = j := by
              by_cases e : j' = j
              · exact e
              · exact (hS.uniq j oj j' o' t hj (ofL hj') e hd' hd).elim
            omega)
          rw [show j + 1 + (ops.size - (j + 1)) = ops.size from by omega] at es
          rw [es]
          exact I.put t j oj hj hd (hall j hjn)
        · have es := h.env_same t ops.size 0 (by omega) (fun j' o' h1 h2 hj' hd' => hex ⟨j', o', ofL hj', hd'⟩)
          rw [Nat.zero_add] at es
          rw [es]
          exact I.old t fun j' o' hj' hd' => (hex ⟨j', o', hj', hd'⟩).elim
      · refine ⟨hsz, F.agree, ?_, ?_, ?_, ?_, F.os, F.output, F.hsize, F.keep⟩
        · intro i hi hl
          rw [← hlow' i (by omega)] at hl
          exact F.own i hi hl
        · intro i hi hl
          rw [← hlow' i (by omega)] at hl
          exact F.hold i hi hl
        · intro i hi hnn
          rw [← hlow' i (by omega)]
          exact F.ghost i hi hnn
        · intro i L h1 h2 hL hh
          rw [← hlow' i h2] at hh
          exact F.fresh i L h1 h2 hL hh
      · refine ⟨fun i L b hL hb => I.rel.blk i L b hL (hlow i b hb), fun i j L M hL hM hl hh hne => I.rel.sep i j L M hL hM ?_ ?_ hne⟩
        · cases hb : τ.get i with
          | none => rw [hb] at hl; exact hl.elim
          | some b => rw [hlow i b hb]; rw [hb] at hl; exact hl
        · cases hb : τ.get j with
          | none => rw [hb] at hh; exact hh.elim
          | some b => rw [hlow j b hb]; rw [hb] at hh; exact hh
    · unfold left
      have := List.countP_le_length (p := fun i => !(Array.replicate ops.size false).getD i false) (l := List.range ops.size)
      rwa [List.length_range] at this
    · have hXl : ∀ i, i < σ.size → X P ops.toList st 0 i = σ.get i := by
        intro i hi
        rw [X_low hs h (Nat.zero_le _) (by rw [e2]; exact hi), e2]
      have hsz : ∀ k, k ≤ ops.size → σ.size ≤ (st k).2.size ∧ (st k).2.size ≤ τ.size := by
        intro k hk
        have h1 := h.size_le hs (Nat.zero_le k) (by omega)
        have h2 := h.size_le hs hk (by omega)
        rw [e2] at h1; rw [e4] at h2
        exact ⟨h1, h2⟩
      have hfree : ∀ i, σ.size ≤ i → X P ops.toList st 0 i ≠ none → ι i = none := by
        intro i hi hne
        by_cases hex : ∃ q b', isA P ops.toList st q b' ∧ 0 ≤ q ∧ (st q).2.size = i
        · obtain ⟨q, b', hA, _, rfl⟩ := hex
          have hq : q < ops.size := by obtain ⟨o', f, ho', _⟩ := hA; rw [← hlen]; exact (List.getElem?_eq_some_iff.1 ho').1
          have := hsz (q + 1) hq
          rw [isA_push h hA] at this
          simp only [St.size_push] at this
          exact hf _ hi (by omega)
        · exfalso
          apply hne
          rw [X_miss (Nat.zero_le _) (fun q b' hA hq e => hex ⟨q, b', hA, hq, e⟩), e2, wf i hi]
      have hrelX : Rel ι (X P ops.toList st 0) { w with drawn := w.drawn + 1 } := by
        constructor
        · intro i L b hL hb
          rcases Nat.lt_or_ge i σ.size with hi | hi
          · rw [hXl i hi] at hb; exact hR'.blk i L b hL hb
          · rw [hfree i hi (by rw [hb]; simp)] at hL; cases hL
        · intro i j L M hL hM hl hh hne
          rcases Nat.lt_or_ge i σ.size with hi | hi
          · rw [hXl i hi] at hl
            rcases Nat.lt_or_ge j σ.size with hj | hj
            · rw [hXl j hj] at hh; exact hR'.sep i j L M hL hM hl hh hne
            · rw [hfree j hj (by intro e; rw [e] at hh; exact hh.elim)] at hM; cases hM
          · rw [hfree i hi (by intro e; rw [e] at hl; exact hl.elim)] at hL; cases hL
      refine ⟨by simp, fun k o _ hL => (hno k hL).elim, Nat.zero_le _, fun j o hj hW => ⟨fun hL => (hno j hL).elim, fun hlt => by omega⟩, by rw [e1]; exact hE.len, rfl,
        fun t j o _ _ hL => (hno j hL).elim, fun t _ => by rw [e1]; exact hE.rel t, hrelX, ?_, ?_, ?_⟩
      · intro k hk _ i h1 h2
        have := (hsz k (by omega)).1
        have := (hsz (k + 1) hk).2
        exact hf i (by omega) (by omega)
      · intro q b hA _
        exact X_hit hs h hA (Nat.zero_le _)
      · rw [e2, e4]
        refine ⟨fun _ _ => rfl, fun i hi hl => by rwa [hXl i hi] at hl, fun i hi hl => by rwa [hXl i hi] at hl, fun i hi _ => hXl i hi, ?_, rfl, rfl, Nat.le_refl _, fun _ _ _ => rfl⟩
        intro i L h1 h2 hL _
        rw [hf i h1 h2] at hL; cases hL
  · cases hrun
end
end Go.Abs
