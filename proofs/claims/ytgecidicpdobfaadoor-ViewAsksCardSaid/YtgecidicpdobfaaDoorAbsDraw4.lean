/-
  The invariant is kept by each operation.
-/
import Derived.Test.YtgecidicpdobfaaDoorAbsDraw3
namespace Go.Abs
open Go
section
variable {P : Program} {callf : CallF} {ops : Array Oper} {st : Nat → List T × St}
variable {ι0 : Inj} {w0 : World} {a0 : Act} {listed : Array Bool} {a : Act} {w : World} {p : Nat} {ι : Inj}

theorem put_slot {κ : Inj} {env : List T} {a : Act} {t : Nat} {tv : T} {v : Value} (hl : env.length ≤ a.tmps.size) (hT : TRel κ tv v) :
    TRel κ ((putE env (some t) tv).getD t .any) ((a.put (some t) v).tmps.getD t undef) := by
  simp only [putE, Act.put]
  rw [getD_set, getD_setA]
  by_cases h : t < env.length
  · rw [if_pos ⟨rfl, h⟩, if_pos ⟨rfl, Nat.lt_of_lt_of_le h hl⟩]; exact hT
  · rw [if_neg (fun e => h e.2)]
    have : env.getD t .any = .any := by rw [List.getD_eq_getElem?_getD, List.getElem?_eq_none (Nat.le_of_not_lt h)]; rfl
    rw [this]; trivial

theorem put_other {a : Act} {dst : Option Tmp} {t : Nat} {v : Value} (h : dst ≠ some t) : (a.put dst v).tmps.getD t undef = a.tmps.getD t undef := by
  cases dst with
  | none => rfl
  | some d =>
    simp only [Act.put]
    rw [getD_setA, if_neg (fun e => h (by rw [e.1]))]

theorem put_size (a : Act) (dst : Option Tmp) (v : Value) : (a.put dst v).tmps.size = a.tmps.size := by cases dst <;> simp [Act.put]

theorem Inv.next (h : Trk P callf ops.toList st) (hS : Static P ops) (I : Inv P ops st ι0 w0 a0 listed a w p ι) {k : Nat} {o : Oper} (ho : ops[k]? = some o) (hk : ¬ Lst listed k) (hdir : ∀ e ∈ directs o, Lst listed e)
    {v : Value} {tv : T} {ι' : Inj} {w' : World} {p' : Nat} (hst : (st (k + 1)).1 = putE (st k).1 o.dst tv) (hT : TRel ι' tv v) (hle : ι.le ι') (hp' : p' ≤ ops.size)
    (hbelow : ∀ (j : Nat) (o : Oper), ops[j]? = some o → isW P o = true → (j = k ∨ Lst listed j ↔ j < p')) (hrel : Rel ι' (X P ops.toList st p') w')
    (hghost : ∀ k', k' < ops.size → k' ≠ k → ¬ Lst listed k' → ∀ i, (st k').2.size ≤ i → i < (st (k' + 1)).2.size → ι' i = none)
    (hpend : ∀ q b, isA P ops.toList st q b → q ≠ k → ¬ Lst listed q → X P ops.toList st p' (st q).2.size = some b)
    (hfar : Far ι0 (st 0).2 (st ops.size).2 w0 ι' (X P ops.toList st p') w') : Inv P ops st ι0 w0 a0 (listed.setIfInBounds k true) (a.put o.dst v) w' p' ι' := by
  have hkn := ltL ho
  have hlen : ops.toList.length = ops.size := Array.length_toList
  have hls : ∀ j, Lst (listed.setIfInBounds k true) j ↔ j = k ∨ Lst listed j := fun j => lst_set (by rw [I.lsz]; exact hkn)
  refine ⟨by rw [Array.size_setIfInBounds]; exact I.lsz, ?_, hp', ?_, by rw [put_size]; exact I.len, by rw [put_defers]; exact I.defers, ?_, ?_, hrel, ?_, ?_, hfar⟩
  · intro j oj hj hL e he
    rw [hls] at hL ⊢
    rcases hL with rfl | hL
    · rw [toL ho] at hj; cases hj
      exact .inr (hdir e he)
    · exact .inr (I.closed j oj hj hL e he)
  · intro j oj hj hW
    rw [hls]; exact hbelow j oj hj hW
  · intro t j oj hj hd hL
    rw [hls] at hL
    by_cases e : j = k
    · subst e
      rw [ho] at hj; cases hj
      rw [hst, hd]
      exact put_slot (by rw [h.len j (by omega)]; exact I.len) hT
    · rw [put_other (hS.uniq k o j oj t ho hj e hd)]
      exact (I.put t j oj hj hd (hL.resolve_left e)).mono hle
  · intro t hn
    rw [put_other (fun hd => hn k o ho hd ((hls k).2 (.inl rfl)))]
    exact (I.old t fun j oj hj hd hL => hn j oj hj hd ((hls j).2 (.inr hL))).mono hle
  · intro k' hk' hL i h1 h2
    rw [hls] at hL
    exact hghost k' hk' (fun e => hL (.inl e)) (fun e => hL (.inr e)) i h1 h2
  · intro q b hA hL
    rw [hls] at hL
    exact hpend q b hA (fun e => hL (.inl e)) (fun e => hL (.inr e))

/-- An operation that leaves the world as it is. -/
theorem Inv.quiet (hs : CallSound P callf) (h : Trk P callf ops.toList st) (hS : Static P ops) (I : Inv P ops st ι0 w0 a0 listed a w p ι) {k : Nat} {o : Oper} (ho : ops[k]? = some o) (hk : ¬ Lst listed k) (hdir : ∀ e ∈ directs o, Lst listed e)
    {v : Value} {tv : T} (hst : (st (k + 1)).1 = putE (st k).1 o.dst tv) (hT : TRel ι tv v) (hw : isW P o = false ∨ wantedA ops.toList (st k).1 o = some false) :
    ∃ p', Inv P ops st ι0 w0 a0 (listed.setIfInBounds k true) (a.put o.dst v) w p' ι := by
  have hkn := ltL ho
  cases hW : isW P o with
  | false =>
    refine ⟨p, I.next h hS ho hk hdir hst hT (Inj.le_refl _) I.ple ?_ I.rel (fun k' h1 _ h2 => I.ghost k' h1 h2) (fun q b h1 _ h2 => I.pend q b h1 h2) I.far⟩
    intro j oj hj hWj
    rw [← I.below j oj hj hWj]
    constructor
    · rintro (rfl | h)
      · rw [ho] at hj; cases hj; rw [hW] at hWj; cases hWj
      · exact h
    · exact .inr
  | true =>
    obtain ⟨hpk, hpl⟩ := I.place hS ho hW hk hdir
    have hX : X P ops.toList st p = X P ops.toList st (k + 1) := by
      rw [X_to hs h I (Nat.le_of_lt hkn) hpk (fun j oj hj hWj hlt => (hpl j oj hj hWj).2 hlt)]
      exact X_step hs h (toL ho) hw
    refine ⟨k + 1, I.next h hS ho hk hdir hst hT (Inj.le_refl _) hkn ?_ (hX ▸ I.rel) (fun k' h1 _ h2 => I.ghost k' h1 h2) (fun q b h1 _ h2 => hX ▸ I.pend q b h1 h2) (hX ▸ I.far)⟩
    intro j oj hj hWj
    rw [hpl j oj hj hWj]
    omega

/-- An operation that makes a block. -/
theorem Inv.make (hs : CallSound P callf) (h : Trk P callf ops.toList st) (hS : Static P ops) (I : Inv P ops st ι0 w0 a0 listed a w p ι) {k : Nat} {o : Oper} (ho : ops[k]? = some o) (hk : ¬ Lst listed k) (hdir : ∀ e ∈ directs o, Lst listed e)
    {b : Blk} {f : Nat → T} {L : Loc} {u : World} {v : Value} (hA : isA P ops.toList st k b) (hkA : kindOf P o.op = .A) (hst : (st (k + 1)).1 = putE (st k).1 o.dst (f (st k).2.size)) (hN : NewBlk ι w u L b)
    (hT : TRel (upd ι (st k).2.size L) (f (st k).2.size) v) : Inv P ops st ι0 w0 a0 (listed.setIfInBounds k true) (a.put o.dst v) u p (upd ι (st k).2.size L) := by
  have hkn := ltL ho
  have hlen : ops.toList.length = ops.size := Array.length_toList
  have hpush := isA_push h hA
  have hfree : ι (st k).2.size = none := I.ghost k hkn hk _ (Nat.le_refl _) (by rw [hpush]; simp)
  have hX : updM (X P ops.toList st p) (st k).2.size b = X P ops.toList st p := by
    funext i
    by_cases e : i = (st k).2.size
    · subst e; rw [updM_same, I.pend k b hA hk]
    · rw [updM_ne _ _ e]
  have hrel : Rel (upd ι (st k).2.size L) (X P ops.toList st p) u := by
    have := rel_new I.rel hfree hN
    rwa [hX] at this
  have hz0 : (st 0).2.size ≤ (st k).2.size := h.size_le hs (Nat.zero_le _) (by omega)
  have hzn : (st (k + 1)).2.size ≤ (st ops.size).2.size := h.size_le hs (by omega) (by omega)
  rw [hpush] at hzn
  simp only [St.size_push] at hzn
  refine I.next h hS ho hk hdir hst hT (le_upd L hfree) I.ple ?_ hrel ?_ (fun q b h1 _ h2 => I.pend q b h1 h2) ?_
  · intro j oj hj hWj
    rw [← I.below j oj hj hWj]
    constructor
    · rintro (rfl | h)
      · rw [ho] at hj; cases hj; simp [isW, hkA] at hWj
      · exact h
    · exact .inr
  · intro k' hk' hne hL i h1 h2
    rw [upd_ne]
    · exact I.ghost k' hk' hL i h1 h2
    · intro e
      subst e
      rcases Nat.lt_or_ge k' k with hlt | hge
      · have := h.size_le hs (show k' + 1 ≤ k from hlt) (by omega)
        omega
      · have := h.size_le hs (show k + 1 ≤ k' by omega) (by omega)
        rw [hpush] at this
        simp at this
        omega
  · have F := I.far
    refine ⟨?_, F.own, F.hold, F.ghost, ?_, hN.os.trans F.os, hN.output.trans F.output, by rw [hN.size]; have := F.hsize; omega, ?_⟩
    · intro i hi
      rw [upd_ne _ _ (by omega)]
      exact F.agree i hi
    · intro i M h1 h2 hM hh
      by_cases e : i = (st k).2.size
      · subst e
        rw [upd_same] at hM; cases hM
        exact .inl (by rw [hN.b_eq]; exact F.hsize)
      · rw [upd_ne _ _ e] at hM
        exact F.fresh i M h1 h2 hM hh
    · intro b' hb' hn
      have := F.hsize
      rw [hN.keep b' (by omega)]
      exact F.keep b' hb' hn

/-- An operation that writes. -/
theorem Inv.write (hs : CallSound P callf) (h : Trk P callf ops.toList st) (hS : Static P ops) (I : Inv P ops st ι0 w0 a0 listed a w p ι) {k : Nat} {o : Oper} (ho : ops[k]? = some o) (hk : ¬ Lst listed k) (hdir : ∀ e ∈ directs o, Lst listed e)
    (hW : isW P o = true) : Rel ι (st k).2.get w ∧ Free ι (st k).2.size (st (k + 1)).2.size ∧
      ∀ (κ : Inj) (u : World) (v : Value) (tv : T), (st (k + 1)).1 = putE (st k).1 o.dst tv → Ext ι (st k).2 w κ (st (k + 1)).2 u → Rel κ (st (k + 1)).2.get u → TRel κ tv v →
        Inv P ops st ι0 w0 a0 (listed.setIfInBounds k true) (a.put o.dst v) u (k + 1) κ := by
  have hkn := ltL ho
  have hlen : ops.toList.length = ops.size := Array.length_toList
  obtain ⟨hpk, hpl⟩ := I.place hS ho hW hk hdir
  have hX : X P ops.toList st p = X P ops.toList st k := X_to hs h I (Nat.le_of_lt hkn) hpk (fun j oj hj hWj hlt => (hpl j oj hj hWj).2 hlt)
  have hlow : ∀ i, i < (st k).2.size → X P ops.toList st p i = (st k).2.get i := fun i hi => by rw [hX]; exact X_low hs h (by omega) hi
  have wfk := h.wf hs k (by omega)
  have wfk1 := h.wf hs (k + 1) (by omega)
  have hsub : ∀ i b, (st k).2.get i = some b → X P ops.toList st p i = some b := fun i b hb => by rw [hlow i (wfk.lt hb)]; exact hb
  have hRk : Rel ι (st k).2.get w := by
    refine ⟨fun i L b hL hb => I.rel.blk i L b hL (hsub i b hb), fun i j L M hL hM hl hh hne => I.rel.sep i j L M hL hM ?_ ?_ hne⟩
    · cases hb : (st k).2.get i with
      | none => rw [hb] at hl; exact hl.elim
      | some b => rw [hsub i b hb]; rw [hb] at hl; exact hl
    · cases hb : (st k).2.get j with
      | none => rw [hb] at hh; exact hh.elim
      | some b => rw [hsub j b hb]; rw [hb] at hh; exact hh
  have hF : Free ι (st k).2.size (st (k + 1)).2.size := fun i h1 h2 => I.ghost k hkn hk i h1 h2
  refine ⟨hRk, hF, ?_⟩
  intro κ u v tv hst hE hR1 hT
  have hle := hE.le hF
  have hz1 : (st (k + 1)).2.size ≤ (st ops.size).2.size := h.size_le hs (by omega) (by omega)
  have hz0 : (st 0).2.size ≤ (st k).2.size := h.size_le hs (Nat.zero_le _) (by omega)
  have hlow1 : ∀ i, i < (st (k + 1)).2.size → X P ops.toList st (k + 1) i = (st (k + 1)).2.get i := fun i hi => X_low hs h (by omega) hi
  -- beyond the store there: the region's later blocks alone, that stand already
  have hhigh : ∀ i b, (st (k + 1)).2.size ≤ i → X P ops.toList st (k + 1) i = some b → ∃ q, k + 1 ≤ q ∧ isA P ops.toList st q b ∧ (st q).2.size = i := by
    intro i b hi hb
    by_cases hex : ∃ q b', isA P ops.toList st q b' ∧ k + 1 ≤ q ∧ (st q).2.size = i
    · obtain ⟨q, b', hA, hq, rfl⟩ := hex
      rw [X_hit hs h hA hq] at hb; cases hb
      exact ⟨q, hq, hA, rfl⟩
    · rw [X_miss (by omega) (fun q b' hA hq e => hex ⟨q, b', hA, hq, e⟩), wfk1 i hi] at hb
      cases hb
  have hhigh' : ∀ i, (st (k + 1)).2.size ≤ i → X P ops.toList st (k + 1) i = X P ops.toList st p i ∨ X P ops.toList st (k + 1) i = none := by
    intro i hi
    cases hb : X P ops.toList st (k + 1) i with
    | none => exact .inr rfl
    | some b =>
      obtain ⟨q, hq, hA, rfl⟩ := hhigh i b hi hb
      rw [X_hit hs h hA (show p ≤ q by omega)]
      exact .inl rfl
  have hkeep : ∀ i L, (st (k + 1)).2.size ≤ i → ι i = some L → held (X P ops.toList st (k + 1) i) → u.heap[L.b]? = w.heap[L.b]? := by
    intro i L hi hL hh
    have hXi : X P ops.toList st (k + 1) i = X P ops.toList st p i := by
      rcases hhigh' i hi with e | e
      · exact e
      · rw [e] at hh; exact hh.elim
    rw [hXi] at hh
    have hlt : L.b < w.heap.size := by
      cases hb : X P ops.toList st p i with
      | none => rw [hb] at hh; exact hh.elim
      | some b => rw [hb] at hh; exact (I.rel.blk i L b hL hb).lt hh
    refine hE.keep L.b hlt fun j M hj hM hl => ?_
    refine I.rel.sep j i M L hM hL (by rw [hlow j hj]; exact hl) hh ?_
    have := hE.size
    omega
  have hagree : ∀ i, (st (k + 1)).2.size ≤ i → κ i = ι i := fun i hi => hE.agree i (.inr hi)
  -- a block that is live in the new store lies apart from every later one
  have hapart : ∀ i j L M, i < (st (k + 1)).2.size → (st (k + 1)).2.size ≤ j → κ i = some L → ι j = some M → held ((st (k + 1)).2.get i) → held (X P ops.toList st (k + 1) j) →
      (live ((st (k + 1)).2.get i) ∨ live (X P ops.toList st (k + 1) j)) → L.b ≠ M.b := by
    intro i j L M hi hj hL hM hhi hhj hor
    have hXj : X P ops.toList st (k + 1) j = X P ops.toList st p j := by
      rcases hhigh' j hj with e | e
      · exact e
      · rw [e] at hhj; exact hhj.elim
    rw [hXj] at hhj hor
    have hMlt : M.b < w.heap.size := by
      cases hb : X P ops.toList st p j with
      | none => rw [hb] at hhj; exact hhj.elim
      | some b => rw [hb] at hhj; exact (I.rel.blk j M b hM hb).lt hhj
    have := hE.size
    rcases Nat.lt_or_ge i (st k).2.size with hik | hik
    · rw [hE.agree i (.inl hik)] at hL
      rcases hor with hor | hor
      · exact I.rel.sep i j L M hL hM (by rw [hlow i hik]; exact hE.own i hik hor) hhj (by omega)
      · exact Ne.symm (I.rel.sep j i M L hM hL hor (by rw [hlow i hik]; exact hE.hold i hik hhi) (by omega))
    · rcases hE.fresh i L hik hi hL hhi with hf | ⟨j', M', hj', hM', e, hl⟩
      · omega
      · rw [← e]
        exact I.rel.sep j' j M' M hM' hM (by rw [hlow j' hj']; exact hl) hhj (by omega)
  have hrel : Rel κ (X P ops.toList st (k + 1)) u := by
    constructor
    · intro i L b hL hb
      rcases Nat.lt_or_ge i (st (k + 1)).2.size with hi | hi
      · rw [hlow1 i hi] at hb; exact hR1.blk i L b hL hb
      · rw [hagree i hi] at hL
        have hXi : X P ops.toList st p i = some b := by
          rcases hhigh' i hi with e | e
          · rw [← e]; exact hb
          · rw [e] at hb; cases hb
        have hr := I.rel.blk i L b hL hXi
        cases b with
        | dead => trivial
        | cells own vs => exact (hr.mono hle).congr (hkeep i L hi hL (by rw [hb]; trivial))
        | map es => exact (hr.mono hle).congr (hkeep i L hi hL (by rw [hb]; trivial))
    · intro i j L M hL hM hl hh hne
      rcases Nat.lt_or_ge i (st (k + 1)).2.size with hi | hi
      · rw [hlow1 i hi] at hl
        rcases Nat.lt_or_ge j (st (k + 1)).2.size with hj | hj
        · rw [hlow1 j hj] at hh
          exact hR1.sep i j L M hL hM hl hh hne
        · rw [hagree j hj] at hM
          exact hapart i j L M hi hj hL hM hl.held hh (.inl hl)
      · rw [hagree i hi] at hL
        rcases Nat.lt_or_ge j (st (k + 1)).2.size with hj | hj
        · rw [hlow1 j hj] at hh
          exact Ne.symm (hapart j i M L hj hi hM hL hh hl.held (.inr hl))
        · rw [hagree j hj] at hM
          have e1 : X P ops.toList st (k + 1) i = X P ops.toList st p i := by
            rcases hhigh' i hi with e | e
            · exact e
            · rw [e] at hl; exact hl.elim
          have e2 : X P ops.toList st (k + 1) j = X P ops.toList st p j := by
            rcases hhigh' j hj with e | e
            · exact e
            · rw [e] at hh; exact hh.elim
          rw [e1] at hl; rw [e2] at hh
          exact I.rel.sep i j L M hL hM hl hh hne
  refine I.next h hS ho hk hdir hst hT hle hkn ?_ hrel ?_ ?_ ?_
  · intro j oj hj hWj
    rw [hpl j oj hj hWj]
    omega
  · intro k' hk' hne hL i h1 h2
    rcases Nat.lt_or_ge k' k with hlt | hge
    · have := h.size_le hs (show k' + 1 ≤ k from hlt) (by omega)
      rw [hE.agree i (.inl (by omega))]
      exact I.ghost k' hk' hL i h1 h2
    · have := h.size_le hs (show k + 1 ≤ k' by omega) (by omega)
      rw [hE.agree i (.inr (by omega))]
      exact I.ghost k' hk' hL i h1 h2
  · intro q b hA hne hL
    have hqn : q < ops.size := by obtain ⟨o', f, ho', _⟩ := hA; rw [← hlen]; exact (List.getElem?_eq_some_iff.1 ho').1
    rcases Nat.lt_or_ge q k with hlt | hge
    · have hpq := isA_push h hA
      have hsz := h.size_le hs (show q + 1 ≤ k from hlt) (by omega)
      rw [hpq] at hsz
      simp only [St.size_push] at hsz
      have h1 := I.pend q b hA hL
      rw [hlow _ (by omega)] at h1
      have hn : ι (st q).2.size = none := I.ghost q hqn hL _ (Nat.le_refl _) (by rw [hpq]; simp)
      rw [hlow1 _ (by have := hE.size; omega), hE.ghost _ (by omega) hn]
      exact h1
    · exact X_hit hs h hA (by omega)
  · have F := I.far
    refine ⟨?_, ?_, ?_, ?_, ?_, hE.os.trans F.os, hE.output.trans F.output, Nat.le_trans F.hsize hE.hsize, ?_⟩
    · intro i hi
      have := hE.size
      rw [hE.agree i (by omega)]
      exact F.agree i hi
    · intro i hi hl
      have := hE.size
      rw [hlow1 i (by omega)] at hl
      have := hE.own i (by omega) hl
      rw [← hlow i (by omega)] at this
      exact F.own i hi this
    · intro i hi hl
      have := hE.size
      rw [hlow1 i (by omega)] at hl
      have := hE.hold i (by omega) hl
      rw [← hlow i (by omega)] at this
      exact F.hold i hi this
    · intro i hi hn
      have := hE.size
      rw [hlow1 i (by omega), hE.ghost i (by omega) (by rw [F.agree i (.inl hi)]; exact hn), ← hlow i (by omega)]
      exact F.ghost i hi hn
    · intro i L h1 h2 hL hh
      have hsz := hE.size
      have back : ∀ j M, j < (st k).2.size → ι j = some M → live ((st k).2.get j) → w0.heap.size ≤ M.b ∨ ∃ j' M', j' < (st 0).2.size ∧ ι0 j' = some M' ∧ M'.b = M.b ∧ live ((st 0).2.get j') := by
        intro j M hj hM hl
        rw [← hlow j hj] at hl
        rcases Nat.lt_or_ge j (st 0).2.size with hj0 | hj0
        · exact .inr ⟨j, M, hj0, by rw [← F.agree j (.inl hj0)]; exact hM, rfl, F.own j hj0 hl⟩
        · exact F.fresh j M hj0 (by omega) hM hl.held
      rcases Nat.lt_or_ge i (st (k + 1)).2.size with hi | hi
      · rw [hlow1 i hi] at hh
        rcases Nat.lt_or_ge i (st k).2.size with hik | hik
        · rw [hE.agree i (.inl hik)] at hL
          have := hE.hold i hik hh
          rw [← hlow i hik] at this
          exact F.fresh i L h1 h2 hL this
        · rcases hE.fresh i L hik hi hL hh with hf | ⟨j, M, hj, hM, e, hl⟩
          · exact .inl (Nat.le_trans F.hsize hf)
          · have := back j M hj hM hl
            rwa [e] at this
      · rw [hagree i hi] at hL
        rcases hhigh' i hi with e | e
        · rw [e] at hh; exact F.fresh i L h1 h2 hL hh
        · rw [e] at hh; exact hh.elim
    · intro b hb hn
      have hfs := F.hsize
      rw [hE.keep b (by omega)]
      · exact F.keep b hb hn
      · intro i L hi hL hl e
        rw [← hlow i hi] at hl
        rcases Nat.lt_or_ge i (st 0).2.size with hi0 | hi0
        · exact hn i L hi0 (by rw [← F.agree i (.inl hi0)]; exact hL) (F.own i hi0 hl) e
        · have := hE.size
          rcases F.fresh i L hi0 (by omega) hL hl.held with hf | ⟨j, M, hj, hM, e', hlj⟩
          · omega
          · exact hn j M hj hM hlj (e'.trans e)
end
end Go.Abs
