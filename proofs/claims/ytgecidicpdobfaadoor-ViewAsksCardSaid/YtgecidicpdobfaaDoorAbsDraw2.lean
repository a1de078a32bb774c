/-
  A run in the text's order, as a row of states; what its blocks and temporaries hold at each place.
-/
import Derived.Test.YtgecidicpdobfaaDoorAbsDraw
namespace Go.Abs
open Go

/-- A run in the text's order. -/
structure Trk (P : Program) (callf : CallF) (ops : List Oper) (st : Nat → List T × St) : Prop where
  step : ∀ k o, ops[k]? = some o → step P callf ops o (st k) = some (st (k + 1))
  wf0 : (st 0).2.wf

def histOf (st : Nat → List T × St) (n : Nat) : Hist := (List.range n).map st

theorem histOf_at (st : Nat → List T × St) {n k : Nat} (h : k < n) : (histOf st n).at k = st k := by
  simp [Hist.at, histOf, List.getD_eq_getElem?_getD, List.getElem?_map, List.getElem?_range h]

theorem histOf_succ (st : Nat → List T × St) (n : Nat) : histOf st (n + 1) = histOf st n ++ [st n] := by
  simp [histOf, List.range_succ]

theorem runD_tr {P : Program} {callf : CallF} {ops : List Oper} {ms : List Nat} : ∀ (l : List Oper) (k : Nat) (st : Nat → List T × St) (s s' : List T × St), ops.drop k = l → k ≤ ops.length → st k = s →
    (∀ j o, j < k → ops[j]? = some o → step P callf ops o (st j) = some (st (j + 1))) → runD P callf ops ms l (histOf st k) s = some s' →
    ∃ st' : Nat → List T × St, (∀ j, j ≤ k → st' j = st j) ∧ (∀ j o, ops[j]? = some o → step P callf ops o (st' j) = some (st' (j + 1))) ∧ st' ops.length = s' ∧ winOk P ops ms (histOf st' (ops.length + 1)) = true := by
  intro l
  induction l with
  | nil =>
    intro k st s s' hd hkl hst hprev h
    simp only [runD] at h
    split at h
    · rename_i hw
      cases h
      have hk : k = ops.length := by
        have := congrArg List.length hd
        simp at this
        omega
      subst hk
      refine ⟨st, fun _ _ => rfl, fun j o hj => hprev j o (List.getElem?_eq_some_iff.1 hj).1 hj, hst, ?_⟩
      rw [histOf_succ, hst]; exact hw
    · cases h
  | cons o l ih =>
    intro k st s s' hd hkl hst hprev h
    have hk : ops[k]? = some o := by
      have := congrArg (·[0]?) hd
      simpa using this
    have hklt := (List.getElem?_eq_some_iff.1 hk).1
    have hd' : ops.drop (k + 1) = l := by
      have := congrArg List.tail hd
      simpa using this
    simp only [runD] at h
    split at h
    · rename_i s1 h1
      let st1 : Nat → List T × St := fun j => if j = k + 1 then s1 else st j
      have e0 : ∀ j, j ≤ k → st1 j = st j := fun j hj => by simp only [st1]; rw [if_neg (by omega)]
      have e1 : st1 (k + 1) = s1 := by simp only [st1, if_true]
      have hh : histOf st k ++ [s] = histOf st1 (k + 1) := by
        rw [histOf_succ, e0 k (Nat.le_refl _), hst]
        congr 1
        simp only [histOf]
        apply List.map_congr_left
        intro j hj
        rw [e0 j (by have := List.mem_range.1 hj; omega)]
      rw [hh] at h
      obtain ⟨st', h1', h2', h3', h4'⟩ := ih (k + 1) st1 s1 s' hd' hklt e1 (by
        intro j o' hj ho'
        rcases Nat.lt_or_ge j k with hjk | hjk
        · rw [e0 j (by omega), e0 (j + 1) (by omega)]; exact hprev j o' hjk ho'
        · have : j = k := by omega
          subst this
          rw [hk] at ho'; cases ho'
          rw [e0 j (Nat.le_refl _), e1, hst]; exact h1) h
      exact ⟨st', fun j hj => by rw [h1' j (by omega), e0 j hj], h2', h3', h4'⟩
    · cases h

section
variable {P : Program} {callf : CallF} {ops : List Oper} {st : Nat → List T × St}

theorem step_env {o : Oper} {s s' : List T × St} (h : step P callf ops o s = some s') : ∃ v, s'.1 = putE s.1 o.dst v := by
  unfold step at h
  (repeat' split at h) <;> first | (cases h; done) | (cases h; exact ⟨_, rfl⟩)

theorem Trk.wf (hs : CallSound P callf) (h : Trk P callf ops st) : ∀ k, k ≤ ops.length → (st k).2.wf := by
  intro k
  induction k with
  | zero => intro _; exact h.wf0
  | succ k ih =>
    intro hk
    have ho : ops[k]? = some ops[k] := List.getElem?_eq_getElem (by omega)
    exact (step_wf hs (h.step k _ ho) (ih (by omega))).1

theorem Trk.size (hs : CallSound P callf) (h : Trk P callf ops st) : ∀ d k, k + d ≤ ops.length → (st k).2.size ≤ (st (k + d)).2.size := by
  intro d
  induction d with
  | zero => intro k _; exact Nat.le_refl _
  | succ d ih =>
    intro k hk
    have ho : ops[k + d]? = some ops[k + d] := List.getElem?_eq_getElem (by omega)
    exact Nat.le_trans (ih k (by omega)) (step_wf hs (h.step (k + d) _ ho) (h.wf hs (k + d) (by omega))).2

theorem Trk.size_le (hs : CallSound P callf) (h : Trk P callf ops st) {j k : Nat} (hjk : j ≤ k) (hk : k ≤ ops.length) : (st j).2.size ≤ (st k).2.size := by
  have := h.size hs (k - j) j (by omega)
  rwa [show j + (k - j) = k from by omega] at this

theorem putE_len (env : List T) (d : Option Tmp) (v : T) : (putE env d v).length = env.length := by cases d <;> simp [putE]

theorem putE_ne (env : List T) {d : Option Tmp} {t : Nat} (v : T) (h : d ≠ some t) : (putE env d v).getD t .any = env.getD t .any := by
  cases d with
  | none => rfl
  | some d =>
    simp only [putE]
    rw [getD_set, if_neg (fun e => h (by rw [e.1]))]

theorem Trk.len (h : Trk P callf ops st) : ∀ k, k ≤ ops.length → (st k).1.length = (st 0).1.length := by
  intro k
  induction k with
  | zero => intro _; rfl
  | succ k ih =>
    intro hk
    have ho : ops[k]? = some ops[k] := List.getElem?_eq_getElem (by omega)
    obtain ⟨v, hv⟩ := step_env (h.step k _ ho)
    rw [hv, putE_len, ih (by omega)]

/-- Between places whose operations do not write a temporary it holds what it held. -/
theorem Trk.env_same (h : Trk P callf ops st) (t : Nat) : ∀ (d k : Nat), k + d ≤ ops.length → (∀ j o, k ≤ j → j < k + d → ops[j]? = some o → o.dst ≠ some t) → (st (k + d)).1.getD t .any = (st k).1.getD t .any := by
  intro d
  induction d with
  | zero => intro k _ _; rfl
  | succ d ih =>
    intro k hk hn
    have ho : ops[k + d]? = some ops[k + d] := List.getElem?_eq_getElem (by omega)
    obtain ⟨v, hv⟩ := step_env (h.step (k + d) _ ho)
    rw [← Nat.add_assoc, hv, putE_ne _ _ (hn (k + d) _ (by omega) (by omega) ho)]
    exact ih k (by omega) fun j o h1 h2 => hn j o h1 (by omega)

/-- A new block of the region's own. -/
def isA (P : Program) (ops : List Oper) (st : Nat → List T × St) (q : Nat) (b : Blk) : Prop :=
  ∃ o f, ops[q]? = some o ∧ kindOf P o.op = .A ∧ wantedA ops (st q).1 o = some true ∧ opA P o.op (evO (st q).1) = some (b, f)

theorem isA_push (h : Trk P callf ops st) {q : Nat} {b : Blk} (ha : isA P ops st q b) : (st (q + 1)).2 = (st q).2.push b := by
  obtain ⟨o, f, ho, hk, hw, hb⟩ := ha
  have := h.step q o ho
  unfold step at this
  rw [hw] at this
  simp only [hk, hb] at this
  rw [← Option.some.inj this]

theorem notW_store (h : Trk P callf ops st) {k : Nat} {o : Oper} (ho : ops[k]? = some o) (hw : isW P o = false ∨ wantedA ops (st k).1 o = some false) :
    (st (k + 1)).2 = (st k).2 ∨ ∃ b, isA P ops st k b := by
  have hst := h.step k o ho
  unfold step at hst
  split at hst
  · cases hst
  · rename_i h0
    left
    rw [← Option.some.inj hst]
  · rename_i h1
    split at hst
    · split at hst
      · left; rw [← Option.some.inj hst]
      · cases hst
    · split at hst
      · left; rw [← Option.some.inj hst]
      · cases hst
    · rename_i hk
      split at hst
      · rename_i b f hb
        right; exact ⟨b, o, f, ho, hk, h1, hb⟩
      · cases hst
    · rename_i hk
      rcases hw with hw | hw
      · simp [isW, hk] at hw
      · rw [h1] at hw; cases hw

theorem overlay_miss (p : Nat) (g : Mem) (i : Nat) : ∀ (l : List (Nat × Nat × Blk)), (∀ q j b, (q, j, b) ∈ l → p ≤ q → j ≠ i) → overlay p g l i = g i := by
  intro l
  induction l with
  | nil => intro _; rfl
  | cons a l ih =>
    intro h
    obtain ⟨q, j, b⟩ := a
    simp only [overlay]
    have hrec := ih fun q' j' b' hm => h q' j' b' (by simp [hm])
    cases hq : Nat.ble p q with
    | true =>
      simp only
      rw [updM_ne _ _ (Ne.symm (h q j b (by simp) (Nat.le_of_ble_eq_true hq)))]
      exact hrec
    | false => exact hrec

theorem overlay_hit (p : Nat) (g : Mem) (i : Nat) (b : Blk) : ∀ (l : List (Nat × Nat × Blk)), (∃ q, (q, i, b) ∈ l ∧ p ≤ q) → (∀ q b', (q, i, b') ∈ l → p ≤ q → b' = b) → overlay p g l i = some b := by
  intro l
  induction l with
  | nil => rintro ⟨q, h, _⟩; simp at h
  | cons a l ih =>
    rintro ⟨q, hm, hq⟩ hu
    obtain ⟨q', j, b'⟩ := a
    simp only [overlay]
    by_cases hp : p ≤ q'
    · rw [Nat.ble_eq_true_of_le hp]
      simp only
      by_cases hj : i = j
      · subst hj
        rw [updM_same, hu q' b' (by simp) hp]
      · rw [updM_ne _ _ hj]
        refine ih ?_ fun q b'' h1 h2 => hu q b'' (by simp [h1]) h2
        cases hm with
        | head => exact (hj rfl).elim
        | tail _ hm => exact ⟨q, hm, hq⟩
    · have : Nat.ble p q' = false := by
        cases h : Nat.ble p q' with
        | true => exact (hp (Nat.le_of_ble_eq_true h)).elim
        | false => rfl
      rw [this]
      simp only
      refine ih ?_ fun q b'' h1 h2 => hu q b'' (by simp [h1]) h2
      cases hm with
      | head => exact (hp hq).elim
      | tail _ hm => exact ⟨q, hm, hq⟩

theorem aBlks_mem {h : Hist} {n : Nat} (hh : h = histOf st n) (q i : Nat) (b : Blk) : ∀ (l : List (Oper × Nat)), (∀ o k, (o, k) ∈ l → k < n ∧ ops[k]? = some o) →
    ((q, i, b) ∈ aBlks P ops h l ↔ (∃ o, (o, q) ∈ l) ∧ i = (st q).2.size ∧ isA P ops st q b) := by
  subst hh
  intro l
  induction l with
  | nil => intro _; simp [aBlks]
  | cons a l ih =>
    intro hl
    obtain ⟨o, k⟩ := a
    obtain ⟨hk, ho⟩ := hl o k (by simp)
    have hrec := ih fun o' k' hm => hl o' k' (by simp [hm])
    have hat := histOf_at st hk
    have only : ∀ b', isA P ops st k b' → kindOf P o.op = .A ∧ wantedA ops (st k).1 o = some true ∧ ∃ f, opA P o.op (evO (st k).1) = some (b', f) := by
      rintro b' ⟨o', f, h1, h2, h3, h4⟩
      rw [ho] at h1; cases h1
      exact ⟨h2, h3, f, h4⟩
    have miss : (¬ ∃ b', isA P ops st k b') → (((q, i, b) ∈ aBlks P ops (histOf st n) l ↔ (∃ o', (o', q) ∈ (o, k) :: l) ∧ i = (st q).2.size ∧ isA P ops st q b)) := by
      intro hno
      rw [hrec]
      constructor
      · rintro ⟨⟨o', hm⟩, h2, h3⟩
        exact ⟨⟨o', by simp [hm]⟩, h2, h3⟩
      · rintro ⟨⟨o', hm⟩, h2, h3⟩
        refine ⟨?_, h2, h3⟩
        simp only [List.mem_cons, Prod.mk.injEq] at hm
        rcases hm with ⟨_, rfl⟩ | hm
        · exact (hno ⟨b, h3⟩).elim
        · exact ⟨o', hm⟩
    simp only [aBlks, hat]
    split
    · rename_i hkA
      split
      · rename_i hw
        split
        · rename_i b' f hb
          have hA : isA P ops st k b' := ⟨o, f, ho, hkA, hw, hb⟩
          rw [List.mem_cons, hrec]
          constructor
          · rintro (he | ⟨⟨o', hm⟩, h2, h3⟩)
            · simp only [Prod.mk.injEq] at he
              obtain ⟨rfl, rfl, rfl⟩ := he
              exact ⟨⟨o, by simp⟩, rfl, hA⟩
            · exact ⟨⟨o', by simp [hm]⟩, h2, h3⟩
          · rintro ⟨⟨o', hm⟩, h2, h3⟩
            simp only [List.mem_cons, Prod.mk.injEq] at hm
            rcases hm with ⟨_, rfl⟩ | hm
            · obtain ⟨_, _, f', hb'⟩ := only b h3
              rw [hb] at hb'; cases hb'
              left; rw [h2]
            · right; exact ⟨⟨o', hm⟩, h2, h3⟩
        · rename_i hb
          refine miss ?_
          rintro ⟨b', hA⟩
          obtain ⟨_, _, f', hb'⟩ := only b' hA
          rw [hb] at hb'; cases hb'
      · rename_i hw
        refine miss ?_
        rintro ⟨b', hA⟩
        exact hw (only b' hA).2.1
    · rename_i hkA
      refine miss ?_
      rintro ⟨b', hA⟩
      exact hkA (only b' hA).1

theorem zipIdx_mem {l : List Oper} {o : Oper} {k : Nat} : (o, k) ∈ l.zipIdx ↔ l[k]? = some o := by
  rw [List.mem_zipIdx_iff_getElem?]

/-- What stands in a state between two writing operations: the text's store there, and the region's new blocks. -/
def X (P : Program) (ops : List Oper) (st : Nat → List T × St) (p : Nat) : Mem := chi P ops (histOf st (ops.length + 1)) p

theorem X_hit (hs : CallSound P callf) (h : Trk P callf ops st) {p q : Nat} {b : Blk} (ha : isA P ops st q b) (hpq : p ≤ q) : X P ops st p (st q).2.size = some b := by
  have hmem := fun (q i : Nat) (b : Blk) => aBlks_mem (P := P) (ops := ops) (st := st) rfl q i b ops.zipIdx (n := ops.length + 1) (fun o k hm => by
    have := zipIdx_mem.1 hm
    exact ⟨by have := (List.getElem?_eq_some_iff.1 this).1; omega, this⟩)
  refine overlay_hit p _ _ b _ ?_ ?_
  · refine ⟨q, (hmem q _ b).2 ⟨?_, rfl, ha⟩, hpq⟩
    obtain ⟨o, f, ho, _⟩ := ha
    exact ⟨o, zipIdx_mem.2 ho⟩
  · intro q' b' hm hq'
    obtain ⟨_, hsz, ha'⟩ := (hmem q' _ b').1 hm
    have hql : q < ops.length := by obtain ⟨o, f, ho, _⟩ := ha; exact (List.getElem?_eq_some_iff.1 ho).1
    have hql' : q' < ops.length := by obtain ⟨o, f, ho, _⟩ := ha'; exact (List.getElem?_eq_some_iff.1 ho).1
    have e1 := isA_push h ha
    have e2 := isA_push h ha'
    rcases Nat.lt_trichotomy q q' with hlt | rfl | hlt
    · have := h.size_le hs (show q + 1 ≤ q' from hlt) (by omega)
      rw [e1] at this; simp at this; omega
    · obtain ⟨o, f, ho, _, _, hb⟩ := ha
      obtain ⟨o', f', ho', _, _, hb'⟩ := ha'
      rw [ho] at ho'; cases ho'
      rw [hb] at hb'; cases hb'; rfl
    · have := h.size_le hs (show q' + 1 ≤ q from hlt) (by omega)
      rw [e2] at this; simp at this; omega

theorem X_miss {p i : Nat} (hp : p ≤ ops.length) (hn : ∀ q b, isA P ops st q b → p ≤ q → (st q).2.size ≠ i) : X P ops st p i = (st p).2.get i := by
  have hmem := fun (q i : Nat) (b : Blk) => aBlks_mem (P := P) (ops := ops) (st := st) rfl q i b ops.zipIdx (n := ops.length + 1) (fun o k hm => by
    have := zipIdx_mem.1 hm
    exact ⟨by have := (List.getElem?_eq_some_iff.1 this).1; omega, this⟩)
  unfold X chi
  rw [overlay_miss]
  · rw [histOf_at st (by omega)]
  · intro q j b hm hq e
    obtain ⟨_, hsz, ha⟩ := (hmem q j b).1 hm
    exact hn q b ha hq (hsz.symm.trans e)

theorem X_low (hs : CallSound P callf) (h : Trk P callf ops st) {p i : Nat} (hp : p ≤ ops.length) (hi : i < (st p).2.size) : X P ops st p i = (st p).2.get i := by
  refine X_miss hp fun q b ha hpq e => ?_
  have hql : q < ops.length := by obtain ⟨o, f, ho, _⟩ := ha; exact (List.getElem?_eq_some_iff.1 ho).1
  have := h.size_le hs hpq (by omega)
  omega

/-- Where no operation writes, nothing of it turns. -/
theorem X_step (hs : CallSound P callf) (h : Trk P callf ops st) {k : Nat} {o : Oper} (ho : ops[k]? = some o) (hw : isW P o = false ∨ wantedA ops (st k).1 o = some false) : X P ops st k = X P ops st (k + 1) := by
  have hk := (List.getElem?_eq_some_iff.1 ho).1
  funext i
  by_cases hex : ∃ q b, isA P ops st q b ∧ k + 1 ≤ q ∧ (st q).2.size = i
  · obtain ⟨q, b, ha, hq, rfl⟩ := hex
    rw [X_hit hs h ha (by omega), X_hit hs h ha hq]
  · rcases notW_store h ho hw with hsame | ⟨b, ha⟩
    · rw [X_miss (p := k + 1) (by omega) (fun q b ha hq e => hex ⟨q, b, ha, hq, e⟩), hsame]
      refine X_miss (by omega) fun q b ha hq e => ?_
      rcases Nat.lt_or_ge k q with hlt | hge
      · exact hex ⟨q, b, ha, hlt, e⟩
      · have : q = k := by omega
        subst this
        have := isA_push h ha
        rw [hsame] at this
        have := congrArg St.size this
        simp at this
    · rw [X_miss (p := k + 1) (by omega) (fun q b ha hq e => hex ⟨q, b, ha, hq, e⟩), isA_push h ha]
      by_cases e : i = (st k).2.size
      · subst e; rw [X_hit hs h ha (Nat.le_refl _), St.get_push_same]
      · rw [St.get_push_ne _ _ e]
        refine X_miss (by omega) fun q b' ha' hq e' => ?_
        rcases Nat.lt_or_ge k q with hlt | hge
        · exact hex ⟨q, b', ha', hlt, e'⟩
        · have : q = k := by omega
          subst this
          exact e e'.symm

theorem X_same (hs : CallSound P callf) (h : Trk P callf ops st) : ∀ (d k : Nat), k + d ≤ ops.length → (∀ j o, k ≤ j → j < k + d → ops[j]? = some o → isW P o = false) → X P ops st k = X P ops st (k + d) := by
  intro d
  induction d with
  | zero => intro k _ _; rfl
  | succ d ih =>
    intro k hk hn
    have ho : ops[k + d]? = some ops[k + d] := List.getElem?_eq_getElem (by omega)
    rw [ih k (by omega) fun j o h1 h2 => hn j o h1 (by omega), ← Nat.add_assoc]
    exact X_step hs h ho (.inl (hn (k + d) _ (by omega) (by omega) ho))
end
end Go.Abs
