/-
  A region whose order is drawn ends as the text's order ends, whatever is drawn.
-/
import Derived.Test.YtgecidicpdobfaaDoorAbsDraw2
namespace Go.Abs
open Go
section
variable {P : Program} {callf : CallF} {ops : Array Oper} {st : Nat → List T × St}

theorem mem_directs {o : Oper} {e : Nat} : e ∈ directs o ↔ ∃ d ∈ o.after, Region.binds .any d = true ∧ d.on = e := by
  simp only [directs, List.mem_map, List.mem_filter]
  constructor
  · rintro ⟨d, ⟨h1, h2⟩, h3⟩; exact ⟨d, by simpa using h1, h2, h3⟩
  · rintro ⟨d, h1, h2, h3⟩; exact ⟨d, ⟨by simpa using h1, h2⟩, h3⟩

structure Static (P : Program) (ops : Array Oper) : Prop where
  low : ∀ (k : Nat) (o : Oper), ops.toList[k]? = some o → ∀ e ∈ directs o, e < k
  uniq : ∀ (k : Nat) (o : Oper) (j : Nat) (oj : Oper) (d : Tmp), ops[k]? = some o → ops[j]? = some oj → j ≠ k → oj.dst = some d → o.dst ≠ some d
  read : ∀ (k : Nat) (o : Oper) (j : Nat) (oj : Oper) (d : Tmp), ops[k]? = some o → ops[j]? = some oj → j ≠ k → oj.dst = some d → d ∈ reads ops.toList o →
    (j < k → ((masks ops.toList).getD k 0).testBit j = true) ∧ (¬ j < k → ((masks ops.toList).getD j 0).testBit k = true)
  ws : ∀ (k : Nat) (o : Oper) (j : Nat) (oj : Oper), ops[k]? = some o → ops[j]? = some oj → isW P o = true → isW P oj = true → j < k → ((masks ops.toList).getD k 0).testBit j = true

theorem blt_iff {a b : Nat} : Nat.blt a b = true ↔ a < b := by
  simp [Nat.blt, Nat.ble_eq]; omega
theorem beq_iff' {a b : Nat} : Nat.beq a b = true ↔ a = b := ⟨Nat.eq_of_beq_eq_true, fun h => by subst h; simp⟩

theorem static_of (h : staticOk P ops.toList (masks ops.toList) = true) : Static P ops := by
  have hall : ∀ (k : Nat) (o : Oper), ops[k]? = some o → (∀ e ∈ directs o, e < k) ∧ ∀ (j : Nat) (oj : Oper), ops[j]? = some oj → pairOk P ops.toList (masks ops.toList) k o j oj = true := by
    intro k o ho
    simp only [staticOk, List.all_eq_true] at h
    have := h (o, k) (zipIdx_mem.2 (by rw [Array.getElem?_toList]; exact ho))
    simp only [Bool.and_eq_true, List.all_eq_true] at this
    refine ⟨fun e he => blt_iff.1 (this.1 e he), fun j oj hj => ?_⟩
    exact this.2 (oj, j) (zipIdx_mem.2 (by rw [Array.getElem?_toList]; exact hj))
  have hp : ∀ (k : Nat) (o : Oper) (j : Nat) (oj : Oper), ops[k]? = some o → ops[j]? = some oj → j ≠ k → (∀ d, oj.dst = some d → o.dst ≠ some d ∧ (d ∈ reads ops.toList o →
      (if j < k then ((masks ops.toList).getD k 0).testBit j else ((masks ops.toList).getD j 0).testBit k) = true)) ∧
      (isW P o = true → isW P oj = true → j < k → ((masks ops.toList).getD k 0).testBit j = true) := by
    intro k o j oj ho hj hne
    have hpo := (hall k o ho).2 j oj hj
    unfold pairOk at hpo
    rw [Bool.or_eq_true] at hpo
    rcases hpo with hpo | hpo
    · exact (hne (beq_iff'.1 hpo)).elim
    · rw [Bool.and_eq_true] at hpo
      refine ⟨?_, ?_⟩
      · intro d hd
        have h1 := hpo.1
        rw [hd] at h1
        simp only [Bool.and_eq_true, Bool.or_eq_true, Bool.not_eq_true'] at h1
        refine ⟨by simpa using h1.1, fun hm => ?_⟩
        rcases h1.2 with h2 | h2
        · rw [List.contains_eq_mem] at h2
          simp at h2; exact (h2 hm).elim
        · exact h2
      · intro h1 h2 h3
        have h4 := hpo.2
        simp only [h1, h2, Bool.not_true, Bool.false_or, Bool.or_eq_true, Bool.not_eq_true'] at h4
        rcases h4 with h4 | h4
        · have := blt_iff.2 h3; rw [this] at h4; cases h4
        · exact h4
  refine ⟨fun k o ho => (hall k o (by rw [← Array.getElem?_toList]; exact ho)).1, ?_, ?_, ?_⟩
  · intro k o j oj d ho hj hne hd
    exact ((hp k o j oj ho hj hne).1 d hd).1
  · intro k o j oj d ho hj hne hd hm
    have := ((hp k o j oj ho hj hne).1 d hd).2 hm
    constructor
    · intro hlt; rwa [if_pos hlt] at this
    · intro hlt; rwa [if_neg hlt] at this
  · intro k o j oj ho hj h1 h2 hlt
    exact (hp k o j oj ho hj (by omega)).2 h1 h2 hlt

/-- Which operations are through. -/
def Lst (listed : Array Bool) (k : Nat) : Prop := listed.getD k false = true

/-- From the region's beginning on: what may have turned. -/
structure Far (ι0 : Inj) (σ0 σn : St) (w0 : World) (ι : Inj) (g : Mem) (w : World) : Prop where
  agree : ∀ i, (i < σ0.size ∨ σn.size ≤ i) → ι i = ι0 i
  own : ∀ i, i < σ0.size → live (g i) → live (σ0.get i)
  hold : ∀ i, i < σ0.size → held (g i) → held (σ0.get i)
  ghost : ∀ i, i < σ0.size → ι0 i = none → g i = σ0.get i
  fresh : ∀ i L, σ0.size ≤ i → i < σn.size → ι i = some L → held (g i) → w0.heap.size ≤ L.b ∨ ∃ j M, j < σ0.size ∧ ι0 j = some M ∧ M.b = L.b ∧ live (σ0.get j)
  os : w.os = w0.os
  output : w.output = w0.output
  hsize : w0.heap.size ≤ w.heap.size
  keep : ∀ k, k < w0.heap.size → (∀ i L, i < σ0.size → ι0 i = some L → live (σ0.get i) → L.b ≠ k) → w.heap[k]? = w0.heap[k]?

structure Inv (P : Program) (ops : Array Oper) (st : Nat → List T × St) (ι0 : Inj) (w0 : World) (a0 : Act) (listed : Array Bool) (a : Act) (w : World) (p : Nat) (ι : Inj) : Prop where
  lsz : listed.size = ops.size
  closed : ∀ (k : Nat) (o : Oper), ops.toList[k]? = some o → Lst listed k → ∀ e ∈ directs o, Lst listed e
  ple : p ≤ ops.size
  below : ∀ (j : Nat) (o : Oper), ops[j]? = some o → isW P o = true → (Lst listed j ↔ j < p)
  len : (st 0).1.length ≤ a.tmps.size
  defers : a.defers = a0.defers
  put : ∀ (t j : Nat) (o : Oper), ops[j]? = some o → o.dst = some t → Lst listed j → TRel ι ((st (j + 1)).1.getD t .any) (a.tmps.getD t undef)
  old : ∀ (t : Nat), (∀ (j : Nat) (o : Oper), ops[j]? = some o → o.dst = some t → ¬ Lst listed j) → TRel ι ((st 0).1.getD t .any) (a.tmps.getD t undef)
  rel : Rel ι (X P ops.toList st p) w
  ghost : ∀ k, k < ops.size → ¬ Lst listed k → ∀ i, (st k).2.size ≤ i → i < (st (k + 1)).2.size → ι i = none
  pend : ∀ q b, isA P ops.toList st q b → ¬ Lst listed q → X P ops.toList st p (st q).2.size = some b
  far : Far ι0 (st 0).2 (st ops.size).2 w0 ι (X P ops.toList st p) w

variable {ι0 : Inj} {w0 : World} {a0 : Act} {listed : Array Bool} {a : Act} {w : World} {p : Nat} {ι : Inj}

theorem lst_set {k j : Nat} (hk : k < listed.size) : Lst (listed.setIfInBounds k true) j ↔ j = k ∨ Lst listed j := by
  unfold Lst
  by_cases e : j = k
  · subst e; simp [hk]
  · rw [getD_set_ne false (Ne.symm e)]
    simp [e]

theorem toL {k : Nat} {o : Oper} (h : ops[k]? = some o) : ops.toList[k]? = some o := by rw [Array.getElem?_toList]; exact h
theorem ofL {k : Nat} {o : Oper} (h : ops.toList[k]? = some o) : ops[k]? = some o := by rw [← Array.getElem?_toList]; exact h
theorem ltL {k : Nat} {o : Oper} (h : ops[k]? = some o) : k < ops.size := (Array.getElem?_eq_some_iff.1 h).1

/-- What an operation reads, when its turn comes. -/
theorem Inv.slot (h : Trk P callf ops.toList st) (hS : Static P ops) (I : Inv P ops st ι0 w0 a0 listed a w p ι) {k : Nat} {o : Oper} (ho : ops[k]? = some o) (hk : ¬ Lst listed k) (hdir : ∀ e ∈ directs o, Lst listed e)
    {t : Nat} (ht : t ∈ reads ops.toList o) : TRel ι ((st k).1.getD t .any) (a.tmps.getD t undef) := by
  have hkn := ltL ho
  have hlen : ops.toList.length = ops.size := Array.length_toList
  have hanc := anc_closed hS.low (Lst listed) I.closed
  by_cases hex : ∃ (j : Nat) (oj : Oper), ops[j]? = some oj ∧ oj.dst = some t
  · obtain ⟨j, oj, hj, hd⟩ := hex
    have huniq : ∀ (j' : Nat) (oj' : Oper), ops[j']? = some oj' → oj'.dst = some t → j' = j := by
      intro j' oj' hj' hd'
      by_cases e : j' = j
      · exact e
      · exact (hS.uniq j oj j' oj' t hj hj' e hd' hd).elim
    rcases Nat.lt_trichotomy j k with hlt | rfl | hgt
    · have hr := (hS.read k o j oj t ho hj (by omega) hd ht).1 hlt
      have hL : Lst listed j := hanc k o j (toL ho) hdir hr
      have e1 := h.env_same t (k - (j + 1)) (j + 1) (by omega) (fun j' o' h1 h2 hj' hd' => by
        have := huniq j' o' (ofL hj') hd'; omega)
      rw [show j + 1 + (k - (j + 1)) = k from by omega] at e1
      rw [e1]
      exact I.put t j oj hj hd hL
    · have e1 := h.env_same t j 0 (by omega) (fun j' o' h1 h2 hj' hd' => by
        have := huniq j' o' (ofL hj') hd'; omega)
      rw [Nat.zero_add] at e1
      rw [e1]
      exact I.old t fun j' o' hj' hd' => by rw [huniq j' o' hj' hd']; exact hk
    · have hr := (hS.read k o j oj t ho hj (by omega) hd ht).2 (by omega)
      have hnL : ¬ Lst listed j := by
        intro hL
        exact hk (hanc j oj k (toL hj) (I.closed j oj (toL hj) hL) hr)
      have e1 := h.env_same t k 0 (by omega) (fun j' o' h1 h2 hj' hd' => by
        have := huniq j' o' (ofL hj') hd'; omega)
      rw [Nat.zero_add] at e1
      rw [e1]
      exact I.old t fun j' o' hj' hd' => by rw [huniq j' o' hj' hd']; exact hnL
  · have e1 := h.env_same t k 0 (by omega) (fun j' o' h1 h2 hj' hd' => hex ⟨j', o', ofL hj', hd'⟩)
    rw [Nat.zero_add] at e1
    rw [e1]
    exact I.old t fun j' o' hj' hd' => (hex ⟨j', o', hj', hd'⟩).elim

theorem mem_tmpsOf {t : Nat} : ∀ {l : List Operand}, Operand.tmp t ∈ l → t ∈ tmpsOf l := by
  intro l
  induction l with
  | nil => intro h; cases h
  | cons x l ih =>
    intro h
    cases h with
    | head => simp [tmpsOf]
    | tail _ h => cases x <;> simp [tmpsOf, ih h]

theorem Inv.operand (h : Trk P callf ops.toList st) (hS : Static P ops) (I : Inv P ops st ι0 w0 a0 listed a w p ι) {k : Nat} {o : Oper} (ho : ops[k]? = some o) (hk : ¬ Lst listed k) (hdir : ∀ e ∈ directs o, Lst listed e) :
    ∀ x ∈ o.op.operands, TRel ι (evO (st k).1 x) (a.eval x) := by
  intro x hx
  cases x with
  | tmp t => exact I.slot h hS ho hk hdir (by simp only [reads, List.mem_append]; exact .inl (mem_tmpsOf (by simpa using hx)))
  | const v =>
    simp only [evO, Act.eval]
    cases hv : absV v with
    | none => trivial
    | some x => exact absV_rel hv
  | func f => exact ⟨[], rfl, .nil⟩
  | global g => trivial

theorem Inv.wanted (h : Trk P callf ops.toList st) (hS : Static P ops) (I : Inv P ops st ι0 w0 a0 listed a w p ι) {k : Nat} {o : Oper} (ho : ops[k]? = some o) (hk : ¬ Lst listed k) (hdir : ∀ e ∈ directs o, Lst listed e)
    {b : Bool} (hw : wantedA ops.toList (st k).1 o = some b) : Region.wanted o (yielded ops a.tmps) = b := by
  refine wanted_of hw fun j want oj d hg hj hd => I.slot h hS ho hk hdir ?_
  simp only [reads, List.mem_append, guardSlot, hg, toL hj, hd]
  exact .inr (by simp)

/-- The writing operations that are through are those ahead of the next one. -/
theorem Inv.place (hS : Static P ops) (I : Inv P ops st ι0 w0 a0 listed a w p ι) {k : Nat} {o : Oper} (ho : ops[k]? = some o) (hW : isW P o = true) (hk : ¬ Lst listed k) (hdir : ∀ e ∈ directs o, Lst listed e) :
    p ≤ k ∧ (∀ (j : Nat) (oj : Oper), ops[j]? = some oj → isW P oj = true → (Lst listed j ↔ j < k)) := by
  have hanc := anc_closed hS.low (Lst listed) I.closed
  have hpk : p ≤ k := by
    rcases Nat.lt_or_ge k p with hlt | hge
    · exact (hk ((I.below k o ho hW).2 hlt)).elim
    · exact hge
  refine ⟨hpk, fun j oj hj hWj => ⟨fun hL => Nat.lt_of_lt_of_le ((I.below j oj hj hWj).1 hL) hpk, fun hlt => ?_⟩⟩
  exact hanc k o j (toL ho) hdir (hS.ws k o j oj ho hj hW hWj hlt)

theorem X_to (hs : CallSound P callf) (h : Trk P callf ops.toList st) (I : Inv P ops st ι0 w0 a0 listed a w p ι) {k : Nat} (hk : k ≤ ops.size) (hpk : p ≤ k)
    (hno : ∀ (j : Nat) (oj : Oper), ops[j]? = some oj → isW P oj = true → j < k → Lst listed j) : X P ops.toList st p = X P ops.toList st k := by
  have hlen : ops.toList.length = ops.size := Array.length_toList
  have := X_same hs h (k - p) p (by omega) (fun j o h1 h2 ho => by
    cases hw : isW P o with
    | false => rfl
    | true =>
      have hL := hno j o (ofL ho) hw (by omega)
      have := (I.below j o (ofL ho) hw).1 hL
      omega)
  rwa [show p + (k - p) = k from by omega] at this
end
end Go.Abs
