/-
  A library of our own, several texts in one: an abstract store for the model, and runs over it. Nothing here speaks of any program. No conditions.
-/
import Derived.Test.YtcihabdmigpklaaGreatDoorAbsB
import Derived.WalkKit
import Derived.ProofKit
import Derived.OpenShut
set_option linter.unusedSimpArgs false
set_option linter.unusedVariables false
/-
  A region whose order is drawn: what is asked of it, and how it is run in the text's order.
-/
noncomputable section
namespace Go.Abs
open Go

def directs (o : Oper) : List Nat := (o.after.toList.filter (Region.binds .any ·)).map (·.on)

def maskOf (acc : List Nat) (ds : List Nat) : Nat := ds.foldl (fun s e => s ||| (2 ^ e ||| acc.getD e 0)) 0

def masksGo : List Oper → List Nat → List Nat
  | [], acc => acc
  | o :: r, acc => masksGo r (acc ++ [maskOf acc (directs o)])

def masks (ops : List Oper) : List Nat := masksGo ops []

def tmpsOf (xs : List Operand) : List Nat :=
  match xs with
  | [] => []
  | .tmp t :: r => t :: tmpsOf r
  | _ :: r => tmpsOf r

def guardSlot (ops : List Oper) (o : Oper) : List Nat :=
  match o.guard with
  | none => []
  | some (j, _) => match ops[j]? with
    | some oj => oj.dst.toList
    | none => []

def reads (ops : List Oper) (o : Oper) : List Nat := tmpsOf o.op.operands.toList ++ guardSlot ops o

def isW (P : Program) (o : Oper) : Bool := kindOf P o.op == .W

def pairOk (P : Program) (ops : List Oper) (ms : List Nat) (k : Nat) (o : Oper) (j : Nat) (oj : Oper) : Bool :=
  Nat.beq j k ||
    ((match oj.dst with
      | none => true
      | some d => (o.dst != some d) && (!(reads ops o).contains d || (if j < k then (ms.getD k 0).testBit j else (ms.getD j 0).testBit k))) &&
    (!(isW P o) || (!(isW P oj) || (!(Nat.blt j k) || (ms.getD k 0).testBit j))))

def staticOk (P : Program) (ops : List Oper) (ms : List Nat) : Bool :=
  ops.zipIdx.all fun (o, k) => (directs o).all (fun e => Nat.blt e k) && ops.zipIdx.all fun (oj, j) => pairOk P ops ms k o j oj

/-- The states of a run so far. -/
abbrev Hist := List (List T × St)
def Hist.at (h : Hist) (k : Nat) : List T × St := h.getD k ([], St.empty)

/-- The new blocks that a region's own operations make: where, under which number, what. -/
def aBlks (P : Program) (ops : List Oper) (h : Hist) : List (Oper × Nat) → List (Nat × Nat × Blk)
  | [] => []
  | (o, k) :: r => match kindOf P o.op with
    | .A => match wantedA ops (h.at k).1 o with
      | some true => match opA P o.op (evO (h.at k).1) with
        | some (b, _) => (k, (h.at k).2.size, b) :: aBlks P ops h r
        | none => aBlks P ops h r
      | _ => aBlks P ops h r
    | _ => aBlks P ops h r

def overlay (p : Nat) (g : Mem) : List (Nat × Nat × Blk) → Mem
  | [] => g
  | (q, i, b) :: r => match Nat.ble p q with
    | true => updM (overlay p g r) i b
    | false => overlay p g r

def chi (P : Program) (ops : List Oper) (h : Hist) (p : Nat) : Mem := overlay p (h.at p).2.get (aBlks P ops h ops.zipIdx)

def wpos (P : Program) : List (Oper × Nat) → List Nat
  | [] => []
  | (o, k) :: r => match isW P o with
    | true => k :: wpos P r
    | false => wpos P r

/-- The last writing operation's end ahead of a place. -/
def canon (ws : List Nat) (k : Nat) : Nat := ws.foldl (fun s j => if j < k then max s (j + 1) else s) 0

def okAt (ws : List Nat) (ms : List Nat) (k p : Nat) : Bool := ws.all fun j => (!((ms.getD k 0).testBit j) || Nat.blt j p) && (!((ms.getD j 0).testBit k) || Nat.ble p j)

def winOk (P : Program) (ops : List Oper) (ms : List Nat) (h : Hist) : Bool :=
  let ws := wpos P ops.zipIdx
  ops.zipIdx.all fun (o, k) => match kindOf P o.op with
    | .L => (0 :: ws.map (· + 1)).all fun p => !(okAt ws ms k p) || (Nat.beq p (canon ws k) || (match wantedA ops (h.at k).1 o with
      | some true => decide (opL P o.op (evO (h.at k).1) (chi P ops h p) = opL P o.op (evO (h.at k).1) (h.at k).2.get)
      | _ => true))
    | _ => true

def runD (P : Program) (callf : CallF) (ops : List Oper) (ms : List Nat) : List Oper → Hist → List T × St → Option (List T × St)
  | [], h, s => if winOk P ops ms (h ++ [s]) then some s else none
  | o :: r, h, s => match step P callf ops o s with
    | some s' => runD P callf ops ms r (h ++ [s]) s'
    | none => none

def runDraw (P : Program) (callf : CallF) (ops : List Oper) (s : List T × St) : Option (List T × St) :=
  if P.follows .mixedOrders && staticOk P ops (masks ops) then runD P callf ops (masks ops) ops [] s else none

/-! ### what precedes what -/
theorem maskOf_bit (acc : List Nat) : ∀ (ds : List Nat) (s j : Nat), (ds.foldl (fun s e => s ||| (2 ^ e ||| acc.getD e 0)) s).testBit j = true →
    s.testBit j = true ∨ ∃ e ∈ ds, j = e ∨ (acc.getD e 0).testBit j = true := by
  intro ds
  induction ds with
  | nil => intro s j h; exact .inl h
  | cons d ds ih =>
    intro s j h
    rw [List.foldl_cons] at h
    rcases ih _ j h with h | ⟨e, he, h⟩
    · rw [Nat.testBit_or, Nat.testBit_or, Bool.or_eq_true, Bool.or_eq_true] at h
      rcases h with h | h | h
      · exact .inl h
      · rw [Nat.testBit_two_pow] at h
        have h' : d = j := by simpa using h
        exact .inr ⟨d, by simp, .inl h'.symm⟩
      · exact .inr ⟨d, by simp, .inr h⟩
    · exact .inr ⟨e, by simp [he], h⟩

theorem masksGo_spec : ∀ (l : List Oper) (acc : List Nat), (masksGo l acc).length = acc.length + l.length ∧ (∀ k, k < acc.length → (masksGo l acc).getD k 0 = acc.getD k 0) ∧
    ∀ (i : Nat) (o : Oper), l[i]? = some o → ∃ pre : List Nat, (masksGo l acc).getD (acc.length + i) 0 = maskOf pre (directs o) ∧ ∀ e, e < acc.length + i → pre.getD e 0 = (masksGo l acc).getD e 0 := by
  intro l
  induction l with
  | nil => intro acc; exact ⟨by simp [masksGo], fun _ _ => rfl, fun i o h => by simp at h⟩
  | cons o l ih =>
    intro acc
    obtain ⟨h1, h2, h3⟩ := ih (acc ++ [maskOf acc (directs o)])
    have hlen : (acc ++ [maskOf acc (directs o)]).length = acc.length + 1 := by simp
    have hpre : ∀ k, k < acc.length → (acc ++ [maskOf acc (directs o)]).getD k 0 = acc.getD k 0 := by
      intro k hk
      rw [List.getD_eq_getElem?_getD, List.getD_eq_getElem?_getD, List.getElem?_append_left hk]
    refine ⟨by simp only [masksGo]; rw [h1, hlen]; simp; omega, ?_, ?_⟩
    · intro k hk
      simp only [masksGo]
      rw [h2 k (by omega), hpre k hk]
    · intro i o' hi
      cases i with
      | zero =>
        simp only [List.getElem?_cons_zero, Option.some.injEq] at hi
        subst hi
        refine ⟨acc, ?_, ?_⟩
        · simp only [masksGo, Nat.add_zero]
          rw [h2 acc.length (by omega), List.getD_eq_getElem?_getD, List.getElem?_append_right (Nat.le_refl _)]
          simp
        · intro e he
          simp only [masksGo]
          rw [h2 e (by omega), hpre e (by omega)]
      | succ i =>
        obtain ⟨pre, hp1, hp2⟩ := h3 i o' (by simpa using hi)
        have e1 : acc.length + (i + 1) = (acc ++ [maskOf acc (directs o)]).length + i := by omega
        simp only [masksGo]
        rw [e1]
        exact ⟨pre, hp1, hp2⟩

theorem masks_bit {ops : List Oper} {k j : Nat} {o : Oper} (hk : ops[k]? = some o) (hd : ∀ e ∈ directs o, e < k) (h : ((masks ops).getD k 0).testBit j = true) :
    ∃ e ∈ directs o, j = e ∨ ((masks ops).getD e 0).testBit j = true := by
  obtain ⟨_, _, h3⟩ := masksGo_spec ops []
  obtain ⟨pre, hp1, hp2⟩ := h3 k o hk
  simp only [List.length_nil, Nat.zero_add] at hp1 hp2
  have : (masks ops).getD k 0 = maskOf pre (directs o) := hp1
  rw [this] at h
  rcases maskOf_bit pre (directs o) 0 j h with h | ⟨e, he, h⟩
  · simp at h
  · refine ⟨e, he, ?_⟩
    rcases h with h | h
    · exact .inl h
    · rw [hp2 e (hd e he)] at h; exact .inr h

theorem anc_closed {ops : List Oper} (hd : ∀ k o, ops[k]? = some o → ∀ e ∈ directs o, e < k) (D : Nat → Prop) (hD : ∀ k o, ops[k]? = some o → D k → ∀ e ∈ directs o, D e) :
    ∀ (k : Nat) (o : Oper) (j : Nat), ops[k]? = some o → (∀ e ∈ directs o, D e) → ((masks ops).getD k 0).testBit j = true → D j := by
  intro k
  induction k using Nat.strongRecOn with
  | _ k ih =>
    intro o j hk he h
    obtain ⟨e, hmem, h⟩ := masks_bit hk (hd k o hk) h
    rcases h with rfl | h
    · exact he _ hmem
    · have hlt := hd k o hk e hmem
      have hkl := (List.getElem?_eq_some_iff.1 hk).1
      have hoe : ops[e]? = some (ops[e]'(by omega)) := List.getElem?_eq_getElem (by omega)
      exact ih e hlt _ j hoe (hD e _ hoe (he e hmem)) h

theorem canon_spec (ws : List Nat) (k : Nat) : canon ws k ≤ k ∧ (∀ j ∈ ws, j < k → j < canon ws k) ∧ (canon ws k = 0 ∨ ∃ j ∈ ws, canon ws k = j + 1) := by
  have key : ∀ (ws : List Nat) (s : Nat), s ≤ k → (s ≤ ws.foldl (fun s j => if j < k then max s (j + 1) else s) s) ∧ ws.foldl (fun s j => if j < k then max s (j + 1) else s) s ≤ k ∧
      (∀ j ∈ ws, j < k → j < ws.foldl (fun s j => if j < k then max s (j + 1) else s) s) ∧
      (ws.foldl (fun s j => if j < k then max s (j + 1) else s) s = s ∨ ∃ j ∈ ws, ws.foldl (fun s j => if j < k then max s (j + 1) else s) s = j + 1) := by
    intro ws
    induction ws with
    | nil => intro s hs; exact ⟨Nat.le_refl _, hs, fun j hj => by simp at hj, .inl rfl⟩
    | cons a ws ih =>
      intro s hs
      rw [List.foldl_cons]
      obtain ⟨h1, h2, h3, h4⟩ := ih (if a < k then max s (a + 1) else s) (by split <;> omega)
      refine ⟨?_, h2, ?_, ?_⟩
      · by_cases hak : a < k
        · rw [if_pos hak] at h1 ⊢; omega
        · rw [if_neg hak] at h1 ⊢; omega
      · intro j hj hjk
        cases hj with
        | head =>
          rw [if_pos hjk] at h1 ⊢
          omega
        | tail _ hj => exact h3 j hj hjk
      · rcases h4 with h4 | ⟨j, hj, h4⟩
        · rw [h4]
          split
          · rename_i hak
            by_cases hm : s ≤ a + 1
            · exact .inr ⟨a, by simp, by omega⟩
            · exact .inl (by omega)
          · exact .inl rfl
        · exact .inr ⟨j, by simp [hj], h4⟩
  obtain ⟨_, h2, h3, h4⟩ := key ws 0 (Nat.zero_le _)
  exact ⟨h2, h3, h4⟩
end Go.Abs

/-
  A run in the text's order, as a row of states; what its blocks and temporaries hold at each place.
-/
noncomputable section
namespace Go.Abs
open Go

/-- A run in the text's order. -/
structure Trk (P : Program) (callf : CallF) (ops : List Oper) (st : Nat → List T × St) : Prop where
  step : ∀ k o, ops[k]? = some o → step P callf ops o (st k) = some (st (k + 1))
  wf0 : (st 0).2.wf

def histOf (st : Nat → List T × St) (n : Nat) : Hist := (List.range n).map st

theorem histOf_at (st : Nat → List T × St) {n k : Nat} (h : k < n) : (histOf st n).at k = st k := by
  simp [Hist.at, histOf, List.getD_eq_getElem?_getD, List.getElem?_map, List.getElem?_range h]

theorem histOf_succ (st : Nat → List T × St) (n : Nat) : histOf st (n + 1) = histOf st n ++ [st n] := by
  simp [histOf, List.range_succ]

theorem runD_tr {P : Program} {callf : CallF} {ops : List Oper} {ms : List Nat} : ∀ (l : List Oper) (k : Nat) (st : Nat → List T × St) (s s' : List T × St), ops.drop k = l → k ≤ ops.length → st k = s →
    (∀ j o, j < k → ops[j]? = some o → step P callf ops o (st j) = some (st (j + 1))) → runD P callf ops ms l (histOf st k) s = some s' →
    ∃ st' : Nat → List T × St, (∀ j, j ≤ k → st' j = st j) ∧ (∀ j o, ops[j]? = some o → step P callf ops o (st' j) = some (st' (j + 1))) ∧ st' ops.length = s' ∧ winOk P ops ms (histOf st' (ops.length + 1)) = true := by
  intro l
  induction l with
  | nil =>
    intro k st s s' hd hkl hst hprev h
    simp only [runD] at h
    split at h
    · rename_i hw
      cases h
      have hk : k = ops.length := by
        have := congrArg List.length hd
        simp at this
        omega
      subst hk
      refine ⟨st, fun _ _ => rfl, fun j o hj => hprev j o (List.getElem?_eq_some_iff.1 hj).1 hj, hst, ?_⟩
      rw [histOf_succ, hst]; exact hw
    · cases h
  | cons o l ih =>
    intro k st s s' hd hkl hst hprev h
    have hk : ops[k]? = some o := by
      have := congrArg (·[0]?) hd
      simpa using this
    have hklt := (List.getElem?_eq_some_iff.1 hk).1
    have hd' : ops.drop (k + 1) = l := by
      have := congrArg List.tail hd
      simpa using this
    simp only [runD] at h
    split at h
    · rename_i s1 h1
      let st1 : Nat → List T × St := fun j => if j = k + 1 then s1 else st j
      have e0 : ∀ j, j ≤ k → st1 j = st j := fun j hj => by simp only [st1]; rw [if_neg (by omega)]
      have e1 : st1 (k + 1) = s1 := by simp only [st1, if_true]
      have hh : histOf st k ++ [s] = histOf st1 (k + 1) := by
        rw [histOf_succ, e0 k (Nat.le_refl _), hst]
        congr 1
        simp only [histOf]
        apply List.map_congr_left
        intro j hj
        rw [e0 j (by have := List.mem_range.1 hj; omega)]
      rw [hh] at h
      obtain ⟨st', h1', h2', h3', h4'⟩ := ih (k + 1) st1 s1 s' hd' hklt e1 (by
        intro j o' hj ho'
        rcases Nat.lt_or_ge j k with hjk | hjk
        · rw [e0 j (by omega), e0 (j + 1) (by omega)]; exact hprev j o' hjk ho'
        · have : j = k := by omega
          subst this
          rw [hk] at ho'; cases ho'
          rw [e0 j (Nat.le_refl _), e1, hst]; exact h1) h
      exact ⟨st', fun j hj => by rw [h1' j (by omega), e0 j hj], h2', h3', h4'⟩
    · cases h

section
variable {P : Program} {callf : CallF} {ops : List Oper} {st : Nat → List T × St}

theorem step_env {o : Oper} {s s' : List T × St} (h : step P callf ops o s = some s') : ∃ v, s'.1 = putE s.1 o.dst v := by
  unfold step at h
  (repeat' split at h) <;> first | (cases h; done) | (cases h; exact ⟨_, rfl⟩)

theorem stepS_env {o : Oper} {s s' : List T × St} (h : stepS P callf ops o s = some s') : ∃ v, s'.1 = putE s.1 o.dst v := by
  unfold stepS at h
  split at h
  · (repeat' split at h) <;> first | (cases h; done) | (cases h; exact ⟨_, rfl⟩)
  · exact step_env h

theorem Trk.wf (hs : CallSound P callf) (h : Trk P callf ops st) : ∀ k, k ≤ ops.length → (st k).2.wf := by
  intro k
  induction k with
  | zero => intro _; exact h.wf0
  | succ k ih =>
    intro hk
    have ho : ops[k]? = some ops[k] := List.getElem?_eq_getElem (by omega)
    exact (step_wf hs (h.step k _ ho) (ih (by omega))).1

theorem Trk.size (hs : CallSound P callf) (h : Trk P callf ops st) : ∀ d k, k + d ≤ ops.length → (st k).2.size ≤ (st (k + d)).2.size := by
  intro d
  induction d with
  | zero => intro k _; exact Nat.le_refl _
  | succ d ih =>
    intro k hk
    have ho : ops[k + d]? = some ops[k + d] := List.getElem?_eq_getElem (by omega)
    exact Nat.le_trans (ih k (by omega)) (step_wf hs (h.step (k + d) _ ho) (h.wf hs (k + d) (by omega))).2

theorem Trk.size_le (hs : CallSound P callf) (h : Trk P callf ops st) {j k : Nat} (hjk : j ≤ k) (hk : k ≤ ops.length) : (st j).2.size ≤ (st k).2.size := by
  have := h.size hs (k - j) j (by omega)
  rwa [show j + (k - j) = k from by omega] at this

theorem putE_len (env : List T) (d : Option Tmp) (v : T) : (putE env d v).length = env.length := by cases d <;> simp [putE]

theorem putE_ne (env : List T) {d : Option Tmp} {t : Nat} (v : T) (h : d ≠ some t) : (putE env d v).getD t .any = env.getD t .any := by
  cases d with
  | none => rfl
  | some d =>
    simp only [putE]
    rw [getD_set, if_neg (fun e => h (by rw [e.1]))]

theorem Trk.len (h : Trk P callf ops st) : ∀ k, k ≤ ops.length → (st k).1.length = (st 0).1.length := by
  intro k
  induction k with
  | zero => intro _; rfl
  | succ k ih =>
    intro hk
    have ho : ops[k]? = some ops[k] := List.getElem?_eq_getElem (by omega)
    obtain ⟨v, hv⟩ := step_env (h.step k _ ho)
    rw [hv, putE_len, ih (by omega)]

/-- Between places whose operations do not write a temporary it holds what it held. -/
theorem Trk.env_same (h : Trk P callf ops st) (t : Nat) : ∀ (d k : Nat), k + d ≤ ops.length → (∀ j o, k ≤ j → j < k + d → ops[j]? = some o → o.dst ≠ some t) → (st (k + d)).1.getD t .any = (st k).1.getD t .any := by
  intro d
  induction d with
  | zero => intro k _ _; rfl
  | succ d ih =>
    intro k hk hn
    have ho : ops[k + d]? = some ops[k + d] := List.getElem?_eq_getElem (by omega)
    obtain ⟨v, hv⟩ := step_env (h.step (k + d) _ ho)
    rw [← Nat.add_assoc, hv, putE_ne _ _ (hn (k + d) _ (by omega) (by omega) ho)]
    exact ih k (by omega) fun j o h1 h2 => hn j o h1 (by omega)

/-- A new block of the region's own. -/
def isA (P : Program) (ops : List Oper) (st : Nat → List T × St) (q : Nat) (b : Blk) : Prop :=
  ∃ o f, ops[q]? = some o ∧ kindOf P o.op = .A ∧ wantedA ops (st q).1 o = some true ∧ opA P o.op (evO (st q).1) = some (b, f)

theorem isA_push (h : Trk P callf ops st) {q : Nat} {b : Blk} (ha : isA P ops st q b) : (st (q + 1)).2 = (st q).2.push b := by
  obtain ⟨o, f, ho, hk, hw, hb⟩ := ha
  have := h.step q o ho
  unfold step at this
  rw [hw] at this
  simp only [hk, hb] at this
  rw [← Option.some.inj this]

theorem notW_store (h : Trk P callf ops st) {k : Nat} {o : Oper} (ho : ops[k]? = some o) (hw : isW P o = false ∨ wantedA ops (st k).1 o = some false) :
    (st (k + 1)).2 = (st k).2 ∨ ∃ b, isA P ops st k b := by
  have hst := h.step k o ho
  unfold step at hst
  split at hst
  · cases hst
  · rename_i h0
    left
    rw [← Option.some.inj hst]
  · rename_i h1
    split at hst
    · split at hst
      · left; rw [← Option.some.inj hst]
      · cases hst
    · split at hst
      · left; rw [← Option.some.inj hst]
      · cases hst
    · rename_i hk
      split at hst
      · rename_i b f hb
        right; exact ⟨b, o, f, ho, hk, h1, hb⟩
      · cases hst
    · rename_i hk
      rcases hw with hw | hw
      · simp [isW, hk] at hw
      · rw [h1] at hw; cases hw
    · cases hst

theorem overlay_miss (p : Nat) (g : Mem) (i : Nat) : ∀ (l : List (Nat × Nat × Blk)), (∀ q j b, (q, j, b) ∈ l → p ≤ q → j ≠ i) → overlay p g l i = g i := by
  intro l
  induction l with
  | nil => intro _; rfl
  | cons a l ih =>
    intro h
    obtain ⟨q, j, b⟩ := a
    simp only [overlay]
    have hrec := ih fun q' j' b' hm => h q' j' b' (by simp [hm])
    cases hq : Nat.ble p q with
    | true =>
      simp only
      rw [updM_ne _ _ (Ne.symm (h q j b (by simp) (Nat.le_of_ble_eq_true hq)))]
      exact hrec
    | false => exact hrec

theorem overlay_hit (p : Nat) (g : Mem) (i : Nat) (b : Blk) : ∀ (l : List (Nat × Nat × Blk)), (∃ q, (q, i, b) ∈ l ∧ p ≤ q) → (∀ q b', (q, i, b') ∈ l → p ≤ q → b' = b) → overlay p g l i = some b := by
  intro l
  induction l with
  | nil => rintro ⟨q, h, _⟩; simp at h
  | cons a l ih =>
    rintro ⟨q, hm, hq⟩ hu
    obtain ⟨q', j, b'⟩ := a
    simp only [overlay]
    by_cases hp : p ≤ q'
    · rw [Nat.ble_eq_true_of_le hp]
      simp only
      by_cases hj : i = j
      · subst hj
        rw [updM_same, hu q' b' (by simp) hp]
      · rw [updM_ne _ _ hj]
        refine ih ?_ fun q b'' h1 h2 => hu q b'' (by simp [h1]) h2
        cases hm with
        | head => exact (hj rfl).elim
        | tail _ hm => exact ⟨q, hm, hq⟩
    · have : Nat.ble p q' = false := by
        cases h : Nat.ble p q' with
        | true => exact (hp (Nat.le_of_ble_eq_true h)).elim
        | false => rfl
      rw [this]
      simp only
      refine ih ?_ fun q b'' h1 h2 => hu q b'' (by simp [h1]) h2
      cases hm with
      | head => exact (hp hq).elim
      | tail _ hm => exact ⟨q, hm, hq⟩

theorem aBlks_mem {h : Hist} {n : Nat} (hh : h = histOf st n) (q i : Nat) (b : Blk) : ∀ (l : List (Oper × Nat)), (∀ o k, (o, k) ∈ l → k < n ∧ ops[k]? = some o) →
    ((q, i, b) ∈ aBlks P ops h l ↔ (∃ o, (o, q) ∈ l) ∧ i = (st q).2.size ∧ isA P ops st q b) := by
  subst hh
  intro l
  induction l with
  | nil => intro _; simp [aBlks]
  | cons a l ih =>
    intro hl
    obtain ⟨o, k⟩ := a
    obtain ⟨hk, ho⟩ := hl o k (by simp)
    have hrec := ih fun o' k' hm => hl o' k' (by simp [hm])
    have hat := histOf_at st hk
    have only : ∀ b', isA P ops st k b' → kindOf P o.op = .A ∧ wantedA ops (st k).1 o = some true ∧ ∃ f, opA P o.op (evO (st k).1) = some (b', f) := by
      rintro b' ⟨o', f, h1, h2, h3, h4⟩
      rw [ho] at h1; cases h1
      exact ⟨h2, h3, f, h4⟩
    have miss : (¬ ∃ b', isA P ops st k b') → (((q, i, b) ∈ aBlks P ops (histOf st n) l ↔ (∃ o', (o', q) ∈ (o, k) :: l) ∧ i = (st q).2.size ∧ isA P ops st q b)) := by
      intro hno
      rw [hrec]
      constructor
      · rintro ⟨⟨o', hm⟩, h2, h3⟩
        exact ⟨⟨o', by simp [hm]⟩, h2, h3⟩
      · rintro ⟨⟨o', hm⟩, h2, h3⟩
        refine ⟨?_, h2, h3⟩
        simp only [List.mem_cons, Prod.mk.injEq] at hm
        rcases hm with ⟨_, rfl⟩ | hm
        · exact (hno ⟨b, h3⟩).elim
        · exact ⟨o', hm⟩
    simp only [aBlks, hat]
    split
    · rename_i hkA
      split
      · rename_i hw
        split
        · rename_i b' f hb
          have hA : isA P ops st k b' := ⟨o, f, ho, hkA, hw, hb⟩
          rw [List.mem_cons, hrec]
          constructor
          · rintro (he | ⟨⟨o', hm⟩, h2, h3⟩)
            · simp only [Prod.mk.injEq] at he
              obtain ⟨rfl, rfl, rfl⟩ := he
              exact ⟨⟨o, by simp⟩, rfl, hA⟩
            · exact ⟨⟨o', by simp [hm]⟩, h2, h3⟩
          · rintro ⟨⟨o', hm⟩, h2, h3⟩
            simp only [List.mem_cons, Prod.mk.injEq] at hm
            rcases hm with ⟨_, rfl⟩ | hm
            · obtain ⟨_, _, f', hb'⟩ := only b h3
              rw [hb] at hb'; cases hb'
              left; rw [h2]
            · right; exact ⟨⟨o', hm⟩, h2, h3⟩
        · rename_i hb
          refine miss ?_
          rintro ⟨b', hA⟩
          obtain ⟨_, _, f', hb'⟩ := only b' hA
          rw [hb] at hb'; cases hb'
      · rename_i hw
        refine miss ?_
        rintro ⟨b', hA⟩
        exact hw (only b' hA).2.1
    · rename_i hkA
      refine miss ?_
      rintro ⟨b', hA⟩
      exact hkA (only b' hA).1

theorem zipIdx_mem {l : List Oper} {o : Oper} {k : Nat} : (o, k) ∈ l.zipIdx ↔ l[k]? = some o := by
  rw [List.mem_zipIdx_iff_getElem?]

/-- What stands in a state between two writing operations: the text's store there, and the region's new blocks. -/
def X (P : Program) (ops : List Oper) (st : Nat → List T × St) (p : Nat) : Mem := chi P ops (histOf st (ops.length + 1)) p

theorem X_hit (hs : CallSound P callf) (h : Trk P callf ops st) {p q : Nat} {b : Blk} (ha : isA P ops st q b) (hpq : p ≤ q) : X P ops st p (st q).2.size = some b := by
  have hmem := fun (q i : Nat) (b : Blk) => aBlks_mem (P := P) (ops := ops) (st := st) rfl q i b ops.zipIdx (n := ops.length + 1) (fun o k hm => by
    have := zipIdx_mem.1 hm
    exact ⟨by have := (List.getElem?_eq_some_iff.1 this).1; omega, this⟩)
  refine overlay_hit p _ _ b _ ?_ ?_
  · refine ⟨q, (hmem q _ b).2 ⟨?_, rfl, ha⟩, hpq⟩
    obtain ⟨o, f, ho, _⟩ := ha
    exact ⟨o, zipIdx_mem.2 ho⟩
  · intro q' b' hm hq'
    obtain ⟨_, hsz, ha'⟩ := (hmem q' _ b').1 hm
    have hql : q < ops.length := by obtain ⟨o, f, ho, _⟩ := ha; exact (List.getElem?_eq_some_iff.1 ho).1
    have hql' : q' < ops.length := by obtain ⟨o, f, ho, _⟩ := ha'; exact (List.getElem?_eq_some_iff.1 ho).1
    have e1 := isA_push h ha
    have e2 := isA_push h ha'
    rcases Nat.lt_trichotomy q q' with hlt | rfl | hlt
    · have := h.size_le hs (show q + 1 ≤ q' from hlt) (by omega)
      rw [e1] at this; simp at this; omega
    · obtain ⟨o, f, ho, _, _, hb⟩ := ha
      obtain ⟨o', f', ho', _, _, hb'⟩ := ha'
      rw [ho] at ho'; cases ho'
      rw [hb] at hb'; cases hb'; rfl
    · have := h.size_le hs (show q' + 1 ≤ q from hlt) (by omega)
      rw [e2] at this; simp at this; omega

theorem X_miss {p i : Nat} (hp : p ≤ ops.length) (hn : ∀ q b, isA P ops st q b → p ≤ q → (st q).2.size ≠ i) : X P ops st p i = (st p).2.get i := by
  have hmem := fun (q i : Nat) (b : Blk) => aBlks_mem (P := P) (ops := ops) (st := st) rfl q i b ops.zipIdx (n := ops.length + 1) (fun o k hm => by
    have := zipIdx_mem.1 hm
    exact ⟨by have := (List.getElem?_eq_some_iff.1 this).1; omega, this⟩)
  unfold X chi
  rw [overlay_miss]
  · rw [histOf_at st (by omega)]
  · intro q j b hm hq e
    obtain ⟨_, hsz, ha⟩ := (hmem q j b).1 hm
    exact hn q b ha hq (hsz.symm.trans e)

theorem X_low (hs : CallSound P callf) (h : Trk P callf ops st) {p i : Nat} (hp : p ≤ ops.length) (hi : i < (st p).2.size) : X P ops st p i = (st p).2.get i := by
  refine X_miss hp fun q b ha hpq e => ?_
  have hql : q < ops.length := by obtain ⟨o, f, ho, _⟩ := ha; exact (List.getElem?_eq_some_iff.1 ho).1
  have := h.size_le hs hpq (by omega)
  omega

/-- Where no operation writes, nothing of it turns. -/
theorem X_step (hs : CallSound P callf) (h : Trk P callf ops st) {k : Nat} {o : Oper} (ho : ops[k]? = some o) (hw : isW P o = false ∨ wantedA ops (st k).1 o = some false) : X P ops st k = X P ops st (k + 1) := by
  have hk := (List.getElem?_eq_some_iff.1 ho).1
  funext i
  by_cases hex : ∃ q b, isA P ops st q b ∧ k + 1 ≤ q ∧ (st q).2.size = i
  · obtain ⟨q, b, ha, hq, rfl⟩ := hex
    rw [X_hit hs h ha (by omega), X_hit hs h ha hq]
  · rcases notW_store h ho hw with hsame | ⟨b, ha⟩
    · rw [X_miss (p := k + 1) (by omega) (fun q b ha hq e => hex ⟨q, b, ha, hq, e⟩), hsame]
      refine X_miss (by omega) fun q b ha hq e => ?_
      rcases Nat.lt_or_ge k q with hlt | hge
      · exact hex ⟨q, b, ha, hlt, e⟩
      · have : q = k := by omega
        subst this
        have := isA_push h ha
        rw [hsame] at this
        have := congrArg St.size this
        simp at this
    · rw [X_miss (p := k + 1) (by omega) (fun q b ha hq e => hex ⟨q, b, ha, hq, e⟩), isA_push h ha]
      by_cases e : i = (st k).2.size
      · subst e; rw [X_hit hs h ha (Nat.le_refl _), St.get_push_same]
      · rw [St.get_push_ne _ _ e]
        refine X_miss (by omega) fun q b' ha' hq e' => ?_
        rcases Nat.lt_or_ge k q with hlt | hge
        · exact hex ⟨q, b', ha', hlt, e'⟩
        · have : q = k := by omega
          subst this
          exact e e'.symm

theorem X_same (hs : CallSound P callf) (h : Trk P callf ops st) : ∀ (d k : Nat), k + d ≤ ops.length → (∀ j o, k ≤ j → j < k + d → ops[j]? = some o → isW P o = false) → X P ops st k = X P ops st (k + d) := by
  intro d
  induction d with
  | zero => intro k _ _; rfl
  | succ d ih =>
    intro k hk hn
    have ho : ops[k + d]? = some ops[k + d] := List.getElem?_eq_getElem (by omega)
    rw [ih k (by omega) fun j o h1 h2 => hn j o h1 (by omega), ← Nat.add_assoc]
    exact X_step hs h ho (.inl (hn (k + d) _ (by omega) (by omega) ho))
end
end Go.Abs

/-
  A region whose order is drawn ends as the text's order ends, whatever is drawn.
-/
namespace Go.Abs
open Go
section
variable {P : Program} {callf : CallF} {ops : Array Oper} {st : Nat → List T × St}

theorem mem_directs {o : Oper} {e : Nat} : e ∈ directs o ↔ ∃ d ∈ o.after, Region.binds .any d = true ∧ d.on = e := by
  simp only [directs, List.mem_map, List.mem_filter]
  constructor
  · rintro ⟨d, ⟨h1, h2⟩, h3⟩; exact ⟨d, by simpa using h1, h2, h3⟩
  · rintro ⟨d, h1, h2, h3⟩; exact ⟨d, ⟨by simpa using h1, h2⟩, h3⟩

structure Static (P : Program) (ops : Array Oper) : Prop where
  low : ∀ (k : Nat) (o : Oper), ops.toList[k]? = some o → ∀ e ∈ directs o, e < k
  uniq : ∀ (k : Nat) (o : Oper) (j : Nat) (oj : Oper) (d : Tmp), ops[k]? = some o → ops[j]? = some oj → j ≠ k → oj.dst = some d → o.dst ≠ some d
  read : ∀ (k : Nat) (o : Oper) (j : Nat) (oj : Oper) (d : Tmp), ops[k]? = some o → ops[j]? = some oj → j ≠ k → oj.dst = some d → d ∈ reads ops.toList o →
    (j < k → ((masks ops.toList).getD k 0).testBit j = true) ∧ (¬ j < k → ((masks ops.toList).getD j 0).testBit k = true)
  ws : ∀ (k : Nat) (o : Oper) (j : Nat) (oj : Oper), ops[k]? = some o → ops[j]? = some oj → isW P o = true → isW P oj = true → j < k → ((masks ops.toList).getD k 0).testBit j = true

theorem blt_iff {a b : Nat} : Nat.blt a b = true ↔ a < b := by
  simp [Nat.blt, Nat.ble_eq]; omega
theorem beq_iff' {a b : Nat} : Nat.beq a b = true ↔ a = b := ⟨Nat.eq_of_beq_eq_true, fun h => by subst h; simp⟩

theorem static_of (h : staticOk P ops.toList (masks ops.toList) = true) : Static P ops := by
  have hall : ∀ (k : Nat) (o : Oper), ops[k]? = some o → (∀ e ∈ directs o, e < k) ∧ ∀ (j : Nat) (oj : Oper), ops[j]? = some oj → pairOk P ops.toList (masks ops.toList) k o j oj = true := by
    intro k o ho
    simp only [staticOk, List.all_eq_true] at h
    have := h (o, k) (zipIdx_mem.2 (by rw [Array.getElem?_toList]; exact ho))
    simp only [Bool.and_eq_true, List.all_eq_true] at this
    refine ⟨fun e he => blt_iff.1 (this.1 e he), fun j oj hj => ?_⟩
    exact this.2 (oj, j) (zipIdx_mem.2 (by rw [Array.getElem?_toList]; exact hj))
  have hp : ∀ (k : Nat) (o : Oper) (j : Nat) (oj : Oper), ops[k]? = some o → ops[j]? = some oj → j ≠ k → (∀ d, oj.dst = some d → o.dst ≠ some d ∧ (d ∈ reads ops.toList o →
      (if j < k then ((masks ops.toList).getD k 0).testBit j else ((masks ops.toList).getD j 0).testBit k) = true)) ∧
      (isW P o = true → isW P oj = true → j < k → ((masks ops.toList).getD k 0).testBit j = true) := by
    intro k o j oj ho hj hne
    have hpo := (hall k o ho).2 j oj hj
    unfold pairOk at hpo
    rw [Bool.or_eq_true] at hpo
    rcases hpo with hpo | hpo
    · exact (hne (beq_iff'.1 hpo)).elim
    · rw [Bool.and_eq_true] at hpo
      refine ⟨?_, ?_⟩
      · intro d hd
        have h1 := hpo.1
        rw [hd] at h1
        simp only [Bool.and_eq_true, Bool.or_eq_true, Bool.not_eq_true'] at h1
        refine ⟨by simpa using h1.1, fun hm => ?_⟩
        rcases h1.2 with h2 | h2
        · rw [List.contains_eq_mem] at h2
          simp at h2; exact (h2 hm).elim
        · exact h2
      · intro h1 h2 h3
        have h4 := hpo.2
        simp only [h1, h2, Bool.not_true, Bool.false_or, Bool.or_eq_true, Bool.not_eq_true'] at h4
        rcases h4 with h4 | h4
        · have := blt_iff.2 h3; rw [this] at h4; cases h4
        · exact h4
  refine ⟨fun k o ho => (hall k o (by rw [← Array.getElem?_toList]; exact ho)).1, ?_, ?_, ?_⟩
  · intro k o j oj d ho hj hne hd
    exact ((hp k o j oj ho hj hne).1 d hd).1
  · intro k o j oj d ho hj hne hd hm
    have := ((hp k o j oj ho hj hne).1 d hd).2 hm
    constructor
    · intro hlt; rwa [if_pos hlt] at this
    · intro hlt; rwa [if_neg hlt] at this
  · intro k o j oj ho hj h1 h2 hlt
    exact (hp k o j oj ho hj (by omega)).2 h1 h2 hlt

/-- Which operations are through. -/
def Lst (listed : Array Bool) (k : Nat) : Prop := listed.getD k false = true

/-- From the region's beginning on: what may have turned. -/
structure Far (ι0 : Inj) (σ0 σn : St) (w0 : World) (ι : Inj) (g : Mem) (w : World) : Prop where
  agree : ∀ i, (i < σ0.size ∨ σn.size ≤ i) → ι i = ι0 i
  own : ∀ i, i < σ0.size → live (g i) → live (σ0.get i)
  hold : ∀ i, i < σ0.size → held (g i) → held (σ0.get i)
  ghost : ∀ i, i < σ0.size → ι0 i = none → g i = σ0.get i
  fresh : ∀ i L, σ0.size ≤ i → i < σn.size → ι i = some L → held (g i) → w0.heap.size ≤ L.b ∨ ∃ j M, j < σ0.size ∧ ι0 j = some M ∧ M.b = L.b ∧ live (σ0.get j)
  os : w.os = w0.os
  output : w.output = w0.output
  hsize : w0.heap.size ≤ w.heap.size
  keep : ∀ k, k < w0.heap.size → (∀ i L, i < σ0.size → ι0 i = some L → live (σ0.get i) → L.b ≠ k) → w.heap[k]? = w0.heap[k]?

structure Inv (P : Program) (ops : Array Oper) (st : Nat → List T × St) (ι0 : Inj) (w0 : World) (a0 : Act) (listed : Array Bool) (a : Act) (w : World) (p : Nat) (ι : Inj) : Prop where
  lsz : listed.size = ops.size
  closed : ∀ (k : Nat) (o : Oper), ops.toList[k]? = some o → Lst listed k → ∀ e ∈ directs o, Lst listed e
  ple : p ≤ ops.size
  below : ∀ (j : Nat) (o : Oper), ops[j]? = some o → isW P o = true → (Lst listed j ↔ j < p)
  len : (st 0).1.length ≤ a.tmps.size
  defers : a.defers = a0.defers
  put : ∀ (t j : Nat) (o : Oper), ops[j]? = some o → o.dst = some t → Lst listed j → TRel ι ((st (j + 1)).1.getD t .any) (a.tmps.getD t undef)
  old : ∀ (t : Nat), (∀ (j : Nat) (o : Oper), ops[j]? = some o → o.dst = some t → ¬ Lst listed j) → TRel ι ((st 0).1.getD t .any) (a.tmps.getD t undef)
  rel : Rel ι (X P ops.toList st p) w
  ghost : ∀ k, k < ops.size → ¬ Lst listed k → ∀ i, (st k).2.size ≤ i → i < (st (k + 1)).2.size → ι i = none
  pend : ∀ q b, isA P ops.toList st q b → ¬ Lst listed q → X P ops.toList st p (st q).2.size = some b
  far : Far ι0 (st 0).2 (st ops.size).2 w0 ι (X P ops.toList st p) w

variable {ι0 : Inj} {w0 : World} {a0 : Act} {listed : Array Bool} {a : Act} {w : World} {p : Nat} {ι : Inj}

theorem lst_set {k j : Nat} (hk : k < listed.size) : Lst (listed.setIfInBounds k true) j ↔ j = k ∨ Lst listed j := by
  unfold Lst
  by_cases e : j = k
  · subst e; simp [hk]
  · rw [getD_set_ne false (Ne.symm e)]
    simp [e]

theorem toL {k : Nat} {o : Oper} (h : ops[k]? = some o) : ops.toList[k]? = some o := by rw [Array.getElem?_toList]; exact h
theorem ofL {k : Nat} {o : Oper} (h : ops.toList[k]? = some o) : ops[k]? = some o := by rw [← Array.getElem?_toList]; exact h
theorem ltL {k : Nat} {o : Oper} (h : ops[k]? = some o) : k < ops.size := (Array.getElem?_eq_some_iff.1 h).1

/-- What an operation reads, when its turn comes. -/
theorem Inv.slot (h : Trk P callf ops.toList st) (hS : Static P ops) (I : Inv P ops st ι0 w0 a0 listed a w p ι) {k : Nat} {o : Oper} (ho : ops[k]? = some o) (hk : ¬ Lst listed k) (hdir : ∀ e ∈ directs o, Lst listed e)
    {t : Nat} (ht : t ∈ reads ops.toList o) : TRel ι ((st k).1.getD t .any) (a.tmps.getD t undef) := by
  have hkn := ltL ho
  have hlen : ops.toList.length = ops.size := Array.length_toList
  have hanc := anc_closed hS.low (Lst listed) I.closed
  by_cases hex : ∃ (j : Nat) (oj : Oper), ops[j]? = some oj ∧ oj.dst = some t
  · obtain ⟨j, oj, hj, hd⟩ := hex
    have huniq : ∀ (j' : Nat) (oj' : Oper), ops[j']? = some oj' → oj'.dst = some t → j' = j := by
      intro j' oj' hj' hd'
      by_cases e : j' = j
      · exact e
      · exact (hS.uniq j oj j' oj' t hj hj' e hd' hd).elim
    rcases Nat.lt_trichotomy j k with hlt | rfl | hgt
    · have hr := (hS.read k o j oj t ho hj (by omega) hd ht).1 hlt
      have hL : Lst listed j := hanc k o j (toL ho) hdir hr
      have e1 := h.env_same t (k - (j + 1)) (j + 1) (by omega) (fun j' o' h1 h2 hj' hd' => by
        have := huniq j' o' (ofL hj') hd'; omega)
      rw [show j + 1 + (k - (j + 1)) = k from by omega] at e1
      rw [e1]
      exact I.put t j oj hj hd hL
    · have e1 := h.env_same t j 0 (by omega) (fun j' o' h1 h2 hj' hd' => by
        have := huniq j' o' (ofL hj') hd'; omega)
      rw [Nat.zero_add] at e1
      rw [e1]
      exact I.old t fun j' o' hj' hd' => by rw [huniq j' o' hj' hd']; exact hk
    · have hr := (hS.read k o j oj t ho hj (by omega) hd ht).2 (by omega)
      have hnL : ¬ Lst listed j := by
        intro hL
        exact hk (hanc j oj k (toL hj) (I.closed j oj (toL hj) hL) hr)
      have e1 := h.env_same t k 0 (by omega) (fun j' o' h1 h2 hj' hd' => by
        have := huniq j' o' (ofL hj') hd'; omega)
      rw [Nat.zero_add] at e1
      rw [e1]
      exact I.old t fun j' o' hj' hd' => by rw [huniq j' o' hj' hd']; exact hnL
  · have e1 := h.env_same t k 0 (by omega) (fun j' o' h1 h2 hj' hd' => hex ⟨j', o', ofL hj', hd'⟩)
    rw [Nat.zero_add] at e1
    rw [e1]
    exact I.old t fun j' o' hj' hd' => (hex ⟨j', o', hj', hd'⟩).elim

theorem mem_tmpsOf {t : Nat} : ∀ {l : List Operand}, Operand.tmp t ∈ l → t ∈ tmpsOf l := by
  intro l
  induction l with
  | nil => intro h; cases h
  | cons x l ih =>
    intro h
    cases h with
    | head => simp [tmpsOf]
    | tail _ h => cases x <;> simp [tmpsOf, ih h]

theorem Inv.operand (h : Trk P callf ops.toList st) (hS : Static P ops) (I : Inv P ops st ι0 w0 a0 listed a w p ι) {k : Nat} {o : Oper} (ho : ops[k]? = some o) (hk : ¬ Lst listed k) (hdir : ∀ e ∈ directs o, Lst listed e) :
    ∀ x ∈ o.op.operands, TRel ι (evO (st k).1 x) (a.eval x) := by
  intro x hx
  cases x with
  | tmp t => exact I.slot h hS ho hk hdir (by simp only [reads, List.mem_append]; exact .inl (mem_tmpsOf (by simpa using hx)))
  | const v =>
    simp only [evO, Act.eval]
    cases hv : absV v with
    | none => trivial
    | some x => exact absV_rel hv
  | func f => exact ⟨[], rfl, .nil⟩
  | global g => trivial

theorem Inv.wanted (h : Trk P callf ops.toList st) (hS : Static P ops) (I : Inv P ops st ι0 w0 a0 listed a w p ι) {k : Nat} {o : Oper} (ho : ops[k]? = some o) (hk : ¬ Lst listed k) (hdir : ∀ e ∈ directs o, Lst listed e)
    {b : Bool} (hw : wantedA ops.toList (st k).1 o = some b) : Region.wanted o (yielded ops a.tmps) = b := by
  refine wanted_of hw fun j want oj d hg hj hd => I.slot h hS ho hk hdir ?_
  simp only [reads, List.mem_append, guardSlot, hg, toL hj, hd]
  exact .inr (by simp)

/-- The writing operations that are through are those ahead of the next one. -/
theorem Inv.place (hS : Static P ops) (I : Inv P ops st ι0 w0 a0 listed a w p ι) {k : Nat} {o : Oper} (ho : ops[k]? = some o) (hW : isW P o = true) (hk : ¬ Lst listed k) (hdir : ∀ e ∈ directs o, Lst listed e) :
    p ≤ k ∧ (∀ (j : Nat) (oj : Oper), ops[j]? = some oj → isW P oj = true → (Lst listed j ↔ j < k)) := by
  have hanc := anc_closed hS.low (Lst listed) I.closed
  have hpk : p ≤ k := by
    rcases Nat.lt_or_ge k p with hlt | hge
    · exact (hk ((I.below k o ho hW).2 hlt)).elim
    · exact hge
  refine ⟨hpk, fun j oj hj hWj => ⟨fun hL => Nat.lt_of_lt_of_le ((I.below j oj hj hWj).1 hL) hpk, fun hlt => ?_⟩⟩
  exact hanc k o j (toL ho) hdir (hS.ws k o j oj ho hj hW hWj hlt)

theorem X_to (hs : CallSound P callf) (h : Trk P callf ops.toList st) (I : Inv P ops st ι0 w0 a0 listed a w p ι) {k : Nat} (hk : k ≤ ops.size) (hpk : p ≤ k)
    (hno : ∀ (j : Nat) (oj : Oper), ops[j]? = some oj → isW P oj = true → j < k → Lst listed j) : X P ops.toList st p = X P ops.toList st k := by
  have hlen : ops.toList.length = ops.size := Array.length_toList
  have := X_same hs h (k - p) p (by omega) (fun j o h1 h2 ho => by
    cases hw : isW P o with
    | false => rfl
    | true =>
      have hL := hno j o (ofL ho) hw (by omega)
      have := (I.below j o (ofL ho) hw).1 hL
      omega)
  rwa [show p + (k - p) = k from by omega] at this
end
end Go.Abs

/-
  The invariant is kept by each operation.
-/
namespace Go.Abs
open Go
section
variable {P : Program} {callf : CallF} {ops : Array Oper} {st : Nat → List T × St}
variable {ι0 : Inj} {w0 : World} {a0 : Act} {listed : Array Bool} {a : Act} {w : World} {p : Nat} {ι : Inj}

theorem put_slot {κ : Inj} {env : List T} {a : Act} {t : Nat} {tv : T} {v : Value} (hl : env.length ≤ a.tmps.size) (hT : TRel κ tv v) :
    TRel κ ((putE env (some t) tv).getD t .any) ((a.put (some t) v).tmps.getD t undef) := by
  simp only [putE, Act.put]
  rw [getD_set, getD_setA]
  by_cases h : t < env.length
  · rw [if_pos ⟨rfl, h⟩, if_pos ⟨rfl, Nat.lt_of_lt_of_le h hl⟩]; exact hT
  · rw [if_neg (fun e => h e.2)]
    have : env.getD t .any = .any := by rw [List.getD_eq_getElem?_getD, List.getElem?_eq_none (Nat.le_of_not_lt h)]; rfl
    rw [this]; trivial

theorem put_other {a : Act} {dst : Option Tmp} {t : Nat} {v : Value} (h : dst ≠ some t) : (a.put dst v).tmps.getD t undef = a.tmps.getD t undef := by
  cases dst with
  | none => rfl
  | some d =>
    simp only [Act.put]
    rw [getD_setA, if_neg (fun e => h (by rw [e.1]))]

theorem put_size (a : Act) (dst : Option Tmp) (v : Value) : (a.put dst v).tmps.size = a.tmps.size := by cases dst <;> simp [Act.put]

theorem Inv.next (h : Trk P callf ops.toList st) (hS : Static P ops) (I : Inv P ops st ι0 w0 a0 listed a w p ι) {k : Nat} {o : Oper} (ho : ops[k]? = some o) (hk : ¬ Lst listed k) (hdir : ∀ e ∈ directs o, Lst listed e)
    {v : Value} {tv : T} {ι' : Inj} {w' : World} {p' : Nat} (hst : (st (k + 1)).1 = putE (st k).1 o.dst tv) (hT : TRel ι' tv v) (hle : ι.le ι') (hp' : p' ≤ ops.size)
    (hbelow : ∀ (j : Nat) (o : Oper), ops[j]? = some o → isW P o = true → (j = k ∨ Lst listed j ↔ j < p')) (hrel : Rel ι' (X P ops.toList st p') w')
    (hghost : ∀ k', k' < ops.size → k' ≠ k → ¬ Lst listed k' → ∀ i, (st k').2.size ≤ i → i < (st (k' + 1)).2.size → ι' i = none)
    (hpend : ∀ q b, isA P ops.toList st q b → q ≠ k → ¬ Lst listed q → X P ops.toList st p' (st q).2.size = some b)
    (hfar : Far ι0 (st 0).2 (st ops.size).2 w0 ι' (X P ops.toList st p') w') : Inv P ops st ι0 w0 a0 (listed.setIfInBounds k true) (a.put o.dst v) w' p' ι' := by
  have hkn := ltL ho
  have hlen : ops.toList.length = ops.size := Array.length_toList
  have hls : ∀ j, Lst (listed.setIfInBounds k true) j ↔ j = k ∨ Lst listed j := fun j => lst_set (by rw [I.lsz]; exact hkn)
  refine ⟨by rw [Array.size_setIfInBounds]; exact I.lsz, ?_, hp', ?_, by rw [put_size]; exact I.len, by rw [put_defers]; exact I.defers, ?_, ?_, hrel, ?_, ?_, hfar⟩
  · intro j oj hj hL e he
    rw [hls] at hL ⊢
    rcases hL with rfl | hL
    · rw [toL ho] at hj; cases hj
      exact .inr (hdir e he)
    · exact .inr (I.closed j oj hj hL e he)
  · intro j oj hj hW
    rw [hls]; exact hbelow j oj hj hW
  · intro t j oj hj hd hL
    rw [hls] at hL
    by_cases e : j = k
    · subst e
      rw [ho] at hj; cases hj
      rw [hst, hd]
      exact put_slot (by rw [h.len j (by omega)]; exact I.len) hT
    · rw [put_other (hS.uniq k o j oj t ho hj e hd)]
      exact (I.put t j oj hj hd (hL.resolve_left e)).mono hle
  · intro t hn
    rw [put_other (fun hd => hn k o ho hd ((hls k).2 (.inl rfl)))]
    exact (I.old t fun j oj hj hd hL => hn j oj hj hd ((hls j).2 (.inr hL))).mono hle
  · intro k' hk' hL i h1 h2
    rw [hls] at hL
    exact hghost k' hk' (fun e => hL (.inl e)) (fun e => hL (.inr e)) i h1 h2
  · intro q b hA hL
    rw [hls] at hL
    exact hpend q b hA (fun e => hL (.inl e)) (fun e => hL (.inr e))

/-- An operation that leaves the world as it is. -/
theorem Inv.quiet (hs : CallSound P callf) (h : Trk P callf ops.toList st) (hS : Static P ops) (I : Inv P ops st ι0 w0 a0 listed a w p ι) {k : Nat} {o : Oper} (ho : ops[k]? = some o) (hk : ¬ Lst listed k) (hdir : ∀ e ∈ directs o, Lst listed e)
    {v : Value} {tv : T} (hst : (st (k + 1)).1 = putE (st k).1 o.dst tv) (hT : TRel ι tv v) (hw : isW P o = false ∨ wantedA ops.toList (st k).1 o = some false) :
    ∃ p', Inv P ops st ι0 w0 a0 (listed.setIfInBounds k true) (a.put o.dst v) w p' ι := by
  have hkn := ltL ho
  cases hW : isW P o with
  | false =>
    refine ⟨p, I.next h hS ho hk hdir hst hT (Inj.le_refl _) I.ple ?_ I.rel (fun k' h1 _ h2 => I.ghost k' h1 h2) (fun q b h1 _ h2 => I.pend q b h1 h2) I.far⟩
    intro j oj hj hWj
    rw [← I.below j oj hj hWj]
    constructor
    · rintro (rfl | h)
      · rw [ho] at hj; cases hj; rw [hW] at hWj; cases hWj
      · exact h
    · exact .inr
  | true =>
    obtain ⟨hpk, hpl⟩ := I.place hS ho hW hk hdir
    have hX : X P ops.toList st p = X P ops.toList st (k + 1) := by
      rw [X_to hs h I (Nat.le_of_lt hkn) hpk (fun j oj hj hWj hlt => (hpl j oj hj hWj).2 hlt)]
      exact X_step hs h (toL ho) hw
    refine ⟨k + 1, I.next h hS ho hk hdir hst hT (Inj.le_refl _) hkn ?_ (hX ▸ I.rel) (fun k' h1 _ h2 => I.ghost k' h1 h2) (fun q b h1 _ h2 => hX ▸ I.pend q b h1 h2) (hX ▸ I.far)⟩
    intro j oj hj hWj
    rw [hpl j oj hj hWj]
    omega

/-- An operation that makes a block. -/
theorem Inv.make (hs : CallSound P callf) (h : Trk P callf ops.toList st) (hS : Static P ops) (I : Inv P ops st ι0 w0 a0 listed a w p ι) {k : Nat} {o : Oper} (ho : ops[k]? = some o) (hk : ¬ Lst listed k) (hdir : ∀ e ∈ directs o, Lst listed e)
    {b : Blk} {f : Nat → T} {L : Loc} {u : World} {v : Value} (hA : isA P ops.toList st k b) (hkA : kindOf P o.op = .A) (hst : (st (k + 1)).1 = putE (st k).1 o.dst (f (st k).2.size)) (hN : NewBlk ι w u L b)
    (hT : TRel (upd ι (st k).2.size L) (f (st k).2.size) v) : Inv P ops st ι0 w0 a0 (listed.setIfInBounds k true) (a.put o.dst v) u p (upd ι (st k).2.size L) := by
  have hkn := ltL ho
  have hlen : ops.toList.length = ops.size := Array.length_toList
  have hpush := isA_push h hA
  have hfree : ι (st k).2.size = none := I.ghost k hkn hk _ (Nat.le_refl _) (by rw [hpush]; simp)
  have hX : updM (X P ops.toList st p) (st k).2.size b = X P ops.toList st p := by
    funext i
    by_cases e : i = (st k).2.size
    · subst e; rw [updM_same, I.pend k b hA hk]
    · rw [updM_ne _ _ e]
  have hrel : Rel (upd ι (st k).2.size L) (X P ops.toList st p) u := by
    have := rel_new I.rel hfree hN
    rwa [hX] at this
  have hz0 : (st 0).2.size ≤ (st k).2.size := h.size_le hs (Nat.zero_le _) (by omega)
  have hzn : (st (k + 1)).2.size ≤ (st ops.size).2.size := h.size_le hs (by omega) (by omega)
  rw [hpush] at hzn
  simp only [St.size_push] at hzn
  refine I.next h hS ho hk hdir hst hT (le_upd L hfree) I.ple ?_ hrel ?_ (fun q b h1 _ h2 => I.pend q b h1 h2) ?_
  · intro j oj hj hWj
    rw [← I.below j oj hj hWj]
    constructor
    · rintro (rfl | h)
      · rw [ho] at hj; cases hj; simp [isW, hkA] at hWj
      · exact h
    · exact .inr
  · intro k' hk' hne hL i h1 h2
    rw [upd_ne]
    · exact I.ghost k' hk' hL i h1 h2
    · intro e
      subst e
      rcases Nat.lt_or_ge k' k with hlt | hge
      · have := h.size_le hs (show k' + 1 ≤ k from hlt) (by omega)
        omega
      · have := h.size_le hs (show k + 1 ≤ k' by omega) (by omega)
        rw [hpush] at this
        simp at this
        omega
  · have F := I.far
    refine ⟨?_, F.own, F.hold, F.ghost, ?_, hN.os.trans F.os, hN.output.trans F.output, by rw [hN.size]; have := F.hsize; omega, ?_⟩
    · intro i hi
      rw [upd_ne _ _ (by omega)]
      exact F.agree i hi
    · intro i M h1 h2 hM hh
      by_cases e : i = (st k).2.size
      · subst e
        rw [upd_same] at hM; cases hM
        exact .inl (by rw [hN.b_eq]; exact F.hsize)
      · rw [upd_ne _ _ e] at hM
        exact F.fresh i M h1 h2 hM hh
    · intro b' hb' hn
      have := F.hsize
      rw [hN.keep b' (by omega)]
      exact F.keep b' hb' hn

/-- An operation that writes. -/
theorem Inv.write (hs : CallSound P callf) (h : Trk P callf ops.toList st) (hS : Static P ops) (I : Inv P ops st ι0 w0 a0 listed a w p ι) {k : Nat} {o : Oper} (ho : ops[k]? = some o) (hk : ¬ Lst listed k) (hdir : ∀ e ∈ directs o, Lst listed e)
    (hW : isW P o = true) : Rel ι (st k).2.get w ∧ Free ι (st k).2.size (st (k + 1)).2.size ∧
      ∀ (κ : Inj) (u : World) (v : Value) (tv : T), (st (k + 1)).1 = putE (st k).1 o.dst tv → Ext ι (st k).2 w κ (st (k + 1)).2 u → Rel κ (st (k + 1)).2.get u → TRel κ tv v →
        Inv P ops st ι0 w0 a0 (listed.setIfInBounds k true) (a.put o.dst v) u (k + 1) κ := by
  have hkn := ltL ho
  have hlen : ops.toList.length = ops.size := Array.length_toList
  obtain ⟨hpk, hpl⟩ := I.place hS ho hW hk hdir
  have hX : X P ops.toList st p = X P ops.toList st k := X_to hs h I (Nat.le_of_lt hkn) hpk (fun j oj hj hWj hlt => (hpl j oj hj hWj).2 hlt)
  have hlow : ∀ i, i < (st k).2.size → X P ops.toList st p i = (st k).2.get i := fun i hi => by rw [hX]; exact X_low hs h (by omega) hi
  have wfk := h.wf hs k (by omega)
  have wfk1 := h.wf hs (k + 1) (by omega)
  have hsub : ∀ i b, (st k).2.get i = some b → X P ops.toList st p i = some b := fun i b hb => by rw [hlow i (wfk.lt hb)]; exact hb
  have hRk : Rel ι (st k).2.get w := by
    refine ⟨fun i L b hL hb => I.rel.blk i L b hL (hsub i b hb), fun i j L M hL hM hl hh hne => I.rel.sep i j L M hL hM ?_ ?_ hne, fun i n vs hg => I.rel.glob i n vs (hsub i _ hg)⟩
    · cases hb : (st k).2.get i with
      | none => rw [hb] at hl; exact hl.elim
      | some b => rw [hsub i b hb]; rw [hb] at hl; exact hl
    · cases hb : (st k).2.get j with
      | none => rw [hb] at hh; exact hh.elim
      | some b => rw [hsub j b hb]; rw [hb] at hh; exact hh
  have hF : Free ι (st k).2.size (st (k + 1)).2.size := fun i h1 h2 => I.ghost k hkn hk i h1 h2
  refine ⟨hRk, hF, ?_⟩
  intro κ u v tv hst hE hR1 hT
  have hle := hE.le hF
  have hz1 : (st (k + 1)).2.size ≤ (st ops.size).2.size := h.size_le hs (by omega) (by omega)
  have hz0 : (st 0).2.size ≤ (st k).2.size := h.size_le hs (Nat.zero_le _) (by omega)
  have hlow1 : ∀ i, i < (st (k + 1)).2.size → X P ops.toList st (k + 1) i = (st (k + 1)).2.get i := fun i hi => X_low hs h (by omega) hi
  -- beyond the store there: the region's later blocks alone, that stand already
  have hhigh : ∀ i b, (st (k + 1)).2.size ≤ i → X P ops.toList st (k + 1) i = some b → ∃ q, k + 1 ≤ q ∧ isA P ops.toList st q b ∧ (st q).2.size = i := by
    intro i b hi hb
    by_cases hex : ∃ q b', isA P ops.toList st q b' ∧ k + 1 ≤ q ∧ (st q).2.size = i
    · obtain ⟨q, b', hA, hq, rfl⟩ := hex
      rw [X_hit hs h hA hq] at hb; cases hb
      exact ⟨q, hq, hA, rfl⟩
    · rw [X_miss (by omega) (fun q b' hA hq e => hex ⟨q, b', hA, hq, e⟩), wfk1 i hi] at hb
      cases hb
  have hhigh' : ∀ i, (st (k + 1)).2.size ≤ i → X P ops.toList st (k + 1) i = X P ops.toList st p i ∨ X P ops.toList st (k + 1) i = none := by
    intro i hi
    cases hb : X P ops.toList st (k + 1) i with
    | none => exact .inr rfl
    | some b =>
      obtain ⟨q, hq, hA, rfl⟩ := hhigh i b hi hb
      rw [X_hit hs h hA (show p ≤ q by omega)]
      exact .inl rfl
  have hkeep : ∀ i L, (st (k + 1)).2.size ≤ i → ι i = some L → held (X P ops.toList st (k + 1) i) → u.heap[L.b]? = w.heap[L.b]? := by
    intro i L hi hL hh
    have hXi : X P ops.toList st (k + 1) i = X P ops.toList st p i := by
      rcases hhigh' i hi with e | e
      · exact e
      · rw [e] at hh; exact hh.elim
    rw [hXi] at hh
    have hlt : L.b < w.heap.size := by
      cases hb : X P ops.toList st p i with
      | none => rw [hb] at hh; exact hh.elim
      | some b => rw [hb] at hh; exact (I.rel.blk i L b hL hb).lt hh
    refine hE.keep L.b hlt fun j M hj hM hl => ?_
    refine I.rel.sep j i M L hM hL (by rw [hlow j hj]; exact hl) hh ?_
    have := hE.size
    omega
  have hagree : ∀ i, (st (k + 1)).2.size ≤ i → κ i = ι i := fun i hi => hE.agree i (.inr hi)
  -- a block that is live in the new store lies apart from every later one
  have hapart : ∀ i j L M, i < (st (k + 1)).2.size → (st (k + 1)).2.size ≤ j → κ i = some L → ι j = some M → held ((st (k + 1)).2.get i) → held (X P ops.toList st (k + 1) j) →
      (live ((st (k + 1)).2.get i) ∨ live (X P ops.toList st (k + 1) j)) → L.b ≠ M.b := by
    intro i j L M hi hj hL hM hhi hhj hor
    have hXj : X P ops.toList st (k + 1) j = X P ops.toList st p j := by
      rcases hhigh' j hj with e | e
      · exact e
      · rw [e] at hhj; exact hhj.elim
    rw [hXj] at hhj hor
    have hMlt : M.b < w.heap.size := by
      cases hb : X P ops.toList st p j with
      | none => rw [hb] at hhj; exact hhj.elim
      | some b => rw [hb] at hhj; exact (I.rel.blk j M b hM hb).lt hhj
    have := hE.size
    rcases Nat.lt_or_ge i (st k).2.size with hik | hik
    · rw [hE.agree i (.inl hik)] at hL
      rcases hor with hor | hor
      · exact I.rel.sep i j L M hL hM (by rw [hlow i hik]; exact hE.own i hik hor) hhj (by omega)
      · exact Ne.symm (I.rel.sep j i M L hM hL hor (by rw [hlow i hik]; exact hE.hold i hik hhi) (by omega))
    · rcases hE.fresh i L hik hi hL hhi with hf | ⟨j', M', hj', hM', e, hl⟩
      · omega
      · rw [← e]
        exact I.rel.sep j' j M' M hM' hM (by rw [hlow j' hj']; exact hl) hhj (by omega)
  have hrel : Rel κ (X P ops.toList st (k + 1)) u := by
    constructor
    · intro i L b hL hb
      rcases Nat.lt_or_ge i (st (k + 1)).2.size with hi | hi
      · rw [hlow1 i hi] at hb; exact hR1.blk i L b hL hb
      · rw [hagree i hi] at hL
        have hXi : X P ops.toList st p i = some b := by
          rcases hhigh' i hi with e | e
          · rw [← e]; exact hb
          · rw [e] at hb; cases hb
        have hr := I.rel.blk i L b hL hXi
        cases b with
        | dead => trivial
        | cells own vs => exact (hr.mono hle).congr (hkeep i L hi hL (by rw [hb]; trivial))
        | map es => exact (hr.mono hle).congr (hkeep i L hi hL (by rw [hb]; trivial))
        | chan cap vs => exact (hr.mono hle).congr (hkeep i L hi hL (by rw [hb]; trivial))
        | glob g vs => exact (hr.mono hle).congr (hkeep i L hi hL (by rw [hb]; trivial))
        | mark vs => exact (hr.mono hle).congr (hkeep i L hi hL (by rw [hb]; trivial))
    · intro i j L M hL hM hl hh hne
      rcases Nat.lt_or_ge i (st (k + 1)).2.size with hi | hi
      · rw [hlow1 i hi] at hl
        rcases Nat.lt_or_ge j (st (k + 1)).2.size with hj | hj
        · rw [hlow1 j hj] at hh
          exact hR1.sep i j L M hL hM hl hh hne
        · rw [hagree j hj] at hM
          exact hapart i j L M hi hj hL hM hl.held hh (.inl hl)
      · rw [hagree i hi] at hL
        rcases Nat.lt_or_ge j (st (k + 1)).2.size with hj | hj
        · rw [hlow1 j hj] at hh
          exact Ne.symm (hapart j i M L hj hi hM hL hh hl.held (.inr hl))
        · rw [hagree j hj] at hM
          have e1 : X P ops.toList st (k + 1) i = X P ops.toList st p i := by
            rcases hhigh' i hi with e | e
            · exact e
            · rw [e] at hl; exact hl.elim
          have e2 : X P ops.toList st (k + 1) j = X P ops.toList st p j := by
            rcases hhigh' j hj with e | e
            · exact e
            · rw [e] at hh; exact hh.elim
          rw [e1] at hl; rw [e2] at hh
          exact I.rel.sep i j L M hL hM hl hh hne
    · intro i n vs hg
      rcases Nat.lt_or_ge i (st (k + 1)).2.size with hi | hi
      · rw [hlow1 i hi] at hg
        exact hR1.glob i n vs hg
      · rw [hagree i hi]
        rcases hhigh' i hi with e | e
        · rw [e] at hg
          exact I.rel.glob i n vs hg
        · rw [e] at hg; cases hg
  refine I.next h hS ho hk hdir hst hT hle hkn ?_ hrel ?_ ?_ ?_
  · intro j oj hj hWj
    rw [hpl j oj hj hWj]
    omega
  · intro k' hk' hne hL i h1 h2
    rcases Nat.lt_or_ge k' k with hlt | hge
    · have := h.size_le hs (show k' + 1 ≤ k from hlt) (by omega)
      rw [hE.agree i (.inl (by omega))]
      exact I.ghost k' hk' hL i h1 h2
    · have := h.size_le hs (show k + 1 ≤ k' by omega) (by omega)
      rw [hE.agree i (.inr (by omega))]
      exact I.ghost k' hk' hL i h1 h2
  · intro q b hA hne hL
    have hqn : q < ops.size := by obtain ⟨o', f, ho', _⟩ := hA; rw [← hlen]; exact (List.getElem?_eq_some_iff.1 ho').1
    rcases Nat.lt_or_ge q k with hlt | hge
    · have hpq := isA_push h hA
      have hsz := h.size_le hs (show q + 1 ≤ k from hlt) (by omega)
      rw [hpq] at hsz
      simp only [St.size_push] at hsz
      have h1 := I.pend q b hA hL
      rw [hlow _ (by omega)] at h1
      have hn : ι (st q).2.size = none := I.ghost q hqn hL _ (Nat.le_refl _) (by rw [hpq]; simp)
      rw [hlow1 _ (by have := hE.size; omega), hE.ghost _ (by omega) hn]
      exact h1
    · exact X_hit hs h hA (by omega)
  · have F := I.far
    refine ⟨?_, ?_, ?_, ?_, ?_, hE.os.trans F.os, hE.output.trans F.output, Nat.le_trans F.hsize hE.hsize, ?_⟩
    · intro i hi
      have := hE.size
      rw [hE.agree i (by omega)]
      exact F.agree i hi
    · intro i hi hl
      have := hE.size
      rw [hlow1 i (by omega)] at hl
      have := hE.own i (by omega) hl
      rw [← hlow i (by omega)] at this
      exact F.own i hi this
    · intro i hi hl
      have := hE.size
      rw [hlow1 i (by omega)] at hl
      have := hE.hold i (by omega) hl
      rw [← hlow i (by omega)] at this
      exact F.hold i hi this
    · intro i hi hn
      have := hE.size
      rw [hlow1 i (by omega), hE.ghost i (by omega) (by rw [F.agree i (.inl hi)]; exact hn), ← hlow i (by omega)]
      exact F.ghost i hi hn
    · intro i L h1 h2 hL hh
      have hsz := hE.size
      have back : ∀ j M, j < (st k).2.size → ι j = some M → live ((st k).2.get j) → w0.heap.size ≤ M.b ∨ ∃ j' M', j' < (st 0).2.size ∧ ι0 j' = some M' ∧ M'.b = M.b ∧ live ((st 0).2.get j') := by
        intro j M hj hM hl
        rw [← hlow j hj] at hl
        rcases Nat.lt_or_ge j (st 0).2.size with hj0 | hj0
        · exact .inr ⟨j, M, hj0, by rw [← F.agree j (.inl hj0)]; exact hM, rfl, F.own j hj0 hl⟩
        · exact F.fresh j M hj0 (by omega) hM hl.held
      rcases Nat.lt_or_ge i (st (k + 1)).2.size with hi | hi
      · rw [hlow1 i hi] at hh
        rcases Nat.lt_or_ge i (st k).2.size with hik | hik
        · rw [hE.agree i (.inl hik)] at hL
          have := hE.hold i hik hh
          rw [← hlow i hik] at this
          exact F.fresh i L h1 h2 hL this
        · rcases hE.fresh i L hik hi hL hh with hf | ⟨j, M, hj, hM, e, hl⟩
          · exact .inl (Nat.le_trans F.hsize hf)
          · have := back j M hj hM hl
            rwa [e] at this
      · rw [hagree i hi] at hL
        rcases hhigh' i hi with e | e
        · rw [e] at hh; exact F.fresh i L h1 h2 hL hh
        · rw [e] at hh; exact hh.elim
    · intro b hb hn
      have hfs := F.hsize
      rw [hE.keep b (by omega)]
      · exact F.keep b hb hn
      · intro i L hi hL hl e
        rw [← hlow i hi] at hl
        rcases Nat.lt_or_ge i (st 0).2.size with hi0 | hi0
        · exact hn i L hi0 (by rw [← F.agree i (.inl hi0)]; exact hL) (F.own i hi0 hl) e
        · have := hE.size
          rcases F.fresh i L hi0 (by omega) hL hl.held with hf | ⟨j, M, hj, hM, e', hlj⟩
          · omega
          · exact hn j M hj hM hlj (e'.trans e)
end
end Go.Abs

/-
  A region whose order is drawn.
-/
namespace Go.Abs
open Go
section
variable {P : Program} {callf : CallF} {ops : Array Oper} {st : Nat → List T × St}
variable {ι0 : Inj} {w0 : World} {a0 : Act} {listed : Array Bool} {a : Act} {w : World} {p : Nat} {ι : Inj}

/-- What a load finds in whatever state its turn comes. -/
theorem load_found (hs : CallSound P callf) (h : Trk P callf ops.toList st) (hS : Static P ops) (hw : winOk P ops.toList (masks ops.toList) (histOf st (ops.toList.length + 1)) = true)
    (I : Inv P ops st ι0 w0 a0 listed a w p ι) {k : Nat} {o : Oper} (ho : ops[k]? = some o) (hk : ¬ Lst listed k) (hdir : ∀ e ∈ directs o, Lst listed e) (hkL : kindOf P o.op = .L)
    (hwant : wantedA ops.toList (st k).1 o = some true) {t : T} (ht : opL P o.op (evO (st k).1) (st k).2.get = some t) : opL P o.op (evO (st k).1) (X P ops.toList st p) = some t := by
  have hkn := ltL ho
  have hlen : ops.toList.length = ops.size := Array.length_toList
  have hanc := anc_closed hS.low (Lst listed) I.closed
  -- the writing operations' places
  have hws : ∀ j, j ∈ wpos P ops.toList.zipIdx ↔ ∃ oj, ops[j]? = some oj ∧ isW P oj = true := by
    have gen : ∀ (l : List (Oper × Nat)) (j : Nat), j ∈ wpos P l ↔ ∃ oj, (oj, j) ∈ l ∧ isW P oj = true := by
      intro l
      induction l with
      | nil => intro j; simp [wpos]
      | cons x l ih =>
        intro j
        obtain ⟨o', k'⟩ := x
        simp only [wpos]
        cases hb : isW P o' with
        | true =>
          rw [List.mem_cons, ih]
          constructor
          · rintro (rfl | ⟨oj, h1, h2⟩)
            · exact ⟨o', by simp, hb⟩
            · exact ⟨oj, by simp [h1], h2⟩
          · rintro ⟨oj, h1, h2⟩
            simp only [List.mem_cons, Prod.mk.injEq] at h1
            rcases h1 with ⟨_, rfl⟩ | h1
            · exact .inl rfl
            · exact .inr ⟨oj, h1, h2⟩
        | false =>
          rw [ih]
          constructor
          · rintro ⟨oj, h1, h2⟩; exact ⟨oj, by simp [h1], h2⟩
          · rintro ⟨oj, h1, h2⟩
            simp only [List.mem_cons, Prod.mk.injEq] at h1
            rcases h1 with ⟨rfl, _⟩ | h1
            · rw [hb] at h2; cases h2
            · exact ⟨oj, h1, h2⟩
    intro j
    rw [gen]
    constructor
    · rintro ⟨oj, h1, h2⟩; exact ⟨oj, ofL (zipIdx_mem.1 h1), h2⟩
    · rintro ⟨oj, h1, h2⟩; exact ⟨oj, zipIdx_mem.2 (toL h1), h2⟩
  let ws := wpos P ops.toList.zipIdx
  obtain ⟨c1, c2, c3⟩ := canon_spec ws p
  have same : ∀ q, q ≤ ops.size → X P ops.toList st (canon ws q) = X P ops.toList st q := by
    intro q hq
    obtain ⟨d1, d2, d3⟩ := canon_spec ws q
    have := X_same hs h (q - canon ws q) (canon ws q) (by omega) (fun j oj h1 h2 hj => by
      cases hb : isW P oj with
      | false => rfl
      | true =>
        have := d2 j ((hws j).2 ⟨oj, ofL hj, hb⟩) (by omega)
        omega)
    rwa [show canon ws q + (q - canon ws q) = q from by omega] at this
  rw [← same p I.ple]
  -- it is one of the places that were looked at
  have hmem : canon ws p ∈ 0 :: ws.map (· + 1) := by
    rcases c3 with h0 | ⟨j, hj, e⟩
    · rw [h0]; simp
    · rw [e]; simp [hj]
  have hok : okAt ws (masks ops.toList) k (canon ws p) = true := by
    simp only [okAt, List.all_eq_true, Bool.and_eq_true, Bool.or_eq_true, Bool.not_eq_true']
    intro j hj
    obtain ⟨oj, hoj, hWj⟩ := (hws j).1 hj
    constructor
    · cases hb : ((masks ops.toList).getD k 0).testBit j with
      | false => exact .inl rfl
      | true =>
        right
        have hL := hanc k o j (toL ho) hdir hb
        exact blt_iff.2 (c2 j hj ((I.below j oj hoj hWj).1 hL))
    · cases hb : ((masks ops.toList).getD j 0).testBit k with
      | false => exact .inl rfl
      | true =>
        right
        have hnL : ¬ Lst listed j := fun hL => hk (hanc j oj k (toL hoj) (I.closed j oj (toL hoj) hL) hb)
        have : ¬ j < p := fun hlt => hnL ((I.below j oj hoj hWj).2 hlt)
        exact Nat.ble_eq_true_of_le (by omega)
  have hthis : (Nat.beq (canon ws p) (canon ws k) || (match wantedA ops.toList ((histOf st (ops.toList.length + 1)).at k).1 o with
      | some true => decide (opL P o.op (evO ((histOf st (ops.toList.length + 1)).at k).1) (chi P ops.toList (histOf st (ops.toList.length + 1)) (canon ws p)) = opL P o.op (evO ((histOf st (ops.toList.length + 1)).at k).1) ((histOf st (ops.toList.length + 1)).at k).2.get)
      | _ => true)) = true := by
    simp only [winOk, List.all_eq_true] at hw
    have h1 := hw (o, k) (zipIdx_mem.2 (toL ho))
    simp only [hkL, List.all_eq_true] at h1
    have h2 := h1 (canon ws p) hmem
    rw [Bool.or_eq_true] at h2
    rcases h2 with h2 | h2
    · have : okAt ws (masks ops.toList) k (canon ws p) = false := by simpa using h2
      rw [hok] at this; cases this
    · exact h2
  rw [Bool.or_eq_true] at hthis
  rcases hthis with he | he
  · rw [beq_iff'.1 he, same k (by omega)]
    refine opL_mono (g := (st k).2.get) ?_ ht
    intro i b hb
    rw [X_low hs h (by omega) ((h.wf hs k (by omega)).lt hb)]
    exact hb
  · rw [histOf_at st (by omega), hwant] at he
    simp only [decide_eq_true_eq] at he
    rw [ht] at he
    exact he

/-- How many are left. -/
def left (n : Nat) (listed : Array Bool) : Nat := (List.range n).countP fun i => !listed.getD i false

theorem left_set {n k : Nat} (hk : k < n) (hl : listed.size = n) (h : ¬ Lst listed k) : left n (listed.setIfInBounds k true) + 1 = left n listed := by
  unfold left
  have gen : ∀ (l : List Nat), l.Nodup → k ∈ l → l.countP (fun i => !(listed.setIfInBounds k true).getD i false) + 1 = l.countP fun i => !listed.getD i false := by
    intro l
    induction l with
    | nil => intro _ h; cases h
    | cons x l ih =>
      intro hnd hm
      rw [List.nodup_cons] at hnd
      by_cases e : x = k
      · subst e
        have h1 : (listed.setIfInBounds x true).getD x false = true := by simp [hl, hk]
        have h2 : listed.getD x false = false := by
          cases hb : listed.getD x false with
          | false => rfl
          | true => exact (h hb).elim
        rw [List.countP_cons_of_neg (by simp only [h1]; simp), List.countP_cons_of_pos (by simp only [h2]; simp)]
        congr 1
        apply List.countP_congr
        intro y hy
        have : y ≠ x := fun e => hnd.1 (e ▸ hy)
        rw [getD_set_ne false (Ne.symm this)]
      · have hm' : k ∈ l := by
          cases hm with
          | head => exact (e rfl).elim
          | tail _ h => exact h
        have := ih hnd.2 hm'
        have hx : (listed.setIfInBounds k true).getD x false = listed.getD x false := getD_set_ne false (Ne.symm e)
        cases hb : listed.getD x false with
        | true =>
          rw [List.countP_cons_of_neg (by simp only [hx, hb]; simp), List.countP_cons_of_neg (by simp only [hb]; simp)]
          exact this
        | false =>
          rw [List.countP_cons_of_pos (by simp only [hx, hb]; simp), List.countP_cons_of_pos (by simp only [hb]; simp)]
          omega
  exact gen _ List.nodup_range (List.mem_range.2 hk)

theorem all_listed {n : Nat} (h : left n listed = 0) : ∀ k, k < n → Lst listed k := by
  intro k hk
  unfold left at h
  rw [List.countP_eq_zero] at h
  have := h k (List.mem_range.2 hk)
  simpa [Lst] using this

theorem ready_nil (hS : Static P ops) (hl : listed.size = ops.size) (h : Region.ready .any ops listed = []) : ∀ k, k < ops.size → Lst listed k := by
  intro k
  induction k using Nat.strongRecOn with
  | _ k ih =>
    intro hk
    cases hb : listed.getD k false with
    | true => exact hb
    | false =>
      have ho : ops[k]? = some ops[k] := Array.getElem?_eq_getElem hk
      have : k ∈ Region.ready .any ops listed := by
        rw [mem_ready]
        refine ⟨?_, ops[k], ho, ?_⟩
        · simp only [Array.getD_eq_getD_getElem?] at hb ⊢
          cases hc : listed[k]? with
          | none => rw [Array.getElem?_eq_none_iff] at hc; omega
          | some b => rw [hc] at hb; simpa using hb
        · intro e he hbind
          have := hS.low k _ (toL ho) e.on (mem_directs.2 ⟨e, he, hbind, rfl⟩)
          exact ih e.on this (by omega)
      rw [h] at this; cases this

theorem draw_any (hs : CallSound P callf) (h : Trk P callf ops.toList st) (hS : Static P ops) (hw : winOk P ops.toList (masks ops.toList) (histOf st (ops.toList.length + 1)) = true) {Q : Exit → Act → World → Prop}
    (hQ : ∀ listed a w p ι, Inv P ops st ι0 w0 a0 listed a w p ι → (∀ k, k < ops.size → Lst listed k) → Q .normal a w) :
    ∀ (fuel : Nat) (listed : Array Bool) (a : Act) (w : World) (p : Nat) (ι : Inj), left ops.size listed ≤ fuel → Inv P ops st ι0 w0 a0 listed a w p ι → wpAny P .any ops Q fuel listed a w := by
  have hlen : ops.toList.length = ops.size := Array.length_toList
  intro fuel
  induction fuel with
  | zero =>
    intro listed a w p ι hf I
    have hall := all_listed (listed := listed) (n := ops.size) (by omega)
    refine ⟨?_, hQ listed a w p ι I hall⟩
    cases hr : Region.ready .any ops listed with
    | nil => rfl
    | cons k l =>
      have : k ∈ Region.ready .any ops listed := by rw [hr]; simp
      rw [mem_ready] at this
      obtain ⟨hk, o, ho, _⟩ := this
      have hL := hall k (ltL ho)
      unfold Lst at hL
      simp only [Array.getD_eq_getD_getElem?] at hk hL
      cases hc : listed[k]? with
      | none => rw [hc] at hk; cases hk
      | some b => rw [hc] at hk hL; simp at hk hL; rw [hk] at hL; cases hL
  | succ fuel ih =>
    intro listed a w p ι hf I
    refine ⟨fun hr => hQ listed a w p ι I (ready_nil hS I.lsz hr), ?_⟩
    intro k hk
    rw [mem_ready] at hk
    obtain ⟨hkl, o, ho, hed⟩ := hk
    have hkn := ltL ho
    have hnk : ¬ Lst listed k := by
      intro hL
      unfold Lst at hL
      simp only [Array.getD_eq_getD_getElem?] at hkl hL
      cases hc : listed[k]? with
      | none => rw [hc] at hkl; cases hkl
      | some b => rw [hc] at hkl hL; simp at hkl hL; rw [hkl] at hL; cases hL
    have hdir : ∀ e ∈ directs o, Lst listed e := by
      intro e he
      obtain ⟨d, hd, hb, rfl⟩ := mem_directs.1 he
      exact hed d hd hb
    have hleft := left_set hkn I.lsz hnk
    have hgo : ∀ (a' : Act) (w' : World) (p' : Nat) (ι' : Inj), Inv P ops st ι0 w0 a0 (listed.setIfInBounds k true) a' w' p' ι' → wpAny P .any ops Q fuel (listed.setIfInBounds k true) a' w' :=
      fun a' w' p' ι' I' => ih _ a' w' p' ι' (by omega) I'
    have hstep := h.step k o (toL ho)
    have hev := I.operand h hS ho hnk hdir
    unfold wpOp
    rw [ho]
    simp only
    cases hwa : wantedA ops.toList (st k).1 o with
    | none => unfold step at hstep; rw [hwa] at hstep; cases hstep
    | some b =>
      have hwant := I.wanted h hS ho hnk hdir hwa
      rw [hwant]
      unfold step at hstep
      rw [hwa] at hstep
      cases b with
      | false =>
        simp only [Bool.false_eq_true, if_false]
        have e := Option.some.inj hstep
        obtain ⟨p', I'⟩ := I.quiet hs h hS ho hnk hdir (v := undef) (tv := tt) (by rw [← e]) tt_undef (.inr hwa)
        exact hgo _ _ _ _ I'
      | true =>
        simp only [if_true]
        left
        simp only at hstep
        split at hstep
        · rename_i hkP
          split at hstep
          · rename_i t ht
            have e := Option.some.inj hstep
            refine opP_wp hev ht fun v hv => ?_
            obtain ⟨p', I'⟩ := I.quiet hs h hS ho hnk hdir (v := v) (tv := t) (by rw [← e]) hv (.inl (by simp [isW, hkP]))
            exact hgo _ _ _ _ I'
          · cases hstep
        · rename_i hkL
          split at hstep
          · rename_i t ht
            have e := Option.some.inj hstep
            have hfound := load_found hs h hS hw I ho hnk hdir hkL hwa ht
            refine opL_wp I.rel hev hfound fun v hv => ?_
            obtain ⟨p', I'⟩ := I.quiet hs h hS ho hnk hdir (v := v) (tv := t) (by rw [← e]) hv (.inl (by simp [isW, hkL]))
            exact hgo _ _ _ _ I'
          · cases hstep
        · rename_i hkA
          split at hstep
          · rename_i b f hb
            have e := Option.some.inj hstep
            have hA : isA P ops.toList st k b := ⟨o, f, toL ho, hkA, hwa, hb⟩
            refine opA_wp (w := w) hev hb fun L u v hN hT => ?_
            exact hgo _ _ _ _ (I.make hs h hS ho hnk hdir hA hkA (by rw [← e]) hN (hT _))
          · cases hstep
        · rename_i hkW
          split at hstep
          · rename_i t τ hwr
            have e := Option.some.inj hstep
            obtain ⟨hRk, hF, hnext⟩ := I.write hs h hS ho hnk hdir (by simp [isW, hkW])
            have e2 : (st (k + 1)).2 = τ := by rw [← e]
            rw [e2] at hF hnext
            refine opWC_wp hs hRk (h.wf hs k (by omega)) hF hev hwr fun κ u v hE hR hT => ?_
            exact hgo _ _ _ _ (hnext κ u v t (by rw [← e]) hE hR hT)
          · cases hstep
        · cases hstep

theorem region_draw (hs : CallSound P callf) {id : Nat} {Q : Exit → Act → World → Prop} {env env' : List T} {σ τ : St}
    (hrun : runDraw P callf ops.toList (env, σ) = some (env', τ)) (hE : EnvR ι env a.tmps) (hR : Rel ι σ.get w) (wf : σ.wf) (hf : Free ι σ.size τ.size)
    (hK : ∀ κ u a', a'.defers = a.defers → EnvR κ env' a'.tmps → Ext ι σ w κ τ u → Rel κ τ.get u → Q .normal a' u) : (Code.region id ops true).wp P Q a w := by
  have hlen : ops.toList.length = ops.size := Array.length_toList
  unfold runDraw at hrun
  split at hrun
  · rename_i hc
    rw [Bool.and_eq_true] at hc
    have hS := static_of hc.2
    obtain ⟨st, h0, hst, hn, hw⟩ := runD_tr ops.toList 0 (fun _ => (env, σ)) (env, σ) (env', τ) (by simp) (Nat.zero_le _) rfl (fun j o hj _ => by omega) hrun
    have hst0 : st 0 = (env, σ) := h0 0 (Nat.le_refl _)
    have h : Trk P callf ops.toList st := ⟨hst, by rw [hst0]; exact wf⟩
    rw [hlen] at hn
    have e1 : (st 0).1 = env := by rw [hst0]
    have e2 : (st 0).2 = σ := by rw [hst0]
    have e3 : (st ops.size).1 = env' := by rw [hn]
    have e4 : (st ops.size).2 = τ := by rw [hn]
    have hno : ∀ j, ¬ Lst (Array.replicate ops.size false) j := by
      intro j hL
      unfold Lst at hL
      simp only [Array.getD_eq_getD_getElem?] at hL
      cases hc : (Array.replicate ops.size false)[j]? with
      | none => rw [hc] at hL; cases hL
      | some b =>
        rw [hc] at hL
        rw [Array.getElem?_replicate] at hc
        split at hc
        · cases hc; cases hL
        · cases hc
    refine wp_region_any hc.1 ?_
    have hR' : Rel ι σ.get { w with drawn := w.drawn + 1 } := hR.heap rfl
    refine draw_any hs h hS hw (ι0 := ι) (w0 := w) (a0 := a) ?_ ops.size _ a _ 0 ι ?_ ?_
    · intro listed a' u p κ I hall
      have hXn : X P ops.toList st p = X P ops.toList st ops.size := by
        refine X_to hs h I (Nat.le_refl _) I.ple fun j oj hj _ hlt => hall j hlt
      have hlow : ∀ i b, τ.get i = some b → X P ops.toList st p i = some b := by
        intro i b hb
        rw [hXn, X_low hs h (by omega) (by rw [e4]; exact (e4 ▸ h.wf hs ops.size (by omega)).lt hb), e4]
        exact hb
      have hlow' : ∀ i, i < τ.size → X P ops.toList st p i = τ.get i := by
        intro i hi
        rw [hXn, X_low hs h (by omega) (by rw [e4]; exact hi), e4]
      have hsz : σ.size ≤ τ.size := by
        have := h.size_le hs (Nat.zero_le ops.size) (by omega)
        rwa [e2, e4] at this
      have F := I.far
      rw [e2, e4] at F
      refine hK κ u a' I.defers ?_ ?_ ?_
      · refine ⟨by rw [← e3, h.len ops.size (by omega)]; exact I.len, fun t => ?_⟩
        rw [← e3]
        by_cases hex : ∃ (j : Nat) (oj : Oper), ops[j]? = some oj ∧ oj.dst = some t
        · obtain ⟨j, oj, hj, hd⟩ := hex
          have hjn := ltL hj
          have es := h.env_same t (ops.size - (j + 1)) (j + 1) (by omega) (fun j' o' h1 h2 hj' hd' => by
            have : j' = j := by
              by_cases e : j' = j
              · exact e
              · exact (hS.uniq j oj j' o' t hj (ofL hj') e hd' hd).elim
            omega)
          rw [show j + 1 + (ops.size - (j + 1)) = ops.size from by omega] at es
          rw [es]
          exact I.put t j oj hj hd (hall j hjn)
        · have es := h.env_same t ops.size 0 (by omega) (fun j' o' h1 h2 hj' hd' => hex ⟨j', o', ofL hj', hd'⟩)
          rw [Nat.zero_add] at es
          rw [es]
          exact I.old t fun j' o' hj' hd' => (hex ⟨j', o', hj', hd'⟩).elim
      · refine ⟨hsz, F.agree, ?_, ?_, ?_, ?_, F.os, F.output, F.hsize, F.keep⟩
        · intro i hi hl
          rw [← hlow' i (by omega)] at hl
          exact F.own i hi hl
        · intro i hi hl
          rw [← hlow' i (by omega)] at hl
          exact F.hold i hi hl
        · intro i hi hnn
          rw [← hlow' i (by omega)]
          exact F.ghost i hi hnn
        · intro i L h1 h2 hL hh
          rw [← hlow' i h2] at hh
          exact F.fresh i L h1 h2 hL hh
      · refine ⟨fun i L b hL hb => I.rel.blk i L b hL (hlow i b hb), fun i j L M hL hM hl hh hne => I.rel.sep i j L M hL hM ?_ ?_ hne, fun i n vs hg => I.rel.glob i n vs (hlow i _ hg)⟩
        · cases hb : τ.get i with
          | none => rw [hb] at hl; exact hl.elim
          | some b => rw [hlow i b hb]; rw [hb] at hl; exact hl
        · cases hb : τ.get j with
          | none => rw [hb] at hh; exact hh.elim
          | some b => rw [hlow j b hb]; rw [hb] at hh; exact hh
    · unfold left
      have := List.countP_le_length (p := fun i => !(Array.replicate ops.size false).getD i false) (l := List.range ops.size)
      rwa [List.length_range] at this
    · have hXl : ∀ i, i < σ.size → X P ops.toList st 0 i = σ.get i := by
        intro i hi
        rw [X_low hs h (Nat.zero_le _) (by rw [e2]; exact hi), e2]
      have hsz : ∀ k, k ≤ ops.size → σ.size ≤ (st k).2.size ∧ (st k).2.size ≤ τ.size := by
        intro k hk
        have h1 := h.size_le hs (Nat.zero_le k) (by omega)
        have h2 := h.size_le hs hk (by omega)
        rw [e2] at h1; rw [e4] at h2
        exact ⟨h1, h2⟩
      have hfree : ∀ i, σ.size ≤ i → X P ops.toList st 0 i ≠ none → ι i = none := by
        intro i hi hne
        by_cases hex : ∃ q b', isA P ops.toList st q b' ∧ 0 ≤ q ∧ (st q).2.size = i
        · obtain ⟨q, b', hA, _, rfl⟩ := hex
          have hq : q < ops.size := by obtain ⟨o', f, ho', _⟩ := hA; rw [← hlen]; exact (List.getElem?_eq_some_iff.1 ho').1
          have := hsz (q + 1) hq
          rw [isA_push h hA] at this
          simp only [St.size_push] at this
          exact hf _ hi (by omega)
        · exfalso
          apply hne
          rw [X_miss (Nat.zero_le _) (fun q b' hA hq e => hex ⟨q, b', hA, hq, e⟩), e2, wf i hi]
      have hrelX : Rel ι (X P ops.toList st 0) { w with drawn := w.drawn + 1 } := by
        constructor
        · intro i L b hL hb
          rcases Nat.lt_or_ge i σ.size with hi | hi
          · rw [hXl i hi] at hb; exact hR'.blk i L b hL hb
          · rw [hfree i hi (by rw [hb]; simp)] at hL; cases hL
        · intro i j L M hL hM hl hh hne
          rcases Nat.lt_or_ge i σ.size with hi | hi
          · rw [hXl i hi] at hl
            rcases Nat.lt_or_ge j σ.size with hj | hj
            · rw [hXl j hj] at hh; exact hR'.sep i j L M hL hM hl hh hne
            · rw [hfree j hj (by intro e; rw [e] at hh; exact hh.elim)] at hM; cases hM
          · rw [hfree i hi (by intro e; rw [e] at hl; exact hl.elim)] at hL; cases hL
        · intro i n vs hg
          rcases Nat.lt_or_ge i σ.size with hi | hi
          · rw [hXl i hi] at hg
            exact hR'.glob i n vs hg
          · exfalso
            by_cases hex : ∃ q b', isA P ops.toList st q b' ∧ 0 ≤ q ∧ (st q).2.size = i
            · obtain ⟨q, b', hA, _, rfl⟩ := hex
              rw [X_hit hs h hA (Nat.zero_le _)] at hg
              cases hg
              obtain ⟨o', f, _, _, _, ho'⟩ := hA
              exact opA_glob ho'
            · rw [X_miss (Nat.zero_le _) (fun q b' hA hq e => hex ⟨q, b', hA, hq, e⟩), e2, wf i hi] at hg
              cases hg
      refine ⟨by simp, fun k o _ hL => (hno k hL).elim, Nat.zero_le _, fun j o hj hW => ⟨fun hL => (hno j hL).elim, fun hlt => by omega⟩, by rw [e1]; exact hE.len, rfl,
        fun t j o _ _ hL => (hno j hL).elim, fun t _ => by rw [e1]; exact hE.rel t, hrelX, ?_, ?_, ?_⟩
      · intro k hk _ i h1 h2
        have := (hsz k (by omega)).1
        have := (hsz (k + 1) hk).2
        exact hf i (by omega) (by omega)
      · intro q b hA _
        exact X_hit hs h hA (Nat.zero_le _)
      · rw [e2, e4]
        refine ⟨fun _ _ => rfl, fun i hi hl => by rwa [hXl i hi] at hl, fun i hi hl => by rwa [hXl i hi] at hl, fun i hi _ => hXl i hi, ?_, rfl, rfl, Nat.le_refl _, fun _ _ _ => rfl⟩
        intro i L h1 h2 hL _
        rw [hf i h1 h2] at hL; cases hL
  · cases hrun
end
end Go.Abs

/-
  Code: branches, loops, blocks; a function's body; calls of so many levels.
-/
noncomputable section
namespace Go.Abs
open Go

/-- How a piece of code ends. -/
inductive Out where
  | normal (env : List T)
  | exit (id : Nat) (vals : List T)
  | ret (r : T)

/-! ### which temporaries are read later (advice alone: what is not kept is forgotten) -/
def useO (s : Nat) : Operand → Nat
  | .tmp t => s ||| 2 ^ t
  | _ => s

def useL (s : Nat) (l : List Operand) : Nat := l.foldl useO s

def clear (s t : Nat) : Nat := match s.testBit t with
  | true => s ^^^ 2 ^ t
  | false => s

def liveOps (ops : List Oper) : List Oper → Nat → Nat
  | [], s => s
  | o :: r, s =>
    let s := liveOps ops r s
    let s := match o.dst with | some d => clear s d | none => s
    let s := useL s o.op.operands.toList
    (guardSlot ops o).foldl (fun s t => s ||| 2 ^ t) s

def live_ (rets : Nat) : Code → (Nat → Nat) → Nat → Nat
  | .region _ ops _, _, lo => liveOps ops.toList ops.toList lo
  | .seq a b, ctx, lo => live_ rets a ctx (live_ rets b ctx lo)
  | .cond c a b, ctx, lo => useO (live_ rets a ctx lo ||| live_ rets b ctx lo) c
  | .block id c, ctx, lo => live_ rets c (fun i => if i = id then lo else ctx i) lo
  | .loop c, ctx, _ => live_ rets c ctx (live_ rets c ctx (live_ rets c ctx 0))
  | .scope c, ctx, lo => live_ rets c ctx lo
  | .exit id, ctx, _ => ctx id
  | .ret, _, _ => rets
  | _, _, lo => lo

def resSlots (rs : List ResultVar) : Nat := rs.foldl (fun s r => match r with | .tmp t => s ||| 2 ^ t | .cell a _ => s ||| 2 ^ a) 0

def ends : Code → Bool
  | .seq a b => ends a && ends b
  | .cond _ a b => ends a || ends b
  | .loop _ => false
  | .exit _ => false
  | .ret => false
  | .scope c => ends c
  | _ => true

def keepOf (n s : Nat) : List Nat := (List.range n).filter fun i => s.testBit i

def proj (keep : List Nat) (env : List T) : List T := keep.map fun i => env.getD i .any

def placeGo (vals : List T) : Nat → Nat → List Nat → Nat → List T
  | 0, _, _, _ => []
  | n + 1, i, [], j => .any :: placeGo vals n (i + 1) [] j
  | n + 1, i, k :: ks, j => match Nat.beq k i with
    | true => vals.getD j .any :: placeGo vals n (i + 1) ks (j + 1)
    | false => .any :: placeGo vals n (i + 1) (k :: ks) j

def place (n : Nat) (keep : List Nat) (vals : List T) : List T := placeGo vals n 0 keep 0

/-- A piece's end as a datum. -/
inductive JO where
  | normal (vals : List T)
  | exit (id : Nat) (vals : List T)
  | ret (r : T)

def loops (f : List T → St → Option (JO × St)) : Nat → List T → St → Option (JO × St)
  | 0, _, _ => none
  | n + 1, vals, σ => match f vals σ with
    | none => none
    | some (.normal vals', τ) => loops f n vals' τ
    | some (.exit i v, τ) => some (.exit i v, τ)
    | some (.ret r, τ) => some (.ret r, τ)

def toJ (keep : List Nat) (o : Out) (τ : St) : Option (JO × St) :=
  match o with
  | .normal e => some (.normal (proj keep e), τ)
  | .exit i v => some (.exit i v, τ)
  | .ret r => some (.ret r, τ)

def fromJ {R : Type} (n : Nat) (keep : List Nat) (K : Out → St → Option R) (x : Option (JO × St)) : Option R :=
  match x with
  | none => none
  | some (.normal v, τ) => K (.normal (place n keep v)) τ
  | some (.exit i v, τ) => K (.exit i v) τ
  | some (.ret r, τ) => K (.ret r) τ

def cif {R : Type} (c : T) (a b : Option R) : Option R :=
  match c with
  | .v (.s (.bool true)) => a
  | .v (.s (.bool false)) => b
  | _ => none

/-- An operation under its guard: not wanted, it gives nothing. -/
def gT (g : Option Bool) (x : Option T) : Option T := match g with
  | none => none
  | some false => some tt
  | some true => x
def gS (g : Option Bool) (σ : St) (x : Option (T × St)) : Option (T × St) := match g with
  | none => none
  | some false => some (tt, σ)
  | some true => x

def aNew (σ : St) (x : Option (Blk × (Nat → T))) : Option (T × St) := match x with
  | some (b, f) => some (f σ.size, σ.push b)
  | none => none

def thn {α R : Type} (x : Option α) (K : α → Option R) : Option R := match x with
  | some a => K a
  | none => none

def thn2 {R : Type} (x : Option (T × St)) (K : T → St → Option R) : Option R := match x with
  | some (t, τ) => K t τ
  | none => none

/-- One operation, and then. -/
def stepK {R : Type} (P : Program) (callf : CallF) (ops : List Oper) (o : Oper) (s : List T × St) (K : List T × St → Option R) : Option R :=
  match kindOf P o.op with
  | .P => thn (gT (wantedA ops s.1 o) (opP P o.op (evO s.1))) fun t => K (putE s.1 o.dst t, s.2)
  | .L => thn (gT (wantedA ops s.1 o) (opL P o.op (evO s.1) s.2.get)) fun t => K (putE s.1 o.dst t, s.2)
  | .A => thn2 (gS (wantedA ops s.1 o) s.2 (aNew s.2 (opA P o.op (evO s.1)))) fun t τ => K (putE s.1 o.dst t, τ)
  | .W => thn2 (gS (wantedA ops s.1 o) s.2 (opWC P callf o.op (evO s.1) s.2)) fun t τ => K (putE s.1 o.dst t, τ)
  | .C => none

/-- The same in the text's order, channels among it. -/
def stepKS {R : Type} (P : Program) (callf : CallF) (ops : List Oper) (o : Oper) (s : List T × St) (K : List T × St → Option R) : Option R := match isC P o with
  | true => thn2 (gS (wantedA ops s.1 o) s.2 (aComm P o.op (evO s.1) s.2)) fun t τ => K (putE s.1 o.dst t, τ)
  | false => stepK P callf ops o s K

theorem stepK_some {R : Type} {P : Program} {callf : CallF} {ops : List Oper} {o : Oper} {s : List T × St} {K : List T × St → Option R} {r : R} (h : stepK P callf ops o s K = some r) :
    ∃ s', step P callf ops o s = some s' ∧ K s' = some r := by
  have hT : ∀ (g : Option Bool) (x : Option T) (K : T → Option R), thn (gT g x) K = some r → ∃ t, K t = some r ∧ ((g = some false ∧ t = tt) ∨ (g = some true ∧ x = some t)) := by
    intro g x K h
    cases g with
    | none => cases h
    | some b => cases b with
      | false => exact ⟨_, h, .inl ⟨rfl, rfl⟩⟩
      | true => cases x with
        | none => cases h
        | some t => exact ⟨t, h, .inr ⟨rfl, rfl⟩⟩
  have hS : ∀ (g : Option Bool) (σ : St) (x : Option (T × St)) (K : T → St → Option R), thn2 (gS g σ x) K = some r → ∃ t τ, K t τ = some r ∧ ((g = some false ∧ t = tt ∧ τ = σ) ∨ (g = some true ∧ x = some (t, τ))) := by
    intro g σ x K h
    cases g with
    | none => cases h
    | some b => cases b with
      | false => exact ⟨_, _, h, .inl ⟨rfl, rfl, rfl⟩⟩
      | true => cases x with
        | none => cases h
        | some t => exact ⟨t.1, t.2, h, .inr ⟨rfl, rfl⟩⟩
  unfold stepK at h
  unfold step
  split at h
  · rename_i hk
    obtain ⟨t, h1, ⟨h2, rfl⟩ | ⟨h2, h3⟩⟩ := hT _ _ _ h
    · exact ⟨_, by simp only [h2], h1⟩
    · exact ⟨_, by simp only [h2, hk, h3], h1⟩
  · rename_i hk
    obtain ⟨t, h1, ⟨h2, rfl⟩ | ⟨h2, h3⟩⟩ := hT _ _ _ h
    · exact ⟨_, by simp only [h2], h1⟩
    · exact ⟨_, by simp only [h2, hk, h3], h1⟩
  · rename_i hk
    obtain ⟨t, τ, h1, ⟨h2, rfl, rfl⟩ | ⟨h2, h3⟩⟩ := hS _ _ _ _ h
    · exact ⟨_, by simp only [h2], h1⟩
    · unfold aNew at h3
      split at h3
      · rename_i h4
        cases h3
        exact ⟨_, by simp only [h2, hk, h4], h1⟩
      · cases h3
  · rename_i hk
    obtain ⟨t, τ, h1, ⟨h2, rfl, rfl⟩ | ⟨h2, h3⟩⟩ := hS _ _ _ _ h
    · exact ⟨_, by simp only [h2], h1⟩
    · exact ⟨_, by simp only [h2, hk, h3], h1⟩
  · cases h

theorem stepKS_some {R : Type} {P : Program} {callf : CallF} {ops : List Oper} {o : Oper} {s : List T × St} {K : List T × St → Option R} {r : R} (h : stepKS P callf ops o s K = some r) :
    ∃ s', stepS P callf ops o s = some s' ∧ K s' = some r := by
  unfold stepKS at h
  unfold stepS
  split at h
  · rename_i hc
    simp only [hc]
    cases hg : wantedA ops s.1 o with
    | none => rw [hg] at h; cases h
    | some b =>
      rw [hg] at h
      cases b with
      | false => exact ⟨_, rfl, h⟩
      | true =>
        cases hx : aComm P o.op (evO s.1) s.2 with
        | none => rw [hx] at h; cases h
        | some t => rw [hx] at h; exact ⟨_, rfl, h⟩
  · rename_i hc
    simp only [hc]
    exact stepK_some h

def runK {R : Type} (P : Program) (callf : CallF) (ops : List Oper) : List Oper → List T × St → (List T × St → Option R) → Option R
  | [], s, K => K s
  | o :: r, s, K => stepKS P callf ops o s fun s' => runK P callf ops r s' K

/-- Where a check holds, go on. -/
def chk {R : Type} (b : Bool) (x : Option R) : Option R := match b with
  | true => x
  | false => none

def runDK {R : Type} (P : Program) (callf : CallF) (ops : List Oper) (ms : List Nat) : List Oper → Hist → List T × St → (List T × St → Option R) → Option R
  | [], h, s, K => chk (winOk P ops ms (h ++ [s])) (K s)
  | o :: r, h, s, K => stepK P callf ops o s fun s' => runDK P callf ops ms r (h ++ [s]) s' K

/-- The results of a function. -/
def resVals (P : Program) (env : List T) (g : Mem) : List ResultVar → Option (List T)
  | [] => some []
  | .tmp t :: r => match resVals P env g r with
    | some l => some (env.getD t .any :: l)
    | none => none
  | .cell a t :: r => match aggOf P t with
    | some true => match szOf P t with
      | some n => match aLoadN n (env.getD a .any) g, resVals P env g r with
        | some x, some l => some (x :: l)
        | _, _ => none
      | none => none
    | some false => match aLoad1 (env.getD a .any) g, resVals P env g r with
      | some x, some l => some (x :: l)
      | _, _ => none
    | none => none

def allV : List T → Option (List V)
  | [] => some []
  | .v x :: r => match allV r with
    | some l => some (x :: l)
    | none => none
  | _ :: _ => none

def retT : List T → Option T
  | [x] => some x
  | l => match allV l with
    | some vs => some (.tup vs)
    | none => none

structure Ctx where
  rets : List ResultVar
  fuel : Nat
  lv : Nat → Nat

def exec {R : Type} (P : Program) (callf : CallF) (rets : List ResultVar) (N : Nat) : Code → (Nat → Nat) → Nat → List T → St → (Out → St → Option R) → Option R
  | .skip, _, _, env, σ, K => K (.normal env) σ
  | .label _, _, _, env, σ, K => K (.normal env) σ
  | .region _ ops draw, _, _, env, σ, K => match draw with
    | false => runK P callf ops.toList ops.toList (env, σ) fun s => K (.normal s.1) s.2
    | true => match P.follows .mixedOrders && staticOk P ops.toList (masks ops.toList) with
      | true => runDK P callf ops.toList (masks ops.toList) ops.toList [] (env, σ) fun s => K (.normal s.1) s.2
      | false => none
  | .seq a b, ctx, lo, env, σ, K => exec P callf rets N a ctx (live_ (resSlots rets) b ctx lo) env σ fun o τ => match o with
    | .normal env' => exec P callf rets N b ctx lo env' τ K
    | .exit i v => K (.exit i v) τ
    | .ret r => K (.ret r) τ
  | .cond c a b, ctx, lo, env, σ, K => match ends a && ends b with
    | true => fromJ env.length (keepOf env.length lo) K (cif (evO env c) (exec P callf rets N a ctx lo env σ (toJ (keepOf env.length lo))) (exec P callf rets N b ctx lo env σ (toJ (keepOf env.length lo))))
    | false => cif (evO env c) (exec P callf rets N a ctx lo env σ K) (exec P callf rets N b ctx lo env σ K)
  | .block id c, ctx, lo, env, σ, K =>
    fromJ env.length (keepOf env.length lo) K (exec P callf rets N c (fun i => if i = id then lo else ctx i) lo env σ fun o τ => match o with
      | .normal e => some (.normal (proj (keepOf env.length lo) e), τ)
      | .exit i v => if i = id then some (.normal v, τ) else some (.exit i v, τ)
      | .ret r => some (.ret r, τ))
  | .loop c, ctx, lo, env, σ, K =>
    let keep := keepOf env.length (live_ (resSlots rets) (.loop c) ctx lo)
    fromJ env.length [] K (loops (fun vals τ => exec P callf rets N c ctx (live_ (resSlots rets) (.loop c) ctx lo) (place env.length keep vals) τ (toJ keep)) N (proj keep env) σ)
  | .scope c, ctx, lo, env, σ, K => exec P callf rets N c ctx lo env σ K
  | .exit id, ctx, _, env, σ, K => K (.exit id (proj (keepOf env.length (ctx id)) env)) σ
  | .ret, _, _, env, σ, K => match resVals P env σ.get rets with
    | some l => match retT l with
      | some r => K (.ret r) σ
      | none => none
    | none => none
  | _, _, _, _, _, _ => none

/-- A function's body run. -/
def body (P : Program) (callf : CallF) (N : Nat) (f : FuncId) (args : List T) (σ : St) : Option (T × St) :=
  match P.funcs[f]? with
  | none => none
  | some fn => match fn.body with
    | none => none
    | some c => if args.length ≤ fn.ntmps then
        exec P callf fn.results.toList N c (fun _ => 0) 0 (args ++ List.replicate (fn.ntmps - args.length) tt) σ fun o τ => match o with
          | .ret r => some (r, τ)
          | .normal env => match resVals P env τ.get fn.results.toList with
            | some l => match retT l with
              | some r => some (r, τ)
              | none => none
            | none => none
          | .exit _ _ => none
      else none

/-- Calls of at most so many levels. -/
def run (P : Program) (N : Nat) (prim : CallF) : Nat → CallF
  | 0 => fun _ _ _ => none
  | d + 1 => fun f args σ => match prim f args σ with
    | some r => some r
    | none => body P (run P N prim d) N f args σ
end Go.Abs

/-
  Code does what 'exec' says.
-/
namespace Go.Abs
open Go
section
variable {P : Program} {callf : CallF}

theorem placeGo_len (vals : List T) : ∀ (n i : Nat) (ks : List Nat) (j : Nat), (placeGo vals n i ks j).length = n := by
  intro n
  induction n with
  | zero => intro i ks j; rfl
  | succ n ih =>
    intro i ks j
    cases ks with
    | nil => simp [placeGo, ih]
    | cons k ks =>
      simp only [placeGo]
      split <;> simp [ih]

theorem placeGo_get (vals : List T) : ∀ (n i : Nat) (ks : List Nat) (j t : Nat), (placeGo vals n i ks j).getD t .any = .any ∨ ∃ m, ks[m]? = some (i + t) ∧ (placeGo vals n i ks j).getD t .any = vals.getD (j + m) .any := by
  intro n
  induction n with
  | zero => intro i ks j t; left; simp [placeGo]
  | succ n ih =>
    intro i ks j t
    cases ks with
    | nil =>
      simp only [placeGo]
      cases t with
      | zero => left; rfl
      | succ t =>
        rcases ih (i + 1) [] j t with h | ⟨m, h, _⟩
        · left; simpa using h
        · simp at h
    | cons k ks =>
      simp only [placeGo]
      cases hb : Nat.beq k i with
      | true =>
        have hki : k = i := Nat.eq_of_beq_eq_true hb
        cases t with
        | zero => right; exact ⟨0, by simp [hki], by simp⟩
        | succ t =>
          rcases ih (i + 1) ks (j + 1) t with h | ⟨m, h1, h2⟩
          · left; simpa using h
          · right
            refine ⟨m + 1, by simp only [List.getElem?_cons_succ]; rw [h1]; congr 1; omega, ?_⟩
            simp only [List.getD_cons_succ]
            rw [h2]; congr 1; omega
      | false =>
        cases t with
        | zero => left; rfl
        | succ t =>
          rcases ih (i + 1) (k :: ks) j t with h | ⟨m, h1, h2⟩
          · left; simpa using h
          · right
            refine ⟨m, by rw [h1]; congr 1; omega, ?_⟩
            simp only [List.getD_cons_succ]
            exact h2

theorem place_proj {κ : Inj} {n : Nat} {keep : List Nat} {env : List T} {tmps : Array Value} (h : EnvR κ env tmps) (hn : n = env.length) : EnvR κ (place n keep (proj keep env)) tmps := by
  subst hn
  refine ⟨by rw [place, placeGo_len]; exact h.len, fun t => ?_⟩
  unfold place
  rcases placeGo_get (proj keep env) env.length 0 keep 0 t with e | ⟨m, h1, h2⟩
  · rw [e]; trivial
  · rw [h2]
    have : (proj keep env).getD (0 + m) .any = env.getD t .any := by
      rw [Nat.zero_add] at h1 ⊢
      rw [List.getD_eq_getElem?_getD, proj, List.getElem?_map, h1]
      rfl
    rw [this]
    exact h.rel t

theorem runK_some {R : Type} {ops : List Oper} : ∀ (l : List Oper) (s : List T × St) (K' : List T × St → Option R) (r : R), runK P callf ops l s K' = some r → ∃ s', runOps P callf ops l s = some s' ∧ K' s' = some r := by
  intro l
  induction l with
  | nil => intro s K' r h; exact ⟨s, rfl, h⟩
  | cons o l ih =>
    intro s K' r h
    simp only [runK] at h
    obtain ⟨s1, h1, h⟩ := stepKS_some h
    obtain ⟨s', h2, h3⟩ := ih s1 K' r h
    exact ⟨s', by simp only [runOps, h1, h2], h3⟩

theorem runDK_some {R : Type} {ops : List Oper} {ms : List Nat} : ∀ (l : List Oper) (hh : Hist) (s : List T × St) (K' : List T × St → Option R) (r : R), runDK P callf ops ms l hh s K' = some r →
    ∃ s', runD P callf ops ms l hh s = some s' ∧ K' s' = some r ∧ runOps P callf ops l s = some s' := by
  intro l
  induction l with
  | nil =>
    intro hh s K' r h
    simp only [runDK] at h
    unfold chk at h
    split at h
    · rename_i hw
      exact ⟨s, by simp only [runD, hw, if_true], h, rfl⟩
    · cases h
  | cons o l ih =>
    intro hh s K' r h
    simp only [runDK] at h
    obtain ⟨s1, h1, h⟩ := stepK_some h
    obtain ⟨s', h2, h3, h4⟩ := ih _ s1 K' r h
    exact ⟨s', by simp only [runD, h1, h2], h3, by simp only [runOps, step_stepS h1, h4]⟩

theorem runOps_len {ops : List Oper} : ∀ (l : List Oper) (s s' : List T × St), runOps P callf ops l s = some s' → s'.1.length = s.1.length := by
  intro l
  induction l with
  | nil => intro s s' h; cases h; rfl
  | cons o l ih =>
    intro s s' h
    simp only [runOps] at h
    split at h
    · rename_i s1 h1
      obtain ⟨v, hv⟩ := stepS_env h1
      rw [ih s1 s' h, hv, putE_len]
    · cases h

/-- A piece's end, in the model. -/
def OutR (P : Program) (rets : Array ResultVar) (κ : Inj) (ctx : Nat → Nat) (n : Nat) (o : Out) (e : Exit) (a : Act) (u : World) : Prop :=
  match o with
  | .normal env => e = .normal ∧ EnvR κ env a.tmps ∧ env.length = n
  | .exit i v => e = .exit i ∧ EnvR κ (place n (keepOf n (ctx i)) v) a.tmps
  | .ret r => e = .ret ∧ ∃ v, (∀ fn : Func, fn.results = rets → (results fn a.tmps).run P u = .ok v u) ∧ TRel κ r v

theorem resVals_run {κ : Inj} {env : List T} {tmps : Array Value} {g : Mem} {u : World} (hE : EnvR κ env tmps) (hR : Rel κ g u) : ∀ (rs : List ResultVar) (l : List T), resVals P env g rs = some l →
    ∃ vs : List Value, (rs.mapM fun r => (match r with | .tmp t => pure (tmps.getD t undef) | .cell a t => do loadVar t (← asAddr (tmps.getD a undef)) : Sem Value)).run P u = .ok vs u ∧ All2 (TRel κ) l vs := by
  intro rs
  induction rs with
  | nil => intro l h; cases h; exact ⟨[], by simp [run_pure], .nil⟩
  | cons r rs ih =>
    intro l h
    cases r with
    | tmp t =>
      simp only [resVals] at h
      split at h
      · rename_i l' h'
        cases h
        obtain ⟨vs, h1, h2⟩ := ih l' h'
        exact ⟨tmps.getD t undef :: vs, by simp only [List.mapM_cons, run_bind, run_pure, h1], .cons (hE.rel t) h2⟩
      · cases h
    | cell a t =>
      simp only [resVals] at h
      have hx := hE.rel a
      split at h
      · rename_i ha
        split at h
        · rename_i n hn
          split at h
          · rename_i x l' hx' h'
            cases h
            obtain ⟨v, hv, rv⟩ := loadN_run (P := P) (t := t) ha hn hR hx hx'
            obtain ⟨vs, h1, h2⟩ := ih l' h'
            refine ⟨v :: vs, ?_, .cons rv h2⟩
            have hv' : (do loadVar t (← asAddr (tmps.getD a undef)) : Sem Value).run P u = .ok v u := by
              unfold aLoadN at hx'
              split at hx'
              · rename_i i o he
                rw [he] at hx
                obtain ⟨L, hL, e⟩ := hx
                rw [e] at hv ⊢
                exact hv
              · cases hx'
            simp only [run_bind] at hv'
            simp only [List.mapM_cons, run_bind, hv', run_pure, h1]
          · cases h
        · cases h
      · rename_i ha
        split at h
        · rename_i x l' hx' h'
          cases h
          obtain ⟨v, hv, rv⟩ := load1_run (P := P) (t := t) ha hR hx hx'
          obtain ⟨vs, h1, h2⟩ := ih l' h'
          refine ⟨v :: vs, ?_, .cons rv h2⟩
          have hv' : (do loadVar t (← asAddr (tmps.getD a undef)) : Sem Value).run P u = .ok v u := by
            unfold aLoad1 at hx'
            split at hx'
            · rename_i i o he
              rw [he] at hx
              obtain ⟨L, hL, e⟩ := hx
              rw [e] at hv ⊢
              exact hv
            · cases hx'
          simp only [run_bind] at hv'
          simp only [List.mapM_cons, run_bind, hv', run_pure, h1]
        · cases h
      · cases h

theorem allV_rel {κ : Inj} : ∀ {l : List T} {m : List V} {vs : List Value}, allV l = some m → All2 (TRel κ) l vs → All2 (VRel κ) m vs := by
  intro l
  induction l with
  | nil => intro m vs h k; cases h; cases k; exact .nil
  | cons x l ih =>
    intro m vs h k
    cases k with
    | cons a k =>
      unfold allV at h
      split at h
      · rename_i he; cases he
      · rename_i y r he
        cases he
        split at h
        · rename_i m' hm
          cases h
          exact .cons a (ih hm k)
        · cases h
      · cases h

theorem results_run {κ : Inj} {env : List T} {tmps : Array Value} {g : Mem} {u : World} (hE : EnvR κ env tmps) (hR : Rel κ g u) {rets : Array ResultVar} {l : List T} {r : T} (hl : resVals P env g rets.toList = some l) (hr : retT l = some r) :
    ∃ v, (∀ fn : Func, fn.results = rets → (results fn tmps).run P u = .ok v u) ∧ TRel κ r v := by
  obtain ⟨vs, h1, h2⟩ := resVals_run hE hR rets.toList l hl
  have hmap : ∀ fn : Func, fn.results = rets → (fn.results.mapM fun r => (match r with | .tmp t => pure (tmps.getD t undef) | .cell a t => do loadVar t (← asAddr (tmps.getD a undef)) : Sem Value)).run P u = .ok vs.toArray u := by
    intro fn hfn
    rw [hfn, ← Array.toArray_toList (xs := rets), List.mapM_toArray]
    show ((Functor.map _ _ : Sem _)).run P u = _
    rw [map_eq_pure_bind, run_bind, h1]
    rfl
  have hres : ∀ fn : Func, fn.results = rets → (results fn tmps).run P u = .ok (if h : vs.toArray.size = 1 then vs.toArray[0] else .tuple vs.toArray) u := by
    intro fn hfn
    have key : (results fn tmps).run P u = (do
        let vs ← fn.results.mapM fun r => (match r with | .tmp t => pure (tmps.getD t undef) | .cell a t => do loadVar t (← asAddr (tmps.getD a undef)) : Sem Value)
        pure (if h : vs.size = 1 then vs[0] else .tuple vs) : Sem Value).run P u := rfl
    rw [key, run_bind, hmap fn hfn]
    rfl
  unfold retT at hr
  split at hr
  · rename_i x
    cases hr
    cases h2 with
    | @cons _ v _ vs hx hn =>
      cases hn
      refine ⟨v, fun fn hfn => ?_, hx⟩
      rw [hres fn hfn]
      rfl
  · rename_i l' hne
    split at hr
    · rename_i m hm
      cases hr
      refine ⟨.tuple vs.toArray, fun fn hfn => ?_, vs, rfl, allV_rel hm h2⟩
      rw [hres fn hfn]
      have hlen := forall2_length h2
      have : ¬ vs.toArray.size = 1 := by
        intro e
        simp only [List.size_toArray] at e
        rw [e] at hlen
        cases l with
        | nil => simp at hlen
        | cons x l => cases l with
          | nil => exact hne x rfl
          | cons y l => simp at hlen
      rw [dif_neg this]
    · cases hr

theorem cif_some {R : Type} {c : T} {a b : Option R} {r : R} (h : cif c a b = some r) : (c = B true ∧ a = some r) ∨ (c = B false ∧ b = some r) := by
  unfold cif at h
  split at h
  · exact .inl ⟨rfl, h⟩
  · exact .inr ⟨rfl, h⟩
  · cases h
end
end Go.Abs

/-
  'exec' is sound; so are calls of so many levels.
-/
namespace Go.Abs
open Go
section
variable {P : Program} {callf : CallF}

/-- What is known of a piece of code that ends as said. -/
def Good (P : Program) (rets : Array ResultVar) (c : Code) (ctx : Nat → Nat) (env : List T) (σ : St) (o : Out) (τ : St) : Prop :=
  τ.wf ∧ σ.size ≤ τ.size ∧ ∀ (ι : Inj) (a : Act) (w : World), EnvR ι env a.tmps → Rel ι σ.get w → Free ι σ.size τ.size →
    ∀ (Q : Exit → Act → World → Prop), (∀ e a' u κ, a'.defers = a.defers → Ext ι σ w κ τ u → Rel κ τ.get u → OutR P rets κ ctx env.length o e a' u → Q e a' u) → WpN P c Q a w

/-- The same of an end that is a datum. -/
def OutJ (P : Program) (rets : Array ResultVar) (κ : Inj) (ctx : Nat → Nat) (n : Nat) (keep : List Nat) (o : JO) (e : Exit) (a : Act) (u : World) : Prop :=
  match o with
  | .normal v => e = .normal ∧ EnvR κ (place n keep v) a.tmps
  | .exit i v => OutR P rets κ ctx n (.exit i v) e a u
  | .ret r => OutR P rets κ ctx n (.ret r) e a u

theorem toJ_out {rets : Array ResultVar} {κ : Inj} {ctx : Nat → Nat} {n : Nat} {keep : List Nat} {o : Out} {τ τ' : St} {j : JO} {e : Exit} {a : Act} {u : World} (h : toJ keep o τ = some (j, τ')) (ho : OutR P rets κ ctx n o e a u) :
    τ' = τ ∧ OutJ P rets κ ctx n keep j e a u := by
  cases o with
  | normal env => cases h; exact ⟨rfl, ho.1, place_proj ho.2.1 ho.2.2.symm⟩
  | exit i v => cases h; exact ⟨rfl, ho⟩
  | ret r => cases h; exact ⟨rfl, ho⟩

theorem toJ_st {keep : List Nat} {o : Out} {τ τ' : St} {j : JO} (h : toJ keep o τ = some (j, τ')) : τ' = τ := by cases o <;> cases h <;> rfl

theorem fromJ_some {R : Type} {n : Nat} {keep : List Nat} {K' : Out → St → Option R} {x : Option (JO × St)} {r : R} (h : fromJ n keep K' x = some r) : ∃ j τ, x = some (j, τ) ∧
    match j with
    | .normal v => K' (.normal (place n keep v)) τ = some r
    | .exit i v => K' (.exit i v) τ = some r
    | .ret q => K' (.ret q) τ = some r := by
  unfold fromJ at h
  split at h
  · cases h
  · exact ⟨_, _, rfl, h⟩
  · exact ⟨_, _, rfl, h⟩
  · exact ⟨_, _, rfl, h⟩

def JO.out (n : Nat) (keep : List Nat) : JO → Out
  | .normal v => .normal (place n keep v)
  | .exit i v => .exit i v
  | .ret r => .ret r

theorem fromJ_out {R : Type} {n : Nat} {keep : List Nat} {K' : Out → St → Option R} {x : Option (JO × St)} {r : R} (h : fromJ n keep K' x = some r) : ∃ j τ, x = some (j, τ) ∧ K' (j.out n keep) τ = some r := by
  obtain ⟨j, τ, h1, h2⟩ := fromJ_some h
  refine ⟨j, τ, h1, ?_⟩
  cases j <;> exact h2

theorem outJ_out {rets : Array ResultVar} {κ : Inj} {ctx : Nat → Nat} {n : Nat} {keep : List Nat} {j : JO} {e : Exit} {a : Act} {u : World} (h : OutJ P rets κ ctx n keep j e a u) : OutR P rets κ ctx n (j.out n keep) e a u := by
  cases j with
  | normal v => exact ⟨h.1, h.2, by rw [place, placeGo_len]⟩
  | exit i v => exact h
  | ret r => exact h

/-- Rounds of a loop. -/
theorem loops_good {rets : Array ResultVar} {c : Code} {ctx : Nat → Nat} {n : Nat} {keep : List Nat} {f : List T → St → Option (JO × St)}
    (hf : ∀ vals σ j τ, f vals σ = some (j, τ) → σ.wf → τ.wf ∧ σ.size ≤ τ.size ∧ ∀ (ι : Inj) (a : Act) (w : World), EnvR ι (place n keep vals) a.tmps → Rel ι σ.get w → Free ι σ.size τ.size →
      ∀ (Q : Exit → Act → World → Prop), (∀ e a' u κ, a'.defers = a.defers → Ext ι σ w κ τ u → Rel κ τ.get u → OutJ P rets κ ctx n keep j e a' u → Q e a' u) → WpN P c Q a w) :
    ∀ (N : Nat) (vals : List T) (σ : St) (j : JO) (τ : St), loops f N vals σ = some (j, τ) → σ.wf → τ.wf ∧ σ.size ≤ τ.size ∧ (∀ v, j ≠ .normal v) ∧ ∀ (ι : Inj) (a : Act) (w : World), EnvR ι (place n keep vals) a.tmps → Rel ι σ.get w →
      Free ι σ.size τ.size → ∀ (Q : Exit → Act → World → Prop), (∀ e a' u κ, a'.defers = a.defers → Ext ι σ w κ τ u → Rel κ τ.get u → OutJ P rets κ ctx n keep j e a' u → Q e a' u) → RoundsN P c Q N a w := by
  intro N
  induction N with
  | zero => intro vals σ j τ h; cases h
  | succ N ih =>
    intro vals σ j τ h wf
    simp only [loops] at h
    split at h
    · cases h
    · rename_i vals' τ1 h1
      obtain ⟨wf1, z1, g1⟩ := hf vals σ _ τ1 h1 wf
      obtain ⟨wf2, z2, hn, g2⟩ := ih vals' τ1 j τ h wf1
      refine ⟨wf2, Nat.le_trans z1 z2, hn, fun ι a w hE hR hF Q hQ => ?_⟩
      show WpN P c (Exit.then (RoundsN P c Q N) Q) a w
      refine g1 ι a w hE hR (hF.sub (Nat.le_refl _) z2) _ fun e a' u κ hd hX hR' hJ => ?_
      obtain ⟨rfl, hE'⟩ := hJ
      refine g2 κ a' u hE' hR' (hF.next hX) Q fun e a'' u' κ' hd' hX' hR'' hJ' => ?_
      exact hQ e a'' u' κ' (hd'.trans hd) (hX.trans hX') hR'' hJ'
    · rename_i i v τ1 h1
      cases h
      obtain ⟨wf1, z1, g1⟩ := hf vals σ _ τ h1 wf
      refine ⟨wf1, z1, (fun v h => by cases h), fun ι a w hE hR hF Q hQ => ?_⟩
      show WpN P c (Exit.then (RoundsN P c Q N) Q) a w
      refine g1 ι a w hE hR hF _ fun e a' u κ hd hX hR' hJ => ?_
      have hJ' := hJ
      obtain ⟨rfl, _⟩ := hJ
      exact hQ _ a' u κ hd hX hR' hJ'
    · rename_i r τ1 h1
      cases h
      obtain ⟨wf1, z1, g1⟩ := hf vals σ _ τ h1 wf
      refine ⟨wf1, z1, (fun v h => by cases h), fun ι a w hE hR hF Q hQ => ?_⟩
      show WpN P c (Exit.then (RoundsN P c Q N) Q) a w
      refine g1 ι a w hE hR hF _ fun e a' u κ hd hX hR' hJ => ?_
      have hJ' := hJ
      obtain ⟨rfl, _⟩ := hJ
      exact hQ _ a' u κ hd hX hR' hJ'

theorem exec_good (hs : CallSound P callf) (rets : Array ResultVar) (N : Nat) : ∀ (c : Code) {R : Type} (ctx : Nat → Nat) (lo : Nat) (env : List T) (σ : St) (K' : Out → St → Option R) (r : R),
    exec P callf rets.toList N c ctx lo env σ K' = some r → σ.wf → ∃ o τ, K' o τ = some r ∧ Good P rets c ctx env σ o τ := by
  intro c
  induction c with
  | skip =>
    intro R ctx lo env σ K' r h wf
    simp only [exec] at h
    refine ⟨_, _, h, wf, Nat.le_refl _, fun ι a w hE hR hF Q hQ => wn_skip (hQ _ a w ι rfl (Ext.refl _ _ _) hR ⟨rfl, hE, rfl⟩)⟩
  | region id ops draw =>
    intro R ctx lo env σ K' r h wf
    simp only [exec] at h
    split at h
    · obtain ⟨s', h1, h2⟩ := runK_some _ _ _ _ h
      obtain ⟨env', τ⟩ := s'
      obtain ⟨wf', z⟩ := runOps_wf hs h1 wf
      have hl := runOps_len _ _ _ h1
      refine ⟨_, _, h2, wf', z, fun ι a w hE hR hF Q hQ => ?_⟩
      exact region_seq hs h1 hE hR wf hF fun κ u a' hd hE' hX hR' => hQ _ a' u κ hd hX hR' ⟨rfl, hE', hl⟩
    · split at h
      · rename_i hc
        obtain ⟨s', h1, h2, h3⟩ := runDK_some _ _ _ _ _ h
        obtain ⟨env', τ⟩ := s'
        obtain ⟨wf', z⟩ := runOps_wf hs h3 wf
        have hl := runOps_len _ _ _ h3
        refine ⟨_, _, h2, wf', z, fun ι a w hE hR hF Q hQ => ?_⟩
        have hrun : runDraw P callf ops.toList (env, σ) = some (env', τ) := by
          unfold runDraw
          rw [if_pos hc]
          exact h1
        refine .of ?_
        exact region_draw hs hrun hE hR wf hF fun κ u a' hd hE' hX hR' => hQ _ a' u κ hd hX hR' ⟨rfl, hE', hl⟩
      · cases h
  | seq x y ihx ihy =>
    intro R ctx lo env σ K' r h wf
    simp only [exec] at h
    obtain ⟨o1, τ1, h1, wf1, z1, g1⟩ := ihx _ _ _ _ _ _ h wf
    cases o1 with
    | normal env1 =>
      obtain ⟨o2, τ2, h2, wf2, z2, g2⟩ := ihy _ _ _ _ _ _ h1 wf1
      refine ⟨o2, τ2, h2, wf2, Nat.le_trans z1 z2, fun ι a w hE hR hF Q hQ => ?_⟩
      refine wn_seq (g1 ι a w hE hR (hF.sub (Nat.le_refl _) z2) _ fun e a' u κ hd hX hR' hO => ?_)
      obtain ⟨rfl, hE', hl⟩ := hO
      refine g2 κ a' u hE' hR' (hF.next hX) Q fun e a'' u' κ' hd' hX' hR'' hO' => ?_
      rw [hl] at hO'
      exact hQ e a'' u' κ' (hd'.trans hd) (hX.trans hX') hR'' hO'
    | exit i v =>
      refine ⟨_, _, h1, wf1, z1, fun ι a w hE hR hF Q hQ => ?_⟩
      refine wn_seq (g1 ι a w hE hR hF _ fun e a' u κ hd hX hR' hO => ?_)
      have hO' := hO
      obtain ⟨rfl, _⟩ := hO
      exact hQ _ a' u κ hd hX hR' hO'
    | ret q =>
      refine ⟨_, _, h1, wf1, z1, fun ι a w hE hR hF Q hQ => ?_⟩
      refine wn_seq (g1 ι a w hE hR hF _ fun e a' u κ hd hX hR' hO => ?_)
      have hO' := hO
      obtain ⟨rfl, _⟩ := hO
      exact hQ _ a' u κ hd hX hR' hO'
  | cond c x y ihx ihy =>
    intro R ctx lo env σ K' r h wf
    have hev : ∀ (b : Bool) (ι : Inj) (a : Act), EnvR ι env a.tmps → evO env c = B b → a.eval c = .bool b := by
      intro b ι a hE he
      have := evO_rel (a := a) hE.rel c
      rw [he] at this
      exact this
    simp only [exec] at h
    split at h
    · obtain ⟨j, τ, hx, hk⟩ := fromJ_out h
      rcases cif_some hx with ⟨hb, hx⟩ | ⟨hb, hx⟩
      · obtain ⟨o, τ', h1, wf1, z1, g1⟩ := ihx _ _ _ _ _ _ hx wf
        have := toJ_st h1
        subst this
        refine ⟨_, _, hk, wf1, z1, fun ι a w hE hR hF Q hQ => wn_cond true (hev true ι a hE hb) ?_⟩
        exact g1 ι a w hE hR hF Q fun e a' u κ hd hX hR' hO => hQ e a' u κ hd hX hR' (outJ_out (toJ_out h1 hO).2)
      · obtain ⟨o, τ', h1, wf1, z1, g1⟩ := ihy _ _ _ _ _ _ hx wf
        have := toJ_st h1
        subst this
        refine ⟨_, _, hk, wf1, z1, fun ι a w hE hR hF Q hQ => wn_cond false (hev false ι a hE hb) ?_⟩
        exact g1 ι a w hE hR hF Q fun e a' u κ hd hX hR' hO => hQ e a' u κ hd hX hR' (outJ_out (toJ_out h1 hO).2)
    · rcases cif_some h with ⟨hb, hx⟩ | ⟨hb, hx⟩
      · obtain ⟨o, τ, h1, wf1, z1, g1⟩ := ihx _ _ _ _ _ _ hx wf
        refine ⟨o, τ, h1, wf1, z1, fun ι a w hE hR hF Q hQ => wn_cond true (hev true ι a hE hb) (g1 ι a w hE hR hF Q hQ)⟩
      · obtain ⟨o, τ, h1, wf1, z1, g1⟩ := ihy _ _ _ _ _ _ hx wf
        refine ⟨o, τ, h1, wf1, z1, fun ι a w hE hR hF Q hQ => wn_cond false (hev false ι a hE hb) (g1 ι a w hE hR hF Q hQ)⟩
  | block id c ih =>
    intro R ctx lo env σ K' r h wf
    simp only [exec] at h
    obtain ⟨j, τ, hx, hk⟩ := fromJ_out h
    obtain ⟨o, τ', h1, wf1, z1, g1⟩ := ih _ _ _ _ _ _ hx wf
    have hτ : τ' = τ := by
      cases o with
      | normal e => cases h1; rfl
      | exit i v => simp only at h1; split at h1 <;> cases h1 <;> rfl
      | ret q => cases h1; rfl
    subst hτ
    refine ⟨_, _, hk, wf1, z1, fun ι a w hE hR hF Q hQ => ?_⟩
    refine wn_block (g1 ι a w hE hR hF _ fun e a' u κ hd hX hR' hO => ?_)
    cases o with
    | normal e' =>
      cases h1
      obtain ⟨rfl, hE', hl⟩ := hO
      exact hQ _ a' u κ hd hX hR' ⟨rfl, place_proj hE' hl.symm, by rw [place, placeGo_len]⟩
    | exit i v =>
      simp only at h1
      obtain ⟨rfl, hE'⟩ := hO
      split at h1
      · rename_i hi
        subst hi
        cases h1
        simp only [if_true] at hE'
        show (if i = i then Q .normal a' u else _)
        rw [if_pos rfl]
        exact hQ _ a' u κ hd hX hR' ⟨rfl, hE', by rw [place, placeGo_len]⟩
      · rename_i hi
        cases h1
        simp only [if_neg hi] at hE'
        show (if i = id then Q .normal a' u else Q (.exit i) a' u)
        rw [if_neg hi]
        exact hQ _ a' u κ hd hX hR' ⟨rfl, hE'⟩
    | ret q =>
      cases h1
      have hO' := hO
      obtain ⟨rfl, _⟩ := hO
      exact hQ _ a' u κ hd hX hR' hO'
  | loop c ih =>
    intro R ctx lo env σ K' r h wf
    simp only [exec] at h
    obtain ⟨j, τ, hx, hk⟩ := fromJ_out h
    let lv := live_ (resSlots rets.toList) (.loop c) ctx lo
    let keep := keepOf env.length lv
    have hplen : ∀ vals, (place env.length keep vals).length = env.length := fun vals => by rw [place, placeGo_len]
    obtain ⟨wf1, z1, hn, g1⟩ := loops_good (P := P) (rets := rets) (c := c) (ctx := ctx) (n := env.length) (keep := keep)
      (f := fun vals τ => exec P callf rets.toList N c ctx lv (place env.length keep vals) τ (toJ keep)) (by
        intro vals σ j τ h wf
        obtain ⟨o, τ', h1, wf1, z1, g1⟩ := ih _ _ _ _ _ _ h wf
        have := toJ_st h1
        subst this
        refine ⟨wf1, z1, fun ι a w hE hR hF Q hQ => ?_⟩
        refine g1 ι a w hE hR hF Q fun e a' u κ hd hX hR' hO => ?_
        rw [hplen] at hO
        exact hQ e a' u κ hd hX hR' (toJ_out h1 hO).2) N _ σ j τ hx wf
    refine ⟨_, _, hk, wf1, z1, fun ι a w hE hR hF Q hQ => ?_⟩
    refine wn_loop N (g1 ι a w (place_proj hE rfl) hR hF Q fun e a' u κ hd hX hR' hJ => ?_)
    refine hQ e a' u κ hd hX hR' ?_
    cases j with
    | normal v => exact (hn v rfl).elim
    | exit i v => exact hJ
    | ret q => exact hJ
  | scope c ih =>
    intro R ctx lo env σ K' r h wf
    simp only [exec] at h
    obtain ⟨o, τ, h1, wf1, z1, g1⟩ := ih _ _ _ _ _ _ h wf
    refine ⟨o, τ, h1, wf1, z1, fun ι a w hE hR hF Q hQ => ?_⟩
    refine wn_scope (g1 ι a w hE hR hF _ fun e a' u κ hd hX hR' hO => ?_)
    have hq := hQ e a' u κ hd hX hR' hO
    cases o with
    | normal e' => obtain ⟨rfl, _⟩ := hO; exact hq
    | exit i v => obtain ⟨rfl, _⟩ := hO; exact hq
    | ret q => obtain ⟨rfl, _⟩ := hO; exact hq
  | exit id =>
    intro R ctx lo env σ K' r h wf
    simp only [exec] at h
    refine ⟨_, _, h, wf, Nat.le_refl _, fun ι a w hE hR hF Q hQ => wn_exit (hQ _ a w ι rfl (Ext.refl _ _ _) hR ⟨rfl, place_proj hE rfl⟩)⟩
  | ret =>
    intro R ctx lo env σ K' r h wf
    simp only [exec] at h
    split at h
    · rename_i l hl
      split at h
      · rename_i q hq
        refine ⟨_, _, h, wf, Nat.le_refl _, fun ι a w hE hR hF Q hQ => wn_ret (hQ _ a w ι rfl (Ext.refl _ _ _) hR ⟨rfl, results_run hE hR hl hq⟩)⟩
      · cases h
    · cases h
  | rangeFunc f ps x y => intro R ctx lo env σ K' r h wf; simp only [exec] at h; cases h
  | label l =>
    intro R ctx lo env σ K' r h wf
    simp only [exec] at h
    refine ⟨_, _, h, wf, Nat.le_refl _, fun ι a w hE hR hF Q hQ => wn_label (hQ _ a w ι rfl (Ext.refl _ _ _) hR ⟨rfl, hE, rfl⟩)⟩
  | goto l => intro R ctx lo env σ K' r h wf; simp only [exec] at h; cases h
  | refuse s => intro R ctx lo env σ K' r h wf; simp only [exec] at h; cases h

theorem getD_append_undef (ts : List T) (vs : List Value) (ι : Inj) (n : Nat) (h : All2 (TRel ι) ts vs) : EnvR ι (ts ++ List.replicate n tt) (vs.toArray ++ Array.replicate n undef) := by
  have hl := forall2_length h
  refine ⟨by simp [hl], fun t => ?_⟩
  rw [List.getD_eq_getElem?_getD, Array.getD_eq_getD_getElem?]
  by_cases ht : t < ts.length
  · rw [List.getElem?_append_left ht, Array.getElem?_append_left (by simp; omega)]
    obtain ⟨v, hv, r⟩ := forall2_get h t ts[t] (List.getElem?_eq_getElem ht)
    rw [List.getElem?_eq_getElem ht]
    simp only [List.getElem?_toArray, hv, Option.getD_some]
    exact r
  · rw [List.getElem?_append_right (by omega), Array.getElem?_append_right (by simp; omega)]
    by_cases h2 : t - ts.length < n
    · rw [List.getElem?_replicate, if_pos h2, Array.getElem?_replicate, if_pos (by simp; omega)]
      exact tt_undef
    · rw [List.getElem?_replicate, if_neg h2]
      trivial

theorem body_sound (hs : CallSound P callf) (N : Nat) : CallSound P (body P callf N) := by
  have key : ∀ f ts σ t τ, body P callf N f ts σ = some (t, τ) → σ.wf → ∃ fn c o, P.funcs[f]? = some fn ∧ fn.body = some c ∧ ts.length ≤ fn.ntmps ∧
      Good P fn.results c (fun _ => 0) (ts ++ List.replicate (fn.ntmps - ts.length) tt) σ o τ ∧
      (match o with
        | .ret r => r = t
        | .normal env => ∃ l, resVals P env τ.get fn.results.toList = some l ∧ retT l = some t
        | .exit _ _ => False) := by
    intro f ts σ t τ h wf
    unfold body at h
    split at h
    · cases h
    · rename_i fn hfn
      split at h
      · cases h
      · rename_i c hc
        split at h
        · rename_i hle
          obtain ⟨o, τ', h1, hg⟩ := exec_good hs fn.results N c _ _ _ _ _ _ h wf
          cases o with
          | ret r => cases h1; exact ⟨fn, c, .ret t, hfn, hc, hle, hg, rfl⟩
          | normal env =>
            simp only at h1
            split at h1
            · rename_i l hl
              split at h1
              · rename_i q hq
                cases h1
                exact ⟨fn, c, .normal env, hfn, hc, hle, hg, l, hl, hq⟩
              · cases h1
            · cases h1
          | exit i v => cases h1
        · cases h
  constructor
  · intro f ts σ t τ h wf
    obtain ⟨fn, c, o, _, _, _, hg, _⟩ := key f ts σ t τ h wf
    exact ⟨hg.1, hg.2.1⟩
  · intro f ts σ t τ h wf ι w vs hR hF hargs
    obtain ⟨fn, c, o, hfn, hc, hle, hg, ho⟩ := key f ts σ t τ h wf
    obtain ⟨_, _, g⟩ := hg
    have hl := forall2_length hargs
    refine calls_of_wn hfn hc ?_
    have henv := getD_append_undef ts vs ι (fn.ntmps - ts.length) hargs
    have hsz : fn.ntmps - vs.toArray.size = fn.ntmps - ts.length := by simp [hl]
    rw [hsz]
    refine g ι _ w henv hR hF _ fun e a' u κ hd hX hR' hO => ?_
    cases o with
    | ret r =>
      obtain ⟨rfl, v, hv, hT⟩ := hO
      simp only at ho
      subst ho
      exact ⟨hd, v, hv fn rfl, κ, v, rfl, hX, hR', hT⟩
    | normal env =>
      obtain ⟨rfl, hE', _⟩ := hO
      obtain ⟨l, hl', hq⟩ := ho
      obtain ⟨v, hv, hT⟩ := results_run hE' hR' hl' hq
      exact ⟨hd, v, hv fn rfl, κ, v, rfl, hX, hR', hT⟩
    | exit i v => exact ho.elim

/-- Calls that a contract of its own answers ahead of the text. -/
theorem run_sound {prim : CallF} (hp : CallSound P prim) (N : Nat) : ∀ d, CallSound P (run P N prim d) := by
  intro d
  induction d with
  | zero => exact ⟨(fun f ts σ t τ h => by cases h), (fun f ts σ t τ h => by cases h)⟩
  | succ d ih =>
    have hb := body_sound ih N
    constructor
    · intro f ts σ t τ h wf
      simp only [run] at h
      split at h
      · rename_i r hr; cases h; exact hp.wf _ _ _ _ _ hr wf
      · exact hb.wf _ _ _ _ _ h wf
    · intro f ts σ t τ h wf
      simp only [run] at h
      split at h
      · rename_i r hr; cases h; exact hp.calls _ _ _ _ _ hr wf
      · exact hb.calls _ _ _ _ _ h wf

theorem noPrim_sound : CallSound P (fun _ _ _ => none) := ⟨(fun f ts σ t τ h => by cases h), (fun f ts σ t τ h => by cases h)⟩
end
end Go.Abs

/-
  From an abstract run to the frame of a statement: the call gives that bool, and what was there reads as before.
-/
namespace Go.Abs
open Go Go.ChangeShapes

/-- Nothing that was there has changed. -/
def Kept (W u : World) : Prop := u.os = W.os ∧ u.output = W.output ∧ W.heap.size ≤ u.heap.size ∧ ∀ k, k < W.heap.size → u.heap[k]? = W.heap[k]?

theorem Kept.but {W u : World} (h : Kept W u) (may : MemPlace → Prop) : W.keptBut u may := by
  refine ⟨h.1, h.2.1, fun i hi => ?_⟩
  rw [h.2.2.2 i hi]
  cases W.heap[i]? with
  | none => trivial
  | some o => cases o with
    | cells c t fr => exact ⟨rfl, rfl, rfl, fun _ _ => rfl⟩
    | map es clock => exact .inr ⟨rfl, rfl⟩
    | _ => rfl

theorem Kept.frozen {W u : World} (h : Kept W u) {a : Addr} (ha : a.block < W.heap.size) : u.frozen? a = W.frozen? a := by
  unfold World.frozen?
  rw [h.2.2.2 _ ha]

theorem calls_of_run {P : Program} {callf : CallF} (hs : CallSound P callf) {f : FuncId} {ts : List T} {vs : List Value} {σ τ : St} {ι : Inj} {W : World} {b : Bool}
    (h : callf f ts σ = some (B b, τ)) (wf : σ.wf) (hR : Rel ι σ.get W) (hF : Free ι σ.size τ.size) (hA : All2 (TRel ι) ts vs)
    (hc : ∀ i L, i < σ.size → ι i = some L → ¬ live (σ.get i)) :
    Calls P f vs.toArray W fun e u => e = .returned (.bool b) ∧ Kept W u := by
  refine (hs.calls f ts σ _ τ h wf ι W vs hR hF hA).mono fun e u ⟨κ, v, he, hX, _, hT⟩ => ?_
  have hv : v = .bool b := hT
  subst hv
  exact ⟨he, hX.os, hX.output, hX.hsize, fun k hk => hX.keep k hk fun i L hi hL hl => absurd hl (hc i L hi hL)⟩

theorem calls_plain {P : Program} {callf : CallF} (hs : CallSound P callf) {f : FuncId} {ts : List T} {vs : List Value} {τ : St} {W : World} {b : Bool}
    (h : callf f ts St.empty = some (B b, τ)) (hA : All2 (TRel fun _ => none) ts vs) : Calls P f vs.toArray W fun e u => e = .returned (.bool b) ∧ Kept W u :=
  calls_of_run hs h St.wf_empty ⟨(fun i L b h => by cases h), (fun i j L M h => by cases h), (fun i n vs h => by cases h)⟩ (fun i _ _ => rfl) hA (fun i L hi => by cases hi)

section
variable {H : Type} {enc : TypeId × Value → H} {P : Program}
/-- What is read behind a call that has changed nothing. -/
theorem post_kept {f : Func} {s : ChangeSpec} {apart fresh handsOn again : Bool} {W u : World} {args : Array Value} {v : Value} {ds gs : List (DataW H)} {before pa pv : List MemPlace}
    (hW : DataW.Whole enc P f.params.toList s.vars apart W args.toList ds gs before) (hk : Kept W u) (hps : before = pa ++ pv)
    (hres : ∀ (b : Nat) (sp : Nat → Bool) (hd : Bool), DataW.TrodAll enc P u b sp hd f.resultTypes.toList (v.resultList f.resultTypes.size) (s.fn H (ds ++ gs)).results [])
    (hargs : ∀ sp : Nat → Bool, (∀ p ∈ before, sp p.block = true) → DataW.TrodAll enc P u 0 sp true f.params.toList args.toList (s.fn H (ds ++ gs)).args pa)
    (hvars : ∀ sp : Nat → Bool, (∀ p ∈ before, sp p.block = true) → DataW.TrodVars enc P u sp s.vars (s.fn H (ds ++ gs)).vars pv)
    (hok : ∀ (j : Nat) (t : TypeId) (r : Value), f.resultTypes[j]? = some t → (v.resultList f.resultTypes.size)[j]? = some r → Value.okWide P u .any 0 t r) :
    s.post enc P f apart fresh handsOn again W args v u := by
  have lt := hW.lt
  have old : ∀ p ∈ before, (fun b => decide (b < W.heap.size)) p.block = true := fun p hp => decide_eq_true (lt p hp)
  have yes : ∀ p ∈ before, (fun _ : Nat => true) p.block = true := fun _ _ => rfl
  have whole := hW
  obtain ⟨p1, p2, w1, w2, w3, noFrozen, apart'⟩ := hW
  refine ⟨ds, gs, before, [], pa, pv, whole, hres _ _ _, hargs _ old, hvars _ old, World.keptBut_mono (fun _ h => h.elim) (hk.but fun _ => False), fun _ => ⟨hok, (s.fn H (ds ++ gs)).results ++ (s.fn H (ds ++ gs)).args, (s.fn H (ds ++ gs)).vars, pa ++ pv, ?_, fun p hp _ => by rw [hps]; exact hp⟩⟩
  refine ⟨[] ++ pa, pv, ?_, hvars _ yes, rfl, fun b off hp => ?_, fun ha => ?_⟩
  · have h1 := hargs (fun _ => true) yes
    have h2 := hres 0 (fun _ => true) true
    exact trodAll_append h1 h2
  · have hp' : MemPlace.cell b off ∈ before := by rw [hps]; exact hp
    rw [hk.frozen (lt _ hp')]
    exact noFrozen b off hp'
  · rw [← hps]
    exact apart' ha
end
end Go.Abs
