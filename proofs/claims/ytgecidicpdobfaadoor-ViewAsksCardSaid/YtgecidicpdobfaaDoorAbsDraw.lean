/-
  A region whose order is drawn: what is asked of it, and how it is run in the text's order.
-/
import Derived.Test.YtgecidicpdobfaaDoorAbsSeq
namespace Go.Abs
open Go

def directs (o : Oper) : List Nat := (o.after.toList.filter (Region.binds .any ·)).map (·.on)

def maskOf (acc : List Nat) (ds : List Nat) : Nat := ds.foldl (fun s e => s ||| (2 ^ e ||| acc.getD e 0)) 0

def masksGo : List Oper → List Nat → List Nat
  | [], acc => acc
  | o :: r, acc => masksGo r (acc ++ [maskOf acc (directs o)])

def masks (ops : List Oper) : List Nat := masksGo ops []

def tmpsOf (xs : List Operand) : List Nat :=
  match xs with
  | [] => []
  | .tmp t :: r => t :: tmpsOf r
  | _ :: r => tmpsOf r

def guardSlot (ops : List Oper) (o : Oper) : List Nat :=
  match o.guard with
  | none => []
  | some (j, _) => match ops[j]? with
    | some oj => oj.dst.toList
    | none => []

def reads (ops : List Oper) (o : Oper) : List Nat := tmpsOf o.op.operands.toList ++ guardSlot ops o

def isW (P : Program) (o : Oper) : Bool := kindOf P o.op == .W

def pairOk (P : Program) (ops : List Oper) (ms : List Nat) (k : Nat) (o : Oper) (j : Nat) (oj : Oper) : Bool :=
  Nat.beq j k ||
    ((match oj.dst with
      | none => true
      | some d => (o.dst != some d) && (!(reads ops o).contains d || (if j < k then (ms.getD k 0).testBit j else (ms.getD j 0).testBit k))) &&
    (!(isW P o) || (!(isW P oj) || (!(Nat.blt j k) || (ms.getD k 0).testBit j))))

def staticOk (P : Program) (ops : List Oper) (ms : List Nat) : Bool :=
  ops.zipIdx.all fun (o, k) => (directs o).all (fun e => Nat.blt e k) && ops.zipIdx.all fun (oj, j) => pairOk P ops ms k o j oj

/-- The states of a run so far. -/
abbrev Hist := List (List T × St)
def Hist.at (h : Hist) (k : Nat) : List T × St := h.getD k ([], St.empty)

/-- The new blocks that a region's own operations make: where, under which number, what. -/
def aBlks (P : Program) (ops : List Oper) (h : Hist) : List (Oper × Nat) → List (Nat × Nat × Blk)
  | [] => []
  | (o, k) :: r => match kindOf P o.op with
    | .A => match wantedA ops (h.at k).1 o with
      | some true => match opA P o.op (evO (h.at k).1) with
        | some (b, _) => (k, (h.at k).2.size, b) :: aBlks P ops h r
        | none => aBlks P ops h r
      | _ => aBlks P ops h r
    | _ => aBlks P ops h r

def overlay (p : Nat) (g : Mem) : List (Nat × Nat × Blk) → Mem
  | [] => g
  | (q, i, b) :: r => match Nat.ble p q with
    | true => updM (overlay p g r) i b
    | false => overlay p g r

def chi (P : Program) (ops : List Oper) (h : Hist) (p : Nat) : Mem := overlay p (h.at p).2.get (aBlks P ops h ops.zipIdx)

def wpos (P : Program) : List (Oper × Nat) → List Nat
  | [] => []
  | (o, k) :: r => match isW P o with
    | true => k :: wpos P r
    | false => wpos P r

/-- The last writing operation's end ahead of a place. -/
def canon (ws : List Nat) (k : Nat) : Nat := ws.foldl (fun s j => if j < k then max s (j + 1) else s) 0

def okAt (ws : List Nat) (ms : List Nat) (k p : Nat) : Bool := ws.all fun j => (!((ms.getD k 0).testBit j) || Nat.blt j p) && (!((ms.getD j 0).testBit k) || Nat.ble p j)

def winOk (P : Program) (ops : List Oper) (ms : List Nat) (h : Hist) : Bool :=
  let ws := wpos P ops.zipIdx
  ops.zipIdx.all fun (o, k) => match kindOf P o.op with
    | .L => (0 :: ws.map (· + 1)).all fun p => !(okAt ws ms k p) || (Nat.beq p (canon ws k) || (match wantedA ops (h.at k).1 o with
      | some true => decide (opL P o.op (evO (h.at k).1) (chi P ops h p) = opL P o.op (evO (h.at k).1) (h.at k).2.get)
      | _ => true))
    | _ => true

def runD (P : Program) (callf : CallF) (ops : List Oper) (ms : List Nat) : List Oper → Hist → List T × St → Option (List T × St)
  | [], h, s => if winOk P ops ms (h ++ [s]) then some s else none
  | o :: r, h, s => match step P callf ops o s with
    | some s' => runD P callf ops ms r (h ++ [s]) s'
    | none => none

def runDraw (P : Program) (callf : CallF) (ops : List Oper) (s : List T × St) : Option (List T × St) :=
  if P.follows .mixedOrders && staticOk P ops (masks ops) then runD P callf ops (masks ops) ops [] s else none

/-! ### what precedes what -/
theorem maskOf_bit (acc : List Nat) : ∀ (ds : List Nat) (s j : Nat), (ds.foldl (fun s e => s ||| (2 ^ e ||| acc.getD e 0)) s).testBit j = true →
    s.testBit j = true ∨ ∃ e ∈ ds, j = e ∨ (acc.getD e 0).testBit j = true := by
  intro ds
  induction ds with
  | nil => intro s j h; exact .inl h
  | cons d ds ih =>
    intro s j h
    rw [List.foldl_cons] at h
    rcases ih _ j h with h | ⟨e, he, h⟩
    · rw [Nat.testBit_or, Nat.testBit_or, Bool.or_eq_true, Bool.or_eq_true] at h
      rcases h with h | h | h
      · exact .inl h
      · rw [Nat.testBit_two_pow] at h
        have h' : d = j := by simpa using h
        exact .inr ⟨d, by simp, .inl h'.symm⟩
      · exact .inr ⟨d, by simp, .inr h⟩
    · exact .inr ⟨e, by simp [he], h⟩

theorem masksGo_spec : ∀ (l : List Oper) (acc : List Nat), (masksGo l acc).length = acc.length + l.length ∧ (∀ k, k < acc.length → (masksGo l acc).getD k 0 = acc.getD k 0) ∧
    ∀ (i : Nat) (o : Oper), l[i]? = some o → ∃ pre : List Nat, (masksGo l acc).getD (acc.length + i) 0 = maskOf pre (directs o) ∧ ∀ e, e < acc.length + i → pre.getD e 0 = (masksGo l acc).getD e 0 := by
  intro l
  induction l with
  | nil => intro acc; exact ⟨by simp [masksGo], fun _ _ => rfl, fun i o h => by simp at h⟩
  | cons o l ih =>
    intro acc
    obtain ⟨h1, h2, h3⟩ := ih (acc ++ [maskOf acc (directs o)])
    have hlen : (acc ++ [maskOf acc (directs o)]).length = acc.length + 1 := by simp
    have hpre : ∀ k, k < acc.length → (acc ++ [maskOf acc (directs o)]).getD k 0 = acc.getD k 0 := by
      intro k hk
      rw [List.getD_eq_getElem?_getD, List.getD_eq_getElem?_getD, List.getElem?_append_left hk]
    refine ⟨by simp only [masksGo]; rw [h1, hlen]; simp; omega, ?_, ?_⟩
    · intro k hk
      simp only [masksGo]
      rw [h2 k (by omega), hpre k hk]
    · intro i o' hi
      cases i with
      | zero =>
        simp only [List.getElem?_cons_zero, Option.some.injEq] at hi
        subst hi
        refine ⟨acc, ?_, ?_⟩
        · simp only [masksGo, Nat.add_zero]
          rw [h2 acc.length (by omega), List.getD_eq_getElem?_getD, List.getElem?_append_right (Nat.le_refl _)]
          simp
        · intro e he
          simp only [masksGo]
          rw [h2 e (by omega), hpre e (by omega)]
      | succ i =>
        obtain ⟨pre, hp1, hp2⟩ := h3 i o' (by simpa using hi)
        have e1 : acc.length + (i + 1) = (acc ++ [maskOf acc (directs o)]).length + i := by omega
        simp only [masksGo]
        rw [e1]
        exact ⟨pre, hp1, hp2⟩

theorem masks_bit {ops : List Oper} {k j : Nat} {o : Oper} (hk : ops[k]? = some o) (hd : ∀ e ∈ directs o, e < k) (h : ((masks ops).getD k 0).testBit j = true) :
    ∃ e ∈ directs o, j = e ∨ ((masks ops).getD e 0).testBit j = true := by
  obtain ⟨_, _, h3⟩ := masksGo_spec ops []
  obtain ⟨pre, hp1, hp2⟩ := h3 k o hk
  simp only [List.length_nil, Nat.zero_add] at hp1 hp2
  have : (masks ops).getD k 0 = maskOf pre (directs o) := hp1
  rw [this] at h
  rcases maskOf_bit pre (directs o) 0 j h with h | ⟨e, he, h⟩
  · simp at h
  · refine ⟨e, he, ?_⟩
    rcases h with h | h
    · exact .inl h
    · rw [hp2 e (hd e he)] at h; exact .inr h

theorem anc_closed {ops : List Oper} (hd : ∀ k o, ops[k]? = some o → ∀ e ∈ directs o, e < k) (D : Nat → Prop) (hD : ∀ k o, ops[k]? = some o → D k → ∀ e ∈ directs o, D e) :
    ∀ (k : Nat) (o : Oper) (j : Nat), ops[k]? = some o → (∀ e ∈ directs o, D e) → ((masks ops).getD k 0).testBit j = true → D j := by
  intro k
  induction k using Nat.strongRecOn with
  | _ k ih =>
    intro o j hk he h
    obtain ⟨e, hmem, h⟩ := masks_bit hk (hd k o hk) h
    rcases h with rfl | h
    · exact he _ hmem
    · have hlt := hd k o hk e hmem
      have hkl := (List.getElem?_eq_some_iff.1 hk).1
      have hoe : ops[e]? = some (ops[e]'(by omega)) := List.getElem?_eq_getElem (by omega)
      exact ih e hlt _ j hoe (hD e _ hoe (he e hmem)) h

theorem canon_spec (ws : List Nat) (k : Nat) : canon ws k ≤ k ∧ (∀ j ∈ ws, j < k → j < canon ws k) ∧ (canon ws k = 0 ∨ ∃ j ∈ ws, canon ws k = j + 1) := by
  have key : ∀ (ws : List Nat) (s : Nat), s ≤ k → (s ≤ ws.foldl (fun s j => if j < k then max s (j + 1) else s) s) ∧ ws.foldl (fun s j => if j < k then max s (j + 1) else s) s ≤ k ∧
      (∀ j ∈ ws, j < k → j < ws.foldl (fun s j => if j < k then max s (j + 1) else s) s) ∧
      (ws.foldl (fun s j => if j < k then max s (j + 1) else s) s = s ∨ ∃ j ∈ ws, ws.foldl (fun s j => if j < k then max s (j + 1) else s) s = j + 1) := by
    intro ws
    induction ws with
    | nil => intro s hs; exact ⟨Nat.le_refl _, hs, fun j hj => by simp at hj, .inl rfl⟩
    | cons a ws ih =>
      intro s hs
      rw [List.foldl_cons]
      obtain ⟨h1, h2, h3, h4⟩ := ih (if a < k then max s (a + 1) else s) (by split <;> omega)
      refine ⟨?_, h2, ?_, ?_⟩
      · by_cases hak : a < k
        · rw [if_pos hak] at h1 ⊢; omega
        · rw [if_neg hak] at h1 ⊢; omega
      · intro j hj hjk
        cases hj with
        | head =>
          rw [if_pos hjk] at h1 ⊢
          omega
        | tail _ hj => exact h3 j hj hjk
      · rcases h4 with h4 | ⟨j, hj, h4⟩
        · rw [h4]
          split
          · rename_i hak
            by_cases hm : s ≤ a + 1
            · exact .inr ⟨a, by simp, by omega⟩
            · exact .inl (by omega)
          · exact .inl rfl
        · exact .inr ⟨j, by simp [hj], h4⟩
  obtain ⟨_, h2, h3, h4⟩ := key ws 0 (Nat.zero_le _)
  exact ⟨h2, h3, h4⟩
end Go.Abs
