/-
  Equality of values: bools, nil, structs and arrays of plain parts.
-/
import Derived.Test.YtgecidicpdobfaaDoorAbsPure
namespace Go.Abs
open Go

inductive LK where
  | b | i | s
  deriving DecidableEq

def leafEq : LK → S → S → Option Bool
  | .b, .bool a, .bool b => some (decide (a = b))
  | .i, .int k a, .int k' b => if k = k' then some (decide (a = b)) else none
  | .s, .str a, .str b => some (decide (a = b))
  | _, _, _ => none

def aEqL (xs ys : List S) : List (Nat × LK) → Option Bool
  | [] => some true
  | (o, k) :: r => match xs[o]?, ys[o]? with
    | some x, some y => match leafEq k x y, aEqL xs ys r with
      | some a, some b => some (a && b)
      | _, _ => none
    | _, _ => none

def leavesF (P : Program) (rec : TypeId → Nat → Option (List (Nat × LK))) (n : Nat) (off : Nat) : List Field → Option (List (Nat × LK))
  | [] => some []
  | f :: fs => if f.name = "_" then leavesF P rec n off fs else
    match szOf P f.type, rec f.type (off + f.offset), leavesF P rec n off fs with
    | some m, some a, some b => if f.offset + m ≤ n ∧ m ≠ 0 then some (a ++ b) else none
    | _, _, _ => none

def leavesA (rec : Nat → Option (List (Nat × LK))) (n : Nat) : Nat → Nat → Option (List (Nat × LK))
  | 0, _ => some []
  | m + 1, off => match rec off, leavesA rec n m (off + n) with
    | some a, some b => some (a ++ b)
    | _, _ => none

def leaves (P : Program) : Nat → TypeId → Nat → Option (List (Nat × LK))
  | 0, _, _ => none
  | d + 1, t, off => match P.underlying t with
    | some .bool => some [(off, .b)]
    | some (.int _) => some [(off, .i)]
    | some .string => some [(off, .s)]
    | some (.struct fs) => if P.stoodInHeld t then none else match szOf P t with
      | some n => leavesF P (leaves P d) n off fs.toList
      | none => none
    | some (.array m e) => match szOf P e, szOf P t with
      | some n, some N => if m * n ≤ N ∧ n ≠ 0 then leavesA (leaves P d e) n m off else none
      | _, _ => none
    | _ => none

theorem aEqL_append {xs ys : List S} {a b : List (Nat × LK)} {r : Bool} (h : aEqL xs ys (a ++ b) = some r) : ∃ p q, aEqL xs ys a = some p ∧ aEqL xs ys b = some q ∧ r = (p && q) := by
  induction a generalizing r with
  | nil => exact ⟨true, r, rfl, h, rfl⟩
  | cons x a ih =>
    obtain ⟨o, k⟩ := x
    simp only [List.cons_append, aEqL] at h
    split at h
    · rename_i x y hx hy
      split at h
      · rename_i c d hc hd
        cases h
        obtain ⟨p, q, hp, hq, e⟩ := ih hd
        refine ⟨c && p, q, ?_, hq, by rw [e, Bool.and_assoc]⟩
        simp only [aEqL, hx, hy, hc, hp]
      · cases h
    · cases h

section
variable {P : Program} {ι : Inj}

/-- A part of a row of cells. -/
def aPart (P : Program) (t : TypeId) (xs : List S) (off : Nat) : Option V :=
  match aggOf P t with
  | some true => match szOf P t with
    | some n => if off + n ≤ xs.length then some (.agg ((xs.drop off).take n)) else none
    | none => none
  | some false => xs[off]?.map .s
  | none => none

theorem all2_take {α β : Type} {R : α → β → Prop} {l : List α} {m : List β} (h : All2 R l m) (n : Nat) : All2 R (l.take n) (m.take n) := by
  induction h generalizing n with
  | nil => simpa using All2.nil
  | cons a _ ih => cases n with
    | zero => simpa using All2.nil
    | succ n => simpa using All2.cons a (ih n)
theorem all2_drop {α β : Type} {R : α → β → Prop} {l : List α} {m : List β} (h : All2 R l m) (n : Nat) : All2 R (l.drop n) (m.drop n) := by
  induction h generalizing n with
  | nil => simpa using All2.nil
  | cons a h ih => cases n with
    | zero => simpa using All2.cons a h
    | succ n => simpa using ih n

theorem extract_toArray (cs : List Value) (a b : Nat) : cs.toArray.extract a (a + b) = ((cs.drop a).take b).toArray := by
  rw [List.extract_toArray]
  simp [List.extract]

theorem aPart_run {t : TypeId} {xs : List S} {cs : List Value} {off : Nat} {x : V} (h : All2 (SRel ι) xs cs) (hp : aPart P t xs off = some x) (w : World) :
    ∃ v, (part t cs.toArray off).run P w = .ok v w ∧ VRel ι x v := by
  unfold aPart at hp
  split at hp
  · rename_i ha
    split at hp
    · rename_i n hn
      split at hp
      · cases hp
        refine ⟨.agg (((cs.drop off).take n).toArray), ?_, ⟨_, rfl, all2_take (all2_drop h off) n⟩⟩
        simp only [part, run_bind, run_agg ha, run_sz hn, if_true, run_pure, extract_toArray]
      · cases hp
    · cases hp
  · rename_i ha
    cases hx : xs[off]? with
    | none => rw [hx] at hp; cases hp
    | some y =>
      rw [hx] at hp; cases hp
      obtain ⟨v, hv, r⟩ := forall2_get h off y hx
      exact ⟨v, by simp [part, run_bind, run_agg ha, hv, run_pure], r⟩
  · cases hp

def LK.fits (P : Program) (t : TypeId) : LK → Prop
  | .b => P.underlying t = some .bool
  | .i => ∃ k, P.underlying t = some (.int k)
  | .s => P.underlying t = some .string

theorem leafEq_run {k : LK} {x y : S} {u v : Value} {r : Bool} {t : TypeId} (hx : SRel ι x u) (hy : SRel ι y v) (h : leafEq k x y = some r)
    (ht : k.fits P t) (d : Nat) (w : World) :
    (Op.equalIn (d + 1) t u v).run P w = .ok r w := by
  cases k with
  | b =>
    cases x <;> first | (cases h; done) | skip
    cases y <;> first | (cases h; done) | skip
    rename_i a b
    simp only [SRel] at hx hy; subst hx hy; cases h
    rw [run_equalIn_bool' w d t _ _ ht]
    cases a <;> cases b <;> rfl
  | i =>
    cases x <;> first | (cases h; done) | skip
    cases y <;> first | (cases h; done) | skip
    rename_i k a k' b
    simp only [SRel] at hx hy; subst hx hy
    simp only [leafEq] at h
    by_cases e : k = k'
    · subst e
      rw [if_pos rfl] at h
      cases h
      obtain ⟨k', hk⟩ := ht
      rw [run_equalIn_int w d t _ k' _ _ hk, beq_decide]
    · rw [if_neg e] at h; cases h
  | s =>
    cases x <;> first | (cases h; done) | skip
    cases y <;> first | (cases h; done) | skip
    obtain ⟨s, rfl, rfl⟩ := hx
    obtain ⟨s', rfl, rfl⟩ := hy
    cases h
    rw [run_equalIn_string w d t _ _ ht, ByteArray.toList_eq, ByteArray.toList_eq, beq_decide_list]

theorem aEqL_one {xs ys : List S} {o : Nat} {k : LK} {r : Bool} (h : aEqL xs ys [(o, k)] = some r) : ∃ x y, xs[o]? = some x ∧ ys[o]? = some y ∧ leafEq k x y = some r := by
  simp only [aEqL] at h
  split at h
  · rename_i x y hx hy
    split at h
    · rename_i a b ha hb
      cases hb
      cases h
      exact ⟨x, y, hx, hy, by simpa using ha⟩
    · cases h
  · cases h

/-- Two parts at one place, of one type, are compared. -/
def cmpAt (d : Nat) (t : TypeId) (cs ds : Array Value) (off : Nat) : Sem Bool := do
  let a ← part t cs off
  let b ← part t ds off
  Op.equalIn d t a b

theorem part_sub {t : TypeId} {cs : List Value} {off n o m : Nat} (hm : szOf P t = some m) (hle : o + m ≤ n) (hag : (aggOf P t).isSome) (h0 : aggOf P t = some false → m ≠ 0) (w : World) :
    (part t ((cs.drop off).take n).toArray o).run P w = (part t cs.toArray (off + o)).run P w := by
  cases ha : aggOf P t with
  | none => rw [ha] at hag; cases hag
  | some b =>
    cases b with
    | true =>
      simp only [part, run_bind, run_agg ha, run_sz hm, if_true, run_pure]
      rw [extract_toArray, extract_toArray]
      congr 3
      rw [List.drop_take, List.take_take, List.drop_drop]
      congr 1
      omega
    | false =>
      have := h0 ha
      have e : ((cs.drop off).take n)[o]? = cs[off + o]? := by
        rw [List.getElem?_take, if_pos (by omega), List.getElem?_drop]
      simp only [part, run_bind, run_agg ha, List.getElem?_toArray, e, Bool.false_eq_true, if_false]

theorem part_agg {t : TypeId} {n : Nat} (ha : aggOf P t = some true) (hn : szOf P t = some n) (cs : List Value) (off : Nat) (w : World) :
    (part t cs.toArray off).run P w = .ok (.agg ((cs.drop off).take n).toArray) w := by
  simp only [part, run_bind, run_agg ha, run_sz hn, if_true, run_pure, extract_toArray]

theorem leaves_agg {d : Nat} {t : TypeId} {off : Nat} {ls : List (Nat × LK)} (h : leaves P d t off = some ls) : (aggOf P t).isSome := by
  cases d with
  | zero => cases h
  | succ d =>
    simp only [leaves] at h
    unfold aggOf
    cases hd : P.underlying t with
    | none => rw [hd] at h; cases h
    | some x => cases x <;> rfl

/-- The sizes that the tables give to plain types are not nought. -/
def leafSz (P : Program) (t : TypeId) : Bool := match aggOf P t, szOf P t with
  | some false, some 0 => false
  | _, _ => true
end
end Go.Abs
