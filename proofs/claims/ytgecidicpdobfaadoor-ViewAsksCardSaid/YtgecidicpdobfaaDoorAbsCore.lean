/-
  An abstract store for the model: scalars, blocks, and how they read in a world. Nothing here speaks of any program.
-/
import Derived.LoopN
import Derived.Scope
import Derived.Orders
import Derived.RowKit3
namespace Go.Abs
open Go

/-- What is known of a slice's capacity: the number itself, or that it reaches no further than its block (elements of so many cells). -/
inductive Cap where
  | known (c : Nat)
  | grown (e : Nat)
  deriving DecidableEq

/-- Values of one cell. A place is a block's number and an offset in it. -/
inductive S where
  | bool (b : Bool)
  | int (k : IntKind) (n : Int)
  | str (l : List UInt8)
  | ptr (i o : Nat)
  | nilp
  | sl (i o len : Nat) (cap : Cap)
  | emp (i e : Nat)
  | nils
  | map (i : Nat)
  | nilm
  | clo (f : FuncId) (caps : List (Nat × Nat))
  | nilf
  | nili
  deriving DecidableEq

/-- A value: one cell, or a struct or array by its cells. -/
inductive V where
  | s (x : S)
  | agg (l : List S)
  deriving DecidableEq

/-- What a temporary holds: nothing known, a value, several. -/
inductive T where
  | any
  | v (x : V)
  | tup (l : List V)
  deriving DecidableEq

inductive Blk where
  | cells (own : Bool) (vs : List S)
  | map (es : List (S × V))
  | dead
  deriving DecidableEq

/-- Where a block lies in a world: the block there, the first of its cells, how many cells that block has. -/
structure Loc where
  b : Nat
  base : Nat
  size : Nat

abbrev Inj := Nat → Option Loc

inductive All2 {α β : Type} (R : α → β → Prop) : List α → List β → Prop
  | nil : All2 R [] []
  | cons {a b l m} : R a b → All2 R l m → All2 R (a :: l) (b :: m)

def Inj.le (ι κ : Inj) : Prop := ∀ i L, ι i = some L → κ i = some L
theorem Inj.le_refl (ι : Inj) : ι.le ι := fun _ _ h => h
theorem Inj.le_trans {a b c : Inj} (h : a.le b) (k : b.le c) : a.le c := fun i L e => k i L (h i L e)

def SRel (ι : Inj) : S → Value → Prop
  | .bool b, v => v = .bool b
  | .int k n, v => v = .int k n
  | .str l, v => ∃ s : ByteArray, v = .string s ∧ s.data.toList = l
  | .ptr i o, v => ∃ L, ι i = some L ∧ v = .pointer (some ⟨L.b, L.base + o, none⟩)
  | .nilp, v => v = .pointer none
  | .sl i o len (.known c), v => ∃ L, ι i = some L ∧ v = .slice (some ⟨L.b, L.base + o, none⟩) len c ∧ len ≤ c
  | .sl i o len (.grown e), v => ∃ L c, ι i = some L ∧ v = .slice (some ⟨L.b, L.base + o, none⟩) len c ∧ len ≤ c ∧ L.base + o + c * e = L.size
  | .emp i e, v => ∃ L o c, ι i = some L ∧ v = .slice (some ⟨L.b, L.base + o, none⟩) 0 c ∧ (c = 0 ∨ L.base + o + c * e = L.size)
  | .nils, v => v = .slice none 0 0
  | .map i, v => ∃ L, ι i = some L ∧ v = .map (some L.b)
  | .nilm, v => v = .map none
  | .clo f caps, v => ∃ cs : List Value, v = .func (.func f) #[] cs.toArray ∧ All2 (fun (p : Nat × Nat) (u : Value) => ∃ L, ι p.1 = some L ∧ u = .pointer (some ⟨L.b, L.base + p.2, none⟩)) caps cs
  | .nilf, v => v = .nilFunc
  | .nili, v => v = .nilIface

def VRel (ι : Inj) : V → Value → Prop
  | .s x, v => SRel ι x v
  | .agg l, v => ∃ cs : List Value, v = .agg cs.toArray ∧ All2 (SRel ι) l cs

def TRel (ι : Inj) : T → Value → Prop
  | .any, _ => True
  | .v x, v => VRel ι x v
  | .tup l, v => ∃ vs : List Value, v = .tuple vs.toArray ∧ All2 (VRel ι) l vs

theorem forall2_mono {α β : Type} {R R' : α → β → Prop} (h : ∀ a b, R a b → R' a b) {l : List α} {m : List β} (k : All2 R l m) : All2 R' l m := by
  induction k with
  | nil => exact .nil
  | cons a _ ih => exact .cons (h _ _ a) ih

theorem forall2_length {α β : Type} {R : α → β → Prop} {l : List α} {m : List β} (k : All2 R l m) : l.length = m.length := by
  induction k with
  | nil => rfl
  | cons _ _ ih => simp [ih]

theorem forall2_get {α β : Type} {R : α → β → Prop} {l : List α} {m : List β} (k : All2 R l m) :
    ∀ (j : Nat) (x : α), l[j]? = some x → ∃ y, m[j]? = some y ∧ R x y := by
  induction k with
  | nil => intro j x h; simp at h
  | cons a _ ih =>
    intro j x h
    cases j with
    | zero => simp at h; subst h; exact ⟨_, rfl, a⟩
    | succ j => simp at h; simpa using ih j x h

theorem forall2_of_get {α β : Type} {R : α → β → Prop} {l : List α} {m : List β} (hl : l.length = m.length)
    (h : ∀ (j : Nat) (x : α) (y : β), l[j]? = some x → m[j]? = some y → R x y) : All2 R l m := by
  induction l generalizing m with
  | nil => cases m with
    | nil => exact .nil
    | cons _ _ => simp at hl
  | cons a l ih => cases m with
    | nil => simp at hl
    | cons b m =>
      refine .cons (h 0 a b rfl rfl) (ih (by simpa using hl) fun j x y hx hy => h (j + 1) x y (by simpa using hx) (by simpa using hy))

theorem forall2_append {α β : Type} {R : α → β → Prop} {l l' : List α} {m m' : List β} (h : All2 R l m) (k : All2 R l' m') :
    All2 R (l ++ l') (m ++ m') := by
  induction h with
  | nil => simpa using k
  | cons a _ ih => exact .cons a ih

theorem SRel.mono {ι κ : Inj} (h : ι.le κ) {x : S} {v : Value} (k : SRel ι x v) : SRel κ x v := by
  cases x with
  | ptr i o => obtain ⟨L, e, r⟩ := k; exact ⟨L, h _ _ e, r⟩
  | sl i o len cap =>
    cases cap with
    | known c => obtain ⟨L, e, r⟩ := k; exact ⟨L, h _ _ e, r⟩
    | grown e => obtain ⟨L, c, e, r⟩ := k; exact ⟨L, c, h _ _ e, r⟩
  | emp i e => obtain ⟨L, o, c, e, r⟩ := k; exact ⟨L, o, c, h _ _ e, r⟩
  | map i => obtain ⟨L, e, r⟩ := k; exact ⟨L, h _ _ e, r⟩
  | clo f caps =>
    obtain ⟨cs, e, r⟩ := k
    exact ⟨cs, e, forall2_mono (fun a b ⟨L, e, r⟩ => ⟨L, h _ _ e, r⟩) r⟩
  | bool b => exact k
  | int _ n => exact k
  | str l => exact k
  | nilp => exact k
  | nils => exact k
  | nilm => exact k
  | nilf => exact k
  | nili => exact k

theorem VRel.mono {ι κ : Inj} (h : ι.le κ) {x : V} {v : Value} (k : VRel ι x v) : VRel κ x v := by
  cases x with
  | s x => exact SRel.mono h k
  | agg l => obtain ⟨cs, e, r⟩ := k; exact ⟨cs, e, forall2_mono (fun _ _ => SRel.mono h) r⟩

theorem TRel.mono {ι κ : Inj} (h : ι.le κ) {x : T} {v : Value} (k : TRel ι x v) : TRel κ x v := by
  cases x with
  | any => trivial
  | v x => exact VRel.mono h k
  | tup l => obtain ⟨cs, e, r⟩ := k; exact ⟨cs, e, forall2_mono (fun _ _ => VRel.mono h) r⟩

def oneCell : Value → Bool
  | .agg _ | .tuple _ => false
  | _ => true

theorem SRel.oneCell {ι : Inj} {x : S} {v : Value} (k : SRel ι x v) : Abs.oneCell v = true ∧ v.cells = #[v] := by
  cases x with
  | ptr i o => obtain ⟨L, e, r⟩ := k; subst r; exact ⟨rfl, rfl⟩
  | sl i o len cap =>
    cases cap with
    | known c => obtain ⟨L, e, r, _⟩ := k; subst r; exact ⟨rfl, rfl⟩
    | grown e => obtain ⟨L, c, e, r, _⟩ := k; subst r; exact ⟨rfl, rfl⟩
  | emp i e => obtain ⟨L, o, c, e, r, _⟩ := k; subst r; exact ⟨rfl, rfl⟩
  | map i => obtain ⟨L, e, r⟩ := k; subst r; exact ⟨rfl, rfl⟩
  | clo f caps => obtain ⟨cs, e, r⟩ := k; subst e; exact ⟨rfl, rfl⟩
  | str l => obtain ⟨s, e, r⟩ := k; subst e; exact ⟨rfl, rfl⟩
  | bool b => subst k; exact ⟨rfl, rfl⟩
  | int _ n => subst k; exact ⟨rfl, rfl⟩
  | nilp => subst k; exact ⟨rfl, rfl⟩
  | nils => subst k; exact ⟨rfl, rfl⟩
  | nilm => subst k; exact ⟨rfl, rfl⟩
  | nilf => subst k; exact ⟨rfl, rfl⟩
  | nili => subst k; exact ⟨rfl, rfl⟩

/-- The cells of a value. -/
def V.cells : V → List S
  | .s x => [x]
  | .agg l => l

theorem VRel.cells {ι : Inj} {x : V} {v : Value} (k : VRel ι x v) : All2 (SRel ι) x.cells v.cells.toList := by
  cases x with
  | s x => rw [(SRel.oneCell k).2]; exact .cons k .nil
  | agg l => obtain ⟨cs, e, r⟩ := k; subst e; simpa [V.cells, Value.cells] using r

/-! ### The store: blocks by number -/

inductive Tr where
  | nil
  | node (l : Tr) (v : Option Blk) (r : Tr)

def Tr.get : Tr → Nat → Option Blk
  | .nil, _ => none
  | .node l v r, n => match n with
    | 0 => v
    | m + 1 => match Nat.beq (m % 2) 0 with
      | true => l.get (m / 2)
      | false => r.get (m / 2)

def Tr.put (b : Blk) : Nat → Tr → Nat → Tr
  | 0, t, _ => t
  | f + 1, .nil, n => match n with
    | 0 => .node .nil (some b) .nil
    | m + 1 => match Nat.beq (m % 2) 0 with
      | true => .node (Tr.put b f .nil (m / 2)) none .nil
      | false => .node .nil none (Tr.put b f .nil (m / 2))
  | f + 1, .node l v r, n => match n with
    | 0 => .node l (some b) r
    | m + 1 => match Nat.beq (m % 2) 0 with
      | true => .node (Tr.put b f l (m / 2)) v r
      | false => .node l v (Tr.put b f r (m / 2))

theorem beq_zero_true {n : Nat} : Nat.beq n 0 = true ↔ n = 0 := by
  constructor
  · intro h; exact Nat.eq_of_beq_eq_true h
  · rintro rfl; rfl
theorem beq_zero_false {n : Nat} : Nat.beq n 0 = false ↔ n ≠ 0 := by
  constructor
  · intro h e; subst e; cases h
  · intro h; cases e : Nat.beq n 0 with
    | true => exact (h (beq_zero_true.1 e)).elim
    | false => rfl

theorem Tr.get_put (b : Blk) : ∀ (f : Nat) (t : Tr) (n k : Nat), n < f → (Tr.put b f t n).get k = if k = n then some b else t.get k := by
  intro f
  induction f with
  | zero => intro t n k h; omega
  | succ f ih =>
    intro t n k h
    cases t with
    | nil =>
      cases n with
      | zero =>
        cases k with
        | zero => simp [Tr.put, Tr.get]
        | succ k => simp only [Tr.put, Tr.get]; split <;> simp
      | succ n =>
        have hlt : n / 2 < f := by omega
        cases hn : Nat.beq (n % 2) 0 with
        | true =>
          have hn' := beq_zero_true.1 hn
          cases k with
          | zero => simp [Tr.put, Tr.get, hn]
          | succ k =>
            simp only [Tr.put, Tr.get, hn]
            cases hk : Nat.beq (k % 2) 0 with
            | true =>
              have hk' := beq_zero_true.1 hk
              simp only [ih _ _ _ hlt]
              by_cases e : k / 2 = n / 2
              · rw [if_pos e, if_pos (by omega)]
              · rw [if_neg e, if_neg (by omega)]; rfl
            | false =>
              have hk' := beq_zero_false.1 hk
              rw [if_neg (by omega)]
        | false =>
          have hn' := beq_zero_false.1 hn
          cases k with
          | zero => simp [Tr.put, Tr.get, hn]
          | succ k =>
            simp only [Tr.put, Tr.get, hn]
            cases hk : Nat.beq (k % 2) 0 with
            | true =>
              have hk' := beq_zero_true.1 hk
              rw [if_neg (by omega)]
            | false =>
              have hk' := beq_zero_false.1 hk
              simp only [ih _ _ _ hlt]
              by_cases e : k / 2 = n / 2
              · rw [if_pos e, if_pos (by omega)]
              · rw [if_neg e, if_neg (by omega)]; rfl
    | node l v r =>
      cases n with
      | zero =>
        cases k with
        | zero => simp [Tr.put, Tr.get]
        | succ k => simp only [Tr.put, Tr.get]; split <;> simp
      | succ n =>
        have hlt : n / 2 < f := by omega
        cases hn : Nat.beq (n % 2) 0 with
        | true =>
          have hn' := beq_zero_true.1 hn
          cases k with
          | zero => simp [Tr.put, Tr.get, hn]
          | succ k =>
            simp only [Tr.put, Tr.get, hn]
            cases hk : Nat.beq (k % 2) 0 with
            | true =>
              have hk' := beq_zero_true.1 hk
              simp only [ih _ _ _ hlt]
              by_cases e : k / 2 = n / 2
              · rw [if_pos e, if_pos (by omega)]
              · rw [if_neg e, if_neg (by omega)]
            | false =>
              have hk' := beq_zero_false.1 hk
              rw [if_neg (by omega)]
        | false =>
          have hn' := beq_zero_false.1 hn
          cases k with
          | zero => simp [Tr.put, Tr.get, hn]
          | succ k =>
            simp only [Tr.put, Tr.get, hn]
            cases hk : Nat.beq (k % 2) 0 with
            | true =>
              have hk' := beq_zero_true.1 hk
              rw [if_neg (by omega)]
            | false =>
              have hk' := beq_zero_false.1 hk
              simp only [ih _ _ _ hlt]
              by_cases e : k / 2 = n / 2
              · rw [if_pos e, if_pos (by omega)]
              · rw [if_neg e, if_neg (by omega)]

structure St where
  size : Nat
  tr : Tr

def St.get (σ : St) (i : Nat) : Option Blk := σ.tr.get i
def St.set (σ : St) (i : Nat) (b : Blk) : St := ⟨σ.size, Tr.put b (i + 1) σ.tr i⟩
def St.push (σ : St) (b : Blk) : St := ⟨σ.size + 1, Tr.put b (σ.size + 1) σ.tr σ.size⟩
def St.empty : St := ⟨0, .nil⟩

theorem St.get_set (σ : St) (i : Nat) (b : Blk) (k : Nat) : (σ.set i b).get k = if k = i then some b else σ.get k := Tr.get_put b _ _ _ _ (Nat.lt_succ_self _)
theorem St.get_push (σ : St) (b : Blk) (k : Nat) : (σ.push b).get k = if k = σ.size then some b else σ.get k := Tr.get_put b _ _ _ _ (Nat.lt_succ_self _)
@[simp] theorem St.size_set (σ : St) (i : Nat) (b : Blk) : (σ.set i b).size = σ.size := rfl
@[simp] theorem St.size_push (σ : St) (b : Blk) : (σ.push b).size = σ.size + 1 := rfl
@[simp] theorem St.get_set_same (σ : St) (i : Nat) (b : Blk) : (σ.set i b).get i = some b := by rw [St.get_set, if_pos rfl]
theorem St.get_set_ne (σ : St) {i k : Nat} (b : Blk) (h : k ≠ i) : (σ.set i b).get k = σ.get k := by rw [St.get_set, if_neg h]
@[simp] theorem St.get_push_same (σ : St) (b : Blk) : (σ.push b).get σ.size = some b := by rw [St.get_push, if_pos rfl]
theorem St.get_push_ne (σ : St) {k : Nat} (b : Blk) (h : k ≠ σ.size) : (σ.push b).get k = σ.get k := by rw [St.get_push, if_neg h]
end Go.Abs
