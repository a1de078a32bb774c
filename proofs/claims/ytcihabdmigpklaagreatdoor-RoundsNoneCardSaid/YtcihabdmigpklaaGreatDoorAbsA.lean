/-
  A library of our own, several texts in one: an abstract store for the model, and runs over it. Nothing here speaks of any program. No conditions.
-/
import Derived.LoopN
import Derived.Scope
import Derived.Orders
import Derived.RowKit3
import Derived.WalkKit
set_option linter.unusedSimpArgs false
set_option linter.unusedVariables false
/-
  An abstract store for the model: scalars, blocks, and how they read in a world. Nothing here speaks of any program.
-/
namespace Go.Abs
open Go

/-- What is known of a slice's capacity: the number itself, or that it reaches no further than its block (elements of so many cells). -/
inductive Cap where
  | known (c : Nat)
  | grown (e : Nat)
  deriving DecidableEq

/-- Values of one cell. A place is a block's number and an offset in it. -/
inductive S where
  | bool (b : Bool)
  | int (k : IntKind) (n : Int)
  | str (l : List UInt8)
  | ptr (i o : Nat)
  | nilp
  | sl (i o len : Nat) (cap : Cap)
  | emp (i e : Nat)
  | nils
  | map (i : Nat)
  | nilm
  | clo (f : FuncId) (caps : List (Nat × Nat))
  | nilf
  | nili
  | tptr (t i n : Nat)
  | buf (e i n : Nat)
  | chan (i : Nat)
  | nilc
  | arr (k : IntKind) (l : List Int)
  | any
  deriving DecidableEq

/-- A value: one cell, or a struct or array by its cells. -/
inductive V where
  | s (x : S)
  | agg (l : List S)
  deriving DecidableEq

/-- What a temporary holds: nothing known, a value, several. -/
inductive T where
  | any
  | v (x : V)
  | tup (l : List V)
  deriving DecidableEq

inductive Blk where
  | cells (own : Bool) (vs : List S)
  | map (es : List (S × V))
  | glob (g : Nat) (vs : List S)
  | dead
  | mark (vs : List S)
  | chan (cap : Nat) (vs : List S)
  deriving DecidableEq

/-- Where a block lies in a world: the block there, the first of its cells, how many cells that block has, of which type. -/
structure Loc where
  b : Nat
  base : Nat
  size : Nat
  ty : TypeId

abbrev Inj := Nat → Option Loc

inductive All2 {α β : Type} (R : α → β → Prop) : List α → List β → Prop
  | nil : All2 R [] []
  | cons {a b l m} : R a b → All2 R l m → All2 R (a :: l) (b :: m)

def Inj.le (ι κ : Inj) : Prop := ∀ i L, ι i = some L → κ i = some L
theorem Inj.le_refl (ι : Inj) : ι.le ι := fun _ _ h => h
theorem Inj.le_trans {a b c : Inj} (h : a.le b) (k : b.le c) : a.le c := fun i L e => k i L (h i L e)

/-- A value of one cell. -/
def oneCell : Value → Bool
  | .agg _ | .tuple _ => false
  | _ => true

def SRel (ι : Inj) : S → Value → Prop
  | .bool b, v => v = .bool b
  | .int k n, v => v = .int k n
  | .str l, v => ∃ s : ByteArray, v = .string s ∧ s.data.toList = l
  | .ptr i o, v => ∃ L, ι i = some L ∧ v = .pointer (some ⟨L.b, L.base + o, none⟩)
  | .nilp, v => v = .pointer none
  | .sl i o len (.known c), v => ∃ L, ι i = some L ∧ v = .slice (some ⟨L.b, L.base + o, none⟩) len c ∧ len ≤ c
  | .sl i o len (.grown e), v => ∃ L c, ι i = some L ∧ v = .slice (some ⟨L.b, L.base + o, none⟩) len c ∧ len ≤ c ∧ L.base + o + c * e = L.size
  | .emp i e, v => ∃ L a c, ι i = some L ∧ v = .slice (some a) 0 c ∧ (c = 0 ∨ ∃ o, a = ⟨L.b, L.base + o, none⟩ ∧ L.base + o + c * e = L.size)
  | .nils, v => v = .slice none 0 0
  | .map i, v => ∃ L, ι i = some L ∧ v = .map (some L.b)
  | .nilm, v => v = .map none
  | .clo f caps, v => ∃ cs : List Value, v = .func (.func f) #[] cs.toArray ∧ All2 (fun (p : Nat × Nat) (u : Value) => ∃ L, ι p.1 = some L ∧ u = .pointer (some ⟨L.b, L.base + p.2, none⟩)) caps cs
  | .nilf, v => v = .nilFunc
  | .nili, v => v = .nilIface
  | .tptr t i n, v => ∃ L, ι i = some L ∧ L.ty = t ∧ L.base = 0 ∧ L.size = n ∧ v = .pointer (some ⟨L.b, 0, none⟩)
  | .buf e i n, v => ∃ L c, ι i = some L ∧ L.ty = e ∧ L.base = 0 ∧ L.size = c ∧ n ≤ c ∧ c ≤ 9223372036854775807 ∧ v = .slice (some ⟨L.b, 0, none⟩) n c
  | .chan i, v => ∃ L, ι i = some L ∧ v = .chan (some L.b)
  | .nilc, v => v = .chan none
  | .arr _ _, _ => False
  | .any, v => oneCell v = true

def VRel (ι : Inj) : V → Value → Prop
  | .s x, v => SRel ι x v
  | .agg l, v => ∃ cs : List Value, v = .agg cs.toArray ∧ All2 (SRel ι) l cs

def TRel (ι : Inj) : T → Value → Prop
  | .any, _ => True
  | .v x, v => VRel ι x v
  | .tup l, v => ∃ vs : List Value, v = .tuple vs.toArray ∧ All2 (VRel ι) l vs

theorem forall2_mono {α β : Type} {R R' : α → β → Prop} (h : ∀ a b, R a b → R' a b) {l : List α} {m : List β} (k : All2 R l m) : All2 R' l m := by
  induction k with
  | nil => exact .nil
  | cons a _ ih => exact .cons (h _ _ a) ih

theorem forall2_length {α β : Type} {R : α → β → Prop} {l : List α} {m : List β} (k : All2 R l m) : l.length = m.length := by
  induction k with
  | nil => rfl
  | cons _ _ ih => simp [ih]

theorem forall2_get {α β : Type} {R : α → β → Prop} {l : List α} {m : List β} (k : All2 R l m) :
    ∀ (j : Nat) (x : α), l[j]? = some x → ∃ y, m[j]? = some y ∧ R x y := by
  induction k with
  | nil => intro j x h; simp at h
  | cons a _ ih =>
    intro j x h
    cases j with
    | zero => simp at h; subst h; exact ⟨_, rfl, a⟩
    | succ j => simp at h; simpa using ih j x h

theorem forall2_of_get {α β : Type} {R : α → β → Prop} {l : List α} {m : List β} (hl : l.length = m.length)
    (h : ∀ (j : Nat) (x : α) (y : β), l[j]? = some x → m[j]? = some y → R x y) : All2 R l m := by
  induction l generalizing m with
  | nil => cases m with
    | nil => exact .nil
    | cons _ _ => simp at hl
  | cons a l ih => cases m with
    | nil => simp at hl
    | cons b m =>
      refine .cons (h 0 a b rfl rfl) (ih (by simpa using hl) fun j x y hx hy => h (j + 1) x y (by simpa using hx) (by simpa using hy))

theorem forall2_append {α β : Type} {R : α → β → Prop} {l l' : List α} {m m' : List β} (h : All2 R l m) (k : All2 R l' m') :
    All2 R (l ++ l') (m ++ m') := by
  induction h with
  | nil => simpa using k
  | cons a _ ih => exact .cons a ih

theorem SRel.mono {ι κ : Inj} (h : ι.le κ) {x : S} {v : Value} (k : SRel ι x v) : SRel κ x v := by
  cases x with
  | ptr i o => obtain ⟨L, e, r⟩ := k; exact ⟨L, h _ _ e, r⟩
  | sl i o len cap =>
    cases cap with
    | known c => obtain ⟨L, e, r⟩ := k; exact ⟨L, h _ _ e, r⟩
    | grown e => obtain ⟨L, c, e, r⟩ := k; exact ⟨L, c, h _ _ e, r⟩
  | emp i e => obtain ⟨L, o, c, e, r⟩ := k; exact ⟨L, o, c, h _ _ e, r⟩
  | map i => obtain ⟨L, e, r⟩ := k; exact ⟨L, h _ _ e, r⟩
  | clo f caps =>
    obtain ⟨cs, e, r⟩ := k
    exact ⟨cs, e, forall2_mono (fun a b ⟨L, e, r⟩ => ⟨L, h _ _ e, r⟩) r⟩
  | bool b => exact k
  | int _ n => exact k
  | str l => exact k
  | nilp => exact k
  | nils => exact k
  | nilm => exact k
  | nilf => exact k
  | nili => exact k
  | tptr t i n => obtain ⟨L, e, r⟩ := k; exact ⟨L, h _ _ e, r⟩
  | buf e i n => obtain ⟨L, c, e, r⟩ := k; exact ⟨L, c, h _ _ e, r⟩
  | chan i => obtain ⟨L, e, r⟩ := k; exact ⟨L, h _ _ e, r⟩
  | nilc => exact k
  | arr _ _ => exact k
  | any => exact k

theorem VRel.mono {ι κ : Inj} (h : ι.le κ) {x : V} {v : Value} (k : VRel ι x v) : VRel κ x v := by
  cases x with
  | s x => exact SRel.mono h k
  | agg l => obtain ⟨cs, e, r⟩ := k; exact ⟨cs, e, forall2_mono (fun _ _ => SRel.mono h) r⟩

theorem TRel.mono {ι κ : Inj} (h : ι.le κ) {x : T} {v : Value} (k : TRel ι x v) : TRel κ x v := by
  cases x with
  | any => trivial
  | v x => exact VRel.mono h k
  | tup l => obtain ⟨cs, e, r⟩ := k; exact ⟨cs, e, forall2_mono (fun _ _ => VRel.mono h) r⟩

theorem SRel.oneCell {ι : Inj} {x : S} {v : Value} (k : SRel ι x v) : Abs.oneCell v = true ∧ v.cells = #[v] := by
  cases x with
  | ptr i o => obtain ⟨L, e, r⟩ := k; subst r; exact ⟨rfl, rfl⟩
  | sl i o len cap =>
    cases cap with
    | known c => obtain ⟨L, e, r, _⟩ := k; subst r; exact ⟨rfl, rfl⟩
    | grown e => obtain ⟨L, c, e, r, _⟩ := k; subst r; exact ⟨rfl, rfl⟩
  | emp i e => obtain ⟨L, o, c, e, r, _⟩ := k; subst r; exact ⟨rfl, rfl⟩
  | map i => obtain ⟨L, e, r⟩ := k; subst r; exact ⟨rfl, rfl⟩
  | clo f caps => obtain ⟨cs, e, r⟩ := k; subst e; exact ⟨rfl, rfl⟩
  | str l => obtain ⟨s, e, r⟩ := k; subst e; exact ⟨rfl, rfl⟩
  | bool b => subst k; exact ⟨rfl, rfl⟩
  | int _ n => subst k; exact ⟨rfl, rfl⟩
  | nilp => subst k; exact ⟨rfl, rfl⟩
  | nils => subst k; exact ⟨rfl, rfl⟩
  | nilm => subst k; exact ⟨rfl, rfl⟩
  | nilf => subst k; exact ⟨rfl, rfl⟩
  | nili => subst k; exact ⟨rfl, rfl⟩
  | tptr t i n => obtain ⟨L, e, _, _, _, r⟩ := k; subst r; exact ⟨rfl, rfl⟩
  | buf e i n => obtain ⟨L, c, e, _, _, _, _, _, r⟩ := k; subst r; exact ⟨rfl, rfl⟩
  | chan i => obtain ⟨L, e, r⟩ := k; subst r; exact ⟨rfl, rfl⟩
  | nilc => subst k; exact ⟨rfl, rfl⟩
  | arr _ _ => exact k.elim
  | any => refine ⟨k, ?_⟩; cases v <;> first | rfl | cases k

/-- The cells of a value. -/
def V.cells : V → List S
  | .s x => [x]
  | .agg l => l

theorem VRel.cells {ι : Inj} {x : V} {v : Value} (k : VRel ι x v) : All2 (SRel ι) x.cells v.cells.toList := by
  cases x with
  | s x => rw [(SRel.oneCell k).2]; exact .cons k .nil
  | agg l => obtain ⟨cs, e, r⟩ := k; subst e; simpa [V.cells, Value.cells] using r

/-! ### The store: blocks by number -/

inductive Tr where
  | nil
  | node (a b c d : Tr) (v : Option Blk)

/-- One of four, by a number below four. -/
noncomputable def sel {α : Type} (q : Nat) (a b c d : α) : α := Bool.rec (motive := fun _ => α) (Bool.rec (motive := fun _ => α) d c (Nat.beq q (nat_lit 2))) (Bool.rec (motive := fun _ => α) b a (Nat.beq q (nat_lit 0))) (Nat.ble q (nat_lit 1))

noncomputable def Tr.get (t : Tr) : Nat → Option Blk :=
  Tr.rec (motive := fun _ => Nat → Option Blk) (fun _ => none) (fun _ _ _ _ v iha ihb ihc ihd n => Nat.rec (motive := fun _ => Option Blk) v (fun m _ => sel (Nat.mod m (nat_lit 4)) iha ihb ihc ihd (Nat.div m (nat_lit 4))) n) t
noncomputable def Tr.mk1 (x : Blk) (f : Nat) : Nat → Tr :=
  Nat.rec (motive := fun _ => Nat → Tr) (fun _ => .nil) (fun _ ih n => Nat.rec (motive := fun _ => Tr) (.node .nil .nil .nil .nil (some x)) (fun m _ => sel (Nat.mod m (nat_lit 4)) (.node (ih (Nat.div m (nat_lit 4))) .nil .nil .nil none) (.node .nil (ih (Nat.div m (nat_lit 4))) .nil .nil none) (.node .nil .nil (ih (Nat.div m (nat_lit 4))) .nil none) (.node .nil .nil .nil (ih (Nat.div m (nat_lit 4))) none)) n) f
noncomputable def Tr.put (x : Blk) (t : Tr) : Nat → Nat → Tr :=
  Tr.rec (motive := fun _ => Nat → Nat → Tr) (fun f n => Tr.mk1 x f n) (fun a b c d v iha ihb ihc ihd f n => Nat.rec (motive := fun _ => Tr) (.node a b c d (some x)) (fun m _ => sel (Nat.mod m (nat_lit 4)) (.node (iha (Nat.pred f) (Nat.div m (nat_lit 4))) b c d v) (.node a (ihb (Nat.pred f) (Nat.div m (nat_lit 4))) c d v) (.node a b (ihc (Nat.pred f) (Nat.div m (nat_lit 4))) d v) (.node a b c (ihd (Nat.pred f) (Nat.div m (nat_lit 4))) v)) n) t

theorem sel0 {α : Type} {q : Nat} {a b c d : α} (h : q = 0) : sel q a b c d = a := by subst h; rfl
theorem sel1 {α : Type} {q : Nat} {a b c d : α} (h : q = 1) : sel q a b c d = b := by subst h; rfl
theorem sel2 {α : Type} {q : Nat} {a b c d : α} (h : q = 2) : sel q a b c d = c := by subst h; rfl
theorem sel3 {α : Type} {q : Nat} {a b c d : α} (h : q = 3) : sel q a b c d = d := by subst h; rfl
theorem Tr.get_nil (k : Nat) : Tr.nil.get k = none := rfl
theorem Tr.get_node0 (a b c d : Tr) (v : Option Blk) : (Tr.node a b c d v).get 0 = v := rfl
theorem Tr.get_node (a b c d : Tr) (v : Option Blk) (k : Nat) : (Tr.node a b c d v).get (k + 1) = (sel (k % 4) a b c d).get (k / 4) := by
  show sel (k % 4) a.get b.get c.get d.get (k / 4) = _
  have : k % 4 = 0 ∨ k % 4 = 1 ∨ k % 4 = 2 ∨ k % 4 = 3 := by omega
  rcases this with h | h | h | h
  · rw [sel0 h, sel0 h]
  · rw [sel1 h, sel1 h]
  · rw [sel2 h, sel2 h]
  · rw [sel3 h, sel3 h]
theorem Tr.put_node (x : Blk) (a b c d : Tr) (v : Option Blk) (f n : Nat) : Tr.put x (.node a b c d v) f (n + 1) = sel (n % 4) (.node (Tr.put x a (f - 1) (n / 4)) b c d v) (.node a (Tr.put x b (f - 1) (n / 4)) c d v) (.node a b (Tr.put x c (f - 1) (n / 4)) d v) (.node a b c (Tr.put x d (f - 1) (n / 4)) v) := rfl
theorem Tr.put_nil (x : Blk) (f n : Nat) : Tr.put x .nil f n = Tr.mk1 x f n := rfl
theorem Tr.mk1_succ (x : Blk) (f n : Nat) : Tr.mk1 x (f + 1) (n + 1) = sel (n % 4) (.node (Tr.mk1 x f (n / 4)) .nil .nil .nil none) (.node .nil (Tr.mk1 x f (n / 4)) .nil .nil none) (.node .nil .nil (Tr.mk1 x f (n / 4)) .nil none) (.node .nil .nil .nil (Tr.mk1 x f (n / 4)) none) := rfl

theorem Tr.get_mk1 (x : Blk) : ∀ (f n k : Nat), n < f → (Tr.mk1 x f n).get k = if k = n then some x else none := by
  intro f
  induction f with
  | zero => intro n k h; omega
  | succ f ih =>
    intro n k h
    cases n with
    | zero => cases k with
      | zero => rfl
      | succ k =>
        show (Tr.node .nil .nil .nil .nil (some x)).get (k + 1) = _
        rw [Tr.get_node, if_neg (by omega)]
        have : k % 4 = 0 ∨ k % 4 = 1 ∨ k % 4 = 2 ∨ k % 4 = 3 := by omega
        rcases this with h | h | h | h
        · rw [sel0 h]; rfl
        · rw [sel1 h]; rfl
        · rw [sel2 h]; rfl
        · rw [sel3 h]; rfl
    | succ n =>
      have hlt : n / 4 < f := by omega
      rw [Tr.mk1_succ]
      cases k with
      | zero =>
        rw [if_neg (by omega)]
        have : n % 4 = 0 ∨ n % 4 = 1 ∨ n % 4 = 2 ∨ n % 4 = 3 := by omega
        rcases this with h | h | h | h
        · rw [sel0 h]; rfl
        · rw [sel1 h]; rfl
        · rw [sel2 h]; rfl
        · rw [sel3 h]; rfl
      | succ k =>
        have e : (if k + 1 = n + 1 then some x else none) = if k % 4 = n % 4 ∧ k / 4 = n / 4 then some x else none := by
          by_cases hk : k = n
          · subst hk; simp
          · rw [if_neg (by omega), if_neg (by omega)]
        rw [e]
        have h1 : n % 4 = 0 ∨ n % 4 = 1 ∨ n % 4 = 2 ∨ n % 4 = 3 := by omega
        have h2 : k % 4 = 0 ∨ k % 4 = 1 ∨ k % 4 = 2 ∨ k % 4 = 3 := by omega
        rcases h1 with h1 | h1 | h1 | h1 <;> rcases h2 with h2 | h2 | h2 | h2 <;>
          first
          | rw [sel0 h1, Tr.get_node, sel0 h2, ih _ _ hlt, h1, h2]; simp; done
          | rw [sel1 h1, Tr.get_node, sel1 h2, ih _ _ hlt, h1, h2]; simp; done
          | rw [sel2 h1, Tr.get_node, sel2 h2, ih _ _ hlt, h1, h2]; simp; done
          | rw [sel3 h1, Tr.get_node, sel3 h2, ih _ _ hlt, h1, h2]; simp; done
          | (rw [if_neg (by omega)]; first | rw [sel0 h1, Tr.get_node] | rw [sel1 h1, Tr.get_node] | rw [sel2 h1, Tr.get_node] | rw [sel3 h1, Tr.get_node]); first | rw [sel0 h2]; rfl | rw [sel1 h2]; rfl | rw [sel2 h2]; rfl | rw [sel3 h2]; rfl

theorem Tr.get_put (x : Blk) (t : Tr) : ∀ (f n k : Nat), n < f → (Tr.put x t f n).get k = if k = n then some x else t.get k := by
  induction t with
  | nil => intro f n k h; exact Tr.get_mk1 x f n k h
  | node a b c d v iha ihb ihc ihd =>
    intro f n k h
    cases n with
    | zero => cases k with
      | zero => rfl
      | succ k => rw [if_neg (by omega)]; rfl
    | succ n =>
      have hlt : n / 4 < f - 1 := by omega
      rw [Tr.put_node]
      have h1 : n % 4 = 0 ∨ n % 4 = 1 ∨ n % 4 = 2 ∨ n % 4 = 3 := by omega
      cases k with
      | zero =>
        rw [if_neg (by omega)]
        rcases h1 with h | h | h | h
        · rw [sel0 h]; rfl
        · rw [sel1 h]; rfl
        · rw [sel2 h]; rfl
        · rw [sel3 h]; rfl
      | succ k =>
        have e : ∀ y : Option Blk, (if k + 1 = n + 1 then some x else y) = if k % 4 = n % 4 ∧ k / 4 = n / 4 then some x else y := by
          intro y
          by_cases hk : k = n
          · subst hk; simp
          · rw [if_neg (by omega), if_neg (by omega)]
        rw [e, Tr.get_node]
        have h2 : k % 4 = 0 ∨ k % 4 = 1 ∨ k % 4 = 2 ∨ k % 4 = 3 := by omega
        rcases h1 with h1 | h1 | h1 | h1 <;> rcases h2 with h2 | h2 | h2 | h2 <;>
          first
          | rw [sel0 h1, Tr.get_node, sel0 h2, sel0 h2, iha _ _ _ hlt, h1, h2]; simp; done
          | rw [sel1 h1, Tr.get_node, sel1 h2, sel1 h2, ihb _ _ _ hlt, h1, h2]; simp; done
          | rw [sel2 h1, Tr.get_node, sel2 h2, sel2 h2, ihc _ _ _ hlt, h1, h2]; simp; done
          | rw [sel3 h1, Tr.get_node, sel3 h2, sel3 h2, ihd _ _ _ hlt, h1, h2]; simp; done
          | (rw [if_neg (by omega)]; first | rw [sel0 h1, Tr.get_node] | rw [sel1 h1, Tr.get_node] | rw [sel2 h1, Tr.get_node] | rw [sel3 h1, Tr.get_node]); first | rw [sel0 h2, sel0 h2] | rw [sel1 h2, sel1 h2] | rw [sel2 h2, sel2 h2] | rw [sel3 h2, sel3 h2]

structure St where
  size : Nat
  tr : Tr

noncomputable def St.get (σ : St) (i : Nat) : Option Blk := σ.tr.get i
noncomputable def St.set (σ : St) (i : Nat) (b : Blk) : St := ⟨σ.size, Tr.put b σ.tr (Nat.succ i) i⟩
noncomputable def St.push (σ : St) (b : Blk) : St := ⟨Nat.succ σ.size, Tr.put b σ.tr (Nat.succ σ.size) σ.size⟩
def St.empty : St := ⟨0, .nil⟩

theorem St.get_set (σ : St) (i : Nat) (b : Blk) (k : Nat) : (σ.set i b).get k = if k = i then some b else σ.get k := Tr.get_put b _ _ _ _ (Nat.lt_succ_self _)
theorem St.get_push (σ : St) (b : Blk) (k : Nat) : (σ.push b).get k = if k = σ.size then some b else σ.get k := Tr.get_put b _ _ _ _ (Nat.lt_succ_self _)
@[simp] theorem St.size_set (σ : St) (i : Nat) (b : Blk) : (σ.set i b).size = σ.size := rfl
@[simp] theorem St.size_push (σ : St) (b : Blk) : (σ.push b).size = σ.size + 1 := rfl
@[simp] theorem St.get_set_same (σ : St) (i : Nat) (b : Blk) : (σ.set i b).get i = some b := by rw [St.get_set, if_pos rfl]
theorem St.get_set_ne (σ : St) {i k : Nat} (b : Blk) (h : k ≠ i) : (σ.set i b).get k = σ.get k := by rw [St.get_set, if_neg h]
@[simp] theorem St.get_push_same (σ : St) (b : Blk) : (σ.push b).get σ.size = some b := by rw [St.get_push, if_pos rfl]
theorem St.get_push_ne (σ : St) {k : Nat} (b : Blk) (h : k ≠ σ.size) : (σ.push b).get k = σ.get k := by rw [St.get_push, if_neg h]
end Go.Abs

/-
  How an abstract store reads in a world; what a step may do to both; loads, stores, new blocks.
-/
namespace Go.Abs
open Go

/-- A block that may be written. -/
def live : Option Blk → Prop
  | some (.cells true _) => True
  | some (.map _) => True
  | some (.mark _) => True
  | some (.chan _ _) => True
  | _ => False

/-- A block that is read. -/
def held : Option Blk → Prop
  | some (.cells _ _) => True
  | some (.map _) => True
  | some (.glob _ _) => True
  | some (.mark _) => True
  | some (.chan _ _) => True
  | _ => False

theorem live.held {b : Option Blk} (h : live b) : held b := by
  match b, h with
  | some (.cells true _), _ => trivial
  | some (.map _), _ => trivial
  | some (.mark _), _ => trivial
  | some (.chan _ _), _ => trivial

/-- A map's key: a value of one cell, or an array of numbers. -/
def KRel (ι : Inj) : S → Value → Prop
  | .arr k l, v => v = .agg (l.map (Value.int k)).toArray
  | x, v => SRel ι x v

theorem SRel.key {ι : Inj} {x : S} {v : Value} (h : SRel ι x v) : KRel ι x v := by
  cases x <;> first | exact h | exact h.elim

theorem KRel.mono {ι κ : Inj} (h : ι.le κ) {x : S} {v : Value} (k : KRel ι x v) : KRel κ x v := by
  cases x with
  | arr _ _ => exact k
  | bool b => exact k
  | ptr i o => exact SRel.mono (x := .ptr i o) h k
  | sl i o n c => exact SRel.mono (x := .sl i o n c) h k
  | emp i e => exact SRel.mono (x := .emp i e) h k
  | map i => exact SRel.mono (x := .map i) h k
  | clo f cs => exact SRel.mono (x := .clo f cs) h k
  | tptr t i n => exact SRel.mono (x := .tptr t i n) h k
  | buf e i n => exact SRel.mono (x := .buf e i n) h k
  | chan i => exact SRel.mono (x := .chan i) h k
  | _ => exact k

def EntRel (ι : Inj) (p : S × V) (e : MapEntry) : Prop := KRel ι p.1 e.key ∧ VRel ι p.2 e.val

theorem EntRel.mono {ι κ : Inj} (h : ι.le κ) (p : S × V) (e : MapEntry) (k : EntRel ι p e) : EntRel κ p e := ⟨k.1.mono h, k.2.mono h⟩

def BlkRel (ι : Inj) (L : Loc) (w : World) : Blk → Prop
  | .cells own vs => ∃ (c : Array Value) (e : TypeId) (fz : Nat × Nat), w.heap[L.b]? = some (.cells c e fz) ∧ c.size = L.size ∧ L.base + vs.length ≤ L.size ∧
      (∀ j x, vs[j]? = some x → ∃ v, c[L.base + j]? = some v ∧ SRel ι x v) ∧ (own = true → (fz.1 = 0 ∧ fz.2 = 0 ∧ e = L.ty) ∧ ∀ (j : Nat) (v : Value), c[j]? = some v → oneCell v = true)
  | .map es => ∃ (mes : Array MapEntry) (clk : Nat), w.heap[L.b]? = some (.map mes clk) ∧ All2 (EntRel ι) es mes.toList ∧
      mes.toList.Pairwise (fun x y => x.born < y.born) ∧ ∀ e ∈ mes.toList, e.born < clk
  | .glob g vs => L.b = g ∧ ∃ (c : Array Value) (e : TypeId) (fz : Nat × Nat), w.heap[L.b]? = some (.cells c e fz) ∧ c.size = vs.length ∧ ∀ (j : Nat) (x : S), vs[j]? = some x → ∃ v, c[j]? = some v ∧ SRel ι x v
  | .dead => True
  | .mark vs => ∃ (c : Array Value) (e : TypeId) (fz : Nat × Nat), w.heap[L.b]? = some (.cells c e fz) ∧ c.size = L.size ∧ L.base + vs.length ≤ L.size ∧
      (∀ j x, vs[j]? = some x → ∃ v, c[L.base + j]? = some v ∧ SRel ι x v) ∧ ∀ j, j < c.size → ¬ (fz.1 ≤ j ∧ j < fz.2)
  | .chan cap vs => ∃ (buf : Array Value) (s r : Nat), w.heap[L.b]? = some (.chan cap buf false s r false) ∧ All2 (SRel ι) vs buf.toList

theorem BlkRel.mono {ι κ : Inj} (h : ι.le κ) {L : Loc} {w : World} {b : Blk} (k : BlkRel ι L w b) : BlkRel κ L w b := by
  cases b with
  | cells own vs =>
    obtain ⟨c, e, fz, h1, h2, h3, h4, h5⟩ := k
    exact ⟨c, e, fz, h1, h2, h3, fun j x hx => let ⟨v, hv, r⟩ := h4 j x hx; ⟨v, hv, r.mono h⟩, h5⟩
  | map es =>
    obtain ⟨mes, clk, h1, h2, h3⟩ := k
    exact ⟨mes, clk, h1, forall2_mono (EntRel.mono h) h2, h3⟩
  | glob g vs =>
    obtain ⟨h0, c, e, fz, h1, h2, h3⟩ := k
    exact ⟨h0, c, e, fz, h1, h2, fun j x hx => let ⟨v, hv, r⟩ := h3 j x hx; ⟨v, hv, r.mono h⟩⟩
  | dead => trivial
  | mark vs =>
    obtain ⟨c, e, fz, h1, h2, h3, h4, h5⟩ := k
    exact ⟨c, e, fz, h1, h2, h3, fun j x hx => let ⟨v, hv, r⟩ := h4 j x hx; ⟨v, hv, r.mono h⟩, h5⟩
  | chan cap vs => obtain ⟨buf, s, r, h1, h2⟩ := k; exact ⟨buf, s, r, h1, forall2_mono (fun _ _ => SRel.mono h) h2⟩

theorem BlkRel.congr {ι : Inj} {L : Loc} {w u : World} {b : Blk} (h : u.heap[L.b]? = w.heap[L.b]?) (k : BlkRel ι L w b) : BlkRel ι L u b := by
  cases b with
  | cells own vs => obtain ⟨c, e, fz, h1, h2⟩ := k; exact ⟨c, e, fz, h.trans h1, h2⟩
  | map es => obtain ⟨mes, clk, h1, h2⟩ := k; exact ⟨mes, clk, h.trans h1, h2⟩
  | glob g vs => obtain ⟨h0, c, e, fz, h1, h2⟩ := k; exact ⟨h0, c, e, fz, h.trans h1, h2⟩
  | dead => trivial
  | mark vs => obtain ⟨c, e, fz, h1, h2⟩ := k; exact ⟨c, e, fz, h.trans h1, h2⟩
  | chan cap vs => obtain ⟨c, e, fz, h1, h2⟩ := k; exact ⟨c, e, fz, h.trans h1, h2⟩

theorem BlkRel.lt {ι : Inj} {L : Loc} {w : World} {b : Blk} (k : BlkRel ι L w b) (h : held (some b)) : L.b < w.heap.size := by
  cases b with
  | cells own vs => obtain ⟨c, e, fz, h1, h2⟩ := k; exact (Array.getElem?_eq_some_iff.1 h1).1
  | map es => obtain ⟨mes, clk, h1, h2⟩ := k; exact (Array.getElem?_eq_some_iff.1 h1).1
  | glob g vs => obtain ⟨_, c, e, fz, h1, h2⟩ := k; exact (Array.getElem?_eq_some_iff.1 h1).1
  | dead => exact h.elim
  | mark vs => obtain ⟨c, e, fz, h1, h2⟩ := k; exact (Array.getElem?_eq_some_iff.1 h1).1
  | chan cap vs => obtain ⟨c, e, fz, h1, h2⟩ := k; exact (Array.getElem?_eq_some_iff.1 h1).1

structure Rel (ι : Inj) (g : Nat → Option Blk) (w : World) : Prop where
  blk : ∀ i L b, ι i = some L → g i = some b → BlkRel ι L w b
  sep : ∀ i j L M, ι i = some L → ι j = some M → live (g i) → held (g j) → i ≠ j → L.b ≠ M.b
  glob : ∀ i n vs, g i = some (.glob n vs) → ∃ L, ι i = some L

/-- A block marked behind its end, read as one that is not our own. -/
def demo : Option Blk → Option Blk
  | some (.mark vs) => some (.cells false vs)
  | b => b

theorem Rel.demote {ι : Inj} {g : Nat → Option Blk} {w : World} (h : Rel ι g w) : Rel ι (fun i => demo (g i)) w := by
  refine ⟨fun i L b hL hb => ?_, fun i j L M hL hM hl hh hne => ?_, fun i n vs hg => ?_⟩
  · cases hg : g i with
    | none => rw [hg] at hb; cases hb
    | some c =>
      have hr := h.blk i L c hL hg
      rw [hg] at hb
      cases c with
      | mark vs =>
        cases hb
        obtain ⟨c, e, fz, h1, h2, h3, h4, _⟩ := hr
        exact ⟨c, e, fz, h1, h2, h3, h4, fun h => by cases h⟩
      | cells own vs => cases hb; exact hr
      | map es => cases hb; exact hr
      | glob n vs => cases hb; exact hr
      | dead => cases hb; exact hr
      | chan cap vs => cases hb; exact hr
  · refine h.sep i j L M hL hM ?_ ?_ hne
    · cases hg : g i with
      | none => rw [hg] at hl; exact hl
      | some c => rw [hg] at hl; cases c <;> first | trivial | exact hl
    · cases hg : g j with
      | none => rw [hg] at hh; exact hh
      | some c => rw [hg] at hh; cases c <;> first | trivial | exact hh
  · cases hb : g i with
    | none => rw [hb] at hg; cases hg
    | some c =>
      rw [hb] at hg
      cases c <;> first | cases hg; done | skip
      cases hg
      exact h.glob i n vs hb

/-- A store whose blocks beyond its size are none. -/
def St.wf (σ : St) : Prop := ∀ i, σ.size ≤ i → σ.get i = none

theorem St.wf.lt {σ : St} (h : σ.wf) {i : Nat} {b : Blk} (k : σ.get i = some b) : i < σ.size := by
  rcases Nat.lt_or_ge i σ.size with h' | h'
  · exact h'
  · rw [h i h'] at k; cases k

theorem St.wf_push {σ : St} (h : σ.wf) (b : Blk) : (σ.push b).wf := by
  intro i hi
  simp only [St.size_push] at hi
  rw [St.get_push_ne _ _ (by omega)]
  exact h i (by omega)

theorem St.wf_set {σ : St} (h : σ.wf) {i : Nat} (hi : i < σ.size) (b : Blk) : (σ.set i b).wf := by
  intro k hk
  simp only [St.size_set] at hk
  rw [St.get_set_ne _ _ (by omega)]
  exact h k hk

theorem St.wf_empty : St.empty.wf := fun _ _ => rfl

structure Ext (ι : Inj) (σ : St) (w : World) (κ : Inj) (τ : St) (u : World) : Prop where
  size : σ.size ≤ τ.size
  agree : ∀ i, (i < σ.size ∨ τ.size ≤ i) → κ i = ι i
  own : ∀ i, i < σ.size → live (τ.get i) → live (σ.get i)
  hold : ∀ i, i < σ.size → held (τ.get i) → held (σ.get i)
  ghost : ∀ i, i < σ.size → ι i = none → τ.get i = σ.get i
  fresh : ∀ i L, σ.size ≤ i → i < τ.size → κ i = some L → held (τ.get i) → w.heap.size ≤ L.b ∨ ∃ j M, j < σ.size ∧ ι j = some M ∧ M.b = L.b ∧ live (σ.get j)
  os : u.os = w.os
  output : u.output = w.output
  hsize : w.heap.size ≤ u.heap.size
  keep : ∀ k, k < w.heap.size → (∀ i L, i < σ.size → ι i = some L → live (σ.get i) → L.b ≠ k) → u.heap[k]? = w.heap[k]?

theorem Ext.refl (ι : Inj) (σ : St) (w : World) : Ext ι σ w ι σ w :=
  ⟨Nat.le_refl _, fun _ _ => rfl, fun _ _ h => h, fun _ _ h => h, fun _ _ _ => rfl, fun i _ h1 h2 => by omega, rfl, rfl, Nat.le_refl _, fun _ _ _ => rfl⟩

theorem Ext.trans {ι κ l : Inj} {σ τ υ : St} {w u x : World} (h : Ext ι σ w κ τ u) (k : Ext κ τ u l υ x) : Ext ι σ w l υ x where
  size := Nat.le_trans h.size k.size
  agree := fun i hi => by
    rcases hi with hi | hi
    · rw [k.agree i (.inl (Nat.lt_of_lt_of_le hi h.size)), h.agree i (.inl hi)]
    · rw [k.agree i (.inr hi), h.agree i (.inr (Nat.le_trans k.size hi))]
  own := fun i hi hl => h.own i hi (k.own i (Nat.lt_of_lt_of_le hi h.size) hl)
  hold := fun i hi hl => h.hold i hi (k.hold i (Nat.lt_of_lt_of_le hi h.size) hl)
  ghost := fun i hi hn => by
    rw [k.ghost i (Nat.lt_of_lt_of_le hi h.size) (by rw [h.agree i (.inl hi)]; exact hn), h.ghost i hi hn]
  fresh := fun i L h1 h2 hL hl => by
    rcases Nat.lt_or_ge i τ.size with hi | hi
    · rw [k.agree i (.inl hi)] at hL
      exact h.fresh i L h1 hi hL (k.hold i hi hl)
    · rcases k.fresh i L hi h2 hL hl with f | ⟨j, M, hj, hM, e, hlj⟩
      · exact .inl (Nat.le_trans h.hsize f)
      · rcases Nat.lt_or_ge j σ.size with hj' | hj'
        · rw [h.agree j (.inl hj')] at hM
          exact .inr ⟨j, M, hj', hM, e, h.own j hj' hlj⟩
        · have := h.fresh j M hj' hj hM hlj.held
          rwa [e] at this
  os := k.os.trans h.os
  output := k.output.trans h.output
  hsize := Nat.le_trans h.hsize k.hsize
  keep := fun b hb hn => by
    rw [k.keep b (Nat.lt_of_lt_of_le hb h.hsize), h.keep b hb hn]
    intro i L hi hL hl e
    rcases Nat.lt_or_ge i σ.size with hi' | hi'
    · rw [h.agree i (.inl hi')] at hL
      exact hn i L hi' hL (h.own i hi' hl) e
    · rcases h.fresh i L hi' hi hL hl.held with f | ⟨j, M, hj, hM, e', hlj⟩
      · omega
      · exact hn j M hj hM hlj (e'.trans e)

/-- The new numbers are free: what was related stays so. -/
def Free (ι : Inj) (a b : Nat) : Prop := ∀ i, a ≤ i → i < b → ι i = none

theorem Ext.le {ι κ : Inj} {σ τ : St} {w u : World} (h : Ext ι σ w κ τ u) (hf : Free ι σ.size τ.size) : ι.le κ := by
  intro i L hL
  rcases Nat.lt_or_ge i σ.size with hi | hi
  · rw [h.agree i (.inl hi)]; exact hL
  · rcases Nat.lt_or_ge i τ.size with hi' | hi'
    · rw [hf i hi hi'] at hL; cases hL
    · rw [h.agree i (.inr hi')]; exact hL

theorem Free.sub {ι : Inj} {a b a' b' : Nat} (h : Free ι a b) (h1 : a ≤ a') (h2 : b' ≤ b) : Free ι a' b' := fun i k l => h i (Nat.le_trans h1 k) (Nat.lt_of_lt_of_le l h2)
theorem Free.next {ι κ : Inj} {σ τ : St} {w u : World} {n : Nat} (h : Free ι σ.size n) (e : Ext ι σ w κ τ u) : Free κ τ.size n := fun i k l => by
  rw [e.agree i (.inr k)]; exact h i (Nat.le_trans e.size k) l

/-- A world that differs by its draws alone. -/
theorem Rel.heap {ι : Inj} {g : Nat → Option Blk} {w u : World} (h : Rel ι g w) (e : u.heap = w.heap) : Rel ι g u :=
  ⟨fun i L b h1 h2 => (h.blk i L b h1 h2).congr (by rw [e]), h.sep, h.glob⟩

theorem Ext.heap {ι : Inj} {σ : St} {w u : World} (e : u.heap = w.heap) (h1 : u.os = w.os) (h2 : u.output = w.output) : Ext ι σ w ι σ u :=
  ⟨Nat.le_refl _, fun _ _ => rfl, fun _ _ h => h, fun _ _ h => h, fun _ _ _ => rfl, fun i _ h1 h2 => by omega, h1, h2, by rw [e]; exact Nat.le_refl _, fun _ _ _ => by rw [e]⟩

section loads
variable {P : Program} {ι : Inj} {g : Nat → Option Blk} {w : World}

theorem cell_of {i o : Nat} {L : Loc} {own : Bool} {vs : List S} {x : S} (h : Rel ι g w) (hL : ι i = some L) (hb : g i = some (.cells own vs)) (hx : vs[o]? = some x) :
    ∃ v, w.cell? ⟨L.b, L.base + o, none⟩ = some v ∧ SRel ι x v := by
  obtain ⟨c, e, fz, h1, h2, h3, h4, h5⟩ := h.blk i L _ hL hb
  obtain ⟨v, hv, r⟩ := h4 o x hx
  exact ⟨v, by simp [World.cell?, h1, hv], r⟩

theorem run_load_of {i o : Nat} {L : Loc} {own : Bool} {vs : List S} {x : S} (h : Rel ι g w) (hL : ι i = some L) (hb : g i = some (.cells own vs)) (hx : vs[o]? = some x) :
    ∃ v, (load ⟨L.b, L.base + o, none⟩).run P w = .ok v w ∧ SRel ι x v := by
  obtain ⟨v, hv, r⟩ := cell_of h hL hb hx
  exact ⟨v, by simp [load, Sem.run, hv], r⟩

theorem run_bind {α β : Type} (m : Sem α) (f : α → Sem β) (w : World) : (m >>= f).run P w = match m.run P w with | .ok a u => (f a).run P u | .halt h u => .halt h u := by
  show (m.bind f).run P w = _
  induction m generalizing w with
  | pure a => rfl
  | load md a k ih =>
    simp only [Sem.bind, Sem.run]
    (repeat' split) <;> simp_all
  | store md a v k ih =>
    cases v <;> simp only [Sem.bind, Sem.run] <;> first | rfl | ((repeat' split) <;> simp_all)
  | new o k ih => simp only [Sem.bind, Sem.run, ih]
  | shape r k ih => simp only [Sem.bind, Sem.run, ih]
  | freeze a n k ih => simp only [Sem.bind, Sem.run, ih]
  | frozen a k ih => simp only [Sem.bind, Sem.run, ih]
  | getObj r k ih =>
    simp only [Sem.bind, Sem.run]
    (repeat' split) <;> simp_all
  | setObj r o k ih =>
    simp only [Sem.bind, Sem.run]
    (repeat' split) <;> simp_all
  | choose q k ih =>
    simp only [Sem.bind, Sem.run]
    (repeat' split) <;> simp_all
  | sys c k ih => simp only [Sem.bind, Sem.run, ih]
  | program k ih => simp only [Sem.bind, Sem.run, ih]
  | mark m k ih => simp only [Sem.bind, Sem.run, ih]
  | halt h => rfl

theorem run_pure {α : Type} (a : α) (w : World) : (pure a : Sem α).run P w = .ok a w := rfl

theorem add_eq (b o n : Nat) : (⟨b, o, none⟩ : Addr).add n = ⟨b, o + n, none⟩ := by
  unfold Addr.add
  by_cases h : n = 0
  · simp [h]
  · simp [h]

theorem run_loadFrom {i o : Nat} {L : Loc} {own : Bool} {vs : List S} (h : Rel ι g w) (hL : ι i = some L) (hb : g i = some (.cells own vs)) :
    ∀ (n k : Nat) (acc : Array Value) (xs : List S), (vs.drop (o + k)).take n = xs → xs.length = n →
      ∃ cs : List Value, (loadCellsFrom ⟨L.b, L.base + o, none⟩ k n acc).run P w = .ok (acc ++ cs.toArray) w ∧ All2 (SRel ι) xs cs := by
  intro n
  induction n with
  | zero =>
    intro k acc xs he hl
    have : xs = [] := List.eq_nil_of_length_eq_zero hl
    subst this
    exact ⟨[], by simp [loadCellsFrom, run_pure], .nil⟩
  | succ n ih =>
    intro k acc xs he hl
    cases xs with
    | nil => simp at hl
    | cons x xs =>
      have hx : vs[o + k]? = some x := by
        have := congrArg (·[0]?) he
        simpa [List.getElem?_take, List.getElem?_drop] using this
      have hr : (vs.drop (o + (k + 1))).take n = xs := by
        have := congrArg List.tail he
        rw [List.tail_cons] at this
        rw [← this]
        cases hd : vs.drop (o + k) with
        | nil => rw [hd] at he; simp at he
        | cons y ys =>
          have : vs.drop (o + (k + 1)) = ys := by
            rw [← Nat.add_assoc, ← List.drop_drop, hd]; rfl
          simp [this]
      obtain ⟨v, hv, r⟩ := run_load_of (P := P) h hL hb hx
      obtain ⟨cs, hcs, rs⟩ := ih (k + 1) (acc.push v) xs hr (by simpa using hl)
      refine ⟨v :: cs, ?_, .cons r rs⟩
      simp only [loadCellsFrom, run_bind, add_eq, Nat.add_assoc, hv, hcs]
      simp

theorem run_loadCells {i o n : Nat} {L : Loc} {own : Bool} {vs xs : List S} (h : Rel ι g w) (hL : ι i = some L) (hb : g i = some (.cells own vs))
    (he : (vs.drop o).take n = xs) (hl : xs.length = n) :
    ∃ cs : List Value, (loadCells ⟨L.b, L.base + o, none⟩ n).run P w = .ok cs.toArray w ∧ All2 (SRel ι) xs cs := by
  obtain ⟨cs, h1, h2⟩ := run_loadFrom (P := P) (o := o) h hL hb n 0 #[] xs (by simpa using he) hl
  exact ⟨cs, by simpa [loadCells] using h1, h2⟩
end loads
end Go.Abs

/-
  New blocks and stores: what they do to the store and to the world.
-/
namespace Go.Abs
open Go

/-- A run that ends well, in a world that the new store reads. -/
def Does (P : Program) (ι : Inj) (σ : St) (w : World) {α : Type} (m : Sem α) (τ : St) (R : Inj → α → Prop) : Prop :=
  ∃ κ u a, m.run P w = .ok a u ∧ Ext ι σ w κ τ u ∧ Rel κ τ.get u ∧ R κ a

def upd (ι : Inj) (n : Nat) (L : Loc) : Inj := fun i => if i = n then some L else ι i
theorem upd_same (ι : Inj) (n : Nat) (L : Loc) : upd ι n L n = some L := by simp [upd]
theorem upd_ne (ι : Inj) {n i : Nat} (L : Loc) (h : i ≠ n) : upd ι n L i = ι i := by simp [upd, h]
theorem le_upd {ι : Inj} {n : Nat} (L : Loc) (h : ι n = none) : ι.le (upd ι n L) := by
  intro i M hM
  by_cases e : i = n
  · subst e; rw [h] at hM; cases hM
  · rw [upd_ne _ _ e]; exact hM

def isCells : Obj → Prop
  | .cells .. => True
  | .map .. => True
  | _ => False

theorem push_get (w : World) (o : Obj) (k : Nat) (h : k < w.heap.size) : (w.heap.push o)[k]? = w.heap[k]? := by
  rw [Array.getElem?_push, if_neg (by omega)]
theorem push_last (w : World) (o : Obj) : (w.heap.push o)[w.heap.size]? = some o := by simp

theorem live_of_push {σ : St} {b : Blk} {i : Nat} (h : i ≠ σ.size) : (σ.push b).get i = σ.get i := St.get_push_ne _ _ h

/-- A new block in the world, a new number in the store. -/
theorem rel_push {ι : Inj} {σ : St} {w : World} (h : Rel ι σ.get w) (wf : σ.wf) (hf : ι σ.size = none) (o : Obj) (L : Loc) (b : Blk) (hL : L.b = w.heap.size)
    (hb : BlkRel (upd ι σ.size L) L { w with heap := w.heap.push o } b) :
    Ext ι σ w (upd ι σ.size L) (σ.push b) { w with heap := w.heap.push o } ∧ Rel (upd ι σ.size L) (σ.push b).get { w with heap := w.heap.push o } := by
  have hle := le_upd L hf
  constructor
  · refine ⟨by simp, ?_, ?_, ?_, ?_, ?_, rfl, rfl, by simp, ?_⟩
    · intro i hi
      simp only [St.size_push] at hi
      exact upd_ne _ _ (by omega)
    · intro i hi hl
      rwa [live_of_push (by omega)] at hl
    · intro i hi hl
      rwa [live_of_push (by omega)] at hl
    · intro i hi _
      exact live_of_push (by omega)
    · intro i M h1 h2 hM hl
      simp only [St.size_push] at h2
      have : i = σ.size := by omega
      subst this
      rw [upd_same] at hM
      cases hM
      exact .inl (by omega)
    · intro k hk _
      exact push_get w o k hk
  · constructor
    · intro i M c hM hc
      by_cases e : i = σ.size
      · subst e
        rw [upd_same] at hM; cases hM
        rw [St.get_push_same] at hc; cases hc
        exact hb
      · rw [upd_ne _ _ e] at hM
        rw [live_of_push e] at hc
        have hr := h.blk i M c hM hc
        cases c with
        | dead => trivial
        | cells own vs => exact (hr.mono hle).congr (push_get w o _ (hr.lt trivial))
        | map es => exact (hr.mono hle).congr (push_get w o _ (hr.lt trivial))
        | chan cap vs => exact (hr.mono hle).congr (push_get w o _ (hr.lt trivial))
        | glob g vs => exact (hr.mono hle).congr (push_get w o _ (hr.lt trivial))
        | mark vs => exact (hr.mono hle).congr (push_get w o _ (hr.lt trivial))
    · intro i j M N hM hN hl hh hne
      by_cases e : i = σ.size
      · subst e
        rw [upd_same] at hM; cases hM
        have ej : j ≠ σ.size := fun x => hne x.symm
        rw [upd_ne _ _ ej] at hN
        rw [live_of_push ej] at hh
        cases hg : σ.get j with
        | none => rw [hg] at hh; exact hh.elim
        | some c =>
          rw [hg] at hh
          have := (h.blk j N c hN hg).lt hh
          omega
      · rw [upd_ne _ _ e] at hM
        rw [live_of_push e] at hl
        by_cases ej : j = σ.size
        · subst ej
          rw [upd_same] at hN; cases hN
          cases hg : σ.get i with
          | none => rw [hg] at hl; exact hl.elim
          | some c =>
            rw [hg] at hl
            have := (h.blk i M c hM hg).lt hl.held
            omega
        · rw [upd_ne _ _ ej] at hN
          rw [live_of_push ej] at hh
          exact h.sep i j M N hM hN hl hh hne
    · intro i n vs hg
      by_cases e : i = σ.size
      · subst e; exact ⟨_, upd_same _ _ _⟩
      · rw [live_of_push e] at hg
        obtain ⟨M, hM⟩ := h.glob i n vs hg
        exact ⟨M, by rw [upd_ne _ _ e]; exact hM⟩

theorem all2_oneCell {ι : Inj} {xs : List S} {cs : List Value} (h : All2 (SRel ι) xs cs) : ∀ v ∈ cs, Abs.oneCell v = true := by
  induction h with
  | nil => intro v hv; cases hv
  | cons a _ ih =>
    intro v hv
    cases hv with
    | head => exact (SRel.oneCell a).1
    | tail _ hv => exact ih v hv

theorem cells_oneCell {ι : Inj} {xs : List S} {cs : List Value} {more : Array Value} (h : All2 (SRel ι) xs cs) (hm : ∀ v ∈ more.toList, oneCell v = true) (j : Nat) (v : Value) (hj : (cs.toArray ++ more)[j]? = some v) : oneCell v = true := by
  have hv : v ∈ (cs.toArray ++ more).toList := by
    have := Array.mem_of_getElem? hj
    exact Array.mem_toList_iff.2 this
  rw [Array.toList_append] at hv
  rcases List.mem_append.1 hv with hv | hv
  · exact all2_oneCell h v hv
  · exact hm v hv

/-- Cells behind a run of stores. -/
theorem stored_oneCell {c c' : Array Value} {cs : List Value} {k : Nat} (hc : ∀ (j : Nat) (v : Value), c[j]? = some v → oneCell v = true) (hs : ∀ v ∈ cs, oneCell v = true) (n : Nat)
    (hg : ∀ j : Nat, c'[j]? = if k ≤ j ∧ j < n then cs[j - k]? else c[j]?) (j : Nat) (v : Value) (hj : c'[j]? = some v) : oneCell v = true := by
  rw [hg] at hj
  split at hj
  · exact hs v (List.mem_of_getElem? hj)
  · exact hc j v hj

/-- The cells of a row that is laid anew. -/
theorem does_newRow {P : Program} {ι : Inj} {σ : St} {w : World} (h : Rel ι σ.get w) (wf : σ.wf) (hf : ι σ.size = none) (e : TypeId) {own : Bool} {vs : List S} {cs : List Value}
    (more : Array Value) (hm : ∀ v ∈ more.toList, oneCell v = true) (hv : All2 (SRel ι) vs cs) :
    Does P ι σ w (newRow e (cs.toArray ++ more)) (σ.push (.cells own vs)) fun κ a =>
      κ = upd ι σ.size ⟨w.heap.size, 0, cs.length + more.size, e⟩ ∧ a = ⟨w.heap.size, 0, none⟩ := by
  have hlen := forall2_length hv
  let L : Loc := ⟨w.heap.size, 0, cs.length + more.size, e⟩
  obtain ⟨he, hr⟩ := rel_push h wf hf (.cells (cs.toArray ++ more) e (0, 0)) L (.cells own vs) rfl (by
    refine ⟨cs.toArray ++ more, e, (0, 0), push_last w _, by simp [L], by simp [L]; omega, ?_, fun _ => ⟨⟨rfl, rfl, rfl⟩, cells_oneCell hv hm⟩⟩
    intro j x hx
    obtain ⟨v, hv', r⟩ := forall2_get hv j x hx
    refine ⟨v, ?_, r.mono (le_upd L hf)⟩
    have hj : j < cs.length := (List.getElem?_eq_some_iff.1 hv').1
    simp only [L, Nat.zero_add]
    rw [Array.getElem?_append_left (by simpa using hj)]
    simpa using hv')
  exact ⟨_, _, _, rfl, he, hr, rfl, rfl⟩

theorem does_newMap {P : Program} {ι : Inj} {σ : St} {w : World} (h : Rel ι σ.get w) (wf : σ.wf) (hf : ι σ.size = none) :
    Does P ι σ w (newObj (.map #[] 0)) (σ.push (.map [])) fun κ a => κ = upd ι σ.size ⟨w.heap.size, 0, 0, 0⟩ ∧ a = w.heap.size := by
  obtain ⟨he, hr⟩ := rel_push h wf hf (.map #[] 0) ⟨w.heap.size, 0, 0, 0⟩ (.map []) rfl (by
    exact ⟨#[], 0, push_last w _, .nil, .nil, by simp⟩)
  exact ⟨_, _, _, rfl, he, hr, rfl, rfl⟩

/-- A block of the world turned, and the block of the store that it is. -/
theorem rel_set {ι : Inj} {σ : St} {w : World} (h : Rel ι σ.get w) (wf : σ.wf) {i : Nat} {L : Loc} {b : Blk} (hL : ι i = some L) (hb : σ.get i = some b) (hl : live (some b)) (o : Obj) (b' : Blk)
    (hh : held (some b')) (hb' : BlkRel ι L { w with heap := w.heap.setIfInBounds L.b o } b') :
    Ext ι σ w ι (σ.set i b') { w with heap := w.heap.setIfInBounds L.b o } ∧ Rel ι (σ.set i b').get { w with heap := w.heap.setIfInBounds L.b o } := by
  have hi := wf.lt hb
  have hold : ∀ k, k ≠ L.b → (w.heap.setIfInBounds L.b o)[k]? = w.heap[k]? := fun k hk => Array.getElem?_setIfInBounds_ne (fun e => hk e.symm)
  constructor
  · refine ⟨Nat.le_refl _, fun _ _ => rfl, ?_, ?_, ?_, fun k M h1 h2 => by simp at h2; omega, rfl, rfl, by simp, ?_⟩
    · intro k hk hlk
      by_cases e : k = i
      · subst e; rw [hb]; exact hl
      · rwa [St.get_set_ne _ _ e] at hlk
    · intro k hk hlk
      by_cases e : k = i
      · subst e; rw [hb]; exact hl.held
      · rwa [St.get_set_ne _ _ e] at hlk
    · intro k hk hnk
      by_cases e : k = i
      · subst e; rw [hL] at hnk; cases hnk
      · exact St.get_set_ne _ _ e
    · intro k hk hn
      refine hold k fun e => ?_
      exact hn i L hi hL (by rw [hb]; exact hl) e.symm
  · constructor
    · intro k M c hM hc
      by_cases e : k = i
      · subst e
        rw [hL] at hM; cases hM
        rw [St.get_set_same] at hc; cases hc
        exact hb'
      · rw [St.get_set_ne _ _ e] at hc
        have hr := h.blk k M c hM hc
        cases c with
        | dead => trivial
        | cells own vs => exact hr.congr (hold _ (Ne.symm (h.sep i k L M hL hM (by rw [hb]; exact hl) (by rw [hc]; trivial) (Ne.symm e))))
        | map es => exact hr.congr (hold _ (Ne.symm (h.sep i k L M hL hM (by rw [hb]; exact hl) (by rw [hc]; trivial) (Ne.symm e))))
        | chan cap vs => exact hr.congr (hold _ (Ne.symm (h.sep i k L M hL hM (by rw [hb]; exact hl) (by rw [hc]; trivial) (Ne.symm e))))
        | glob g vs => exact hr.congr (hold _ (Ne.symm (h.sep i k L M hL hM (by rw [hb]; exact hl) (by rw [hc]; trivial) (Ne.symm e))))
        | mark vs => exact hr.congr (hold _ (Ne.symm (h.sep i k L M hL hM (by rw [hb]; exact hl) (by rw [hc]; trivial) (Ne.symm e))))
    · intro k j M N hM hN hlk hhj hne
      by_cases e : k = i
      · subst e
        rw [hL] at hM; cases hM
        have ej : j ≠ k := Ne.symm hne
        rw [St.get_set_ne _ _ ej] at hhj
        exact h.sep k j L N hL hN (by rw [hb]; exact hl) hhj hne
      · rw [St.get_set_ne _ _ e] at hlk
        by_cases ej : j = i
        · subst ej
          rw [hL] at hN; cases hN
          exact h.sep k j M L hM hL hlk (by rw [hb]; exact hl.held) hne
        · rw [St.get_set_ne _ _ ej] at hhj
          exact h.sep k j M N hM hN hlk hhj hne
    · intro k n vs hg
      by_cases e : k = i
      · subst e; exact ⟨L, hL⟩
      · rw [St.get_set_ne _ _ e] at hg
        exact h.glob k n vs hg

/-- Cells written from a place on. -/
def setRange (vs : List S) (o : Nat) : List S → List S
  | [] => vs
  | x :: xs => setRange (vs.set o x) (o + 1) xs

@[simp] theorem setRange_length (vs : List S) (o : Nat) (xs : List S) : (setRange vs o xs).length = vs.length := by
  induction xs generalizing vs o with
  | nil => rfl
  | cons x xs ih => simp [setRange, ih]

theorem setRange_get (xs : List S) : ∀ (vs : List S) (o j : Nat), o + xs.length ≤ vs.length →
    (setRange vs o xs)[j]? = if o ≤ j ∧ j < o + xs.length then xs[j - o]? else vs[j]? := by
  induction xs with
  | nil => intro vs o j h; simp only [setRange, List.length_nil]; rw [if_neg (by omega)]
  | cons x xs ih =>
    intro vs o j h
    simp only [List.length_cons] at h
    simp only [setRange]
    rw [ih _ _ _ (by simp; omega)]
    by_cases h1 : o + 1 ≤ j ∧ j < o + 1 + xs.length
    · rw [if_pos h1, if_pos (by simp; omega)]
      obtain ⟨k, rfl⟩ : ∃ k, j = o + 1 + k := ⟨j - (o + 1), by omega⟩
      have e1 : o + 1 + k - (o + 1) = k := by omega
      have e2 : o + 1 + k - o = k + 1 := by omega
      rw [e1, e2]; simp
    · rw [if_neg h1]
      by_cases h2 : j = o
      · subst h2
        rw [if_pos (by simp)]
        simp only [Nat.sub_self, List.getElem?_cons_zero]
        rw [List.getElem?_set_self (by omega)]
      · rw [if_neg (by simp; omega), List.getElem?_set_ne (Ne.symm h2)]

theorem setRange_eq (vs : List S) (o : Nat) (xs : List S) (h : o + xs.length ≤ vs.length) : setRange vs o xs = vs.take o ++ xs ++ vs.drop (o + xs.length) := by
  apply List.ext_getElem?
  intro j
  rw [setRange_get xs vs o j h]
  by_cases h1 : j < o
  · rw [if_neg (by omega), List.append_assoc, List.getElem?_append_left (by simp; omega)]
    simp [List.getElem?_take, h1]
  · by_cases h2 : j < o + xs.length
    · rw [if_pos (by omega), List.append_assoc, List.getElem?_append_right (by simp; omega), List.getElem?_append_left (by simp; omega)]
      have : min o vs.length = o := by omega
      simp [this]
    · rw [if_neg (by omega), List.getElem?_append_right (by simp; omega), List.getElem?_drop]
      simp only [List.length_append, List.length_take]
      have : min o vs.length = o := by omega
      rw [this]
      congr 1; omega

/-- What a run of stores leaves. -/
theorem run_storeCells (P : Program) (bk : Nat) (e : TypeId) (fz : Nat × Nat) : ∀ (cs : List Value) (off k : Nat) (w : World) (c : Array Value),
    w.heap[bk]? = some (.cells c e fz) → off + k + cs.length ≤ c.size → (∀ j, j < c.size → ¬ (fz.1 ≤ j ∧ j < fz.2)) → (∀ v ∈ cs, Abs.oneCell v = true) →
    ∃ c', (storeCells ⟨bk, off, none⟩ cs k).run P w = .ok () { w with heap := w.heap.setIfInBounds bk (.cells c' e fz) } ∧ c'.size = c.size ∧
      ∀ j : Nat, c'[j]? = if off + k ≤ j ∧ j < off + k + cs.length then cs[j - (off + k)]? else c[j]? := by
  intro cs
  induction cs with
  | nil =>
    intro off k w c hc _ _ _
    refine ⟨c, ?_, rfl, fun j => by rw [if_neg (by simp only [List.length_nil]; omega)]⟩
    have : w.heap.setIfInBounds bk (.cells c e fz) = w.heap := by
      apply Array.ext_getElem?
      intro j
      by_cases h : bk = j
      · subst h
        have hlt := (Array.getElem?_eq_some_iff.1 hc).1
        rw [hc, Array.getElem?_setIfInBounds_self_of_lt hlt]
      · rw [Array.getElem?_setIfInBounds_ne h]
    rw [this]
    rfl
  | cons v cs ih =>
    intro off k w c hc hle hfz hone
    simp only [List.length_cons] at hle
    have hlt := (Array.getElem?_eq_some_iff.1 hc).1
    have hcell : w.cell? ⟨bk, off + k, none⟩ = some c[off + k] := by
      simp [World.cell?, hc]
    have hnf : w.frozen? ⟨bk, off + k, none⟩ = false := by
      have := hfz (off + k) (by omega)
      simp only [World.frozen?, hc]
      simpa using this
    have hv := hone v (by simp)
    have hstore : (store ⟨bk, off + k, none⟩ v).run P w = .ok () (w.setCell ⟨bk, off + k, none⟩ v) := by
      cases v <;> simp [Abs.oneCell] at hv <;> simp [store, Sem.run, hcell, hnf]
    have hset : w.setCell ⟨bk, off + k, none⟩ v = { w with heap := w.heap.setIfInBounds bk (.cells (c.setIfInBounds (off + k) v) e fz) } := by
      unfold World.setCell
      congr 1
      apply Array.ext_getElem?
      intro j
      rw [Array.getElem?_modify]
      by_cases h : bk = j
      · subst h
        rw [if_pos rfl, hc, Array.getElem?_setIfInBounds_self_of_lt hlt]
        simp
      · rw [if_neg h, Array.getElem?_setIfInBounds_ne h]
    obtain ⟨c', hrun, hsz, hget⟩ := ih off (k + 1) (w.setCell ⟨bk, off + k, none⟩ v) (c.setIfInBounds (off + k) v)
      (by rw [hset]; simp [hlt]) (by simp; omega) (by simpa using hfz) (fun x hx => hone x (by simp [hx]))
    refine ⟨c', ?_, by simpa using hsz, ?_⟩
    · simp only [storeCells, run_bind, add_eq, hstore, hrun]
      rw [hset]
      simp
    · intro j
      rw [hget j]
      by_cases h1 : off + (k + 1) ≤ j ∧ j < off + (k + 1) + cs.length
      · rw [if_pos h1, if_pos (by simp; omega)]
        obtain ⟨m, rfl⟩ : ∃ m, j = off + (k + 1) + m := ⟨j - (off + (k + 1)), by omega⟩
        have e1 : off + (k + 1) + m - (off + (k + 1)) = m := by omega
        have e2 : off + (k + 1) + m - (off + k) = m + 1 := by omega
        rw [e1, e2]; simp
      · rw [if_neg h1]
        by_cases h2 : j = off + k
        · subst h2
          rw [if_pos (by simp)]
          rw [Array.getElem?_setIfInBounds_self_of_lt (by omega)]
          simp
        · rw [if_neg (by simp only [List.length_cons]; omega), Array.getElem?_setIfInBounds_ne (Ne.symm h2)]

theorem does_storeCells {P : Program} {ι : Inj} {σ : St} {w : World} (h : Rel ι σ.get w) (wf : σ.wf) {i o : Nat} {L : Loc} {vs xs : List S} {cs : List Value}
    (hL : ι i = some L) (hb : σ.get i = some (.cells true vs)) (hle : o + xs.length ≤ vs.length) (hx : All2 (SRel ι) xs cs) :
    Does P ι σ w (storeCells ⟨L.b, L.base + o, none⟩ cs) (σ.set i (.cells true (setRange vs o xs))) fun κ _ => κ = ι := by
  obtain ⟨c, e, fz, h1, h2, h3, h4, h5⟩ := h.blk i L _ hL hb
  have hlen := forall2_length hx
  obtain ⟨c', hrun, hsz, hget⟩ := run_storeCells P L.b e fz cs (L.base + o) 0 w c h1 (by omega) (fun j hj hh => by have := (h5 rfl).1; omega) (all2_oneCell hx)
  simp only [Nat.add_zero] at hget
  have hlt := (Array.getElem?_eq_some_iff.1 h1).1
  obtain ⟨he, hr⟩ := rel_set h wf hL hb trivial (.cells c' e fz) (.cells true (setRange vs o xs)) trivial (by
    refine ⟨c', e, fz, by simp [hlt], by omega, by simpa using h3, ?_, fun _ => ⟨by have := (h5 rfl).1; omega, stored_oneCell (h5 rfl).2 (all2_oneCell hx) _ hget⟩⟩
    intro j x hj
    rw [setRange_get xs vs o j hle] at hj
    rw [hget (L.base + j)]
    by_cases hin : o ≤ j ∧ j < o + xs.length
    · rw [if_pos hin] at hj
      obtain ⟨v, hv, r⟩ := forall2_get hx _ _ hj
      rw [if_pos (by omega)]
      have e1 : L.base + j - (L.base + o) = j - o := by omega
      rw [e1]
      exact ⟨v, hv, r⟩
    · rw [if_neg hin] at hj
      rw [if_neg (by omega)]
      exact h4 j x hj)
  exact ⟨_, _, _, hrun, he, hr, rfl⟩

/-- A store into a block that is marked behind its end. -/
theorem does_storeMark {P : Program} {ι : Inj} {σ : St} {w : World} (h : Rel ι σ.get w) (wf : σ.wf) {i o : Nat} {L : Loc} {vs xs : List S} {cs : List Value}
    (hL : ι i = some L) (hb : σ.get i = some (.mark vs)) (hle : o + xs.length ≤ vs.length) (hx : All2 (SRel ι) xs cs) :
    Does P ι σ w (storeCells ⟨L.b, L.base + o, none⟩ cs) (σ.set i (.cells false (setRange vs o xs))) fun κ _ => κ = ι := by
  obtain ⟨c, e, fz, h1, h2, h3, h4, h5⟩ := h.blk i L _ hL hb
  have hlen := forall2_length hx
  obtain ⟨c', hrun, hsz, hget⟩ := run_storeCells P L.b e fz cs (L.base + o) 0 w c h1 (by omega) h5 (all2_oneCell hx)
  simp only [Nat.add_zero] at hget
  have hlt := (Array.getElem?_eq_some_iff.1 h1).1
  obtain ⟨he, hr⟩ := rel_set h wf hL hb trivial (.cells c' e fz) (.cells false (setRange vs o xs)) trivial (by
    refine ⟨c', e, fz, by simp [hlt], by omega, by simpa using h3, ?_, fun h => by cases h⟩
    intro j x hj
    rw [setRange_get xs vs o j hle] at hj
    rw [hget (L.base + j)]
    by_cases hin : o ≤ j ∧ j < o + xs.length
    · rw [if_pos hin] at hj
      obtain ⟨v, hv, r⟩ := forall2_get hx _ _ hj
      rw [if_pos (by omega)]
      have e1 : L.base + j - (L.base + o) = j - o := by omega
      rw [e1]
      exact ⟨v, hv, r⟩
    · rw [if_neg hin] at hj
      rw [if_neg (by omega)]
      exact h4 j x hj)
  exact ⟨_, _, _, hrun, he, hr, rfl⟩
end Go.Abs

/-
  Operations that read temporaries alone.
-/
namespace Go.Abs
open Go

abbrev B (b : Bool) : T := .v (.s (.bool b))
abbrev I (k : IntKind) (n : Int) : T := .v (.s (.int k n))
abbrev Z (x : S) : T := .v (.s x)

/-- A constant. -/
def absS : Value → Option S
  | .bool b => some (.bool b)
  | .int k n => some (.int k n)
  | .string s => some (.str s.data.toList)
  | .pointer none => some .nilp
  | .slice none 0 0 => some .nils
  | .map none => some .nilm
  | .nilFunc => some .nilf
  | .nilIface => some .nili
  | .chan none => some .nilc
  | _ => none

def absAll : List Value → Option (List S)
  | [] => some []
  | v :: r => match absS v, absAll r with
    | some x, some l => some (x :: l)
    | _, _ => none

def absV : Value → Option V
  | .agg cs => (absAll cs.toList).map .agg
  | v => (absS v).map .s

theorem absS_rel {ι : Inj} {v : Value} {x : S} (h : absS v = some x) : SRel ι x v := by
  unfold absS at h
  split at h <;> first | (cases h; done) | (cases h; first | rfl | exact ⟨_, rfl, rfl⟩)

theorem absAll_rel {ι : Inj} : ∀ {l : List Value} {m : List S}, absAll l = some m → All2 (SRel ι) m l := by
  intro l
  induction l with
  | nil => intro m h; cases h; exact .nil
  | cons v r ih =>
    intro m h
    simp only [absAll] at h
    split at h
    · rename_i x l' h1 h2; cases h; exact .cons (absS_rel h1) (ih h2)
    · cases h

theorem absV_rel {ι : Inj} {v : Value} {x : V} (h : absV v = some x) : VRel ι x v := by
  unfold absV at h
  split at h
  · rename_i cs
    cases hc : absAll cs.toList with
    | none => rw [hc] at h; cases h
    | some l => rw [hc] at h; cases h; exact ⟨cs.toList, by simp, absAll_rel hc⟩
  · cases hc : absS v with
    | none => rw [hc] at h; cases h
    | some l => rw [hc] at h; cases h; exact absS_rel hc

/-- An operand, by what the temporaries hold. -/
def evO (env : List T) : Operand → T
  | .tmp t => env.getD t .any
  | .const v => match absV v with
    | some x => .v x
    | none => .any
  | .func f => .v (.s (.clo f []))
  | .global _ => .any

def EnvRel (ι : Inj) (env : List T) (tmps : Array Value) : Prop := ∀ t, TRel ι (env.getD t .any) (tmps.getD t undef)

theorem EnvRel.mono {ι κ : Inj} (h : ι.le κ) {env : List T} {tmps : Array Value} (k : EnvRel ι env tmps) : EnvRel κ env tmps := fun t => (k t).mono h

theorem evO_rel {ι : Inj} {env : List T} {a : Act} (h : EnvRel ι env a.tmps) (x : Operand) : TRel ι (evO env x) (a.eval x) := by
  cases x with
  | tmp t => exact h t
  | const v =>
    simp only [evO, Act.eval]
    cases hv : absV v with
    | none => trivial
    | some x => exact absV_rel hv
  | func f => exact ⟨[], rfl, .nil⟩
  | global g => trivial

/-! ### what the tables say of a type -/
def szOf (P : Program) (t : TypeId) : Option Nat := (P.info? t).map (·.size)
def byOf (P : Program) (t : TypeId) : Option Nat := (P.info? t).map (·.bytes)
def zeroOf (P : Program) (t : TypeId) : Option V := match (P.info? t).bind (·.zero) with
  | some v => absV v
  | none => none
def aggOf (P : Program) (t : TypeId) : Option Bool := match P.underlying t with
  | some (.struct _) => some true
  | some (.array _ _) => some true
  | some _ => some false
  | none => none

section tables
variable {P : Program} {w : World} {t : TypeId}
theorem run_sz {n : Nat} (h : szOf P t = some n) : (sizeOf t).run P w = .ok n w := by
  unfold szOf at h
  cases hi : P.info? t with
  | none => rw [hi] at h; cases h
  | some i => rw [hi] at h; cases h; simp [sizeOf, typeInfo, run_bind, run_pure, program, Sem.run, hi]
theorem run_by {n : Nat} (h : byOf P t = some n) : ∃ i, (typeInfo t).run P w = .ok i w ∧ i.bytes = n := by
  unfold byOf at h
  cases hi : P.info? t with
  | none => rw [hi] at h; cases h
  | some i => rw [hi] at h; cases h; exact ⟨i, by simp [typeInfo, run_bind, run_pure, program, Sem.run, hi], rfl⟩
theorem run_zero {ι : Inj} {z : V} (h : zeroOf P t = some z) : ∃ v, (zeroValue t).run P w = .ok v w ∧ VRel ι z v := by
  unfold zeroOf at h
  cases hi : P.info? t with
  | none => rw [hi] at h; cases h
  | some i =>
    rw [hi] at h
    simp only [Option.bind_some] at h
    cases hz : i.zero with
    | none => rw [hz] at h; cases h
    | some v =>
      rw [hz] at h
      exact ⟨v, by simp [zeroValue, typeInfo, run_bind, run_pure, program, Sem.run, hi, hz], absV_rel h⟩
theorem run_und {d : TypeDesc} (h : P.underlying t = some d) : (underlying t).run P w = .ok d w := run_underlying h w
theorem run_agg {b : Bool} (h : aggOf P t = some b) : (isAgg t).run P w = .ok b w := by
  unfold aggOf at h
  cases hd : P.underlying t with
  | none => rw [hd] at h; cases h
  | some d => rw [hd] at h; cases d <;> cases h <;> simp [isAgg, run_bind, run_und hd, run_pure]
end tables

/-! ### numbers, strings -/
def aInt (op : BinOp) (k : IntKind) (a b : Int) : Option T :=
  match op with
  | .add => some (I k (k.wrap (a + b)))
  | .sub => some (I k (k.wrap (a - b)))
  | .mul => some (I k (k.wrap (a * b)))
  | .quo => if b = 0 then none else some (I k (k.wrap (a.tdiv b)))
  | .rem => if b = 0 then none else some (I k (a.tmod b))
  | .and => some (I k (k.wrap (BitVec.ofInt k.bits a &&& BitVec.ofInt k.bits b).toNat))
  | .or => some (I k (k.wrap (BitVec.ofInt k.bits a ||| BitVec.ofInt k.bits b).toNat))
  | .xor => some (I k (k.wrap (BitVec.ofInt k.bits a ^^^ BitVec.ofInt k.bits b).toNat))
  | .andNot => some (I k (k.wrap (BitVec.ofInt k.bits a &&& ~~~BitVec.ofInt k.bits b).toNat))
  | .eql => some (B (decide (a = b)))
  | .neq => some (B (!decide (a = b)))
  | .lss => some (B (decide (a < b)))
  | .leq => some (B (decide (a ≤ b)))
  | .gtr => some (B (decide (b < a)))
  | .geq => some (B (decide (b ≤ a)))
  | _ => none

def aShift (op : BinOp) (k : IntKind) (a b : Int) : Option T :=
  if b < 0 then none else
  match op with
  | .shl => some (I k (k.wrap (a * 2 ^ (min b.toNat k.bits))))
  | .shr => some (I k (a.fdiv (2 ^ (min b.toNat k.bits))))
  | _ => none

def aStr (op : BinOp) (a b : List UInt8) : Option T :=
  match op with
  | .add => if ((a.length + b.length : Nat) : Int) > IntKind.i64.max then none else some (Z (.str (a ++ b)))
  | .eql => some (B (decide (a = b)))
  | .neq => some (B (!decide (a = b)))
  | .lss => some (B (Op.bytesLess a b))
  | .leq => some (B (Op.bytesLess a b || decide (a = b)))
  | .gtr => some (B (!(Op.bytesLess a b || decide (a = b))))
  | .geq => some (B (!Op.bytesLess a b))
  | _ => none

def aBin (op : BinOp) (x y : T) : Option T :=
  match x, y with
  | .v (.s (.int k a)), .v (.s (.int k' b)) => match op with
    | .shl => aShift .shl k a b
    | .shr => aShift .shr k a b
    | op => if k = k' then aInt op k a b else none
  | .v (.s (.str a)), .v (.s (.str b)) => aStr op a b
  | _, _ => none

theorem beq_decide (a b : Int) : (a == b) = decide (a = b) := by
  by_cases h : a = b <;> simp [h]
theorem beq_decide_list (a b : List UInt8) : (a == b) = decide (a = b) := by
  by_cases h : a = b <;> simp [h]

theorem eqGuard_int {P : Program} {op : BinOp} {t : TypeId} {x y : Operand} {k : IntKind} {n : Int} {v : Value} : eqGuard op t x y (.int k n) v = pure () := eqGuard_at_int ..
theorem aInt_run {P : Program} {w : World} {op : BinOp} {t : TypeId} {k : IntKind} {a b : Int} {r : T} (hs : op ≠ .shl) (hs' : op ≠ .shr) (h : aInt op k a b = some r) :
    ∃ v, (Go.binOp op t (.int k a) (.int k b)).run P w = .ok v w ∧ ∀ ι, TRel ι r v := by
  have hd : ∀ (q : Int), (if b = 0 then none else some (I k q)) = some r → b ≠ 0 ∧ r = I k q := by
    intro q hq
    by_cases hb : b = 0
    · rw [if_pos hb] at hq; cases hq
    · rw [if_neg hb] at hq; cases hq; exact ⟨hb, rfl⟩
  cases op <;> simp only [aInt] at h
  case shl => exact (hs rfl).elim
  case shr => exact (hs' rfl).elim
  case quo =>
    obtain ⟨hb, rfl⟩ := hd _ h
    exact ⟨.int k (k.wrap (a.tdiv b)), by simp only [Go.binOp, ne_eq, not_true_eq_false, if_false, Op.intDiv, if_neg hb]; rfl, fun _ => rfl⟩
  case rem =>
    obtain ⟨hb, rfl⟩ := hd _ h
    exact ⟨.int k (a.tmod b), by simp only [Go.binOp, ne_eq, not_true_eq_false, if_false, Op.intDiv, if_neg hb]; rfl, fun _ => rfl⟩
  all_goals first
    | (cases h; done)
    | (cases h; exact ⟨_, by simp only [Go.binOp, ne_eq, not_true_eq_false, if_false, Op.intArith, Op.intBits, Op.intCmp]; rfl, fun _ => by
          first | rfl | (show Value.bool _ = Value.bool _; simp [bne])⟩)

theorem aShift_run {P : Program} {w : World} {op : BinOp} {t : TypeId} {k k' : IntKind} {a b : Int} {r : T} (hs : op = .shl ∨ op = .shr) (h : aShift op k a b = some r) :
    ∃ v, (Go.binOp op t (.int k a) (.int k' b)).run P w = .ok v w ∧ ∀ ι, TRel ι r v := by
  unfold aShift at h
  split at h
  · cases h
  · rename_i hb
    rcases hs with rfl | rfl
    · cases h
      refine ⟨.int k (k.wrap (a * 2 ^ (min b.toNat k.bits))), ?_, fun _ => rfl⟩
      show (Op.shift .shl k a k' b).run P w = _
      unfold Op.shift
      rw [if_neg hb]
      rfl
    · cases h
      refine ⟨.int k (a.fdiv (2 ^ (min b.toNat k.bits))), ?_, fun _ => rfl⟩
      show (Op.shift .shr k a k' b).run P w = _
      unfold Op.shift
      rw [if_neg hb]
      rfl

theorem size_data (s : ByteArray) : s.size = s.data.toList.length := by rw [Array.length_toList]; rfl

theorem aStr_run {P : Program} {w : World} {op : BinOp} {t : TypeId} {a b : ByteArray} {r : T} (h : aStr op a.data.toList b.data.toList = some r) :
    ∃ v, (Go.binOp op t (.string a) (.string b)).run P w = .ok v w ∧ ∀ ι, TRel ι r v := by
  cases op <;> simp only [aStr] at h <;>
    first
      | (cases h; done)
      | (split at h
         · cases h
         · rename_i hb
           cases h
           rw [← size_data, ← size_data] at hb
           refine ⟨.string (a ++ b), ?_, fun _ => ⟨a ++ b, rfl, by simp⟩⟩
           show (Op.stringOp .add a b).run P w = _
           unfold Op.stringOp
           show (if _ then _ else _ : Sem Value).run P w = _
           rw [if_neg hb]
           rfl)
      | (cases h; exact ⟨_, by simp only [Go.binOp, Op.stringOp]; rfl, fun _ => by
          show Value.bool _ = Value.bool _
          simp only [ByteArray.toList_eq, beq_decide_list]⟩)

theorem aBin_run {P : Program} {w : World} {ι : Inj} {op : BinOp} {t : TypeId} {x y : T} {u v : Value} {r : T} (hx : TRel ι x u) (hy : TRel ι y v) (h : aBin op x y = some r) (p q : Operand) :
    ∃ z, (do eqGuard op t p q u v; Go.binOp op t u v : Sem Value).run P w = .ok z w ∧ TRel ι r z := by
  unfold aBin at h
  split at h
  · rename_i k a k' b
    simp only [TRel, VRel, SRel] at hx hy
    subst hx hy
    have hg : eqGuard op t p q (.int k a) (.int k' b) = pure () := eqGuard_at_int ..
    rw [hg]
    simp only [run_bind, run_pure]
    split at h
    · obtain ⟨v, h1, h2⟩ := aShift_run (P := P) (w := w) (t := t) (k' := k') (.inl rfl) h
      exact ⟨v, h1, h2 ι⟩
    · obtain ⟨v, h1, h2⟩ := aShift_run (P := P) (w := w) (t := t) (k' := k') (.inr rfl) h
      exact ⟨v, h1, h2 ι⟩
    · rename_i hn1 hn2
      split at h
      · rename_i e; subst e
        obtain ⟨v, h1, h2⟩ := aInt_run (P := P) (w := w) (t := t) (fun e => hn1 (by rw [e])) (fun e => hn2 (by rw [e])) h
        exact ⟨v, h1, h2 ι⟩
      · cases h
  · rename_i a b
    obtain ⟨sa, rfl, rfl⟩ := hx
    obtain ⟨sb, rfl, rfl⟩ := hy
    have hg : eqGuard op t p q (.string sa) (.string sb) = pure () := eqGuard_at_string ..
    rw [hg]
    simp only [run_bind, run_pure]
    obtain ⟨v, h1, h2⟩ := aStr_run (P := P) (w := w) (t := t) h
    exact ⟨v, h1, h2 ι⟩
  · cases h
end Go.Abs

/-
  Equality of values: bools, nil, structs and arrays of plain parts.
-/
namespace Go.Abs
open Go

inductive LK where
  | b | i | s
  deriving DecidableEq

def leafEq : LK → S → S → Option Bool
  | .b, .bool a, .bool b => some (decide (a = b))
  | .i, .int k a, .int k' b => if k = k' then some (decide (a = b)) else none
  | .s, .str a, .str b => some (decide (a = b))
  | _, _, _ => none

def aEqL (xs ys : List S) : List (Nat × LK) → Option Bool
  | [] => some true
  | (o, k) :: r => match xs[o]?, ys[o]? with
    | some x, some y => match leafEq k x y, aEqL xs ys r with
      | some a, some b => some (a && b)
      | _, _ => none
    | _, _ => none

def leavesF (P : Program) (rec : TypeId → Nat → Option (List (Nat × LK))) (n : Nat) (off : Nat) : List Field → Option (List (Nat × LK))
  | [] => some []
  | f :: fs => if f.name = "_" then leavesF P rec n off fs else
    match szOf P f.type, rec f.type (off + f.offset), leavesF P rec n off fs with
    | some m, some a, some b => if f.offset + m ≤ n ∧ m ≠ 0 then some (a ++ b) else none
    | _, _, _ => none

def leavesA (rec : Nat → Option (List (Nat × LK))) (n : Nat) : Nat → Nat → Option (List (Nat × LK))
  | 0, _ => some []
  | m + 1, off => match rec off, leavesA rec n m (off + n) with
    | some a, some b => some (a ++ b)
    | _, _ => none

def leaves (P : Program) : Nat → TypeId → Nat → Option (List (Nat × LK))
  | 0, _, _ => none
  | d + 1, t, off => match P.underlying t with
    | some .bool => some [(off, .b)]
    | some (.int _) => some [(off, .i)]
    | some .string => some [(off, .s)]
    | some (.struct fs) => if P.stoodInHeld t then none else match szOf P t with
      | some n => leavesF P (leaves P d) n off fs.toList
      | none => none
    | some (.array m e) => match szOf P e, szOf P t with
      | some n, some N => if m * n ≤ N ∧ n ≠ 0 then leavesA (leaves P d e) n m off else none
      | _, _ => none
    | _ => none

theorem aEqL_append {xs ys : List S} {a b : List (Nat × LK)} {r : Bool} (h : aEqL xs ys (a ++ b) = some r) : ∃ p q, aEqL xs ys a = some p ∧ aEqL xs ys b = some q ∧ r = (p && q) := by
  induction a generalizing r with
  | nil => exact ⟨true, r, rfl, h, rfl⟩
  | cons x a ih =>
    obtain ⟨o, k⟩ := x
    simp only [List.cons_append, aEqL] at h
    split at h
    · rename_i x y hx hy
      split at h
      · rename_i c d hc hd
        cases h
        obtain ⟨p, q, hp, hq, e⟩ := ih hd
        refine ⟨c && p, q, ?_, hq, by rw [e, Bool.and_assoc]⟩
        simp only [aEqL, hx, hy, hc, hp]
      · cases h
    · cases h

section
variable {P : Program} {ι : Inj}

/-- A part of a row of cells. -/
def aPart (P : Program) (t : TypeId) (xs : List S) (off : Nat) : Option V :=
  match aggOf P t with
  | some true => match szOf P t with
    | some n => if off + n ≤ xs.length then some (.agg ((xs.drop off).take n)) else none
    | none => none
  | some false => xs[off]?.map .s
  | none => none

theorem all2_take {α β : Type} {R : α → β → Prop} {l : List α} {m : List β} (h : All2 R l m) (n : Nat) : All2 R (l.take n) (m.take n) := by
  induction h generalizing n with
  | nil => simpa using All2.nil
  | cons a _ ih => cases n with
    | zero => simpa using All2.nil
    | succ n => simpa using All2.cons a (ih n)
theorem all2_drop {α β : Type} {R : α → β → Prop} {l : List α} {m : List β} (h : All2 R l m) (n : Nat) : All2 R (l.drop n) (m.drop n) := by
  induction h generalizing n with
  | nil => simpa using All2.nil
  | cons a h ih => cases n with
    | zero => simpa using All2.cons a h
    | succ n => simpa using ih n

theorem extract_toArray (cs : List Value) (a b : Nat) : cs.toArray.extract a (a + b) = ((cs.drop a).take b).toArray := by
  rw [List.extract_toArray]
  simp [List.extract]

theorem aPart_run {t : TypeId} {xs : List S} {cs : List Value} {off : Nat} {x : V} (h : All2 (SRel ι) xs cs) (hp : aPart P t xs off = some x) (w : World) :
    ∃ v, (part t cs.toArray off).run P w = .ok v w ∧ VRel ι x v := by
  unfold aPart at hp
  split at hp
  · rename_i ha
    split at hp
    · rename_i n hn
      split at hp
      · cases hp
        refine ⟨.agg (((cs.drop off).take n).toArray), ?_, ⟨_, rfl, all2_take (all2_drop h off) n⟩⟩
        simp only [part, run_bind, run_agg ha, run_sz hn, if_true, run_pure, extract_toArray]
      · cases hp
    · cases hp
  · rename_i ha
    cases hx : xs[off]? with
    | none => rw [hx] at hp; cases hp
    | some y =>
      rw [hx] at hp; cases hp
      obtain ⟨v, hv, r⟩ := forall2_get h off y hx
      exact ⟨v, by simp [part, run_bind, run_agg ha, hv, run_pure], r⟩
  · cases hp

def LK.fits (P : Program) (t : TypeId) : LK → Prop
  | .b => P.underlying t = some .bool
  | .i => ∃ k, P.underlying t = some (.int k)
  | .s => P.underlying t = some .string

theorem leafEq_run {k : LK} {x y : S} {u v : Value} {r : Bool} {t : TypeId} (hx : SRel ι x u) (hy : SRel ι y v) (h : leafEq k x y = some r)
    (ht : k.fits P t) (d : Nat) (w : World) :
    (Op.equalIn (d + 1) t u v).run P w = .ok r w := by
  cases k with
  | b =>
    cases x <;> first | (cases h; done) | skip
    cases y <;> first | (cases h; done) | skip
    rename_i a b
    simp only [SRel] at hx hy; subst hx hy; cases h
    rw [run_equalIn_bool' w d t _ _ ht]
    cases a <;> cases b <;> rfl
  | i =>
    cases x <;> first | (cases h; done) | skip
    cases y <;> first | (cases h; done) | skip
    rename_i k a k' b
    simp only [SRel] at hx hy; subst hx hy
    simp only [leafEq] at h
    by_cases e : k = k'
    · subst e
      rw [if_pos rfl] at h
      cases h
      obtain ⟨k', hk⟩ := ht
      rw [run_equalIn_int w d t _ k' _ _ hk, beq_decide]
    · rw [if_neg e] at h; cases h
  | s =>
    cases x <;> first | (cases h; done) | skip
    cases y <;> first | (cases h; done) | skip
    obtain ⟨s, rfl, rfl⟩ := hx
    obtain ⟨s', rfl, rfl⟩ := hy
    cases h
    rw [run_equalIn_string w d t _ _ ht, ByteArray.toList_eq, ByteArray.toList_eq, beq_decide_list]

theorem aEqL_one {xs ys : List S} {o : Nat} {k : LK} {r : Bool} (h : aEqL xs ys [(o, k)] = some r) : ∃ x y, xs[o]? = some x ∧ ys[o]? = some y ∧ leafEq k x y = some r := by
  simp only [aEqL] at h
  split at h
  · rename_i x y hx hy
    split at h
    · rename_i a b ha hb
      cases hb
      cases h
      exact ⟨x, y, hx, hy, by simpa using ha⟩
    · cases h
  · cases h

/-- Two parts at one place, of one type, are compared. -/
def cmpAt (d : Nat) (t : TypeId) (cs ds : Array Value) (off : Nat) : Sem Bool := do
  let a ← part t cs off
  let b ← part t ds off
  Op.equalIn d t a b

theorem part_sub {t : TypeId} {cs : List Value} {off n o m : Nat} (hm : szOf P t = some m) (hle : o + m ≤ n) (hag : (aggOf P t).isSome) (h0 : aggOf P t = some false → m ≠ 0) (w : World) :
    (part t ((cs.drop off).take n).toArray o).run P w = (part t cs.toArray (off + o)).run P w := by
  cases ha : aggOf P t with
  | none => rw [ha] at hag; cases hag
  | some b =>
    cases b with
    | true =>
      simp only [part, run_bind, run_agg ha, run_sz hm, if_true, run_pure]
      rw [extract_toArray, extract_toArray]
      congr 3
      rw [List.drop_take, List.take_take, List.drop_drop]
      congr 1
      omega
    | false =>
      have := h0 ha
      have e : ((cs.drop off).take n)[o]? = cs[off + o]? := by
        rw [List.getElem?_take, if_pos (by omega), List.getElem?_drop]
      simp only [part, run_bind, run_agg ha, List.getElem?_toArray, e, Bool.false_eq_true, if_false]

theorem part_agg {t : TypeId} {n : Nat} (ha : aggOf P t = some true) (hn : szOf P t = some n) (cs : List Value) (off : Nat) (w : World) :
    (part t cs.toArray off).run P w = .ok (.agg ((cs.drop off).take n).toArray) w := by
  simp only [part, run_bind, run_agg ha, run_sz hn, if_true, run_pure, extract_toArray]

theorem leaves_agg {d : Nat} {t : TypeId} {off : Nat} {ls : List (Nat × LK)} (h : leaves P d t off = some ls) : (aggOf P t).isSome := by
  cases d with
  | zero => cases h
  | succ d =>
    simp only [leaves] at h
    unfold aggOf
    cases hd : P.underlying t with
    | none => rw [hd] at h; cases h
    | some x => cases x <;> rfl

/-- The sizes that the tables give to plain types are not nought. -/
def leafSz (P : Program) (t : TypeId) : Bool := match aggOf P t, szOf P t with
  | some false, some 0 => false
  | _, _ => true
end
end Go.Abs

/-
  Equality of structs and arrays, leaf by leaf.
-/
namespace Go.Abs
open Go
section
variable {P : Program} {ι : Inj}

def eqElems (d : Nat) (e : TypeId) (n : Nat) (xs ys : Array Value) : Nat → Nat → Sem Bool
  | 0, _ => pure true
  | c + 1, i => do
    let a ← part e xs (i * n)
    let b ← part e ys (i * n)
    let r ← Op.equalIn d e a b
    if (!r) = true then pure false else eqElems d e n xs ys c (i + 1)

theorem run_equalIn_array (d : Nat) {t e : TypeId} {len n : Nat} (xs ys : Array Value) (w : World) (ht : P.underlying t = some (.array len e)) (hn : szOf P e = some n) :
    (Op.equalIn (d + 1) t (.agg xs) (.agg ys)).run P w = (eqElems d e n xs ys len 0).run P w := by
  simp only [Op.equalIn, Go.Abs.run_bind, run_und ht, run_sz hn]
  rw [Std.Legacy.Range.forIn_eq_forIn_range']
  have hs : [:len].size = len := by simp [Std.Legacy.Range.size]
  rw [hs, show [:len].start = 0 from rfl, show [:len].step = 1 from rfl]
  generalize hst : (0 : Nat) = st
  clear hst hs ht
  induction len generalizing st w with
  | zero => simp [eqElems, run_pure]
  | succ len ih =>
    rw [List.range'_succ]
    simp only [List.forIn_cons, eqElems, Go.Abs.run_bind]
    generalize (part e xs (st * n)).run P w = r1
    cases r1 with
    | halt x w1 => rfl
    | ok a w1 =>
      simp only []
      generalize (part e ys (st * n)).run P w1 = r2
      cases r2 with
      | halt x w2 => rfl
      | ok b w2 =>
        simp only []
        generalize (Op.equalIn d e a b).run P w2 = r3
        cases r3 with
        | halt x w3 => rfl
        | ok r w3 =>
          cases r
          · simp [run_pure]
          · simp only [Bool.not_true, Bool.false_eq_true, if_false, run_pure]
            exact ih w3 (st + 1)

theorem cmp_run {xs ys : List S} {cs ds : List Value} (hx : All2 (SRel ι) xs cs) (hy : All2 (SRel ι) ys ds) (k : Nat) (w : World) :
    ∀ (d : Nat) (t : TypeId) (off : Nat) (ls : List (Nat × LK)) (r : Bool), leaves P d t off = some ls → aEqL xs ys ls = some r →
      ∃ a b, (part t cs.toArray off).run P w = .ok a w ∧ (part t ds.toArray off).run P w = .ok b w ∧ (Op.equalIn (d + k) t a b).run P w = .ok r w := by
  intro d
  induction d with
  | zero => intro t off ls r h; cases h
  | succ d ih =>
    intro t off ls r h hr
    have leaf : ∀ (lk : LK), ls = [(off, lk)] → aggOf P t = some false →
        lk.fits P t →
        ∃ a b, (part t cs.toArray off).run P w = .ok a w ∧ (part t ds.toArray off).run P w = .ok b w ∧ (Op.equalIn (d + 1 + k) t a b).run P w = .ok r w := by
      intro lk e ha ht
      subst e
      obtain ⟨x, y, h1, h2, h3⟩ := aEqL_one hr
      obtain ⟨u, hu, ru⟩ := forall2_get hx off x h1
      obtain ⟨v, hv, rv⟩ := forall2_get hy off y h2
      refine ⟨u, v, by simp [part, run_bind, run_agg ha, hu, run_pure], by simp [part, run_bind, run_agg ha, hv, run_pure], ?_⟩
      have e : d + 1 + k = (d + k) + 1 := by omega
      rw [e]
      exact leafEq_run ru rv h3 ht _ w
    simp only [leaves] at h
    split at h
    · rename_i hu; cases h; exact leaf .b rfl (by simp [aggOf, hu]) hu
    · rename_i k' hu; cases h; exact leaf .i rfl (by simp [aggOf, hu]) ⟨k', hu⟩
    · rename_i hu; cases h; exact leaf .s rfl (by simp [aggOf, hu]) hu
    · rename_i fs hu
      split at h
      · cases h
      · rename_i hst
        have hst' : P.stoodInHeld t = false := by simpa using hst
        split at h
        · rename_i n hn
          have ha : aggOf P t = some true := by simp [aggOf, hu]
          refine ⟨_, _, part_agg ha hn cs off w, part_agg ha hn ds off w, ?_⟩
          have hfo : P.fieldsOf t = fs := by simp [Program.fieldsOf, hu]
          have e : d + 1 + k = (d + k) + 1 := by omega
          rw [e, run_equalIn_struct w (d + k) t _ _ (by rw [hfo]; exact hu) hst', hfo]
          generalize fs.toList = fl at h
          clear hfo e hu leaf
          induction fl generalizing ls r with
          | nil => cases h; cases hr; rfl
          | cons f fl ihf =>
            simp only [leavesF] at h
            simp only [Op.eqFields]
            by_cases hname : f.name = "_"
            · rw [if_pos hname] at h
              rw [if_neg (by simpa using hname)]
              exact ihf ls r hr h
            · rw [if_neg hname] at h
              rw [if_pos hname]
              split at h
              · rename_i m a b hm hla hlb
                split at h
                · rename_i hle
                  cases h
                  obtain ⟨p, q, hp, hq, rfl⟩ := aEqL_append hr
                  obtain ⟨u, v, h1, h2, h3⟩ := ih f.type (off + f.offset) a p hla hp
                  simp only [run_bind]
                  rw [part_sub hm hle.1 (leaves_agg hla) (fun _ => hle.2) w, h1]
                  simp only []
                  rw [part_sub hm hle.1 (leaves_agg hla) (fun _ => hle.2) w, h2]
                  simp only [h3]
                  cases p
                  · simp [run_pure]
                  · simp only [Bool.not_true, Bool.false_eq_true, if_false, Bool.true_and]
                    exact ihf b q hq hlb
                · cases h
              · cases h
        · cases h
    · rename_i m e hu
      split at h
      · rename_i n N hn hN
        split at h
        · rename_i hle
          have ha : aggOf P t = some true := by simp [aggOf, hu]
          refine ⟨_, _, part_agg ha hN cs off w, part_agg ha hN ds off w, ?_⟩
          have ee : d + 1 + k = (d + k) + 1 := by omega
          rw [ee, run_equalIn_array (d + k) _ _ w hu hn]
          obtain ⟨hle, hn0⟩ := hle
          have key : ∀ (c i o : Nat) (ls : List (Nat × LK)) (r : Bool), o = off + i * n → (i + c) * n ≤ N → leavesA (leaves P d e) n c o = some ls → aEqL xs ys ls = some r →
              (eqElems (d + k) e n ((cs.drop off).take N).toArray ((ds.drop off).take N).toArray c i).run P w = .ok r w := by
            intro c
            induction c with
            | zero => intro i o ls r _ _ hl hr; cases hl; cases hr; rfl
            | succ c ihc =>
              intro i o ls r ho hN' hl hr
              simp only [leavesA] at hl
              split at hl
              · rename_i a b hla hlb
                cases hl
                obtain ⟨p, q, hp, hq, rfl⟩ := aEqL_append hr
                subst ho
                obtain ⟨u, v, h1, h2, h3⟩ := ih e (off + i * n) a p hla hp
                have hb : i * n + n ≤ N := by
                  have : (i + 1) * n ≤ (i + (c + 1)) * n := Nat.mul_le_mul_right n (by omega)
                  have e1 : (i + 1) * n = i * n + n := by rw [Nat.add_mul]; omega
                  omega
                simp only [eqElems, run_bind]
                rw [part_sub hn hb (leaves_agg hla) (fun _ => hn0) w, h1]
                simp only []
                rw [part_sub hn hb (leaves_agg hla) (fun _ => hn0) w, h2]
                simp only [h3]
                cases p
                · simp [run_pure]
                · simp only [Bool.not_true, Bool.false_eq_true, if_false, Bool.true_and]
                  refine ihc (i + 1) (off + i * n + n) b q ?_ ?_ hlb hq
                  · rw [Nat.add_mul]; omega
                  · have : i + 1 + c = i + (c + 1) := by omega
                    rw [this]; exact hN'
              · cases hl
          exact key m 0 off ls r (by simp) (by simpa using hle) h hr
        · cases h
      · cases h
    · cases h
end

/-- '==' at a type: the depth at which the tables are read. -/
def eqDepth : Nat := 12

inductive EK where
  | b | p | l | m | f | i
  | a (n : Nat) (l : List (Nat × LK))

/-- How values of a type are compared. -/
def ekOf (P : Program) (t : TypeId) : Option EK :=
  match P.underlying t with
  | some .bool => some .b
  | some (.pointer _) => some .p
  | some (.slice _) => some .l
  | some (.map _ _) => some .m
  | some (.func _ _ _) => some .f
  | some (.interface _) => some .i
  | some (.struct _) => if P.eqGuardType P.depth t then none else match leaves P eqDepth t 0, szOf P t with
    | some l, some n => some (.a n l)
    | _, _ => none
  | some (.array _ _) => if P.eqGuardType P.depth t then none else match leaves P eqDepth t 0, szOf P t with
    | some l, some n => some (.a n l)
    | _, _ => none
  | _ => none

def aEq : EK → T → T → Option Bool
  | .b, .v (.s (.bool a)), .v (.s (.bool b)) => some (decide (a = b))
  | .p, .v (.s x), .v (.s y) => match x, y with
    | .nilp, .nilp => some true
    | .nilp, .ptr _ _ => some false
    | .ptr _ _, .nilp => some false
    | _, _ => none
  | .l, .v (.s x), .v (.s y) => match x, y with
    | .nils, .nils => some true
    | .nils, .sl _ _ _ _ => some false
    | .sl _ _ _ _, .nils => some false
    | .nils, .emp _ _ => some false
    | .emp _ _, .nils => some false
    | _, _ => none
  | .m, .v (.s x), .v (.s y) => match x, y with
    | .nilm, .nilm => some true
    | .nilm, .map _ => some false
    | .map _, .nilm => some false
    | _, _ => none
  | .f, .v (.s x), .v (.s y) => match x, y with
    | .nilf, .nilf => some true
    | .nilf, .clo _ _ => some false
    | .clo _ _, .nilf => some false
    | _, _ => none
  | .i, .v (.s .nili), .v (.s .nili) => some true
  | .a n l, .v (.agg xs), .v (.agg ys) => if xs.length = n ∧ ys.length = n then aEqL xs ys l else none
  | _, _, _ => none

def isConst : Operand → Bool
  | .const _ => true
  | _ => false

section
variable {P : Program} {ι : Inj} {w : World}

theorem eqIn_ptr {d : Nat} {t e : TypeId} (hu : P.underlying t = some (.pointer e)) (a b : Option Addr) (h : a = none ∨ b = none) :
    (Op.equalIn (d + 1) t (.pointer a) (.pointer b)).run P w = .ok (a.isNone && b.isNone) w := by
  rcases h with rfl | rfl
  · simp [Op.equalIn, run_bind, run_und hu, run_pure]
  · cases a <;> simp [Op.equalIn, run_bind, run_und hu, run_pure]
theorem eqIn_slice {d : Nat} {t e : TypeId} (hu : P.underlying t = some (.slice e)) (a b : Option Addr) (n c m k : Nat) (h : a = none ∨ b = none) :
    (Op.equalIn (d + 1) t (.slice a n c) (.slice b m k)).run P w = .ok (a.isNone && b.isNone) w := by
  rcases h with rfl | rfl
  · simp [Op.equalIn, run_bind, run_und hu, run_pure]
  · cases a <;> simp [Op.equalIn, run_bind, run_und hu, run_pure]
theorem eqIn_map {d : Nat} {t e e' : TypeId} (hu : P.underlying t = some (.map e e')) (a b : Option Nat) (h : a = none ∨ b = none) :
    (Op.equalIn (d + 1) t (.map a) (.map b)).run P w = .ok (a.isNone && b.isNone) w := by
  rcases h with rfl | rfl
  · simp [Op.equalIn, run_bind, run_und hu, run_pure]
  · cases a <;> simp [Op.equalIn, run_bind, run_und hu, run_pure]
theorem eqIn_func {d : Nat} {t : TypeId} {e e' : Array TypeId} {e'' : Bool} (hu : P.underlying t = some (.func e e' e'')) (f : Fn) (a b : Array Value) :
    (Op.equalIn (d + 1) t .nilFunc .nilFunc).run P w = .ok true w ∧ (Op.equalIn (d + 1) t .nilFunc (.func f a b)).run P w = .ok false w ∧ (Op.equalIn (d + 1) t (.func f a b) .nilFunc).run P w = .ok false w :=
  ⟨by simp [Op.equalIn, run_bind, run_und hu, run_pure], by simp [Op.equalIn, run_bind, run_und hu, run_pure], by simp [Op.equalIn, run_bind, run_und hu, run_pure]⟩
theorem eqIn_iface {d : Nat} {t : TypeId} {e : Array (String × TypeId)} (hu : P.underlying t = some (.interface e)) :
    (Op.equalIn (d + 1) t .nilIface .nilIface).run P w = .ok true w := by simp [Op.equalIn, run_bind, run_und hu, run_pure]

theorem equal_of {t : TypeId} {u v : Value} {r : Bool} (h : (Op.equalIn (9999 + 1) t u v).run P w = .ok r w) (neg : Bool) (p q : Operand)
    (hg : (eqGuard (if neg then .neq else .eql) t p q u v).run P w = .ok () w)
    (hb : Go.binOp (if neg then .neq else .eql) t u v = (do pure (.bool (neg ^^ (← Op.equal t u v))))) :
    (do eqGuard (if neg then .neq else .eql) t p q u v; Go.binOp (if neg then .neq else .eql) t u v : Sem Value).run P w = .ok (.bool (neg ^^ r)) w := by
  have h' : (Op.equal t u v).run P w = .ok r w := h
  simp only [run_bind, hg, hb, h', run_pure]

theorem aEq_run {t : TypeId} {x y : T} {u v : Value} {r : Bool} {k : EK} (hk : ekOf P t = some k) (hx : TRel ι x u) (hy : TRel ι y v) (h : aEq k x y = some r) (neg : Bool) (p q : Operand)
    (hc : k = .i → isConst p || isConst q) :
    (do eqGuard (if neg then .neq else .eql) t p q u v; Go.binOp (if neg then .neq else .eql) t u v : Sem Value).run P w = .ok (.bool (neg ^^ r)) w := by
  have hsl : ∀ {x : S} {u : Value}, SRel ι x u → (∃ i o n c, x = .sl i o n c) ∨ (∃ i e, x = .emp i e) → ∃ a n c, u = .slice (some a) n c := by
    rintro x u hr (⟨i, o, n, c, rfl⟩ | ⟨i, e, rfl⟩)
    · cases c with
      | known c => obtain ⟨L, _, e, _⟩ := hr; exact ⟨_, _, _, e⟩
      | grown c => obtain ⟨L, c, _, e, _⟩ := hr; exact ⟨_, _, _, e⟩
    · obtain ⟨L, o, c, _, e, _⟩ := hr; exact ⟨_, _, _, e⟩
  unfold ekOf at hk
  split at hk
  · rename_i hu
    cases hk
    unfold aEq at h
    split at h <;> first | (rename_i hh; cases hh; done) | skip
    · simp only [TRel, VRel, SRel] at hx hy; subst hx hy; cases h
      refine equal_of (by rw [run_equalIn_bool' w _ t _ _ hu]; rename_i a b _; cases a <;> cases b <;> rfl) neg p q (by rw [eqGuard_at_bool]; rfl) (by cases neg <;> simp [Go.binOp])
    · cases h
  · rename_i e hu
    cases hk
    have hp := fun (a b : Option Addr) h => eqIn_ptr (w := w) (d := 9999) hu a b h
    have fin : ∀ a b : Option Addr, a = none ∨ b = none → u = .pointer a → v = .pointer b → r = (a.isNone && b.isNone) →
        (do eqGuard (if neg then .neq else .eql) t p q u v; Go.binOp (if neg then .neq else .eql) t u v : Sem Value).run P w = .ok (.bool (neg ^^ r)) w := by
      intro a b hab hu hv hr
      subst hu hv hr
      exact equal_of (hp a b hab) neg p q (by rw [eqGuard_at_pointer]; rfl) (by cases neg <;> simp [Go.binOp])
    unfold aEq at h
    split at h <;> first | (rename_i hh; cases hh; done) | skip
    · split at h
      · cases h; exact fin none none (.inl rfl) hx hy rfl
      · obtain ⟨L, _, e⟩ := hy; cases h; exact fin none _ (.inl rfl) hx e rfl
      · obtain ⟨L, _, e⟩ := hx; cases h; exact fin _ none (.inr rfl) e hy rfl
      · cases h
    · cases h
  · rename_i e hu
    cases hk
    have hp := fun (a b : Option Addr) n c m k h => eqIn_slice (w := w) (d := 9999) hu a b n c m k h
    have fin : ∀ (a b : Option Addr) (n c m d : Nat), a = none ∨ b = none → u = .slice a n c → v = .slice b m d → r = (a.isNone && b.isNone) →
        (do eqGuard (if neg then .neq else .eql) t p q u v; Go.binOp (if neg then .neq else .eql) t u v : Sem Value).run P w = .ok (.bool (neg ^^ r)) w := by
      intro a b n c m d hab hu hv hr
      subst hu hv hr
      exact equal_of (hp a b n c m d hab) neg p q (by rw [eqGuard_at_slice]; rfl) (by cases neg <;> simp [Go.binOp])
    unfold aEq at h
    split at h <;> first | (rename_i hh; cases hh; done) | skip
    · split at h
      · cases h; exact fin none none _ _ _ _ (.inl rfl) hx hy rfl
      · obtain ⟨a, n, c, e⟩ := hsl hy (.inl ⟨_, _, _, _, rfl⟩); cases h; exact fin none _ _ _ _ _ (.inl rfl) hx e rfl
      · obtain ⟨a, n, c, e⟩ := hsl hx (.inl ⟨_, _, _, _, rfl⟩); cases h; exact fin _ none _ _ _ _ (.inr rfl) e hy rfl
      · obtain ⟨a, n, c, e⟩ := hsl (x := .emp _ _) hy (.inr ⟨_, _, rfl⟩); cases h; exact fin none _ _ _ _ _ (.inl rfl) hx e rfl
      · obtain ⟨a, n, c, e⟩ := hsl (x := .emp _ _) hx (.inr ⟨_, _, rfl⟩); cases h; exact fin _ none _ _ _ _ (.inr rfl) e hy rfl
      · cases h
    · cases h
  · rename_i e e' hu
    cases hk
    have hp := fun (a b : Option Nat) h => eqIn_map (w := w) (d := 9999) hu a b h
    have fin : ∀ a b : Option Nat, a = none ∨ b = none → u = .map a → v = .map b → r = (a.isNone && b.isNone) →
        (do eqGuard (if neg then .neq else .eql) t p q u v; Go.binOp (if neg then .neq else .eql) t u v : Sem Value).run P w = .ok (.bool (neg ^^ r)) w := by
      intro a b hab hu hv hr
      subst hu hv hr
      exact equal_of (hp a b hab) neg p q (by rw [eqGuard_at_map]; rfl) (by cases neg <;> simp [Go.binOp])
    unfold aEq at h
    split at h <;> first | (rename_i hh; cases hh; done) | skip
    · split at h
      · cases h; exact fin none none (.inl rfl) hx hy rfl
      · obtain ⟨L, _, e⟩ := hy; cases h; exact fin none _ (.inl rfl) hx e rfl
      · obtain ⟨L, _, e⟩ := hx; cases h; exact fin _ none (.inr rfl) e hy rfl
      · cases h
    · cases h
  · rename_i e e' e'' hu
    cases hk
    unfold aEq at h
    split at h <;> first | (rename_i hh; cases hh; done) | skip
    · split at h
      · simp only [TRel, VRel, SRel] at hx hy; subst hx hy; cases h
        exact equal_of (eqIn_func hu (.func 0) #[] #[]).1 neg p q (by rw [eqGuard_at_nilFunc]; rfl) (by cases neg <;> simp [Go.binOp])
      · obtain ⟨L, e, _⟩ := hy; simp only [TRel, VRel, SRel] at hx; subst hx e; cases h
        exact equal_of (eqIn_func hu _ _ _).2.1 neg p q (by rw [eqGuard_at_nilFunc]; rfl) (by cases neg <;> simp [Go.binOp])
      · obtain ⟨L, e, _⟩ := hx; simp only [TRel, VRel, SRel] at hy; subst hy e; cases h
        exact equal_of (eqIn_func hu _ _ _).2.2 neg p q (by rw [eqGuard_at_func]; rfl) (by cases neg <;> simp [Go.binOp])
      · cases h
    · cases h
  · rename_i e hu
    cases hk
    unfold aEq at h
    split at h <;> first | (rename_i hh; cases hh; done) | skip
    · simp only [TRel, VRel, SRel] at hx hy; subst hx hy; cases h
      refine equal_of (eqIn_iface hu) neg p q ?_ (by cases neg <;> simp [Go.binOp])
      have := hc rfl
      cases p <;> first | (rw [eqGuard_nil_constL]; rfl) | (cases q <;> first | (rw [eqGuard_nil_constR]; rfl) | (simp [isConst] at this))
    · cases h
  all_goals first | (cases hk; done) | skip
  all_goals
    rename_i hu
    split at hk
    · cases hk
    · rename_i hg
      have hg' : P.eqGuardType P.depth t = false := by simpa using hg
      split at hk <;> first | (cases hk; done) | skip
      rename_i l n hl hn
      cases hk
      unfold aEq at h
      split at h <;> first | (rename_i hh; cases hh; done) | skip
      · rename_i xs ys he
        cases he
        split at h
        · rename_i hlen
          obtain ⟨cs, rfl, hcs⟩ := hx
          obtain ⟨ds, rfl, hds⟩ := hy
          obtain ⟨a, b, ha, hb, hr⟩ := cmp_run hcs hds 9988 w eqDepth t 0 _ _ hl h
          have hag : aggOf P t = some true := by simp [aggOf, hu]
          have l1 := forall2_length hcs
          have l2 := forall2_length hds
          rw [part_agg hag hn] at ha hb
          cases ha; cases hb
          rw [List.drop_zero, List.take_of_length_le (by omega), List.drop_zero, List.take_of_length_le (by omega)] at hr
          exact equal_of hr neg p q (run_eqGuard_agg w _ t p q _ _ hg') (by cases neg <;> simp [Go.binOp])
        · cases h
      · cases h
end
end Go.Abs

/-
  Further operations that read temporaries alone: choices, parts, places, pieces.
-/
namespace Go.Abs
open Go

def aPick (c a b : T) : Option T :=
  match c with
  | .v (.s (.bool true)) => some a
  | .v (.s (.bool false)) => some b
  | _ => none

def aNil (x : T) : Option T :=
  match x with
  | .v (.s (.ptr _ _)) => some x
  | .v (.s (.clo _ _)) => some x
  | _ => none

def aUn (op : UnOp) (x : T) : Option T :=
  match op, x with
  | .not, .v (.s (.bool b)) => some (B (!b))
  | .neg, .v (.s (.int k n)) => some (I k (k.wrap (0 - n)))
  | .xor, .v (.s (.int k n)) => some (I k (k.wrap (BitVec.ofInt k.bits (if k.signed then -1 else k.max) ^^^ BitVec.ofInt k.bits n).toNat))
  | _, _ => none

/-- A number as another kind's. -/
def aConv (k : IntKind) (x : T) : Option T :=
  match x with
  | .v (.s (.int _ n)) => some (I k (k.wrap n))
  | _ => none

def aConvS (x : T) : Option T :=
  match x with
  | .v (.s (.str _)) => some x
  | _ => none

/-- A part's make: one cell, or so many. -/
def pkOf (P : Program) (t : TypeId) : Option (Option Nat) :=
  match aggOf P t with
  | some true => (szOf P t).map some
  | some false => some none
  | none => none

def aPartK (k : Option Nat) (xs : List S) (off : Nat) : Option V :=
  match k with
  | some n => if off + n ≤ xs.length then some (.agg ((xs.drop off).take n)) else none
  | none => match xs[off]? with
    | some x => some (.s x)
    | none => none

theorem aPartK_eq {P : Program} {t : TypeId} {k : Option Nat} (h : pkOf P t = some k) (xs : List S) (off : Nat) : aPart P t xs off = aPartK k xs off := by
  unfold pkOf at h
  unfold aPart aPartK
  split at h
  · rename_i ha
    cases hs : szOf P t with
    | none => rw [hs] at h; cases h
    | some n => rw [hs] at h; cases h; simp only [ha]
  · rename_i ha
    cases h
    simp only [ha]
    cases xs[off]? <;> rfl
  · cases h

def aField (k : Option Nat) (off : Nat) (x : T) : Option T :=
  match x with
  | .v (.agg xs) => match aPartK k xs off with
    | some y => some (.v y)
    | none => none
  | _ => none

def aFieldAddr (off : Nat) (x : T) : Option T :=
  match x with
  | .v (.s (.ptr i o)) => some (Z (.ptr i (o + off)))
  | _ => none

def aIdx (x : T) (n : Nat) : Option Nat :=
  match x with
  | .v (.s (.int _ i)) => if 0 ≤ i ∧ i < n then some i.toNat else none
  | _ => none

def aIndexSl (e : Nat) (x i : T) : Option T :=
  match x with
  | .v (.s (.sl b o len _)) => match aIdx i len with
    | some j => some (Z (.ptr b (o + j * e)))
    | none => none
  | _ => none

def aIndexArr (n e : Nat) (x i : T) : Option T :=
  match x with
  | .v (.s (.ptr b o)) => match aIdx i n with
    | some j => some (Z (.ptr b (o + j * e)))
    | none => none
  | _ => none

def aAtStr (x i : T) : Option T :=
  match x with
  | .v (.s (.str l)) => match aIdx i l.length with
    | some j => match l[j]? with
      | some b => some (I .u8 b.toNat)
      | none => none
    | none => none
  | _ => none

def aAtArr (k : Option Nat) (n e : Nat) (x i : T) : Option T :=
  match x with
  | .v (.agg xs) => match aIdx i n with
    | some j => match aPartK k xs (j * e) with
      | some y => some (.v y)
      | none => none
    | none => none
  | _ => none

def aExtract (x : T) (i : Nat) : Option T :=
  match x with
  | .tup l => match l[i]? with
    | some y => some (.v y)
    | none => none
  | _ => none

def aBnd (x : T) (n : Nat) : Option Nat :=
  match x with
  | .v (.s (.int _ i)) => if 0 ≤ i ∧ i ≤ n then some i.toNat else none
  | _ => none

/-- The bounds of a piece: low, high, the end of what may be grown into. -/
def aBounds (len cap : Nat) (lo hi mx : Option T) : Option (Nat × Nat × Nat) :=
  match (match mx with | some v => aBnd v cap | none => some cap) with
  | none => none
  | some m => match (match hi, mx with | some v, _ => aBnd v m | none, none => some len | none, some _ => none) with
    | none => none
    | some h => match (match lo with | some v => aBnd v h | none => some 0) with
      | none => none
      | some l => some (l, h, m)

def aPieceStr (x : T) (lo hi mx : Option T) : Option T :=
  match x, mx with
  | .v (.s (.str s)), none => match aBounds s.length s.length lo hi none with
    | some (l, h, _) => some (Z (.str ((s.take h).drop l)))
    | none => none
  | _, _ => none

def aPieceSl (e : Nat) (x : T) (lo hi mx : Option T) : Option T :=
  match x with
  | .v (.s (.sl b o len (.known c))) => match aBounds len c lo hi mx with
    | some (l, h, m) => some (Z (.sl b (if m = l then o else o + l * e) (h - l) (.known (m - l))))
    | none => none
  | .v (.s (.sl b o len (.grown g))) => if g = e then
      match aBounds len len lo hi mx with
      | some (l, h, m) => match mx with
        | some _ => some (Z (.sl b (if m = l then o else o + l * e) (h - l) (.known (m - l))))
        | none => if l < len then some (Z (.sl b (o + l * e) (h - l) (.grown e))) else some (Z (.emp b e))
      | none => none
    else none
  | .v (.s (.emp b g)) => if g = e then
      match aBounds 0 0 lo hi mx, mx with
      | some _, none => some (Z (.emp b e))
      | _, _ => none
    else none
  | .v (.s .nils) => match aBounds 0 0 lo hi mx with
    | some _ => some (Z .nils)
    | none => none
  | _ => none

def aPieceArr (n e : Nat) (x : T) (lo hi mx : Option T) : Option T :=
  match x with
  | .v (.s (.ptr b o)) => match aBounds n n lo hi mx with
    | some (l, h, m) => some (Z (.sl b (if m = l then o else o + l * e) (h - l) (.known (m - l))))
    | none => none
  | _ => none

def aLenStr (x : T) : Option T :=
  match x with
  | .v (.s (.str l)) => some (I .i64 l.length)
  | _ => none
def aLenSl (x : T) : Option T :=
  match x with
  | .v (.s (.sl _ _ n _)) => some (I .i64 n)
  | .v (.s (.emp _ _)) => some (I .i64 0)
  | .v (.s .nils) => some (I .i64 0)
  | _ => none

def aCap (x : T) : Option T :=
  match x with
  | .v (.s (.sl _ _ _ (.known c))) => some (I .i64 c)
  | .v (.s .nils) => some (I .i64 0)
  | _ => none

def aMin2 (x y : T) : Option T :=
  match x, y with
  | .v (.s (.int k a)), .v (.s (.int _ b)) => some (I k (if b < a then b else a))
  | _, _ => none
def aMax2 (x y : T) : Option T :=
  match x, y with
  | .v (.s (.int k a)), .v (.s (.int _ b)) => some (I k (if a < b then b else a))
  | _, _ => none
def aFold (f : T → T → Option T) : T → List T → Option T
  | x, [] => some x
  | x, y :: r => match f x y with
    | some z => aFold f z r
    | none => none

/-- A struct or array out of its parts. -/
def aFill (zs : List S) : List (Nat × Nat × T) → Option (List S)
  | [] => some zs
  | (off, n, .v x) :: r => if x.cells.length = n ∧ off + n ≤ zs.length then aFill (setRange zs off x.cells) r else none
  | _ :: _ => none

def aClo (f : FuncId) : List T → List (Nat × Nat) → Option T
  | [], acc => some (Z (.clo f acc.reverse))
  | .v (.s (.ptr i o)) :: r, acc => aClo f r ((i, o) :: acc)
  | _ :: _, _ => none

section
variable {P : Program} {ι : Inj} {w : World}

theorem aPick_run {c a b : T} {u v z : Value} {r : T} (hc : TRel ι c u) (ha : TRel ι a v) (hb : TRel ι b z) (h : aPick c a b = some r) :
    ∃ x, (do pure (if ← asBool u then v else z) : Sem Value).run P w = .ok x w ∧ TRel ι r x := by
  unfold aPick at h
  split at h
  · cases hc; cases h; exact ⟨v, rfl, ha⟩
  · cases hc; cases h; exact ⟨z, rfl, hb⟩
  · cases h

theorem aUn_run {op : UnOp} {x : T} {u : Value} {r : T} (hx : TRel ι x u) (h : aUn op x = some r) : ∃ v, (Op.unary op u).run P w = .ok v w ∧ TRel ι r v := by
  unfold aUn at h
  split at h
  · cases hx; cases h; exact ⟨_, rfl, rfl⟩
  · cases hx; cases h; exact ⟨_, rfl, rfl⟩
  · cases hx; cases h; exact ⟨_, rfl, rfl⟩
  · cases h

theorem aIdx_of {x : T} {n j : Nat} {u : Value} (hx : TRel ι x u) (h : aIdx x n = some j) : ∃ k i, u = .int k i ∧ 0 ≤ i ∧ i < n ∧ i.toNat = j := by
  unfold aIdx at h
  split at h
  · rename_i k i
    cases hx
    split at h
    · rename_i hb; cases h; exact ⟨k, i, rfl, hb.1, hb.2, rfl⟩
    · cases h
  · cases h

theorem aBnd_run {x : T} {n m j : Nat} {u : Value} (hx : TRel ι x u) (h : aBnd x n = some j) (hm : n ≤ m) (code : BoundsCode) : (Instr.sliceBound u m code).run P w = .ok j w ∧ j ≤ n := by
  unfold aBnd at h
  split at h
  · rename_i k i
    cases hx
    split at h
    · rename_i hb
      cases h
      have : 0 ≤ i ∧ i ≤ (m : Int) := ⟨hb.1, by omega⟩
      exact ⟨by simp [Instr.sliceBound, asIntOf, run_bind, run_pure, this], by omega⟩
    · cases h
  · cases h

def ORel (ι : Inj) (x : Option T) (u : Option Value) : Prop :=
  match x, u with
  | some x, some u => TRel ι x u
  | none, none => True
  | _, _ => False

theorem aBounds_run {len lim cap : Nat} {lo hi mx : Option T} {lo' hi' mx' : Option Value} {l h m : Nat} (h1 : ORel ι lo lo') (h2 : ORel ι hi hi') (h3 : ORel ι mx mx')
    (hb : aBounds len lim lo hi mx = some (l, h, m)) (hlim : lim ≤ cap) (hlen : len ≤ lim) (isS : Bool) :
    (Instr.sliceBounds isS len cap lo' hi' mx').run P w = .ok (l, h, if mx.isSome then m else cap) w ∧ l ≤ h ∧ h ≤ m ∧ m ≤ lim ∧ (mx = none → m = lim) := by
  unfold aBounds at hb
  split at hb
  · cases hb
  · rename_i m' hm
    split at hb
    · cases hb
    · rename_i h' hh
      split at hb
      · cases hb
      · rename_i l' hl
        cases hb
        match mx, mx', h3 with
        | none, none, _ =>
          cases hm
          match hi, hi', h2 with
          | none, none, _ =>
            cases hh
            match lo, lo', h1 with
            | none, none, _ => cases hl; simp [Instr.sliceBounds, run_bind, run_pure]; omega
            | some lo, some lo', h1 =>
              obtain ⟨r, hr⟩ := aBnd_run (P := P) (w := w) h1 hl (Nat.le_refl _) (if false = true then .slice3C else .sliceB)
              simp only [Bool.false_eq_true, if_false] at r
              simp [Instr.sliceBounds, run_bind, run_pure, r]; omega
          | some hi, some hi', h2 =>
            obtain ⟨r, hr⟩ := aBnd_run (P := P) (w := w) h2 hh hlim (if isS then .sliceAcap else .sliceAlen)
            match lo, lo', h1 with
            | none, none, _ => cases hl; simp [Instr.sliceBounds, run_bind, run_pure, r]; omega
            | some lo, some lo', h1 =>
              obtain ⟨r', hr'⟩ := aBnd_run (P := P) (w := w) h1 hl (Nat.le_refl _) (if false = true then .slice3C else .sliceB)
              simp only [Bool.false_eq_true, if_false] at r'
              simp [Instr.sliceBounds, run_bind, run_pure, r, r']; omega
        | some mx, some mx', h3 =>
          obtain ⟨rm, hrm⟩ := aBnd_run (P := P) (w := w) h3 hm hlim (if isS then .slice3Acap else .slice3Alen)
          match hi, hi', h2 with
          | none, none, _ => cases hh
          | some hi, some hi', h2 =>
            obtain ⟨r, hr⟩ := aBnd_run (P := P) (w := w) h2 hh (Nat.le_refl _) .slice3B
            match lo, lo', h1 with
            | none, none, _ => cases hl; simp [Instr.sliceBounds, run_bind, run_pure, rm, r]; omega
            | some lo, some lo', h1 =>
              obtain ⟨r', hr'⟩ := aBnd_run (P := P) (w := w) h1 hl (Nat.le_refl _) (if true = true then .slice3C else .sliceB)
              simp only [if_true] at r'
              simp [Instr.sliceBounds, run_bind, run_pure, rm, r, r']; omega
end
end Go.Abs

/-
  One word for all operations that read temporaries alone, and that the model's operation does just that.
-/
namespace Go.Abs
open Go

def placesS (P : Program) (fs : Array Field) (ev : Operand → T) : List (Nat × Operand) → Option (List (Nat × Nat × T))
  | [] => some []
  | (i, x) :: r => match fs[i]? with
    | some f => match szOf P f.type, placesS P fs ev r with
      | some n, some l => some ((f.offset, n, ev x) :: l)
      | _, _ => none
    | none => none

def placesA (n : Nat) (ev : Operand → T) : List (Nat × Operand) → List (Nat × Nat × T)
  | [] => []
  | (i, x) :: r => (i * n, n, ev x) :: placesA n ev r

def asAggT : Option (List S) → Option T
  | some l => some (.v (.agg l))
  | none => none

def fieldsOk (P : Program) (fs : Array Field) : Bool := fs.all fun f => (szOf P f.type).isSome

def opP (P : Program) (op : Op) (ev : Operand → T) : Option T :=
  match op with
  | .move x => some (ev x)
  | .assign x => some (ev x)
  | .pick c a b => aPick (ev c) (ev a) (ev b)
  | .build t parts => match zeroOf P t, P.underlying t with
    | some z, some (.struct fs) => if fieldsOk P fs then match placesS P fs ev parts.toList with
      | some l => asAggT (aFill z.cells l)
      | none => none
      else none
    | some z, some (.array _ e) => match szOf P e with
      | some n => asAggT (aFill z.cells (placesA n ev parts.toList))
      | none => none
    | _, _ => none
  | .nilCheck x => aNil (ev x)
  | .binOp op t x y _ => match P.underlying t with
    | some (.int _) => aBin op (ev x) (ev y)
    | some .string => aBin op (ev x) (ev y)
    | _ => match op, ekOf P t with
      | .eql, some .i => if isConst x || isConst y then (match aEq .i (ev x) (ev y) with | some b => some (B b) | none => none) else none
      | .neq, some .i => if isConst x || isConst y then (match aEq .i (ev x) (ev y) with | some b => some (B (!b)) | none => none) else none
      | .eql, some k => match aEq k (ev x) (ev y) with | some b => some (B b) | none => none
      | .neq, some k => match aEq k (ev x) (ev y) with | some b => some (B (!b)) | none => none
      | _, _ => none
  | .unOp op _ x => aUn op (ev x)
  | .convert s d x => match P.underlying s, P.underlying d with
    | some _, some (.int k) => aConv k (ev x)
    | some .string, some .string => aConvS (ev x)
    | _, _ => none
  | .makeFunc (.func f) first caps => if first.size = 0 then aClo f (caps.toList.map ev) [] else none
  | .slice t x lo hi mx => match P.underlying t with
    | some .string => aPieceStr (ev x) (lo.map ev) (hi.map ev) (mx.map ev)
    | some (.slice e) => match szOf P e with
      | some n => aPieceSl n (ev x) (lo.map ev) (hi.map ev) (mx.map ev)
      | none => none
    | some (.array k e) => match szOf P e with
      | some n => aPieceArr k n (ev x) (lo.map ev) (hi.map ev) (mx.map ev)
      | none => none
    | _ => none
  | .fieldAddr s x f => match P.underlying s with
    | some (.struct fs) => match fs[f]? with
      | some fd => match szOf P fd.type with
        | some (_ + 1) => aFieldAddr fd.offset (ev x)
        | _ => none
      | none => none
    | _ => none
  | .field t x f => match P.underlying t with
    | some (.struct fs) => match fs[f]? with
      | some fd => match pkOf P fd.type with
        | some k => aField k fd.offset (ev x)
        | none => none
      | none => none
    | _ => none
  | .indexAddr t x i => match P.underlying t with
    | some (.slice e) => match szOf P e with
      | some n => aIndexSl n (ev x) (ev i)
      | none => none
    | some (.array k e) => match szOf P e with
      | some n => aIndexArr k n (ev x) (ev i)
      | none => none
    | _ => none
  | .index t x i => match P.underlying t with
    | some .string => aAtStr (ev x) (ev i)
    | some (.array k e) => match szOf P e, pkOf P e with
      | some n, some pk => aAtArr pk k n (ev x) (ev i)
      | _, _ => none
    | _ => none
  | .extract x i => aExtract (ev x) i
  | .call { callee := .builtin .len, args, argTypes } => match args.toList, argTypes.toList with
    | [x], [t] => match P.underlying t with
      | some .string => aLenStr (ev x)
      | some (.slice _) => aLenSl (ev x)
      | some (.array n _) => some (I .i64 n)
      | _ => none
    | _, _ => none
  | .call { callee := .builtin .cap, args, argTypes } => match args.toList, argTypes.toList with
    | [x], [t] => match P.underlying t with
      | some (.slice _) => aCap (ev x)
      | _ => none
    | _, _ => none
  | .call { callee := .builtin .min, args, .. } => match args.toList.map ev with
    | x :: r => aFold aMin2 x r
    | [] => none
  | .call { callee := .builtin .max, args, .. } => match args.toList.map ev with
    | x :: r => aFold aMax2 x r
    | [] => none
  | _ => none

section
variable {P : Program} {ι : Inj} {w : World}

theorem run_value {s : Sem Value} {x : Value} (h : s.run P w = .ok x w) : (do pure (Next.value (← s)) : Sem Next).run P w = .ok (.value x) w := by
  simp only [run_bind, h, run_pure]

theorem set_toList_toArray (cs : List Value) (i : Nat) (v : Value) : cs.toArray.setIfInBounds i v = (cs.set i v).toArray := by simp

theorem foldl_set (off : Nat) : ∀ (xs : List Value) (k : Nat) (cs : List Value), ∃ ds, (xs.zipIdx k).foldl (fun (a : Array Value) (p : Value × Nat) => a.setIfInBounds (off + p.2) p.1) cs.toArray = ds.toArray ∧
    ∀ {ys zs : List S}, All2 (SRel ι) ys xs → All2 (SRel ι) zs cs → All2 (SRel ι) (setRange zs (off + k) ys) ds := by
  intro xs
  induction xs with
  | nil =>
    intro k cs
    refine ⟨cs, rfl, ?_⟩
    intro ys zs hy hz
    cases hy; exact hz
  | cons x xs ih =>
    intro k cs
    obtain ⟨ds, h1, h2⟩ := ih (k + 1) (cs.set (off + k) x)
    refine ⟨ds, ?_, ?_⟩
    · rw [List.zipIdx_cons, List.foldl_cons, set_toList_toArray]
      exact h1
    · intro ys zs hy hz
      cases hy with
      | cons a hy =>
        simp only [setRange]
        refine h2 hy ?_
        refine forall2_of_get (by simp [forall2_length hz]) ?_
        intro j y z hy' hz'
        by_cases e : off + k = j
        · subst e
          by_cases hl : off + k < zs.length
          · rw [List.getElem?_set_self hl] at hy'
            rw [List.getElem?_set_self (by rw [← forall2_length hz]; exact hl)] at hz'
            cases hy'; cases hz'; exact a
          · rw [List.getElem?_eq_none (by simp; omega)] at hy'; cases hy'
        · rw [List.getElem?_set_ne e] at hy' hz'
          obtain ⟨z', hz1, r⟩ := forall2_get hz j y hy'
          rw [hz'] at hz1; cases hz1; exact r

theorem foldl_set_arr (off : Nat) (v : Value) (cs : List Value) : ∃ ds, (v.cells.zipIdx.foldl (fun (a : Array Value) (p : Value × Nat) => a.setIfInBounds (off + p.2) p.1) cs.toArray) = ds.toArray ∧
    ∀ {ys zs : List S}, All2 (SRel ι) ys v.cells.toList → All2 (SRel ι) zs cs → All2 (SRel ι) (setRange zs off ys) ds := by
  obtain ⟨ds, h1, h2⟩ := foldl_set (ι := ι) off v.cells.toList 0 cs
  refine ⟨ds, ?_, ?_⟩
  · rw [← h1, ← Array.foldl_toList]
    congr 1
    simp
  · intro ys zs hy hz
    have := h2 hy hz
    simpa using this

theorem aFill_run {place : Nat → Option (Nat × Nat)} : ∀ (parts : List (Nat × Value)) (l : List (Nat × Nat × T)) (zs : List S) (cs : List Value) (ys : List S),
    All2 (fun (a : Nat × Nat × T) (b : Nat × Value) => place b.1 = some (a.1, a.2.1) ∧ TRel ι a.2.2 b.2) l parts → All2 (SRel ι) zs cs → aFill zs l = some ys →
    ∃ ds : List Value, Instr.fill place cs.toArray parts = some ds.toArray ∧ All2 (SRel ι) ys ds := by
  intro parts
  induction parts with
  | nil =>
    intro l zs cs ys hl hz h
    cases hl
    cases h
    exact ⟨cs, rfl, hz⟩
  | cons p parts ih =>
    intro l zs cs ys hl hz h
    cases hl with
    | @cons a _ l _ hr hl =>
      obtain ⟨off, n, t⟩ := a
      obtain ⟨i, v⟩ := p
      obtain ⟨hp, ht⟩ := hr
      cases t with
      | any => cases h
      | tup _ => cases h
      | v x =>
        simp only [aFill] at h
        split at h
        · rename_i hc
          have hcells := VRel.cells ht
          have hlen : v.cells.size = n := by have := forall2_length hcells; simp at this; omega
          obtain ⟨ds, h1, h2⟩ := foldl_set_arr (ι := ι) off v cs
          obtain ⟨es, h3, h4⟩ := ih l _ ds ys hl (h2 hcells hz) h
          refine ⟨es, ?_, h4⟩
          have hzl := forall2_length hz
          simp only at hp
          simp only [Instr.fill, hp]
          rw [if_neg (by simp; omega)]
          rw [← h3, ← h1]
        · cases h

theorem mapM_places (fs : List Field) (h : ∀ f ∈ fs, ∃ n, szOf P f.type = some n) : ∃ l : List (Nat × Nat), (fs.mapM fun f => (do pure (f.offset, ← sizeOf f.type) : Sem (Nat × Nat))).run P w = .ok l w ∧
    ∀ i : Nat, l[i]? = (fs[i]?).bind fun f => (szOf P f.type).map fun n => (f.offset, n) := by
  induction fs with
  | nil => exact ⟨[], by simp [run_pure], by simp⟩
  | cons f fs ih =>
    obtain ⟨l, h1, h2⟩ := ih fun g hg => h g (by simp [hg])
    obtain ⟨n, hn⟩ := h f (by simp)
    refine ⟨(f.offset, n) :: l, ?_, ?_⟩
    · simp only [List.mapM_cons, run_bind, run_sz hn, run_pure, h1]
    · intro i
      cases i with
      | zero => simp [hn]
      | succ i => simpa using h2 i
end
end Go.Abs

/-
  The model's operation does what 'opP' says.
-/
namespace Go.Abs
open Go
section
variable {P : Program} {ι : Inj} {w : World}

/-- What is said of an operation that reads temporaries alone. -/
def Gives (P : Program) (ι : Inj) (w : World) (ρ : Operand → Value) (o : Oper) (r : T) : Prop := ∃ v, (execOp ρ o).run P w = .ok (.value v) w ∧ TRel ι r v

theorem gives_v {ρ : Operand → Value} {o : Oper} {r : T} {s : Sem Value} (he : execOp ρ o = (do pure (Next.value (← s)))) (h : ∃ v, s.run P w = .ok v w ∧ TRel ι r v) : Gives P ι w ρ o r := by
  obtain ⟨v, h1, h2⟩ := h
  exact ⟨v, by rw [he]; exact run_value h1, h2⟩

theorem sureAddr_run {x : T} {i o : Nat} {u : Value} (h : TRel ι (Z (.ptr i o)) u) : ∃ L, ι i = some L ∧ u = .pointer (some ⟨L.b, L.base + o, none⟩) ∧ (Instr.sureAddr u).run P w = .ok ⟨L.b, L.base + o, none⟩ w := by
  obtain ⟨L, hL, rfl⟩ := h
  exact ⟨L, hL, rfl, rfl⟩

theorem ptr_rel {i o : Nat} {L : Loc} {b off : Nat} (h : ι i = some L) (hb : b = L.b) (ho : off = L.base + o) : TRel ι (Z (.ptr i o)) (.pointer (some ⟨b, off, none⟩)) := by
  subst hb ho; exact ⟨L, h, rfl⟩

theorem build_run {t : TypeId} {parts : Array (Nat × Operand)} {ev : Operand → T} {ρ : Operand → Value} {r : T} (hev : ∀ p ∈ parts, TRel ι (ev p.2) (ρ p.2))
    (h : opP P (.build t parts) ev = some r) : ∃ v, (Instr.build t (parts.map fun p => (p.1, ρ p.2))).run P w = .ok v w ∧ TRel ι r v := by
  simp only [opP] at h
  split at h
  · rename_i z fs hz hu
    split at h
    · rename_i hfo
      split at h
      · rename_i l hl
        obtain ⟨zv, hzr, hzrel⟩ := run_zero (P := P) (w := w) (ι := ι) hz
        have hzc := VRel.cells hzrel
        obtain ⟨pl, hp1, hp2⟩ := mapM_places (P := P) (w := w) fs.toList (fun f hf => by
          have := (Array.all_eq_true_iff_forall_mem.1 hfo) f (by simpa using hf)
          exact Option.isSome_iff_exists.1 this)
        cases hf : aFill z.cells l with
        | none => rw [hf] at h; cases h
        | some ys =>
          rw [hf] at h; cases h
          have hall : ∀ (pp : List (Nat × Operand)) (l : List (Nat × Nat × T)), (∀ p ∈ pp, TRel ι (ev p.2) (ρ p.2)) → placesS P fs ev pp = some l →
              All2 (fun (a : Nat × Nat × T) (b : Nat × Value) => (pl[b.1]? : Option (Nat × Nat)) = some (a.1, a.2.1) ∧ TRel ι a.2.2 b.2) l (pp.map fun p => (p.1, ρ p.2)) := by
            intro pp
            induction pp with
            | nil => intro l _ h; cases h; exact .nil
            | cons p pp ih =>
              intro l hev h
              obtain ⟨i, x⟩ := p
              simp only [placesS] at h
              split at h
              · rename_i f hfi
                split at h
                · rename_i n l' hn hl'
                  cases h
                  refine .cons ⟨?_, hev (i, x) (by simp)⟩ (ih l' (fun p hp => hev p (by simp [hp])) hl')
                  rw [hp2]
                  simp [hfi, hn]
                · cases h
              · cases h
          obtain ⟨ds, hd1, hd2⟩ := aFill_run (ι := ι) (place := (pl[·]?)) (parts.toList.map fun p => (p.1, ρ p.2)) l z.cells zv.cells.toList ys (hall parts.toList l (fun p hp => hev p (by simpa using hp)) hl) hzc hf
          refine ⟨.agg ds.toArray, ?_, ds, rfl, hd2⟩
          have hmap : (fs.mapM fun f => (do pure (f.offset, ← sizeOf f.type) : Sem (Nat × Nat))).run P w = .ok pl.toArray w := by
            rw [← Array.toArray_toList (xs := fs), List.mapM_toArray]
            show ((Functor.map _ _ : Sem _)).run P w = _
            rw [map_eq_pure_bind, run_bind, hp1]
            simp [run_pure]
          simp only [Instr.build, run_bind, hzr, run_und hu]
          rw [hmap]
          simp only []
          have e : (fun (x : Nat) => pl.toArray[x]?) = (fun (x : Nat) => pl[x]?) := by funext x; simp
          have e2 : (parts.map fun p => (p.1, ρ p.2)).toList = parts.toList.map fun p => (p.1, ρ p.2) := by simp
          rw [e, e2]
          simp only [Array.toArray_toList] at hd1
          rw [hd1]
          rfl
      · cases h
    · cases h
  · rename_i z k e hz hu
    split at h
    · rename_i n hn
      obtain ⟨zv, hzr, hzrel⟩ := run_zero (P := P) (w := w) (ι := ι) hz
      have hzc := VRel.cells hzrel
      cases hf : aFill z.cells (placesA n ev parts.toList) with
      | none => rw [hf] at h; cases h
      | some ys =>
        rw [hf] at h; cases h
        have hall : ∀ (pp : List (Nat × Operand)), (∀ p ∈ pp, TRel ι (ev p.2) (ρ p.2)) →
            All2 (fun (a : Nat × Nat × T) (b : Nat × Value) => (some (b.1 * n, n) : Option (Nat × Nat)) = some (a.1, a.2.1) ∧ TRel ι a.2.2 b.2) (placesA n ev pp) (pp.map fun p => (p.1, ρ p.2)) := by
          intro pp
          induction pp with
          | nil => intro _; exact .nil
          | cons p pp ih =>
            intro hev
            exact .cons ⟨rfl, hev p (by simp)⟩ (ih fun q hq => hev q (by simp [hq]))
        obtain ⟨ds, hd1, hd2⟩ := aFill_run (ι := ι) (place := fun i => some (i * n, n)) (parts.toList.map fun p => (p.1, ρ p.2)) _ z.cells zv.cells.toList ys (hall parts.toList (fun p hp => hev p (by simpa using hp))) hzc hf
        refine ⟨.agg ds.toArray, ?_, ds, rfl, hd2⟩
        have e2 : (parts.map fun p => (p.1, ρ p.2)).toList = parts.toList.map fun p => (p.1, ρ p.2) := by simp
        simp only [Array.toArray_toList] at hd1
        simp only [Instr.build, run_bind, hzr, run_und hu, run_sz hn, e2, hd1]
        rfl
    · cases h
  · cases h
end
end Go.Abs

/-
  Pieces, places, lengths; then all together.
-/
namespace Go.Abs
open Go
section
variable {P : Program} {ι : Inj} {w : World}

theorem orel_map {ev : Operand → T} {ρ : Operand → Value} {x : Option Operand} (h : ∀ y, x = some y → TRel ι (ev y) (ρ y)) : ORel ι (x.map ev) (x.map ρ) := by
  cases x with
  | none => trivial
  | some y => exact h y rfl

theorem isSome_map {α β : Type} (x : Option α) (f : α → β) : (x.map f).isSome = x.isSome := by cases x <;> rfl

theorem pieceStr_run {t : TypeId} {x : T} {u : Value} {lo hi mx : Option T} {lo' hi' mx' : Option Value} {r : T} (hu : P.underlying t = some .string) (hx : TRel ι x u)
    (h1 : ORel ι lo lo') (h2 : ORel ι hi hi') (h3 : ORel ι mx mx') (h : aPieceStr x lo hi mx = some r) :
    ∃ v, (Instr.sliceAt t u lo' hi' mx').run P w = .ok v w ∧ TRel ι r v := by
  unfold aPieceStr at h
  split at h
  · rename_i s
    split at h
    · rename_i l h' m hb
      cases h
      obtain ⟨s', rfl, rfl⟩ := hx
      match mx', h3 with
      | none, _ =>
        rw [← size_data] at hb
        obtain ⟨hr, hl, hh, hm, _⟩ := aBounds_run (P := P) (w := w) (ι := ι) (cap := s'.size) h1 h2 (mx := none) (mx' := none) trivial hb (Nat.le_refl _) (Nat.le_refl _) false
        refine ⟨.string (s'.extract l h'), ?_, s'.extract l h', rfl, ?_⟩
        · simp only [Instr.sliceAt, run_bind, run_und hu, Instr.slice, Option.isSome_none, Bool.false_eq_true, if_false, hr, run_pure]
        · rw [ByteArray.data_extract]
          simp [List.drop_take]
    · cases h
  · cases h

theorem add_none (b o n : Nat) : (⟨b, o, none⟩ : Addr).add n = ⟨b, o + n, none⟩ := add_eq b o n

theorem pieceSl_run {t e : TypeId} {n : Nat} {x : T} {u : Value} {lo hi mx : Option T} {lo' hi' mx' : Option Value} {r : T} (hu : P.underlying t = some (.slice e)) (hn : szOf P e = some n) (hx : TRel ι x u)
    (h1 : ORel ι lo lo') (h2 : ORel ι hi hi') (h3 : ORel ι mx mx') (h : aPieceSl n x lo hi mx = some r) :
    ∃ v, (Instr.sliceAt t u lo' hi' mx').run P w = .ok v w ∧ TRel ι r v := by
  have base : ∀ (mx' : Option Value) (a : Option Addr) (len cap : Nat), (Instr.sliceAt t (.slice a len cap) lo' hi' mx').run P w =
      match (Instr.sliceBounds true len cap lo' hi' mx').run P w with
      | .ok (l, h, m) w' => .ok (.slice (if m = l then a else a.map (·.add (l * n))) (h - l) (m - l)) w'
      | .halt x w' => .halt x w' := by
    intro mx' a len cap
    simp only [Instr.sliceAt, run_bind, run_und hu, Instr.slice]
    cases (Instr.sliceBounds true len cap lo' hi' mx').run P w with
    | halt x w' => rfl
    | ok p w' => simp only [run_sz hn, run_pure]
  unfold aPieceSl at h
  split at h
  · rename_i b o len c
    split at h
    · rename_i l h' m hb
      cases h
      obtain ⟨L, hL, rfl, hlc⟩ := hx
      obtain ⟨hr, hl, hh, hm, hmn⟩ := aBounds_run (P := P) (w := w) (ι := ι) (cap := c) h1 h2 h3 hb (Nat.le_refl _) hlc true
      have hmm : (if mx.isSome then m else c) = m := by
        cases mx with
        | none => simp [hmn rfl]
        | some _ => rfl
      rw [hmm] at hr
      refine ⟨_, by rw [base, hr], L, hL, ?_, by omega⟩
      by_cases e : m = l
      · simp [e]
      · simp only [if_neg e, Option.map_some, add_eq, Nat.add_assoc]
    · cases h
  · rename_i b o len g
    split at h
    · rename_i hge
      subst hge
      obtain ⟨L, c, hL, rfl, hlc, hsz⟩ := hx
      split at h
      · rename_i l h' m hb
        obtain ⟨hr, hl, hh, hm, hmn⟩ := aBounds_run (P := P) (w := w) (ι := ι) (cap := c) h1 h2 h3 hb hlc (Nat.le_refl _) true
        split at h
        · cases h
          simp only [Option.isSome_some, if_true] at hr
          refine ⟨_, by rw [base, hr], L, hL, ?_, by omega⟩
          by_cases e : m = l
          · simp [e]
          · simp only [if_neg e, Option.map_some, add_eq, Nat.add_assoc]
        · simp only [Option.isSome_none, Bool.false_eq_true, if_false] at hr
          have hm' := hmn rfl
          split at h
          · rename_i hlt
            cases h
            refine ⟨_, by rw [base, hr], L, c - l, hL, ?_, by omega, ?_⟩
            · rw [if_neg (by omega)]; simp only [Option.map_some, add_eq, Nat.add_assoc]
            · have : l * g + (c - l) * g = c * g := by rw [← Nat.add_mul]; congr 1; omega
              omega
          · rename_i hlt
            cases h
            have hhl : h' - l = 0 := by omega
            have hcl : l = len := by omega
            subst hcl
            by_cases e : c = l
            · refine ⟨_, by rw [base, hr], L, ⟨L.b, L.base + o, none⟩, c - l, hL, ?_, ?_⟩
              · rw [if_pos e, hhl]
              · exact .inl (by omega)
            · refine ⟨_, by rw [base, hr], L, ⟨L.b, L.base + (o + l * g), none⟩, c - l, hL, ?_, ?_⟩
              · rw [if_neg e, hhl]; simp only [Option.map_some, add_eq, Nat.add_assoc]
              · have : l * g + (c - l) * g = c * g := by rw [← Nat.add_mul]; congr 1; omega
                exact .inr ⟨o + l * g, rfl, by omega⟩
      · cases h
    · cases h
  · rename_i b g
    split at h
    · rename_i hge
      subst hge
      obtain ⟨L, a, c, hL, rfl, hsz⟩ := hx
      split at h
      · rename_i q hb
        obtain ⟨l, h', m⟩ := q
        cases h
        match mx', h3 with
        | none, _ =>
          obtain ⟨hr, hl, hh, hm, hmn⟩ := aBounds_run (P := P) (w := w) (ι := ι) (cap := c) h1 h2 (mx := none) (mx' := none) trivial hb (Nat.zero_le _) (Nat.le_refl _) true
          simp only [Option.isSome_none, Bool.false_eq_true, if_false] at hr
          have hl0 : l = 0 := by omega
          have hh0 : h' = 0 := by omega
          subst hl0 hh0
          refine ⟨_, by rw [base, hr], L, a, c, hL, ?_, hsz⟩
          by_cases e : c = 0
          · simp [e]
          · simp [e, add_eq, Go.Addr.add]
      · cases h
    · cases h
  · split at h
    · rename_i q hb
      obtain ⟨l, h', m⟩ := q
      cases h
      simp only [TRel, VRel, SRel] at hx; subst hx
      obtain ⟨hr, hl, hh, hm, hmn⟩ := aBounds_run (P := P) (w := w) (ι := ι) (cap := 0) h1 h2 h3 hb (Nat.le_refl _) (Nat.le_refl _) true
      have hmm : (if mx.isSome then m else 0) = 0 := by
        cases mx with
        | none => rfl
        | some _ => simp; omega
      rw [hmm] at hr
      have hl0 : l = 0 := by omega
      have hh0 : h' = 0 := by omega
      subst hl0 hh0
      exact ⟨_, by rw [base, hr], by simp [TRel, VRel, SRel]⟩
    · cases h
  · cases h
end
end Go.Abs

/-
  All operations that read temporaries alone.
-/
namespace Go.Abs
open Go
section
variable {P : Program} {ι : Inj} {w : World}

theorem pieceArr_run {t e : TypeId} {k n : Nat} {x : T} {u : Value} {lo hi mx : Option T} {lo' hi' mx' : Option Value} {r : T} (hu : P.underlying t = some (.array k e)) (hn : szOf P e = some n) (hx : TRel ι x u)
    (h1 : ORel ι lo lo') (h2 : ORel ι hi hi') (h3 : ORel ι mx mx') (h : aPieceArr k n x lo hi mx = some r) :
    ∃ v, (Instr.sliceAt t u lo' hi' mx').run P w = .ok v w ∧ TRel ι r v := by
  unfold aPieceArr at h
  split at h
  · rename_i b o
    split at h
    · rename_i l h' m hb
      cases h
      obtain ⟨L, hL, rfl⟩ := hx
      obtain ⟨hr, hl, hh, hm, hmn⟩ := aBounds_run (P := P) (w := w) (ι := ι) (cap := k) h1 h2 h3 hb (Nat.le_refl _) (Nat.le_refl _) false
      have hmm : (if mx.isSome then m else k) = m := by
        cases mx with
        | none => simp [hmn rfl]
        | some _ => rfl
      rw [hmm] at hr
      refine ⟨.slice (some (if m = l then ⟨L.b, L.base + o, none⟩ else (⟨L.b, L.base + o, none⟩ : Addr).add (l * n))) (h' - l) (m - l), ?_, L, hL, ?_, by omega⟩
      · simp only [Instr.sliceAt, run_bind, run_und hu, Instr.sureAddr, run_pure, hr, run_sz hn]
      · by_cases e : m = l
        · simp [e]
        · simp only [if_neg e, add_eq, Nat.add_assoc]
    · cases h
  · cases h

theorem fieldAddr_run {s : TypeId} {fs : Array Field} {f n : Nat} {fd : Field} {x : T} {u : Value} {r : T} (hu : P.underlying s = some (.struct fs)) (hf : fs[f]? = some fd) (hn : szOf P fd.type = some (n + 1))
    (hx : TRel ι x u) (h : aFieldAddr fd.offset x = some r) : ∃ v, (Instr.fieldAt s u f).run P w = .ok v w ∧ TRel ι r v := by
  unfold aFieldAddr at h
  split at h
  · cases h
    obtain ⟨L, hL, rfl⟩ := hx
    refine ⟨_, ?_, ptr_rel hL rfl rfl⟩
    simp only [Instr.fieldAt, run_bind, run_und hu, hf, Instr.sureAddr, run_pure, fieldPlace, run_sz hn]
    rw [if_neg (by omega)]
    simp only [run_pure, add_eq, Nat.add_assoc]
  · cases h

theorem field_run {s : TypeId} {fs : Array Field} {f : Nat} {fd : Field} {k : Option Nat} {x : T} {u : Value} {r : T} (hu : P.underlying s = some (.struct fs)) (hf : fs[f]? = some fd) (hk : pkOf P fd.type = some k)
    (hx : TRel ι x u) (h : aField k fd.offset x = some r) : ∃ v, (Instr.field s u f).run P w = .ok v w ∧ TRel ι r v := by
  unfold aField at h
  split at h
  · rename_i xs
    split at h
    · rename_i y hy
      cases h
      obtain ⟨cs, rfl, hcs⟩ := hx
      rw [← aPartK_eq hk] at hy
      obtain ⟨v, hv, r⟩ := aPart_run hcs hy w
      exact ⟨v, by simp only [Instr.field, run_bind, run_und hu, hf, asAgg, run_pure, hv], r⟩
    · cases h
  · cases h

theorem indexSl_run {t e : TypeId} {n : Nat} {x i : T} {u v : Value} {r : T} (hu : P.underlying t = some (.slice e)) (hn : szOf P e = some n) (hx : TRel ι x u) (hi : TRel ι i v)
    (h : aIndexSl n x i = some r) : ∃ z, (Instr.indexAt t u v).run P w = .ok z w ∧ TRel ι r z := by
  unfold aIndexSl at h
  split at h
  · rename_i b o len cap
    split at h
    · rename_i j hj
      cases h
      obtain ⟨k, i, rfl, hi0, hi1, rfl⟩ := aIdx_of hi hj
      have hs : ∃ L c, ι b = some L ∧ u = .slice (some ⟨L.b, L.base + o, none⟩) len c := by
        cases cap with
        | known c => obtain ⟨L, hL, e, _⟩ := hx; exact ⟨L, _, hL, e⟩
        | grown g => obtain ⟨L, c, hL, e, _⟩ := hx; exact ⟨L, _, hL, e⟩
      obtain ⟨L, c, hL, rfl⟩ := hs
      refine ⟨_, ?_, ptr_rel hL rfl rfl⟩
      simp only [Instr.indexAt, asIntOf, run_bind, run_pure, run_und hu]
      rw [if_pos ⟨hi0, hi1⟩]
      simp only [run_bind, run_sz hn, run_pure, add_eq, Nat.add_assoc]
    · cases h
  · cases h

theorem indexArr_run {t e : TypeId} {m n : Nat} {x i : T} {u v : Value} {r : T} (hu : P.underlying t = some (.array m e)) (hn : szOf P e = some n) (hx : TRel ι x u) (hi : TRel ι i v)
    (h : aIndexArr m n x i = some r) : ∃ z, (Instr.indexAt t u v).run P w = .ok z w ∧ TRel ι r z := by
  unfold aIndexArr at h
  split at h
  · rename_i b o
    split at h
    · rename_i j hj
      cases h
      obtain ⟨k, i, rfl, hi0, hi1, rfl⟩ := aIdx_of hi hj
      obtain ⟨L, hL, rfl⟩ := hx
      refine ⟨_, ?_, ptr_rel hL rfl rfl⟩
      simp only [Instr.indexAt, asIntOf, run_bind, run_pure, run_und hu, Instr.sureAddr]
      rw [if_pos ⟨hi0, hi1⟩]
      simp only [run_bind, run_sz hn, run_pure, add_eq, Nat.add_assoc]
    · cases h
  · cases h

theorem atStr_run {t : TypeId} {x i : T} {u v : Value} {r : T} (hu : P.underlying t = some .string) (hx : TRel ι x u) (hi : TRel ι i v)
    (h : aAtStr x i = some r) : ∃ z, (Instr.index t u v).run P w = .ok z w ∧ TRel ι r z := by
  unfold aAtStr at h
  split at h
  · rename_i l
    split at h
    · rename_i j hj
      split at h
      · rename_i b hb
        cases h
        obtain ⟨k, i, rfl, hi0, hi1, rfl⟩ := aIdx_of hi hj
        obtain ⟨s, rfl, rfl⟩ := hx
        refine ⟨.int .u8 b.toNat, ?_, rfl⟩
        have hlt : i.toNat < s.size := by rw [size_data]; omega
        have e : s[i.toNat]? = some b := by
          rw [ByteArray.getElem?_lt' s i.toNat hlt]
          rw [← hb]
          rw [List.getElem?_eq_getElem (by rw [← size_data]; exact hlt)]
          rfl
        simp only [Instr.index, asIntOf, run_bind, run_pure, run_und hu, if_pos hi0, e]
      · cases h
    · cases h
  · cases h

theorem atArr_run {t e : TypeId} {m n : Nat} {k : Option Nat} {x i : T} {u v : Value} {r : T} (hu : P.underlying t = some (.array m e)) (hn : szOf P e = some n) (hk : pkOf P e = some k) (hx : TRel ι x u) (hi : TRel ι i v)
    (h : aAtArr k m n x i = some r) : ∃ z, (Instr.index t u v).run P w = .ok z w ∧ TRel ι r z := by
  unfold aAtArr at h
  split at h
  · rename_i xs
    split at h
    · rename_i j hj
      split at h
      · rename_i y hy
        cases h
        obtain ⟨kk, i, rfl, hi0, hi1, rfl⟩ := aIdx_of hi hj
        obtain ⟨cs, rfl, hcs⟩ := hx
        rw [← aPartK_eq hk] at hy
        obtain ⟨v, hv, r⟩ := aPart_run hcs hy w
        refine ⟨v, ?_, r⟩
        simp only [Instr.index, asIntOf, run_bind, run_pure, run_und hu]
        rw [if_pos ⟨hi0, hi1⟩]
        simp only [run_bind, run_sz hn, hv]
      · cases h
    · cases h
  · cases h

theorem clo_run (f : FuncId) : ∀ (l : List T) (cs : List Value) (acc : List (Nat × Nat)) (ds : List Value) (r : T), All2 (TRel ι) l cs →
    All2 (fun (p : Nat × Nat) (u : Value) => ∃ L, ι p.1 = some L ∧ u = .pointer (some ⟨L.b, L.base + p.2, none⟩)) acc.reverse ds → aClo f l acc = some r → TRel ι r (.func (.func f) #[] (ds ++ cs).toArray) := by
  intro l
  induction l with
  | nil =>
    intro cs acc ds r hl ha h
    cases hl
    cases h
    rw [List.append_nil]
    exact ⟨ds, rfl, ha⟩
  | cons x l ih =>
    intro cs acc ds r hl ha h
    cases hl with
    | @cons _ v _ cs hx hl =>
      cases x with
      | any => cases h
      | tup _ => cases h
      | v x => cases x with
        | agg _ => cases h
        | s x =>
          cases x <;> first | (cases h; done) | skip
          rename_i i o
          obtain ⟨L, hL, rfl⟩ := hx
          have := ih cs ((i, o) :: acc) (ds ++ [.pointer (some ⟨L.b, L.base + o, none⟩)]) r hl (by
            rw [List.reverse_cons]
            exact forall2_append ha (.cons ⟨L, hL, rfl⟩ .nil)) h
          simpa using this

theorem fold_run (f : T → T → Option T) (g : Value → Value → Sem Value) (hfg : ∀ (x y r : T) (u v : Value), TRel ι x u → TRel ι y v → f x y = some r → ∃ z, (g u v).run P w = .ok z w ∧ TRel ι r z) :
    ∀ (l : List T) (x r : T) (u : Value) (vs : List Value), All2 (TRel ι) l vs → TRel ι x u → aFold f x l = some r → ∃ z, (vs.foldlM g u).run P w = .ok z w ∧ TRel ι r z := by
  intro l
  induction l with
  | nil => intro x r u vs hl hx h; cases hl; cases h; exact ⟨u, rfl, hx⟩
  | cons y l ih =>
    intro x r u vs hl hx h
    cases hl with
    | @cons _ v _ vs hy hl =>
      simp only [aFold] at h
      split at h
      · rename_i z hz
        obtain ⟨z', h1, h2⟩ := hfg x y z u v hx hy hz
        obtain ⟨z'', h3, h4⟩ := ih z r z' vs hl h2 h
        exact ⟨z'', by simp only [List.foldlM_cons, run_bind, h1, h3], h4⟩
      · cases h

theorem min2_run (x y r : T) (u v : Value) (hx : TRel ι x u) (hy : TRel ι y v) (h : aMin2 x y = some r) : ∃ z, (Builtin.min2 u v).run P w = .ok z w ∧ TRel ι r z := by
  unfold aMin2 at h
  split at h
  · simp only [TRel, VRel, SRel] at hx hy; subst hx hy; cases h; exact ⟨_, rfl, rfl⟩
  · cases h
theorem max2_run (x y r : T) (u v : Value) (hx : TRel ι x u) (hy : TRel ι y v) (h : aMax2 x y = some r) : ∃ z, (Builtin.max2 u v).run P w = .ok z w ∧ TRel ι r z := by
  unfold aMax2 at h
  split at h
  · simp only [TRel, VRel, SRel] at hx hy; subst hx hy; cases h; exact ⟨_, rfl, rfl⟩
  · cases h

theorem all2_map {α : Type} {β γ : Type} {R : β → γ → Prop} {f : α → β} {g : α → γ} : ∀ {l : List α}, (∀ x ∈ l, R (f x) (g x)) → All2 R (l.map f) (l.map g)
  | [], _ => .nil
  | x :: l, h => .cons (h x (by simp)) (all2_map fun y hy => h y (by simp [hy]))

theorem nil_run {x : T} {u : Value} {r : T} {ρ : Operand → Value} {o : Oper} {a : Operand} (ho : o.op = .nilCheck a) (hu : ρ a = u) (hx : TRel ι x u) (h : aNil x = some r) :
    ∃ v, (execOp ρ o).run P w = .ok (.value v) w ∧ TRel ι r v := by
  unfold aNil at h
  split at h
  · cases h
    obtain ⟨L, hL, e⟩ := hx
    refine ⟨u, ?_, L, hL, e⟩
    simp only [execOp, ho, hu, e, run_pure]
  · cases h
    obtain ⟨cs, e, r⟩ := hx
    refine ⟨u, ?_, cs, e, r⟩
    simp only [execOp, ho, hu, e, run_pure]
  · cases h
end
end Go.Abs

/-
  'opP' is sound.
-/
namespace Go.Abs
open Go
section
variable {P : Program} {ι : Inj} {w : World}

theorem opP_run {o : Oper} {ev : Operand → T} {ρ : Operand → Value} {r : T} (hev : ∀ x ∈ o.op.operands, TRel ι (ev x) (ρ x)) (h : opP P o.op ev = some r) :
    ∃ v, (execOp ρ o).run P w = .ok (.value v) w ∧ TRel ι r v := by
  obtain ⟨dst, op, ty, pos, after, guard⟩ := o
  simp only at hev h
  have fin : ∀ (s : Sem Value), execOp ρ ⟨dst, op, ty, pos, after, guard⟩ = (do pure (Next.value (← s))) → (∃ v, s.run P w = .ok v w ∧ TRel ι r v) →
      ∃ v, (execOp ρ ⟨dst, op, ty, pos, after, guard⟩).run P w = .ok (.value v) w ∧ TRel ι r v := by
    intro s he ⟨v, h1, h2⟩
    exact ⟨v, by rw [he]; exact run_value h1, h2⟩
  cases op with
  | move x => simp only [opP] at h; cases h; exact ⟨ρ x, rfl, hev x (by simp [Op.operands])⟩
  | assign x => simp only [opP] at h; cases h; exact ⟨ρ x, rfl, hev x (by simp [Op.operands])⟩
  | pick c a b =>
    simp only [opP] at h
    obtain ⟨v, h1, h2⟩ := aPick_run (P := P) (w := w) (hev c (by simp [Op.operands])) (hev a (by simp [Op.operands])) (hev b (by simp [Op.operands])) h
    refine ⟨v, ?_, h2⟩
    simp only [run_bind] at h1
    simp only [execOp, run_bind]
    cases hb : (asBool (ρ c)).run P w with
    | halt x w' => rw [hb] at h1; cases h1
    | ok b w' =>
      rw [hb] at h1
      simp only [run_pure] at h1 ⊢
      cases h1; rfl
  | build t parts =>
    refine fin _ rfl (build_run (ev := ev) ?_ h)
    intro p hp
    refine hev p.2 ?_
    simp only [Op.operands, List.mem_toArray, List.mem_map]
    exact ⟨p, by simpa using hp, rfl⟩
  | nilCheck x => simp only [opP] at h; exact nil_run rfl rfl (hev x (by simp [Op.operands])) h
  | binOp op t x y yt =>
    have hx := hev x (by simp [Op.operands])
    have hy := hev y (by simp [Op.operands])
    simp only [opP] at h
    split at h
    · exact fin _ rfl (aBin_run hx hy h x y)
    · exact fin _ rfl (aBin_run hx hy h x y)
    · split at h
      · rename_i hk
        split at h
        · rename_i hc
          split at h
          · rename_i b hb
            cases h
            exact fin _ rfl ⟨_, aEq_run (P := P) hk hx hy hb false x y (fun _ => hc), by simp [TRel, VRel, SRel]⟩
          · cases h
        · cases h
      · rename_i hk
        split at h
        · rename_i hc
          split at h
          · rename_i b hb
            cases h
            exact fin _ rfl ⟨_, aEq_run (P := P) hk hx hy hb true x y (fun _ => hc), by simp [TRel, VRel, SRel]⟩
          · cases h
        · cases h
      · rename_i k hne hk
        split at h
        · rename_i b hb
          cases h
          exact fin _ rfl ⟨_, aEq_run (P := P) hk hx hy hb false x y (fun e => (hne e).elim), by simp [TRel, VRel, SRel]⟩
        · cases h
      · rename_i k hne hk
        split at h
        · rename_i b hb
          cases h
          exact fin _ rfl ⟨_, aEq_run (P := P) hk hx hy hb true x y (fun e => (hne e).elim), by simp [TRel, VRel, SRel]⟩
        · cases h
      · cases h
  | unOp op t x => simp only [opP] at h; exact fin _ rfl (aUn_run (hev x (by simp [Op.operands])) h)
  | convert s d x =>
    have hx := hev x (by simp [Op.operands])
    simp only [opP] at h
    split at h
    · rename_i d' k hs hd
      unfold aConv at h
      split at h
      · rename_i k' n he
        rw [he] at hx
        simp only [TRel, VRel, SRel] at hx
        cases h
        refine fin _ rfl ⟨.int k (k.wrap n), ?_, rfl⟩
        rw [hx]
        simp only [Go.convert, run_bind, run_und hs, run_und hd]
        cases d' <;> rfl
      · cases h
    · rename_i hs hd
      unfold aConvS at h
      split at h
      · rename_i l he
        cases h
        rw [he] at hx
        obtain ⟨s', e, r⟩ := hx
        have hr : TRel ι (ev x) (.string s') := by rw [he]; exact ⟨s', rfl, r⟩
        refine fin _ rfl ⟨.string s', ?_, hr⟩
        rw [e]
        simp only [Go.convert, run_bind, run_und hs, run_und hd]
        rfl
      · cases h
    · cases h
  | makeFunc fn first caps =>
    cases fn with
    | func f =>
      simp only [opP] at h
      split at h
      · rename_i hf
        have hm : All2 (TRel ι) (caps.toList.map ev) (caps.toList.map ρ) := all2_map fun x hx => hev x (by simp [Op.operands]; exact .inr (by simpa using hx))
        have := clo_run f _ _ [] [] r hm .nil h
        refine fin _ rfl ⟨.func (.func f) (first.map ρ) (caps.map ρ), rfl, ?_⟩
        have e1 : first = #[] := Array.eq_empty_of_size_eq_zero hf
        subst e1
        have e2 : caps.map ρ = (List.map ρ caps.toList).toArray := by rw [← Array.toList_map]
        have e3 : Array.map ρ #[] = #[] := by simp
        rw [e2, e3]
        exact this
      · cases h
    | method _ => cases h
    | methodOf _ _ => cases h
    | via _ _ _ _ => cases h
    | yield _ => cases h
  | slice t x lo hi mx =>
    have hx := hev x (by simp [Op.operands])
    have h1 : ORel ι (lo.map ev) (lo.map ρ) := orel_map fun y hy => hev y (by subst hy; simp [Op.operands])
    have h2 : ORel ι (hi.map ev) (hi.map ρ) := orel_map fun y hy => hev y (by subst hy; simp [Op.operands])
    have h3 : ORel ι (mx.map ev) (mx.map ρ) := orel_map fun y hy => hev y (by subst hy; simp [Op.operands])
    simp only [opP] at h
    split at h
    · rename_i hu; exact fin _ rfl (pieceStr_run hu hx h1 h2 h3 h)
    · rename_i e hu
      split at h
      · rename_i n hn; exact fin _ rfl (pieceSl_run hu hn hx h1 h2 h3 h)
      · cases h
    · rename_i k e hu
      split at h
      · rename_i n hn; exact fin _ rfl (pieceArr_run hu hn hx h1 h2 h3 h)
      · cases h
    · cases h
  | fieldAddr s x f =>
    simp only [opP] at h
    split at h
    · rename_i fs hu
      split at h
      · rename_i fd hf
        split at h
        · rename_i n hn; exact fin _ rfl (fieldAddr_run hu hf hn (hev x (by simp [Op.operands])) h)
        · cases h
      · cases h
    · cases h
  | field t x f =>
    simp only [opP] at h
    split at h
    · rename_i fs hu
      split at h
      · rename_i fd hf
        split at h
        · rename_i k hk; exact fin _ rfl (field_run hu hf hk (hev x (by simp [Op.operands])) h)
        · cases h
      · cases h
    · cases h
  | indexAddr t x i =>
    have hx := hev x (by simp [Op.operands])
    have hi := hev i (by simp [Op.operands])
    simp only [opP] at h
    split at h
    · rename_i e hu
      split at h
      · rename_i n hn; exact fin _ rfl (indexSl_run hu hn hx hi h)
      · cases h
    · rename_i k e hu
      split at h
      · rename_i n hn; exact fin _ rfl (indexArr_run hu hn hx hi h)
      · cases h
    · cases h
  | index t x i =>
    have hx := hev x (by simp [Op.operands])
    have hi := hev i (by simp [Op.operands])
    simp only [opP] at h
    split at h
    · rename_i hu; exact fin _ rfl (atStr_run hu hx hi h)
    · rename_i k e hu
      split at h
      · rename_i n pk hn hpk; exact fin _ rfl (atArr_run hu hn hpk hx hi h)
      · cases h
    · cases h
  | extract x i =>
    have hx := hev x (by simp [Op.operands])
    simp only [opP] at h
    unfold aExtract at h
    split at h
    · rename_i l he
      rw [he] at hx
      obtain ⟨vs, hv, hr⟩ := hx
      split at h
      · rename_i y hy
        cases h
        obtain ⟨v, h1, h2⟩ := forall2_get hr i y hy
        refine fin _ rfl ⟨v, ?_, h2⟩
        rw [hv]
        simp [Instr.extract, h1, run_pure]
      · cases h
    · cases h
  | call c =>
    obtain ⟨callee, args, argTypes⟩ := c
    cases callee with
    | value f => simp [opP] at h
    | invoke r n => simp [opP] at h
    | builtin b =>
      have ha : ∀ x ∈ args, TRel ι (ev x) (ρ x) := fun x hx => hev x (by simp [Op.operands, Call.operands, hx])
      have one : ∀ {x : Operand}, args.toList = [x] → args = #[x] := by
        intro x e; rw [← Array.toArray_toList (xs := args), e]
      have onet : ∀ {x : TypeId}, argTypes.toList = [x] → argTypes = #[x] := by
        intro x e; rw [← Array.toArray_toList (xs := argTypes), e]
      have ht : All2 (TRel ι) (args.toList.map ev) (args.toList.map ρ) := all2_map fun x hx => ha x (by simpa using hx)
      cases b <;> first | (simp [opP] at h; done) | skip
      · simp only [opP] at h
        split at h
        · rename_i x t hx' ht'
          have ea := one hx'; have et := onet ht'; subst ea et
          have hx := ha x (by simp)
          split at h
          · rename_i e hu
            unfold aCap at h
            split at h
            · rename_i b o n c he
              cases h
              rw [he] at hx
              obtain ⟨L, hL, e', _⟩ := hx
              refine ⟨.int .i64 c, ?_, rfl⟩
              simp [execOp, resolve, invoke, Go.builtin, run_bind, run_pure, Builtin.cap_, run_und hu, e', goInt]
            · rename_i he
              cases h
              rw [he] at hx
              simp only [TRel, VRel, SRel] at hx
              refine ⟨.int .i64 0, ?_, rfl⟩
              simp [execOp, resolve, invoke, Go.builtin, run_bind, run_pure, Builtin.cap_, run_und hu, hx, goInt]
            · cases h
          · cases h
        · cases h
      · simp only [opP] at h
        split at h
        · rename_i x t hx' ht'
          have ea := one hx'; have et := onet ht'; subst ea et
          have hx := ha x (by simp)
          split at h
          · rename_i hu
            unfold aLenStr at h
            split at h
            · rename_i l he
              cases h
              rw [he] at hx
              obtain ⟨s, e', r⟩ := hx
              refine ⟨.int .i64 s.size, ?_, ?_⟩
              · simp [execOp, resolve, invoke, Go.builtin, run_bind, run_pure, Builtin.len_, run_und hu, e', goInt]
              · subst r
                rw [size_data]
                rfl
            · cases h
          · rename_i e hu
            unfold aLenSl at h
            split at h
            · rename_i b o n c he
              cases h
              rw [he] at hx
              have hs : ∃ a c, ρ x = .slice a n c := by
                cases c with
                | known c => obtain ⟨L, hL, e, _⟩ := hx; exact ⟨_, _, e⟩
                | grown g => obtain ⟨L, c, hL, e, _⟩ := hx; exact ⟨_, _, e⟩
              obtain ⟨a, c, e'⟩ := hs
              refine ⟨.int .i64 n, ?_, rfl⟩
              simp [execOp, resolve, invoke, Go.builtin, run_bind, run_pure, Builtin.len_, run_und hu, e', goInt]
            · rename_i b g he
              cases h
              rw [he] at hx
              obtain ⟨L, o, c, hL, e', _⟩ := hx
              refine ⟨.int .i64 0, ?_, rfl⟩
              simp [execOp, resolve, invoke, Go.builtin, run_bind, run_pure, Builtin.len_, run_und hu, e', goInt]
            · rename_i he
              cases h
              rw [he] at hx
              simp only [TRel, VRel, SRel] at hx
              refine ⟨.int .i64 0, ?_, rfl⟩
              simp [execOp, resolve, invoke, Go.builtin, run_bind, run_pure, Builtin.len_, run_und hu, hx, goInt]
            · cases h
          · rename_i n e hu
            cases h
            refine ⟨.int .i64 n, ?_, rfl⟩
            simp [execOp, resolve, invoke, Go.builtin, run_bind, run_pure, Builtin.len_, run_und hu, goInt]
          · cases h
        · cases h
      · simp only [opP] at h
        split at h
        · rename_i x r' he
          rw [he] at ht
          cases hm : args.toList.map ρ with
          | nil => rw [hm] at ht; cases ht
          | cons u vs =>
            rw [hm] at ht
            cases ht with
            | cons hx hr =>
              obtain ⟨z, h1, h2⟩ := fold_run (P := P) (w := w) aMax2 Builtin.max2 max2_run r' x r u vs hr hx h
              refine ⟨z, ?_, h2⟩
              have e : (args.map ρ).toList = u :: vs := by simpa using hm
              simp only [execOp, resolve, invoke, Go.builtin, run_bind, run_pure, Builtin.max_, e, h1]
        · cases h
      · simp only [opP] at h
        split at h
        · rename_i x r' he
          rw [he] at ht
          cases hm : args.toList.map ρ with
          | nil => rw [hm] at ht; cases ht
          | cons u vs =>
            rw [hm] at ht
            cases ht with
            | cons hx hr =>
              obtain ⟨z, h1, h2⟩ := fold_run (P := P) (w := w) aMin2 Builtin.min2 min2_run r' x r u vs hr hx h
              refine ⟨z, ?_, h2⟩
              have e : (args.map ρ).toList = u :: vs := by simpa using hm
              simp only [execOp, resolve, invoke, Go.builtin, run_bind, run_pure, Builtin.min_, e, h1]
        · cases h
  | _ => cases h
end
end Go.Abs

/-
  Operations that read memory and turn nothing.
-/
namespace Go.Abs
open Go

abbrev Mem := Nat → Option Blk

def aLoad1 (x : T) (g : Mem) : Option T :=
  match x with
  | .v (.s (.ptr i o)) => match g i with
    | some (.cells _ vs) => match vs[o]? with
      | some y => some (.v (.s y))
      | none => none
    | some (.mark vs) => match vs[o]? with
      | some y => some (.v (.s y))
      | none => none
    | _ => none
  | _ => none

def aLoadN (n : Nat) (x : T) (g : Mem) : Option T :=
  match x with
  | .v (.s (.ptr i o)) => match g i with
    | some (.cells _ vs) => if o + n ≤ vs.length then some (.v (.agg ((vs.drop o).take n))) else none
    | some (.mark vs) => if o + n ≤ vs.length then some (.v (.agg ((vs.drop o).take n))) else none
    | _ => none
  | _ => none

def toBytes : List S → Option (List UInt8)
  | [] => some []
  | .int .u8 n :: r => match toBytes r with
    | some l => some (UInt8.ofNat n.toNat :: l)
    | none => none
  | _ :: _ => none

def aBytesStr (x : T) (g : Mem) : Option T :=
  match x with
  | .v (.s .nils) => some (Z (.str []))
  | .v (.s (.emp _ _)) => some (Z (.str []))
  | .v (.s (.sl i o n _)) => if n = 0 then some (Z (.str [])) else match g i with
    | some (.cells _ vs) => if o + n ≤ vs.length then match toBytes ((vs.drop o).take n) with
        | some l => some (Z (.str l))
        | none => none
      else none
    | some (.mark vs) => if o + n ≤ vs.length then match toBytes ((vs.drop o).take n) with
        | some l => some (Z (.str l))
        | none => none
      else none
    | _ => none
  | _ => none

/-- Two keys of one make: the same? -/
def keyEq : S → S → Option Bool
  | .int k a, .int k' b => if k = k' then some (decide (a = b)) else none
  | .str a, .str b => some (decide (a = b))
  | .bool a, .bool b => some (decide (a = b))
  | .arr k a, .arr k' b => if k = k' ∧ a.length = b.length then some (decide (a = b)) else none
  | _, _ => none

/-- Numbers of one kind. -/
def intsOf (k : IntKind) : List S → Option (List Int)
  | [] => some []
  | .int k' n :: r => if k = k' then (match intsOf k r with
    | some l => some (n :: l)
    | none => none) else none
  | _ => none

/-- A value as a map's key. -/
def keyS : T → Option S
  | .v (.s x) => some x
  | .v (.agg (.int k n :: r)) => match intsOf k r with
    | some l => some (.arr k (n :: l))
    | none => none
  | _ => none

def aFind (k : S) : List (S × V) → Nat → Option (Option (Nat × V))
  | [], _ => some none
  | (q, v) :: r, n => match keyEq k q with
    | some true => some (some (n, v))
    | some false => aFind k r (n + 1)
    | none => none

def aLookup (ok : Bool) (zero : V) (m k : T) (g : Mem) : Option T :=
  match m, keyS k with
  | .v (.s .nilm), some _ => some (if ok then .tup [zero, .s (.bool false)] else .v zero)
  | .v (.s (.map i)), some k => match g i with
    | some (.map es) => match aFind k es 0 with
      | some (some (_, v)) => some (if ok then .tup [v, .s (.bool true)] else .v v)
      | some none => some (if ok then .tup [zero, .s (.bool false)] else .v zero)
      | none => none
    | _ => none
  | _, _ => none

def aLenMap (m : T) (g : Mem) : Option T :=
  match m with
  | .v (.s .nilm) => some (I .i64 0)
  | .v (.s (.map i)) => match g i with
    | some (.map es) => some (I .i64 es.length)
    | _ => none
  | _ => none

/-- A key's type, of those that are served. -/
inductive KK where
  | i | s | b
  | a (k : IntKind) (n : Nat)
  deriving DecidableEq
def kkOf (P : Program) (t : TypeId) : Option KK :=
  match P.underlying t with
  | some (.int _) => some .i
  | some .string => some .s
  | some .bool => some .b
  | some (.array n e) => match P.underlying e with
    | some (.int k) => if szOf P e = some 1 then some (.a k n) else none
    | _ => none
  | _ => none
def isKey : KK → T → Bool
  | .i, .v (.s (.int _ _)) => true
  | .s, .v (.s (.str _)) => true
  | .b, .v (.s (.bool _)) => true
  | .a k n, .v (.agg (.int k' m :: r)) => match decide (k = k'), intsOf k r with
    | true, some l => Nat.beq (l.length + 1) n
    | _, _ => false
  | _, _ => false

def opL (P : Program) (op : Op) (ev : Operand → T) (g : Mem) : Option T :=
  match op with
  | .load t a => match aggOf P t with
    | some true => match szOf P t with
      | some n => aLoadN n (ev a) g
      | none => none
    | some false => aLoad1 (ev a) g
    | none => none
  | .convert s d x => match P.underlying s, P.underlying d with
    | some (.slice e), some .string => match P.underlying e with
      | some (.int .u8) => aBytesStr (ev x) g
      | _ => none
    | _, _ => none
  | .lookup t x k ok => match P.underlying t with
    | some (.map kt et) => match kkOf P kt, zeroOf P et with
      | some kk, some z => if isKey kk (ev k) then aLookup ok z (ev x) (ev k) g else none
      | _, _ => none
    | _ => none
  | .call { callee := .builtin .len, args, argTypes } => match args.toList, argTypes.toList with
    | [x], [t] => match P.underlying t with
      | some (.map _ _) => aLenMap (ev x) g
      | _ => none
    | _, _ => none
  | _ => none

section
variable {P : Program} {ι : Inj} {w : World} {g : Mem}

theorem opL_mono {op : Op} {ev : Operand → T} {g' : Mem} {r : T} (hg : ∀ i b, g i = some b → g' i = some b) (h : opL P op ev g = some r) : opL P op ev g' = some r := by
  have h1 : ∀ x r, aLoad1 x g = some r → aLoad1 x g' = some r := by
    intro x r h
    unfold aLoad1 at h ⊢
    split at h
    · split at h
      · rename_i hb; simp only [hg _ _ hb]; exact h
      · rename_i hb; simp only [hg _ _ hb]; exact h
      · cases h
    · cases h
  have h2 : ∀ n x r, aLoadN n x g = some r → aLoadN n x g' = some r := by
    intro n x r h
    unfold aLoadN at h ⊢
    split at h
    · split at h
      · rename_i hb; simp only [hg _ _ hb]; exact h
      · rename_i hb; simp only [hg _ _ hb]; exact h
      · cases h
    · cases h
  have h3 : ∀ x r, aBytesStr x g = some r → aBytesStr x g' = some r := by
    intro x r h
    unfold aBytesStr at h ⊢
    split at h
    · exact h
    · exact h
    · split at h
      · rename_i hz; rw [if_pos hz]; exact h
      · rename_i hz
        rw [if_neg hz]
        split at h
        · rename_i hb; simp only [hg _ _ hb]; exact h
        · rename_i hb; simp only [hg _ _ hb]; exact h
        · cases h
    · cases h
  have h4 : ∀ ok z m k r, aLookup ok z m k g = some r → aLookup ok z m k g' = some r := by
    intro ok z m k r h
    unfold aLookup at h ⊢
    split at h
    · exact h
    · split at h
      · rename_i hb; simp only [hg _ _ hb]; exact h
      · cases h
    · cases h
  have h5 : ∀ m r, aLenMap m g = some r → aLenMap m g' = some r := by
    intro m r h
    unfold aLenMap at h ⊢
    split at h
    · exact h
    · split at h
      · rename_i hb; simp only [hg _ _ hb]; exact h
      · cases h
    · cases h
  unfold opL at h ⊢
  split at h
  · split at h
    · split at h
      · exact h2 _ _ _ h
      · cases h
    · exact h1 _ _ h
    · cases h
  · split at h
    · split at h
      · exact h3 _ _ h
      · cases h
    · cases h
  · split at h
    · split at h
      · split at h
        · rename_i hc
          simp only [hc, if_true]
          exact h4 _ _ _ _ _ h
        · cases h
      · cases h
    · cases h
  · split at h
    · split at h
      · exact h5 _ _ h
      · cases h
    · cases h
  · cases h

theorem opL_congr {op : Op} {ev ev' : Operand → T} (h : ∀ x ∈ op.operands, ev x = ev' x) : opL P op ev g = opL P op ev' g := by
  unfold opL
  split
  · rw [h _ (by simp [Op.operands])]
  · rw [h _ (by simp [Op.operands])]
  · rename_i x k _
    rw [h x (by simp [Op.operands]), h k (by simp [Op.operands])]
  · rename_i args argTypes
    split
    · rename_i x t hx ht
      rw [h x (by
        simp only [Op.operands, Call.operands, Array.mem_append]
        exact .inr (by rw [← Array.mem_toList_iff, hx]; simp))]
    · rfl
  · rfl

theorem toBytes_run : ∀ {xs : List S} {cs : List Value} {l : List UInt8}, All2 (SRel ι) xs cs → toBytes xs = some l → ∃ ns : List Int, cs = ns.map (Value.int .u8) ∧ l = ns.map fun n => UInt8.ofNat n.toNat := by
  intro xs
  induction xs with
  | nil => intro cs l h hl; cases h; cases hl; exact ⟨[], rfl, rfl⟩
  | cons x xs ih =>
    intro cs l h hl
    cases h with
    | cons a h =>
      unfold toBytes at hl
      split at hl
      · rename_i he; cases he
      · rename_i n r he
        cases he
        split at hl
        · rename_i l' hl'
          cases hl
          obtain ⟨ns, rfl, rfl⟩ := ih h hl'
          simp only [SRel] at a
          subst a
          exact ⟨n :: ns, rfl, rfl⟩
        · cases hl
      · cases hl

theorem foldl_push (ns : List Int) : ∀ (s : ByteArray), (ns.foldl (fun r n => r.push (UInt8.ofNat n.toNat)) s).data.toList = s.data.toList ++ ns.map fun n => UInt8.ofNat n.toNat := by
  induction ns with
  | nil => intro s; simp
  | cons n ns ih =>
    intro s
    rw [List.foldl_cons, ih]
    simp [ByteArray.data_push]

def keyFits (d : TypeDesc) (a : S) : Prop := match d, a with | .int _, .int _ _ => True | .string, .str _ => True | .bool, .bool _ => True | _, _ => False

theorem keyEq_sym {a b : S} {u v : Value} {r : Bool} (ha : KRel ι a u) (hb : KRel ι b v) (h : keyEq a b = some r) (d : TypeDesc)
    (hk : keyFits d a) :
    Instr.sameNow d u v = some r := by
  cases a <;> cases b <;> simp only [keyEq] at h <;> first | (cases h; done) | skip
  · simp only [KRel, SRel] at ha hb; subst ha hb
    rename_i a b
    cases d <;> simp [keyFits] at hk
    cases h
    cases a <;> cases b <;> rfl
  · simp only [KRel, SRel] at ha hb; subst ha hb
    cases d <;> simp [keyFits] at hk
    rename_i k a k' b _
    by_cases e : k = k'
    · subst e
      rw [if_pos rfl] at h; cases h
      simp [Instr.sameNow, beq_decide]
    · rw [if_neg e] at h; cases h
  · obtain ⟨s, rfl, rfl⟩ := ha
    obtain ⟨s', rfl, rfl⟩ := hb
    cases d <;> simp [keyFits] at hk
    cases h
    simp only [Instr.sameNow]
    rw [beq_toListBytes, ByteArray.toList_eq, ByteArray.toList_eq, beq_decide_list]
  · cases d <;> simp [keyFits] at hk

/-- Arrays of numbers, the same? -/
theorem equal_arr {t e : TypeId} {n : Nat} {k : IntKind} (ht : P.underlying t = some (.array n e)) (he : P.underlying e = some (.int k)) (hs : szOf P e = some 1) (a b : List Int) (ha : a.length = n) (hb : b.length = n) (w : World) :
    (Op.equal t (.agg (a.map (Value.int k)).toArray) (.agg (b.map (Value.int k)).toArray)).run P w = .ok (decide (a = b)) w := by
  have hag : aggOf P e = some false := by simp [aggOf, he]
  show (Op.equalIn (9999 + 1) t _ _).run P w = _
  rw [run_equalIn_array 9999 _ _ w ht hs]
  have key : ∀ (c i : Nat), i + c = n → (eqElems 9999 e 1 (a.map (Value.int k)).toArray (b.map (Value.int k)).toArray c i).run P w = .ok (decide (a.drop i = b.drop i)) w := by
    intro c
    induction c with
    | zero =>
      intro i hi
      rw [List.drop_of_length_le (by omega), List.drop_of_length_le (by omega)]
      rfl
    | succ c ih =>
      intro i hi
      have h1 : i < a.length := by omega
      have h2 : i < b.length := by omega
      have p1 : (part e (a.map (Value.int k)).toArray (i * 1)).run P w = .ok (.int k a[i]) w := by
        simp [part, run_bind, run_agg hag, h1, run_pure]
      have p2 : (part e (b.map (Value.int k)).toArray (i * 1)).run P w = .ok (.int k b[i]) w := by
        simp [part, run_bind, run_agg hag, h2, run_pure]
      have gen : ∀ (d : Nat) (x y : Int), (Op.equalIn (d + 1) e (.int k x) (.int k y)).run P w = .ok (x == y) w := fun d x y => by
        simp [Op.equalIn, run_bind, run_und he, run_pure]
      have p3 : (Op.equalIn 9999 e (.int k a[i]) (.int k b[i])).run P w = .ok (a[i] == b[i]) w := gen 9998 _ _
      simp only [eqElems, run_bind, p1, p2, p3]
      rw [List.drop_eq_getElem_cons h1, List.drop_eq_getElem_cons h2]
      by_cases e1 : a[i] = b[i]
      · simp only [e1, beq_self_eq_true, Bool.not_true, Bool.false_eq_true, if_false, ih (i + 1) (by omega), List.cons.injEq, true_and]
      · rw [decide_eq_false (fun h => e1 (List.cons.inj h).1)]
        have e2 : (a[i] == b[i]) = false := by simpa using e1
        simp only [e2, Bool.not_false, if_true, run_pure]
  have := key n 0 (by omega)
  simpa using this

theorem intsOf_rel {k : IntKind} : ∀ {l : List S} {ns : List Int} {cs : List Value}, intsOf k l = some ns → All2 (SRel ι) l cs → cs = ns.map (Value.int k) := by
  intro l
  induction l with
  | nil => intro ns cs h hr; cases h; cases hr; rfl
  | cons x l ih =>
    intro ns cs h hr
    cases hr with
    | cons a hr =>
      cases x <;> simp only [intsOf] at h <;> first | (cases h; done) | skip
      split at h
      · rename_i hk
        subst hk
        split at h
        · rename_i l' hl'
          cases h
          simp only [SRel] at a
          rw [ih hl' hr, a]; rfl
        · cases h
      · cases h

theorem keyS_rel {t : T} {k : S} {u : Value} (h : keyS t = some k) (hu : TRel ι t u) : KRel ι k u := by
  unfold keyS at h
  split at h
  · cases h; exact SRel.key hu
  · rename_i k' n r
    split at h
    · rename_i l hl
      cases h
      obtain ⟨cs, rfl, hr⟩ := hu
      cases hr with
      | cons a hr =>
        simp only [SRel] at a
        rw [intsOf_rel hl hr, a]
        rfl
    · cases h
  · cases h

theorem aFind_run {k : S} {u : Value} (hk : KRel ι k u) (d : TypeDesc) (hkd : keyFits d k) :
    ∀ (es : List (S × V)) (mes : List MapEntry) (n : Nat) (r : Option (Nat × V)), All2 (EntRel ι) es mes → aFind k es n = some r →
      match r with
      | none => Instr.findNow d u mes n = some none
      | some (j, v) => ∃ v', Instr.findNow d u mes n = some (some (j, v')) ∧ VRel ι v v' ∧ n ≤ j ∧ ∃ q e, es[j - n]? = some (q, v) ∧ mes[j - n]? = some e ∧ keyEq k q = some true ∧ e.val = v' := by
  intro es
  induction es with
  | nil => intro mes n r h hf; cases h; cases hf; rfl
  | cons p es ih =>
    intro mes n r h hf
    obtain ⟨q, v⟩ := p
    cases h with
    | @cons _ e _ mes hr h =>
      simp only [aFind] at hf
      split at hf
      · rename_i hq
        cases hf
        have := keyEq_sym hk hr.1 hq d hkd
        exact ⟨e.val, by simp [Instr.findNow, this], hr.2, Nat.le_refl _, q, e, by simp, by simp, hq, rfl⟩
      · rename_i hq
        have := keyEq_sym hk hr.1 hq d hkd
        have hrec := ih mes (n + 1) r h hf
        cases r with
        | none => simp [Instr.findNow, this, hrec]
        | some jv =>
          obtain ⟨j, v⟩ := jv
          obtain ⟨v', h1, h2, h3, q', e', h4, h5, h6, h7⟩ := hrec
          have ej : j - n = (j - (n + 1)) + 1 := by omega
          exact ⟨v', by simp [Instr.findNow, this, h1], h2, by omega, q', e', by rw [ej]; simpa using h4, by rw [ej]; simpa using h5, h6, h7⟩
      · cases hf

/-- The same among arrays of numbers: asked one by one. -/
theorem aFind_arr {kt e : TypeId} {N : Nat} {ki : IntKind} {a : List Int} (ht : P.underlying kt = some (.array N e)) (hei : P.underlying e = some (.int ki)) (hs : szOf P e = some 1) (ha : a.length = N) :
    ∀ (es : List (S × V)) (mes : List MapEntry) (n : Nat) (r : Option (Nat × V)), All2 (EntRel ι) es mes → aFind (.arr ki a) es n = some r →
      match r with
      | none => (Instr.findAsking kt (.agg (a.map (Value.int ki)).toArray) mes n).run P w = .ok none w
      | some (j, v) => ∃ v', (Instr.findAsking kt (.agg (a.map (Value.int ki)).toArray) mes n).run P w = .ok (some (j, v')) w ∧ VRel ι v v' ∧ n ≤ j ∧ ∃ q e, es[j - n]? = some (q, v) ∧ mes[j - n]? = some e ∧ keyEq (.arr ki a) q = some true ∧ e.val = v' := by
  intro es
  induction es with
  | nil => intro mes n r h hf; cases h; cases hf; simp [Instr.findAsking, run_pure]
  | cons p es ih =>
    intro mes n r h hf
    obtain ⟨q, v⟩ := p
    cases h with
    | @cons _ e' _ mes hr h =>
      have ask : ∀ {x : Bool}, keyEq (.arr ki a) q = some x → (Op.equal kt (.agg (a.map (Value.int ki)).toArray) e'.key).run P w = .ok x w := by
        intro x hx
        cases q <;> simp only [keyEq] at hx <;> first | (cases hx; done) | skip
        rename_i k' b
        split at hx
        · rename_i hc
          obtain ⟨rfl, hl⟩ := hc
          cases hx
          have hk : e'.key = .agg (b.map (Value.int ki)).toArray := hr.1
          rw [hk]
          exact equal_arr ht hei hs a b ha (by omega) w
        · cases hx
      simp only [aFind] at hf
      split at hf
      · rename_i hq
        cases hf
        exact ⟨e'.val, by simp [Instr.findAsking, run_bind, ask hq, run_pure], hr.2, Nat.le_refl _, q, e', by simp, by simp, hq, rfl⟩
      · rename_i hq
        have hrec := ih mes (n + 1) r h hf
        cases r with
        | none => simp [Instr.findAsking, run_bind, ask hq, hrec]
        | some jv =>
          obtain ⟨j, v⟩ := jv
          obtain ⟨v', h1, h2, h3, q', e', h4, h5, h6, h7⟩ := hrec
          have ej : j - n = (j - (n + 1)) + 1 := by omega
          exact ⟨v', by simp [Instr.findAsking, run_bind, ask hq, h1], h2, by omega, q', e', by rw [ej]; simpa using h4, by rw [ej]; simpa using h5, h6, h7⟩
      · cases hf

/-- An array's elements, looked at one by one. -/
theorem checkKey_arr {kt e : TypeId} {N : Nat} {ki : IntKind} {a : List Int} (ht : P.underlying kt = some (.array N e)) (hei : P.underlying e = some (.int ki)) (hs : szOf P e = some 1) (ha : a.length = N) (emp : Bool) (n : Nat) :
    (Instr.checkKey emp (n + 2) kt (.agg (a.map (Value.int ki)).toArray)).run P w = .ok () w := by
  have hag : aggOf P e = some false := by simp [aggOf, hei]
  have p2 : ∀ x, (Instr.checkKey emp (n + 1) e (.int ki x)).run P w = .ok () w := fun x => by
    simp [Instr.checkKey, run_bind, run_und hei, run_pure]
  show (Instr.checkKey emp ((n + 1) + 1) kt _).run P w = _
  generalize n + 1 = m at p2
  have key : ∀ (c i : Nat), i + c = N → ((forIn (List.range' i c) PUnit.unit fun i _ => do
      let x ← sizeOf e
      let y ← part e (a.map (Value.int ki)).toArray (i * x)
      Instr.checkKey emp m e y
      pure (ForInStep.yield PUnit.unit)) : Sem PUnit).run P w = .ok PUnit.unit w := by
    intro c
    induction c with
    | zero => intro i _; simp [run_pure]
    | succ c ih =>
      intro i hi
      have h1 : i < a.length := by omega
      have p1 : (part e (a.map (Value.int ki)).toArray (i * 1)).run P w = .ok (.int ki a[i]) w := by
        simp [part, run_bind, run_agg hag, h1, run_pure]
      rw [List.range'_succ]
      simp only [List.forIn_cons, Go.Abs.run_bind, run_sz hs, p1, p2, run_pure]
      exact ih (i + 1) (by omega)
  simp only [Instr.checkKey, Go.Abs.run_bind, run_und ht]
  rw [Std.Legacy.Range.forIn_eq_forIn_range']
  have hsz : [:N].size = N := by simp [Std.Legacy.Range.size]
  rw [hsz, show [:N].start = 0 from rfl, show [:N].step = 1 from rfl, key N 0 (by omega)]
  rfl

theorem kk_fits {kt : TypeId} {kk : KK} {t : T} {k : S} {u : Value} (h : kkOf P kt = some kk) (hk : isKey kk t = true) (hS : keyS t = some k) (hu : TRel ι t u) (emp : Bool) (n : Nat) :
    ∃ d, P.underlying kt = some d ∧ (Instr.checkKey emp (n + 2) kt u).run P w = .ok () w ∧ (keyFits d k ∨ ∃ N e ki a, d = .array N e ∧ P.underlying e = some (.int ki) ∧ szOf P e = some 1 ∧ a.length = N ∧ k = .arr ki a ∧ u = .agg (a.map (Value.int ki)).toArray) := by
  have hK := keyS_rel hS hu
  unfold kkOf at h
  split at h
  · rename_i q hq; cases h
    unfold isKey at hk
    split at hk <;> first | (rename_i hh; cases hh; done) | (cases hk; done) | skip
    cases hS
    simp only [KRel, SRel] at hK; subst hK
    exact ⟨_, hq, by simp [Instr.checkKey, run_bind, run_und hq, run_pure], .inl trivial⟩
  · rename_i hq; cases h
    unfold isKey at hk
    split at hk <;> first | (rename_i hh; cases hh; done) | (cases hk; done) | skip
    cases hS
    obtain ⟨s, rfl, _⟩ := hK
    exact ⟨_, hq, by simp [Instr.checkKey, run_bind, run_und hq, run_pure], .inl trivial⟩
  · rename_i hq; cases h
    unfold isKey at hk
    split at hk <;> first | (rename_i hh; cases hh; done) | (cases hk; done) | skip
    cases hS
    simp only [KRel, SRel] at hK; subst hK
    exact ⟨_, hq, by simp [Instr.checkKey, run_bind, run_und hq, run_pure], .inl trivial⟩
  · rename_i N e hq
    split at h
    · rename_i ki he
      split at h
      · rename_i hs
        cases h
        unfold isKey at hk
        split at hk <;> first | (rename_i hh; cases hh; done) | (cases hk; done) | skip
        rename_i k' m r hkk
        cases hkk
        split at hk
        · rename_i l hd hl
          have hd' : ki = k' := by simpa using hd
          subst hd'
          have hlen : l.length + 1 = N := Nat.eq_of_beq_eq_true hk
          simp only [keyS, hl] at hS
          cases hS
          have hK' : u = .agg ((m :: l).map (Value.int ki)).toArray := hK
          subst hK'
          exact ⟨_, hq, checkKey_arr hq he hs (by simpa using hlen) emp n, .inr ⟨N, e, ki, m :: l, rfl, he, hs, by simpa using hlen, rfl, rfl⟩⟩
        · cases hk
      · cases h
    · cases h
  · cases h

theorem findKey_run {kt : TypeId} {kk : KK} {t : T} {k : S} {u : Value} (h : kkOf P kt = some kk) (hk : isKey kk t = true) (hS : keyS t = some k) (hu : TRel ι t u) {es : List (S × V)} {mes : List MapEntry} {r : Option (Nat × V)}
    (he : All2 (EntRel ι) es mes) (hf : aFind k es 0 = some r) :
    match r with
    | none => (Instr.findKey kt u mes).run P w = .ok none w
    | some (j, v) => ∃ v', (Instr.findKey kt u mes).run P w = .ok (some (j, v')) w ∧ VRel ι v v' ∧ ∃ q e, es[j]? = some (q, v) ∧ mes[j]? = some e ∧ keyEq k q = some true ∧ e.val = v' := by
  obtain ⟨d, hd, _, hfit | ⟨N, e, ki, a, rfl, hei, hs, ha, rfl, rfl⟩⟩ := kk_fits (w := w) h hk hS hu false 0
  · have := aFind_run (keyS_rel hS hu) d hfit es mes 0 r he hf
    cases r with
    | none => simp [Instr.findKey, run_bind, run_und hd, this, run_pure]
    | some jv =>
      obtain ⟨j, v⟩ := jv
      obtain ⟨v', h1, h2, _, q, e, h3⟩ := this
      exact ⟨v', by simp [Instr.findKey, run_bind, run_und hd, h1, run_pure], h2, q, e, by simpa using h3⟩
  · have := aFind_arr (w := w) hd hei hs ha es mes 0 r he hf
    have hfk : (Instr.findKey kt (.agg (a.map (Value.int ki)).toArray) mes).run P w = (Instr.findAsking kt (.agg (a.map (Value.int ki)).toArray) mes 0).run P w := by
      cases mes with
      | nil => simp [Instr.findKey, run_bind, run_und hd, Instr.findNow, Instr.findAsking, run_pure]
      | cons x mes => simp [Instr.findKey, run_bind, run_und hd, Instr.findNow, Instr.sameNow]
    rw [hfk]
    cases r with
    | none => exact this
    | some jv =>
      obtain ⟨j, v⟩ := jv
      obtain ⟨v', h1, h2, _, q, e, h3⟩ := this
      exact ⟨v', h1, h2, q, e, by simpa using h3⟩

theorem load1_run {t : TypeId} {x : T} {u : Value} {r : T} (ha : aggOf P t = some false) (hR : Rel ι g w) (hx : TRel ι x u) (h : aLoad1 x g = some r) :
    ∃ v, (Instr.loadAt t u).run P w = .ok v w ∧ TRel ι r v := by
  unfold aLoad1 at h
  split at h
  · rename_i i o
    obtain ⟨L, hL, rfl⟩ := hx
    split at h
    · rename_i own vs hb
      split at h
      · rename_i y hy
        cases h
        obtain ⟨v, hv, rv⟩ := run_load_of (P := P) hR hL hb hy
        exact ⟨v, by simp only [Instr.loadAt, Instr.sureAddr, run_bind, run_pure, loadVar, run_agg ha, Bool.false_eq_true, if_false, hv], rv⟩
      · cases h
    · rename_i vs hb
      split at h
      · rename_i y hy
        cases h
        obtain ⟨v, hv, rv⟩ := run_load_of (P := P) hR.demote hL (own := false) (vs := vs) (by rw [hb]; rfl) hy
        exact ⟨v, by simp only [Instr.loadAt, Instr.sureAddr, run_bind, run_pure, loadVar, run_agg ha, Bool.false_eq_true, if_false, hv], rv⟩
      · cases h
    · cases h
  · cases h

theorem loadN_run {t : TypeId} {n : Nat} {x : T} {u : Value} {r : T} (ha : aggOf P t = some true) (hn : szOf P t = some n) (hR : Rel ι g w) (hx : TRel ι x u) (h : aLoadN n x g = some r) :
    ∃ v, (Instr.loadAt t u).run P w = .ok v w ∧ TRel ι r v := by
  unfold aLoadN at h
  split at h
  · rename_i i o
    obtain ⟨L, hL, rfl⟩ := hx
    split at h
    · rename_i own vs hb
      split at h
      · rename_i hle
        cases h
        obtain ⟨cs, hc, rc⟩ := run_loadCells (P := P) hR hL hb (o := o) (n := n) rfl (by simp; omega)
        exact ⟨.agg cs.toArray, by simp only [Instr.loadAt, Instr.sureAddr, run_bind, run_pure, loadVar, run_agg ha, if_true, run_sz hn, hc], cs, rfl, rc⟩
      · cases h
    · rename_i vs hb
      split at h
      · rename_i hle
        cases h
        obtain ⟨cs, hc, rc⟩ := run_loadCells (P := P) hR.demote hL (own := false) (vs := vs) (by rw [hb]; rfl) (o := o) (n := n) rfl (by simp; omega)
        exact ⟨.agg cs.toArray, by simp only [Instr.loadAt, Instr.sureAddr, run_bind, run_pure, loadVar, run_agg ha, if_true, run_sz hn, hc], cs, rfl, rc⟩
      · cases h
    · cases h
  · cases h

theorem sl_shape {i o n : Nat} {c : Cap} {u : Value} (h : SRel ι (.sl i o n c) u) : ∃ L k, ι i = some L ∧ u = .slice (some ⟨L.b, L.base + o, none⟩) n k ∧ n ≤ k := by
  cases c with
  | known c => obtain ⟨L, hL, e, hle⟩ := h; exact ⟨L, c, hL, e, hle⟩
  | grown g => obtain ⟨L, c, hL, e, hle, _⟩ := h; exact ⟨L, c, hL, e, hle⟩

theorem bytesStr_run {x : T} {u : Value} {r : T} (hR : Rel ι g w) (hx : TRel ι x u) (h : aBytesStr x g = some r) :
    ∃ v, (Conv.bytesToString u).run P w = .ok v w ∧ TRel ι r v := by
  unfold aBytesStr at h
  split at h
  · simp only [TRel, VRel, SRel] at hx; subst hx; cases h
    exact ⟨.string .empty, rfl, ⟨.empty, rfl, rfl⟩⟩
  · obtain ⟨L, a, c, hL, rfl, _⟩ := hx; cases h
    refine ⟨.string .empty, ?_, ⟨.empty, rfl, rfl⟩⟩
    have := run_bytesToString (P := P) w a 0 c [] (by simp [loadCells, loadCellsFrom, run_pure])
    simpa using this
  · rename_i i o n c
    obtain ⟨L, k, hL, rfl, _⟩ := sl_shape hx
    split at h
    · rename_i hz
      subst hz
      cases h
      refine ⟨.string .empty, ?_, ⟨.empty, rfl, rfl⟩⟩
      have := run_bytesToString (P := P) w ⟨L.b, L.base + o, none⟩ 0 k [] (by simp [loadCells, loadCellsFrom, run_pure])
      simpa using this
    split at h
    · rename_i own vs hb
      split at h
      · rename_i hle
        split at h
        · rename_i l hl
          cases h
          obtain ⟨cs, hc, rc⟩ := run_loadCells (P := P) hR hL hb (o := o) (n := n) rfl (by simp; omega)
          obtain ⟨ns, rfl, rfl⟩ := toBytes_run rc hl
          refine ⟨_, run_bytesToString (P := P) w ⟨L.b, L.base + o, none⟩ n k ns hc, ⟨_, rfl, ?_⟩⟩
          rw [foldl_push]; rfl
        · cases h
      · cases h
    · rename_i vs hb
      split at h
      · rename_i hle
        split at h
        · rename_i l hl
          cases h
          obtain ⟨cs, hc, rc⟩ := run_loadCells (P := P) hR.demote hL (own := false) (vs := vs) (by rw [hb]; rfl) (o := o) (n := n) rfl (by simp; omega)
          obtain ⟨ns, rfl, rfl⟩ := toBytes_run rc hl
          refine ⟨_, run_bytesToString (P := P) w ⟨L.b, L.base + o, none⟩ n k ns hc, ⟨_, rfl, ?_⟩⟩
          rw [foldl_push]; rfl
        · cases h
      · cases h
    · cases h
  · cases h

theorem opL_run {o : Oper} {ev : Operand → T} {ρ : Operand → Value} {r : T} (hR : Rel ι g w) (hev : ∀ x ∈ o.op.operands, TRel ι (ev x) (ρ x)) (h : opL P o.op ev g = some r) :
    ∃ v, (execOp ρ o).run P w = .ok (.value v) w ∧ TRel ι r v := by
  obtain ⟨dst, op, ty, pos, after, guard⟩ := o
  simp only at hev h
  have fin : ∀ (s : Sem Value), execOp ρ ⟨dst, op, ty, pos, after, guard⟩ = (do pure (Next.value (← s))) → (∃ v, s.run P w = .ok v w ∧ TRel ι r v) →
      ∃ v, (execOp ρ ⟨dst, op, ty, pos, after, guard⟩).run P w = .ok (.value v) w ∧ TRel ι r v := by
    intro s he ⟨v, h1, h2⟩
    exact ⟨v, by rw [he]; exact run_value h1, h2⟩
  cases op with
  | load t a =>
    simp only [opL] at h
    split at h
    · rename_i ha
      split at h
      · rename_i n hn; exact fin _ rfl (loadN_run ha hn hR (hev a (by simp [Op.operands])) h)
      · cases h
    · rename_i ha; exact fin _ rfl (load1_run ha hR (hev a (by simp [Op.operands])) h)
    · cases h
  | convert s d x =>
    have hx := hev x (by simp [Op.operands])
    simp only [opL] at h
    split at h
    · rename_i e hs hd
      split at h
      · rename_i he
        obtain ⟨v, h1, h2⟩ := bytesStr_run (P := P) hR hx h
        refine fin _ rfl ⟨v, ?_, h2⟩
        rw [← h1]
        have : ∃ a n c, ρ x = .slice a n c := by
          unfold aBytesStr at h
          split at h
          · rename_i hh; rw [hh] at hx; exact ⟨none, 0, 0, hx⟩
          · rename_i hh; rw [hh] at hx; obtain ⟨L, o, c, hL, e, _⟩ := hx; exact ⟨_, _, _, e⟩
          · rename_i hh; rw [hh] at hx; obtain ⟨L, k, hL, e, _⟩ := sl_shape hx; exact ⟨_, _, _, e⟩
          · cases h
        obtain ⟨a, n, c, e'⟩ := this
        rw [e']
        exact run_convert_bytes_string w s d e a n c hs he hd
      · cases h
    · cases h
  | lookup t x k ok =>
    have hx := hev x (by simp [Op.operands])
    have hk := hev k (by simp [Op.operands])
    simp only [opL] at h
    split at h
    · rename_i kt et hu
      split at h
      · rename_i kk z hkk hz
        obtain ⟨zv, hzr, hzrel⟩ := run_zero (P := P) (w := w) (ι := ι) hz
        split at h
        · rename_i hik
          refine fin _ rfl ?_
          unfold aLookup at h
          split at h
          · rename_i kv hm hkv
            rw [hm] at hx
            simp only [TRel, VRel, SRel] at hx
            obtain ⟨d, hd, hchk, _⟩ := kk_fits (P := P) (w := w) hkk hik hkv hk true 9998
            have hchk' : (Instr.checkKey true 10000 kt (ρ k)).run P w = .ok () w := hchk
            have hfk : (Instr.findKey kt (ρ k) []).run P w = .ok none w := by simp [Instr.findKey, run_bind, run_und hd, Instr.findNow, run_pure]
            have hrun : (Instr.lookup t (ρ x) (ρ k) ok).run P w = .ok (if ok then .tuple #[zv, .bool false] else zv) w := by
              simp only [Instr.lookup, run_bind, run_und hu, hx, run_pure, List.isEmpty_toArray, List.isEmpty_nil, hchk', hfk, hzr]
            refine ⟨_, hrun, ?_⟩
            cases h
            cases ok
            · exact hzrel
            · exact ⟨[zv, .bool false], rfl, .cons hzrel (.cons rfl .nil)⟩
          · rename_i i kv hm hkv
            rw [hm] at hx
            obtain ⟨L, hL, hxe⟩ := hx
            split at h
            · rename_i es hb
              obtain ⟨mes, clk, hh, hall, _⟩ := hR.blk i L _ hL hb
              obtain ⟨d, hd, hchk, _⟩ := kk_fits (P := P) (w := w) hkk hik hkv hk mes.isEmpty 9998
              have hchk' : (Instr.checkKey mes.isEmpty 10000 kt (ρ k)).run P w = .ok () w := hchk
              have hget : (getObj L.b).run P w = .ok (.map mes clk) w := by simp [getObj, Sem.run, hh]
              split at h
              · rename_i j v hf
                obtain ⟨v', h1, h2, _⟩ := findKey_run (P := P) (w := w) hkk hik hkv hk hall hf
                have hrun : (Instr.lookup t (ρ x) (ρ k) ok).run P w = .ok (if ok then .tuple #[v', .bool true] else v') w := by
                  simp only [Instr.lookup, run_bind, run_und hu, hxe, hget, run_pure, hchk', h1]
                refine ⟨_, hrun, ?_⟩
                cases h
                cases ok
                · exact h2
                · exact ⟨[v', .bool true], rfl, .cons h2 (.cons rfl .nil)⟩
              · rename_i hf
                have h1 := findKey_run (P := P) (w := w) hkk hik hkv hk hall hf
                simp only at h1
                have hrun : (Instr.lookup t (ρ x) (ρ k) ok).run P w = .ok (if ok then .tuple #[zv, .bool false] else zv) w := by
                  simp only [Instr.lookup, run_bind, run_und hu, hxe, hget, run_pure, hchk', h1, hzr]
                refine ⟨_, hrun, ?_⟩
                cases h
                cases ok
                · exact hzrel
                · exact ⟨[zv, .bool false], rfl, .cons hzrel (.cons rfl .nil)⟩
              · cases h
            · cases h
          · cases h
        · cases h
      · cases h
    · cases h
  | call c =>
    obtain ⟨callee, args, argTypes⟩ := c
    cases callee with
    | value f => simp [opL] at h
    | invoke r n => simp [opL] at h
    | builtin b =>
      cases b <;> first | (simp [opL] at h; done) | skip
      have one : ∀ {x : Operand}, args.toList = [x] → args = #[x] := by
        intro x e; rw [← Array.toArray_toList (xs := args), e]
      have onet : ∀ {x : TypeId}, argTypes.toList = [x] → argTypes = #[x] := by
        intro x e; rw [← Array.toArray_toList (xs := argTypes), e]
      simp only [opL] at h
      split at h
      · rename_i x t hx' ht'
        have ea := one hx'; have et := onet ht'; subst ea et
        have hx := hev x (by simp [Op.operands, Call.operands])
        split at h
        · rename_i kt et hu
          unfold aLenMap at h
          split at h
          · rename_i he
            cases h
            rw [he] at hx
            simp only [TRel, VRel, SRel] at hx
            refine ⟨.int .i64 0, ?_, rfl⟩
            simp [execOp, resolve, invoke, Go.builtin, run_bind, run_pure, Builtin.len_, run_und hu, hx, goInt]
          · rename_i i he
            rw [he] at hx
            obtain ⟨L, hL, hxe⟩ := hx
            split at h
            · rename_i es hb
              cases h
              obtain ⟨mes, clk, hh, hall, _⟩ := hR.blk i L _ hL hb
              have hget : (getObj L.b).run P w = .ok (.map mes clk) w := by simp [getObj, Sem.run, hh]
              have hlen := forall2_length hall
              simp only [Array.length_toList] at hlen
              refine ⟨.int .i64 mes.size, ?_, by rw [← hlen]; rfl⟩
              simp [execOp, resolve, invoke, Go.builtin, run_bind, run_pure, Builtin.len_, run_und hu, hxe, hget, goInt]
            · cases h
          · cases h
        · cases h
      · cases h
  | _ => simp [opL] at h
end
end Go.Abs
