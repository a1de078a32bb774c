/-
  Further operations that read temporaries alone: choices, parts, places, pieces.
-/
import Derived.Test.YtgecidicpdobfaaDoorAbsEq2
namespace Go.Abs
open Go

def aPick (c a b : T) : Option T :=
  match c with
  | .v (.s (.bool true)) => some a
  | .v (.s (.bool false)) => some b
  | _ => none

def aNil (x : T) : Option T :=
  match x with
  | .v (.s (.ptr _ _)) => some x
  | .v (.s (.clo _ _)) => some x
  | _ => none

def aUn (op : UnOp) (x : T) : Option T :=
  match op, x with
  | .not, .v (.s (.bool b)) => some (B (!b))
  | .neg, .v (.s (.int k n)) => some (I k (k.wrap (0 - n)))
  | .xor, .v (.s (.int k n)) => some (I k (k.wrap (BitVec.ofInt k.bits (if k.signed then -1 else k.max) ^^^ BitVec.ofInt k.bits n).toNat))
  | _, _ => none

/-- A number as another kind's. -/
def aConv (k : IntKind) (x : T) : Option T :=
  match x with
  | .v (.s (.int _ n)) => some (I k (k.wrap n))
  | _ => none

def aConvS (x : T) : Option T :=
  match x with
  | .v (.s (.str _)) => some x
  | _ => none

/-- A part's make: one cell, or so many. -/
def pkOf (P : Program) (t : TypeId) : Option (Option Nat) :=
  match aggOf P t with
  | some true => (szOf P t).map some
  | some false => some none
  | none => none

def aPartK (k : Option Nat) (xs : List S) (off : Nat) : Option V :=
  match k with
  | some n => if off + n ≤ xs.length then some (.agg ((xs.drop off).take n)) else none
  | none => match xs[off]? with
    | some x => some (.s x)
    | none => none

theorem aPartK_eq {P : Program} {t : TypeId} {k : Option Nat} (h : pkOf P t = some k) (xs : List S) (off : Nat) : aPart P t xs off = aPartK k xs off := by
  unfold pkOf at h
  unfold aPart aPartK
  split at h
  · rename_i ha
    cases hs : szOf P t with
    | none => rw [hs] at h; cases h
    | some n => rw [hs] at h; cases h; simp only [ha]
  · rename_i ha
    cases h
    simp only [ha]
    cases xs[off]? <;> rfl
  · cases h

def aField (k : Option Nat) (off : Nat) (x : T) : Option T :=
  match x with
  | .v (.agg xs) => match aPartK k xs off with
    | some y => some (.v y)
    | none => none
  | _ => none

def aFieldAddr (off : Nat) (x : T) : Option T :=
  match x with
  | .v (.s (.ptr i o)) => some (Z (.ptr i (o + off)))
  | _ => none

def aIdx (x : T) (n : Nat) : Option Nat :=
  match x with
  | .v (.s (.int _ i)) => if 0 ≤ i ∧ i < n then some i.toNat else none
  | _ => none

def aIndexSl (e : Nat) (x i : T) : Option T :=
  match x with
  | .v (.s (.sl b o len _)) => match aIdx i len with
    | some j => some (Z (.ptr b (o + j * e)))
    | none => none
  | _ => none

def aIndexArr (n e : Nat) (x i : T) : Option T :=
  match x with
  | .v (.s (.ptr b o)) => match aIdx i n with
    | some j => some (Z (.ptr b (o + j * e)))
    | none => none
  | _ => none

def aAtStr (x i : T) : Option T :=
  match x with
  | .v (.s (.str l)) => match aIdx i l.length with
    | some j => match l[j]? with
      | some b => some (I .u8 b.toNat)
      | none => none
    | none => none
  | _ => none

def aAtArr (k : Option Nat) (n e : Nat) (x i : T) : Option T :=
  match x with
  | .v (.agg xs) => match aIdx i n with
    | some j => match aPartK k xs (j * e) with
      | some y => some (.v y)
      | none => none
    | none => none
  | _ => none

def aExtract (x : T) (i : Nat) : Option T :=
  match x with
  | .tup l => match l[i]? with
    | some y => some (.v y)
    | none => none
  | _ => none

def aBnd (x : T) (n : Nat) : Option Nat :=
  match x with
  | .v (.s (.int _ i)) => if 0 ≤ i ∧ i ≤ n then some i.toNat else none
  | _ => none

/-- The bounds of a piece: low, high, the end of what may be grown into. -/
def aBounds (len cap : Nat) (lo hi mx : Option T) : Option (Nat × Nat × Nat) :=
  match (match mx with | some v => aBnd v cap | none => some cap) with
  | none => none
  | some m => match (match hi, mx with | some v, _ => aBnd v m | none, none => some len | none, some _ => none) with
    | none => none
    | some h => match (match lo with | some v => aBnd v h | none => some 0) with
      | none => none
      | some l => some (l, h, m)

def aPieceStr (x : T) (lo hi mx : Option T) : Option T :=
  match x, mx with
  | .v (.s (.str s)), none => match aBounds s.length s.length lo hi none with
    | some (l, h, _) => some (Z (.str ((s.take h).drop l)))
    | none => none
  | _, _ => none

def aPieceSl (e : Nat) (x : T) (lo hi mx : Option T) : Option T :=
  match x with
  | .v (.s (.sl b o len (.known c))) => match aBounds len c lo hi mx with
    | some (l, h, m) => some (Z (.sl b (if m = l then o else o + l * e) (h - l) (.known (m - l))))
    | none => none
  | .v (.s (.sl b o len (.grown g))) => if g = e then
      match aBounds len len lo hi mx with
      | some (l, h, m) => match mx with
        | some _ => some (Z (.sl b (if m = l then o else o + l * e) (h - l) (.known (m - l))))
        | none => if l < len then some (Z (.sl b (o + l * e) (h - l) (.grown e))) else some (Z (.emp b e))
      | none => none
    else none
  | .v (.s (.emp b g)) => if g = e then
      match aBounds 0 0 lo hi mx, mx with
      | some _, none => some (Z (.emp b e))
      | _, _ => none
    else none
  | .v (.s .nils) => match aBounds 0 0 lo hi mx with
    | some _ => some (Z .nils)
    | none => none
  | _ => none

def aPieceArr (n e : Nat) (x : T) (lo hi mx : Option T) : Option T :=
  match x with
  | .v (.s (.ptr b o)) => match aBounds n n lo hi mx with
    | some (l, h, m) => some (Z (.sl b (if m = l then o else o + l * e) (h - l) (.known (m - l))))
    | none => none
  | _ => none

def aLenStr (x : T) : Option T :=
  match x with
  | .v (.s (.str l)) => some (I .i64 l.length)
  | _ => none
def aLenSl (x : T) : Option T :=
  match x with
  | .v (.s (.sl _ _ n _)) => some (I .i64 n)
  | .v (.s (.emp _ _)) => some (I .i64 0)
  | .v (.s .nils) => some (I .i64 0)
  | _ => none

def aCap (x : T) : Option T :=
  match x with
  | .v (.s (.sl _ _ _ (.known c))) => some (I .i64 c)
  | .v (.s .nils) => some (I .i64 0)
  | _ => none

def aMin2 (x y : T) : Option T :=
  match x, y with
  | .v (.s (.int k a)), .v (.s (.int _ b)) => some (I k (if b < a then b else a))
  | _, _ => none
def aMax2 (x y : T) : Option T :=
  match x, y with
  | .v (.s (.int k a)), .v (.s (.int _ b)) => some (I k (if a < b then b else a))
  | _, _ => none
def aFold (f : T → T → Option T) : T → List T → Option T
  | x, [] => some x
  | x, y :: r => match f x y with
    | some z => aFold f z r
    | none => none

/-- A struct or array out of its parts. -/
def aFill (zs : List S) : List (Nat × Nat × T) → Option (List S)
  | [] => some zs
  | (off, n, .v x) :: r => if x.cells.length = n ∧ off + n ≤ zs.length then aFill (setRange zs off x.cells) r else none
  | _ :: _ => none

def aClo (f : FuncId) : List T → List (Nat × Nat) → Option T
  | [], acc => some (Z (.clo f acc.reverse))
  | .v (.s (.ptr i o)) :: r, acc => aClo f r ((i, o) :: acc)
  | _ :: _, _ => none

section
variable {P : Program} {ι : Inj} {w : World}

theorem aPick_run {c a b : T} {u v z : Value} {r : T} (hc : TRel ι c u) (ha : TRel ι a v) (hb : TRel ι b z) (h : aPick c a b = some r) :
    ∃ x, (do pure (if ← asBool u then v else z) : Sem Value).run P w = .ok x w ∧ TRel ι r x := by
  unfold aPick at h
  split at h
  · cases hc; cases h; exact ⟨v, rfl, ha⟩
  · cases hc; cases h; exact ⟨z, rfl, hb⟩
  · cases h

theorem aUn_run {op : UnOp} {x : T} {u : Value} {r : T} (hx : TRel ι x u) (h : aUn op x = some r) : ∃ v, (Op.unary op u).run P w = .ok v w ∧ TRel ι r v := by
  unfold aUn at h
  split at h
  · cases hx; cases h; exact ⟨_, rfl, rfl⟩
  · cases hx; cases h; exact ⟨_, rfl, rfl⟩
  · cases hx; cases h; exact ⟨_, rfl, rfl⟩
  · cases h

theorem aIdx_of {x : T} {n j : Nat} {u : Value} (hx : TRel ι x u) (h : aIdx x n = some j) : ∃ k i, u = .int k i ∧ 0 ≤ i ∧ i < n ∧ i.toNat = j := by
  unfold aIdx at h
  split at h
  · rename_i k i
    cases hx
    split at h
    · rename_i hb; cases h; exact ⟨k, i, rfl, hb.1, hb.2, rfl⟩
    · cases h
  · cases h

theorem aBnd_run {x : T} {n m j : Nat} {u : Value} (hx : TRel ι x u) (h : aBnd x n = some j) (hm : n ≤ m) (code : BoundsCode) : (Instr.sliceBound u m code).run P w = .ok j w ∧ j ≤ n := by
  unfold aBnd at h
  split at h
  · rename_i k i
    cases hx
    split at h
    · rename_i hb
      cases h
      have : 0 ≤ i ∧ i ≤ (m : Int) := ⟨hb.1, by omega⟩
      exact ⟨by simp [Instr.sliceBound, asIntOf, run_bind, run_pure, this], by omega⟩
    · cases h
  · cases h

def ORel (ι : Inj) (x : Option T) (u : Option Value) : Prop :=
  match x, u with
  | some x, some u => TRel ι x u
  | none, none => True
  | _, _ => False

theorem aBounds_run {len lim cap : Nat} {lo hi mx : Option T} {lo' hi' mx' : Option Value} {l h m : Nat} (h1 : ORel ι lo lo') (h2 : ORel ι hi hi') (h3 : ORel ι mx mx')
    (hb : aBounds len lim lo hi mx = some (l, h, m)) (hlim : lim ≤ cap) (hlen : len ≤ lim) (isS : Bool) :
    (Instr.sliceBounds isS len cap lo' hi' mx').run P w = .ok (l, h, if mx.isSome then m else cap) w ∧ l ≤ h ∧ h ≤ m ∧ m ≤ lim ∧ (mx = none → m = lim) := by
  unfold aBounds at hb
  split at hb
  · cases hb
  · rename_i m' hm
    split at hb
    · cases hb
    · rename_i h' hh
      split at hb
      · cases hb
      · rename_i l' hl
        cases hb
        match mx, mx', h3 with
        | none, none, _ =>
          cases hm
          match hi, hi', h2 with
          | none, none, _ =>
            cases hh
            match lo, lo', h1 with
            | none, none, _ => cases hl; simp [Instr.sliceBounds, run_bind, run_pure]; omega
            | some lo, some lo', h1 =>
              obtain ⟨r, hr⟩ := aBnd_run (P := P) (w := w) h1 hl (Nat.le_refl _) (if false = true then .slice3C else .sliceB)
              simp only [Bool.false_eq_true, if_false] at r
              simp [Instr.sliceBounds, run_bind, run_pure, r]; omega
          | some hi, some hi', h2 =>
            obtain ⟨r, hr⟩ := aBnd_run (P := P) (w := w) h2 hh hlim (if isS then .sliceAcap else .sliceAlen)
            match lo, lo', h1 with
            | none, none, _ => cases hl; simp [Instr.sliceBounds, run_bind, run_pure, r]; omega
            | some lo, some lo', h1 =>
              obtain ⟨r', hr'⟩ := aBnd_run (P := P) (w := w) h1 hl (Nat.le_refl _) (if false = true then .slice3C else .sliceB)
              simp only [Bool.false_eq_true, if_false] at r'
              simp [Instr.sliceBounds, run_bind, run_pure, r, r']; omega
        | some mx, some mx', h3 =>
          obtain ⟨rm, hrm⟩ := aBnd_run (P := P) (w := w) h3 hm hlim (if isS then .slice3Acap else .slice3Alen)
          match hi, hi', h2 with
          | none, none, _ => cases hh
          | some hi, some hi', h2 =>
            obtain ⟨r, hr⟩ := aBnd_run (P := P) (w := w) h2 hh (Nat.le_refl _) .slice3B
            match lo, lo', h1 with
            | none, none, _ => cases hl; simp [Instr.sliceBounds, run_bind, run_pure, rm, r]; omega
            | some lo, some lo', h1 =>
              obtain ⟨r', hr'⟩ := aBnd_run (P := P) (w := w) h1 hl (Nat.le_refl _) (if true = true then .slice3C else .sliceB)
              simp only [if_true] at r'
              simp [Instr.sliceBounds, run_bind, run_pure, rm, r, r']; omega
end
end Go.Abs
