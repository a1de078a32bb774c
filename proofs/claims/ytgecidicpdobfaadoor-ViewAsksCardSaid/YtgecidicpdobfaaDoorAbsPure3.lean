/-
  One word for all operations that read temporaries alone, and that the model's operation does just that.
-/
import Derived.Test.YtgecidicpdobfaaDoorAbsPure2
namespace Go.Abs
open Go

def placesS (P : Program) (fs : Array Field) (ev : Operand → T) : List (Nat × Operand) → Option (List (Nat × Nat × T))
  | [] => some []
  | (i, x) :: r => match fs[i]? with
    | some f => match szOf P f.type, placesS P fs ev r with
      | some n, some l => some ((f.offset, n, ev x) :: l)
      | _, _ => none
    | none => none

def placesA (n : Nat) (ev : Operand → T) : List (Nat × Operand) → List (Nat × Nat × T)
  | [] => []
  | (i, x) :: r => (i * n, n, ev x) :: placesA n ev r

def asAggT : Option (List S) → Option T
  | some l => some (.v (.agg l))
  | none => none

def fieldsOk (P : Program) (fs : Array Field) : Bool := fs.all fun f => (szOf P f.type).isSome

def opP (P : Program) (op : Op) (ev : Operand → T) : Option T :=
  match op with
  | .move x => some (ev x)
  | .assign x => some (ev x)
  | .pick c a b => aPick (ev c) (ev a) (ev b)
  | .build t parts => match zeroOf P t, P.underlying t with
    | some z, some (.struct fs) => if fieldsOk P fs then match placesS P fs ev parts.toList with
      | some l => asAggT (aFill z.cells l)
      | none => none
      else none
    | some z, some (.array _ e) => match szOf P e with
      | some n => asAggT (aFill z.cells (placesA n ev parts.toList))
      | none => none
    | _, _ => none
  | .nilCheck x => aNil (ev x)
  | .binOp op t x y _ => match P.underlying t with
    | some (.int _) => aBin op (ev x) (ev y)
    | some .string => aBin op (ev x) (ev y)
    | _ => match op, ekOf P t with
      | .eql, some .i => if isConst x || isConst y then (match aEq .i (ev x) (ev y) with | some b => some (B b) | none => none) else none
      | .neq, some .i => if isConst x || isConst y then (match aEq .i (ev x) (ev y) with | some b => some (B (!b)) | none => none) else none
      | .eql, some k => match aEq k (ev x) (ev y) with | some b => some (B b) | none => none
      | .neq, some k => match aEq k (ev x) (ev y) with | some b => some (B (!b)) | none => none
      | _, _ => none
  | .unOp op _ x => aUn op (ev x)
  | .convert s d x => match P.underlying s, P.underlying d with
    | some _, some (.int k) => aConv k (ev x)
    | some .string, some .string => aConvS (ev x)
    | _, _ => none
  | .makeFunc (.func f) first caps => if first.size = 0 then aClo f (caps.toList.map ev) [] else none
  | .slice t x lo hi mx => match P.underlying t with
    | some .string => aPieceStr (ev x) (lo.map ev) (hi.map ev) (mx.map ev)
    | some (.slice e) => match szOf P e with
      | some n => aPieceSl n (ev x) (lo.map ev) (hi.map ev) (mx.map ev)
      | none => none
    | some (.array k e) => match szOf P e with
      | some n => aPieceArr k n (ev x) (lo.map ev) (hi.map ev) (mx.map ev)
      | none => none
    | _ => none
  | .fieldAddr s x f => match P.underlying s with
    | some (.struct fs) => match fs[f]? with
      | some fd => match szOf P fd.type with
        | some (_ + 1) => aFieldAddr fd.offset (ev x)
        | _ => none
      | none => none
    | _ => none
  | .field t x f => match P.underlying t with
    | some (.struct fs) => match fs[f]? with
      | some fd => match pkOf P fd.type with
        | some k => aField k fd.offset (ev x)
        | none => none
      | none => none
    | _ => none
  | .indexAddr t x i => match P.underlying t with
    | some (.slice e) => match szOf P e with
      | some n => aIndexSl n (ev x) (ev i)
      | none => none
    | some (.array k e) => match szOf P e with
      | some n => aIndexArr k n (ev x) (ev i)
      | none => none
    | _ => none
  | .index t x i => match P.underlying t with
    | some .string => aAtStr (ev x) (ev i)
    | some (.array k e) => match szOf P e, pkOf P e with
      | some n, some pk => aAtArr pk k n (ev x) (ev i)
      | _, _ => none
    | _ => none
  | .extract x i => aExtract (ev x) i
  | .call { callee := .builtin .len, args, argTypes } => match args.toList, argTypes.toList with
    | [x], [t] => match P.underlying t with
      | some .string => aLenStr (ev x)
      | some (.slice _) => aLenSl (ev x)
      | some (.array n _) => some (I .i64 n)
      | _ => none
    | _, _ => none
  | .call { callee := .builtin .cap, args, argTypes } => match args.toList, argTypes.toList with
    | [x], [t] => match P.underlying t with
      | some (.slice _) => aCap (ev x)
      | _ => none
    | _, _ => none
  | .call { callee := .builtin .min, args, .. } => match args.toList.map ev with
    | x :: r => aFold aMin2 x r
    | [] => none
  | .call { callee := .builtin .max, args, .. } => match args.toList.map ev with
    | x :: r => aFold aMax2 x r
    | [] => none
  | _ => none

section
variable {P : Program} {ι : Inj} {w : World}

theorem run_value {s : Sem Value} {x : Value} (h : s.run P w = .ok x w) : (do pure (Next.value (← s)) : Sem Next).run P w = .ok (.value x) w := by
  simp only [run_bind, h, run_pure]

theorem set_toList_toArray (cs : List Value) (i : Nat) (v : Value) : cs.toArray.setIfInBounds i v = (cs.set i v).toArray := by simp

theorem foldl_set (off : Nat) : ∀ (xs : List Value) (k : Nat) (cs : List Value), ∃ ds, (xs.zipIdx k).foldl (fun (a : Array Value) (p : Value × Nat) => a.setIfInBounds (off + p.2) p.1) cs.toArray = ds.toArray ∧
    ∀ {ys zs : List S}, All2 (SRel ι) ys xs → All2 (SRel ι) zs cs → All2 (SRel ι) (setRange zs (off + k) ys) ds := by
  intro xs
  induction xs with
  | nil =>
    intro k cs
    refine ⟨cs, rfl, ?_⟩
    intro ys zs hy hz
    cases hy; exact hz
  | cons x xs ih =>
    intro k cs
    obtain ⟨ds, h1, h2⟩ := ih (k + 1) (cs.set (off + k) x)
    refine ⟨ds, ?_, ?_⟩
    · rw [List.zipIdx_cons, List.foldl_cons, set_toList_toArray]
      exact h1
    · intro ys zs hy hz
      cases hy with
      | cons a hy =>
        simp only [setRange]
        refine h2 hy ?_
        refine forall2_of_get (by simp [forall2_length hz]) ?_
        intro j y z hy' hz'
        by_cases e : off + k = j
        · subst e
          by_cases hl : off + k < zs.length
          · rw [List.getElem?_set_self hl] at hy'
            rw [List.getElem?_set_self (by rw [← forall2_length hz]; exact hl)] at hz'
            cases hy'; cases hz'; exact a
          · rw [List.getElem?_eq_none (by simp; omega)] at hy'; cases hy'
        · rw [List.getElem?_set_ne e] at hy' hz'
          obtain ⟨z', hz1, r⟩ := forall2_get hz j y hy'
          rw [hz'] at hz1; cases hz1; exact r

theorem foldl_set_arr (off : Nat) (v : Value) (cs : List Value) : ∃ ds, (v.cells.zipIdx.foldl (fun (a : Array Value) (p : Value × Nat) => a.setIfInBounds (off + p.2) p.1) cs.toArray) = ds.toArray ∧
    ∀ {ys zs : List S}, All2 (SRel ι) ys v.cells.toList → All2 (SRel ι) zs cs → All2 (SRel ι) (setRange zs off ys) ds := by
  obtain ⟨ds, h1, h2⟩ := foldl_set (ι := ι) off v.cells.toList 0 cs
  refine ⟨ds, ?_, ?_⟩
  · rw [← h1, ← Array.foldl_toList]
    congr 1
    simp
  · intro ys zs hy hz
    have := h2 hy hz
    simpa using this

theorem aFill_run {place : Nat → Option (Nat × Nat)} : ∀ (parts : List (Nat × Value)) (l : List (Nat × Nat × T)) (zs : List S) (cs : List Value) (ys : List S),
    All2 (fun (a : Nat × Nat × T) (b : Nat × Value) => place b.1 = some (a.1, a.2.1) ∧ TRel ι a.2.2 b.2) l parts → All2 (SRel ι) zs cs → aFill zs l = some ys →
    ∃ ds : List Value, Instr.fill place cs.toArray parts = some ds.toArray ∧ All2 (SRel ι) ys ds := by
  intro parts
  induction parts with
  | nil =>
    intro l zs cs ys hl hz h
    cases hl
    cases h
    exact ⟨cs, rfl, hz⟩
  | cons p parts ih =>
    intro l zs cs ys hl hz h
    cases hl with
    | @cons a _ l _ hr hl =>
      obtain ⟨off, n, t⟩ := a
      obtain ⟨i, v⟩ := p
      obtain ⟨hp, ht⟩ := hr
      cases t with
      | any => cases h
      | tup _ => cases h
      | v x =>
        simp only [aFill] at h
        split at h
        · rename_i hc
          have hcells := VRel.cells ht
          have hlen : v.cells.size = n := by have := forall2_length hcells; simp at this; omega
          obtain ⟨ds, h1, h2⟩ := foldl_set_arr (ι := ι) off v cs
          obtain ⟨es, h3, h4⟩ := ih l _ ds ys hl (h2 hcells hz) h
          refine ⟨es, ?_, h4⟩
          have hzl := forall2_length hz
          simp only at hp
          simp only [Instr.fill, hp]
          rw [if_neg (by simp; omega)]
          rw [← h3, ← h1]
        · cases h

theorem mapM_places (fs : List Field) (h : ∀ f ∈ fs, ∃ n, szOf P f.type = some n) : ∃ l : List (Nat × Nat), (fs.mapM fun f => (do pure (f.offset, ← sizeOf f.type) : Sem (Nat × Nat))).run P w = .ok l w ∧
    ∀ i : Nat, l[i]? = (fs[i]?).bind fun f => (szOf P f.type).map fun n => (f.offset, n) := by
  induction fs with
  | nil => exact ⟨[], by simp [run_pure], by simp⟩
  | cons f fs ih =>
    obtain ⟨l, h1, h2⟩ := ih fun g hg => h g (by simp [hg])
    obtain ⟨n, hn⟩ := h f (by simp)
    refine ⟨(f.offset, n) :: l, ?_, ?_⟩
    · simp only [List.mapM_cons, run_bind, run_sz hn, run_pure, h1]
    · intro i
      cases i with
      | zero => simp [hn]
      | succ i => simpa using h2 i
end
end Go.Abs
