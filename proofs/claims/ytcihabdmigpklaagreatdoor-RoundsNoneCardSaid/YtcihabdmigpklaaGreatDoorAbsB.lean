/-
  A library of our own, several texts in one: an abstract store for the model, and runs over it. Nothing here speaks of any program. No conditions.
-/
import Derived.Test.YtcihabdmigpklaaGreatDoorAbsA
import Derived.Lib.AppendZerosOnto
import Derived.Conc.LoneCalls
import Derived.Conc.LoneSelectN
import Derived.Laws.Externs
set_option linter.unusedSimpArgs false
set_option linter.unusedVariables false
/-
  Operations that make one new block.
-/
namespace Go.Abs
open Go

def updM (g : Mem) (n : Nat) (b : Blk) : Mem := fun i => if i = n then some b else g i
theorem updM_same (g : Mem) (n : Nat) (b : Blk) : updM g n b n = some b := by simp [updM]
theorem updM_ne (g : Mem) {n i : Nat} (b : Blk) (h : i ≠ n) : updM g n b i = g i := by simp [updM, h]
theorem push_updM (σ : St) (b : Blk) : (σ.push b).get = updM σ.get σ.size b := by
  funext i; rw [St.get_push]; rfl

structure NewBlk (ι : Inj) (w u : World) (L : Loc) (b : Blk) : Prop where
  b_eq : L.b = w.heap.size
  os : u.os = w.os
  output : u.output = w.output
  size : u.heap.size = w.heap.size + 1
  keep : ∀ k, k < w.heap.size → u.heap[k]? = w.heap[k]?
  blk : BlkRel ι L u b

theorem rel_new {ι : Inj} {g : Mem} {w u : World} {L : Loc} {b : Blk} {n : Nat} (h : Rel ι g w) (hf : ι n = none) (hN : NewBlk ι w u L b) : Rel (upd ι n L) (updM g n b) u := by
  have hle := le_upd L hf
  constructor
  · intro i M c hM hc
    by_cases e : i = n
    · subst e
      rw [upd_same] at hM; cases hM
      rw [updM_same] at hc; cases hc
      exact hN.blk.mono hle
    · rw [upd_ne _ _ e] at hM
      rw [updM_ne _ _ e] at hc
      have hr := h.blk i M c hM hc
      cases c with
      | dead => trivial
      | cells own vs => exact (hr.mono hle).congr (hN.keep _ (hr.lt trivial))
      | map es => exact (hr.mono hle).congr (hN.keep _ (hr.lt trivial))
      | chan cap vs => exact (hr.mono hle).congr (hN.keep _ (hr.lt trivial))
      | glob g vs => exact (hr.mono hle).congr (hN.keep _ (hr.lt trivial))
      | mark vs => exact (hr.mono hle).congr (hN.keep _ (hr.lt trivial))
  · intro i j M N hM hNj hl hh hne
    by_cases e : i = n
    · subst e
      rw [upd_same] at hM; cases hM
      have ej : j ≠ i := fun x => hne x.symm
      rw [upd_ne _ _ ej] at hNj
      rw [updM_ne _ _ ej] at hh
      cases hg : g j with
      | none => rw [hg] at hh; exact hh.elim
      | some c =>
        rw [hg] at hh
        have := (h.blk j N c hNj hg).lt hh
        have := hN.b_eq
        omega
    · rw [upd_ne _ _ e] at hM
      rw [updM_ne _ _ e] at hl
      by_cases ej : j = n
      · subst ej
        rw [upd_same] at hNj; cases hNj
        cases hg : g i with
        | none => rw [hg] at hl; exact hl.elim
        | some c =>
          rw [hg] at hl
          have := (h.blk i M c hM hg).lt hl.held
          have := hN.b_eq
          omega
      · rw [upd_ne _ _ ej] at hNj
        rw [updM_ne _ _ ej] at hh
        exact h.sep i j M N hM hNj hl hh hne
  · intro i m vs hg
    by_cases e : i = n
    · subst e; exact ⟨_, upd_same _ _ _⟩
    · rw [updM_ne _ _ e] at hg
      obtain ⟨M, hM⟩ := h.glob i m vs hg
      exact ⟨M, by rw [upd_ne _ _ e]; exact hM⟩

theorem ext_new {ι : Inj} {σ : St} {w u : World} {L : Loc} {b : Blk} (hN : NewBlk ι w u L b) : Ext ι σ w (upd ι σ.size L) (σ.push b) u := by
  refine ⟨by simp, ?_, ?_, ?_, ?_, ?_, hN.os, hN.output, by rw [hN.size]; omega, ?_⟩
  · intro i hi
    simp only [St.size_push] at hi
    exact upd_ne _ _ (by omega)
  · intro i hi hl
    rwa [live_of_push (by omega)] at hl
  · intro i hi hl
    rwa [live_of_push (by omega)] at hl
  · intro i hi _
    exact live_of_push (by omega)
  · intro i M h1 h2 hM hl
    simp only [St.size_push] at h2
    have : i = σ.size := by omega
    subst this
    rw [upd_same] at hM
    cases hM
    exact .inl (by rw [hN.b_eq]; exact Nat.le_refl _)
  · intro k hk _
    exact hN.keep k hk

def zeros (c : Nat) (z : List S) : List S := (List.replicate c z).flatten

def strBytes (l : List UInt8) : List S := l.map fun b => .int .u8 b.toNat

/-- A type of the form of strings.Builder: its first field points to its like. -/
def bldT (P : Program) (t : TypeId) : Bool := match P.underlying t with
  | some (.struct fs) => match fs[0]?, fs[1]? with
    | some f, some g => match P.underlying f.type, P.underlying g.type with
      | some (.pointer u), some (.slice _) => Nat.beq u t
      | _, _ => false
    | _, _ => false
  | _ => false

def newPtr (P : Program) (t n m : Nat) : T := match bldT P t with
  | true => Z (.tptr t n m)
  | false => Z (.ptr n 0)

def opA (P : Program) (op : Op) (ev : Operand → T) : Option (Blk × (Nat → T)) :=
  match op with
  | .alloc t => match zeroOf P t with
    | some z => some (.cells true z.cells, fun n => newPtr P t n z.cells.length)
    | none => none
  | .box _ x => match ev x with
    | .v y => some (.cells true y.cells, fun n => Z (.ptr n 0))
    | _ => none
  | .buildSlice t len parts => match P.underlying t with
    | some (.slice e) => match szOf P e, zeroOf P e with
      | some n, some z => if z.cells.length = n ∧ len * n ≤ 2 ^ 24 then
          match aFill (zeros len z.cells) (placesA n ev parts.toList) with
          | some l => some (.cells true l, fun k => Z (.sl k 0 len (.known len)))
          | none => none
        else none
      | _, _ => none
    | _ => none
  | .makeMap t r => match P.underlying t, r with
    | some (.map _ _), none => some (.map [], fun n => Z (.map n))
    | some (.map _ _), some x => match ev x with
      | .v (.s (.int _ _)) => some (.map [], fun n => Z (.map n))
      | _ => none
    | _, _ => none
  | .makeSlice t l c => match P.underlying t with
    | some (.slice e) => match szOf P e, zeroOf P e, byOf P e with
      | some n, some z, some by_ => match ev l, ev c with
        | .v (.s (.int _ l)), .v (.s (.int _ c)) => if z.cells.length = n ∧ 0 ≤ l ∧ l ≤ c ∧ c ≤ 2 ^ 62 ∧ by_ * c ≤ 2 ^ 48 then
            some (.cells true (zeros c.toNat z.cells), fun k => Z (.sl k 0 l.toNat (.known c.toNat)))
          else none
        | _, _ => none
      | _, _, _ => none
    | _ => none
  | .convert s d x => match P.underlying s, P.underlying d with
    | some .string, some (.slice e) => match P.underlying e with
      | some (.int .u8) => match ev x with
        | .v (.s (.str l)) => some (.mark (strBytes l), fun k => Z (.sl k 0 l.length (.grown 1)))
        | _ => none
      | _ => none
    | _, _ => none
  | .makeChan t n => match P.underlying t with
    | some (.chan _ e) => match byOf P e, ev n with
      | some by_, .v (.s (.int _ n)) => if 0 ≤ n ∧ n ≤ 1000000 ∧ by_ ≤ 1000 then some (.chan n.toNat [], fun k => Z (.chan k)) else none
      | _, _ => none
    | _ => none
  | _ => none

theorem opA_glob {P : Program} {op : Op} {ev : Operand → T} {n : Nat} {vs : List S} {f : Nat → T} (h : opA P op ev = some (.glob n vs, f)) : False := by
  unfold opA at h
  repeat' split at h
  all_goals simp at h

section
variable {P : Program} {ι : Inj} {w : World} {g : Mem}

theorem zeros_rel {z : List S} {cs : List Value} (h : All2 (SRel ι) z cs) (c n : Nat) (hn : z.length = n) :
    ∃ ds : List Value, (Array.range (c * n)).map (cs.toArray[· % cs.toArray.size]!) = ds.toArray ∧ All2 (SRel ι) (zeros c z) ds := by
  have hl := forall2_length h
  refine ⟨(List.range (c * n)).map (fun i => cs.toArray[i % cs.toArray.size]!), ?_, ?_⟩
  · rw [← List.map_toArray]
    congr 1
    rw [← Array.toArray_toList (xs := Array.range (c * n)), Array.toList_range]
  · subst hn
    induction c with
    | zero => simp [zeros]; exact .nil
    | succ c ih =>
      have e1 : zeros (c + 1) z = zeros c z ++ z := by
        simp [zeros, List.replicate_succ']
      have e2 : (c + 1) * z.length = c * z.length + z.length := by rw [Nat.add_mul]; omega
      rw [e1, e2, List.range_add, List.map_append]
      refine forall2_append ih ?_
      rw [List.map_map]
      refine forall2_of_get (by simp) ?_
      intro j x y hx hy
      have hj : j < z.length := (List.getElem?_eq_some_iff.1 hx).1
      obtain ⟨v, hv, r⟩ := forall2_get h j x hx
      have : y = v := by
        rw [List.getElem?_map, List.getElem?_range hj] at hy
        simp only [Option.map_some, Option.some.injEq, Function.comp] at hy
        rw [← hy]
        have hm : (c * z.length + j) % cs.toArray.size = j := by
          simp only [List.size_toArray, ← hl]
          rw [Nat.mul_comm, Nat.mul_add_mod, Nat.mod_eq_of_lt hj]
        rw [hm]
        have hj' : j < cs.length := by omega
        rw [List.getElem!_toArray]
        rw [List.getElem!_eq_getElem?_getD, hv]; rfl
      rw [this]; exact r

theorem newRow_blk {e : TypeId} {vs : List S} {cs : List Value} (hv : All2 (SRel ι) vs cs) (more : Array Value) (hm : ∀ v ∈ more.toList, oneCell v = true) (u : World) (hu : u = { w with heap := w.heap.push (.cells (cs.toArray ++ more) e (0, 0)) }) :
    NewBlk ι w u ⟨w.heap.size, 0, cs.length + more.size, e⟩ (.cells true vs) := by
  subst hu
  have hlen := forall2_length hv
  refine ⟨rfl, rfl, rfl, by simp, fun k hk => push_get w _ k hk, ?_⟩
  refine ⟨cs.toArray ++ more, e, (0, 0), push_last w _, by simp, by simp; omega, ?_, fun _ => ⟨⟨rfl, rfl, rfl⟩, cells_oneCell hv hm⟩⟩
  intro j x hx
  obtain ⟨v, hv', r⟩ := forall2_get hv j x hx
  refine ⟨v, ?_, r⟩
  have hj : j < cs.length := (List.getElem?_eq_some_iff.1 hv').1
  simp only [Nat.zero_add]
  rw [Array.getElem?_append_left (by simpa using hj)]
  simpa using hv'

theorem stringToBytes_run (e : TypeId) (s : ByteArray) (w : World) : ∃ cap, s.size ≤ cap ∧
    (Conv.stringToBytes e s).run P w = .ok (.slice (some ⟨w.heap.size, 0, none⟩) s.size cap)
      { w with drawn := w.drawn + 1, heap := w.heap.push (.cells (s.data.map (fun b => Value.int .u8 b.toNat) ++ Array.replicate (cap - s.size) (.int .u8 0)) e
        ((s.data.map (fun b => Value.int .u8 b.toNat) ++ Array.replicate (cap - s.size) (Value.int .u8 0)).size, (s.data.map (fun b => Value.int .u8 b.toNat) ++ Array.replicate (cap - s.size) (Value.int .u8 0)).size + 1)) } := by
  refine ⟨s.size + (w.tape w.drawn (.appendCap s.size 0 e)) % (2 ^ 63 - s.size), by omega, ?_⟩
  generalize hcap : s.size + (w.tape w.drawn (.appendCap s.size 0 e)) % (2 ^ 63 - s.size) = cap
  have hch : (choose (.appendCap s.size 0 e)).run P w = .ok cap { w with drawn := w.drawn + 1 } := by
    simp only [choose, Sem.run, Question.forced, Bool.false_eq_true, if_false, Question.cut, hcap]
  simp only [Conv.stringToBytes, run_bind, hch, newRow, newObj, Sem.run, run_pure, markStringish, shape, World.shape?, push_last, freeze, World.freeze]
  simp only [Nat.one_ne_zero, if_false]
  congr 2
  apply Array.ext_getElem?
  intro k
  rw [Array.getElem?_modify]
  by_cases hk : w.heap.size = k
  · subst hk
    simp
  · rw [if_neg hk, Array.getElem?_push, Array.getElem?_push, if_neg (Ne.symm hk), if_neg (Ne.symm hk)]

theorem opA_run {o : Oper} {ev : Operand → T} {ρ : Operand → Value} {b : Blk} {f : Nat → T} (hev : ∀ x ∈ o.op.operands, TRel ι (ev x) (ρ x)) (h : opA P o.op ev = some (b, f)) (w : World) :
    ∃ L v u, (execOp ρ o).run P w = .ok (.value v) u ∧ NewBlk ι w u L b ∧ ∀ n, TRel (upd ι n L) (f n) v := by
  obtain ⟨dst, op, ty, pos, after, guard⟩ := o
  simp only at hev h
  have fin : ∀ (s : Sem Value), execOp ρ ⟨dst, op, ty, pos, after, guard⟩ = (do pure (Next.value (← s))) → (∃ L v u, s.run P w = .ok v u ∧ NewBlk ι w u L b ∧ ∀ n, TRel (upd ι n L) (f n) v) →
      ∃ L v u, (execOp ρ ⟨dst, op, ty, pos, after, guard⟩).run P w = .ok (.value v) u ∧ NewBlk ι w u L b ∧ ∀ n, TRel (upd ι n L) (f n) v := by
    intro s he ⟨L, v, u, h1, h2⟩
    refine ⟨L, v, u, ?_, h2⟩
    rw [he]
    simp only [run_bind, h1, run_pure]
  have hptr : ∀ (L : Loc) (n : Nat), L.base = 0 → TRel (upd ι n L) (Z (.ptr n 0)) (.pointer (some ⟨L.b, 0, none⟩)) := by
    intro L n h0
    exact ⟨L, upd_same _ _ _, by rw [h0]⟩
  cases op with
  | alloc t =>
    simp only [opA] at h
    split at h
    · rename_i z hz
      cases h
      obtain ⟨zv, hzr, hzrel⟩ := run_zero (P := P) (w := w) (ι := ι) hz
      have hc := VRel.cells hzrel
      refine fin _ rfl ⟨⟨w.heap.size, 0, zv.cells.toList.length + (#[] : Array Value).size, t⟩, .pointer (some ⟨w.heap.size, 0, none⟩), _, ?_, newRow_blk (e := t) hc #[] (fun _ h => by cases h) _ rfl, fun n => ?_⟩
      rotate_left
      · unfold newPtr
        split
        · refine ⟨_, upd_same _ _ _, rfl, rfl, ?_, rfl⟩
          have := forall2_length hc
          simp [this]
        · exact hptr _ n rfl
      simp [Instr.alloc, run_bind, hzr, newVar, newRow, newObj, Sem.run, run_pure]
    · cases h
  | box t x =>
    have hx := hev x (by simp [Op.operands])
    simp only [opA] at h
    split at h
    · rename_i y hy
      cases h
      rw [hy] at hx
      have hc := VRel.cells hx
      refine fin _ rfl ⟨_, _, _, ?_, newRow_blk (e := t) hc #[] (fun _ h => by cases h) _ rfl, fun n => hptr _ n rfl⟩
      simp [Instr.box, run_bind, newVar, newRow, newObj, Sem.run, run_pure]
    · cases h
  | buildSlice t len parts =>
    simp only [opA] at h
    split at h
    · rename_i e hu
      split at h
      · rename_i n z hn hz
        split at h
        · rename_i hc
          split at h
          · rename_i l hl
            cases h
            obtain ⟨zv, hzr, hzrel⟩ := run_zero (P := P) (w := w) (ι := ι) hz
            have hzc := VRel.cells hzrel
            have hzl := forall2_length hzc
            obtain ⟨zs, hz1, hz2⟩ := zeros_rel hzc len n hc.1
            have hall : ∀ (pp : List (Nat × Operand)), (∀ p ∈ pp, TRel ι (ev p.2) (ρ p.2)) →
                All2 (fun (a : Nat × Nat × T) (b : Nat × Value) => (some (b.1 * n, n) : Option (Nat × Nat)) = some (a.1, a.2.1) ∧ TRel ι a.2.2 b.2) (placesA n ev pp) (pp.map fun p => (p.1, ρ p.2)) := by
              intro pp
              induction pp with
              | nil => intro _; exact .nil
              | cons p pp ih =>
                intro hev
                exact .cons ⟨rfl, hev p (by simp)⟩ (ih fun q hq => hev q (by simp [hq]))
            obtain ⟨ds, hd1, hd2⟩ := aFill_run (ι := ι) (place := fun i => some (i * n, n)) (parts.toList.map fun p => (p.1, ρ p.2)) _ (zeros len z.cells) zs l
              (hall parts.toList (fun p hp => hev p.2 (by
                simp only [Op.operands, List.mem_toArray, List.mem_map]
                exact ⟨p, hp, rfl⟩))) hz2 hl
            have e2 : (parts.map fun p => (p.1, ρ p.2)).toList = parts.toList.map fun p => (p.1, ρ p.2) := by simp
            refine fin _ rfl ⟨_, .slice (some ⟨w.heap.size, 0, none⟩) len len, _, ?_, newRow_blk (e := e) hd2 #[] (fun _ h => by cases h) _ rfl, fun k => ⟨_, upd_same _ _ _, rfl, Nat.le_refl _⟩⟩
            have hz' : (zs.toArray : Array Value) = (Array.range (len * n)).map ((if len * n = 0 then #[] else zv.cells)[· % (if len * n = 0 then #[] else zv.cells).size]!) := by
              by_cases h0 : len * n = 0
              · rw [h0] at hz1 ⊢
                rw [← hz1]
                simp
              · rw [if_neg h0, ← hz1]
            by_cases h0 : len * n = 0
            · rw [if_pos h0] at hz'
              simp only [Instr.buildSlice, run_bind, run_und hu, run_sz hn]
              rw [if_neg (by omega)]
              simp only [run_bind, run_pure, if_pos h0, ← hz', e2, hd1, newRow, newObj, Sem.run, Array.append_empty]
            · rw [if_neg h0] at hz'
              simp only [Instr.buildSlice, run_bind, run_und hu, run_sz hn]
              rw [if_neg (by omega)]
              simp only [run_bind, run_pure, if_neg h0, hzr, ← hz', e2, hd1, newRow, newObj, Sem.run, Array.append_empty]
          · cases h
        · cases h
      · cases h
    · cases h
  | makeMap t r =>
    have hb : NewBlk ι w { w with heap := w.heap.push (.map #[] 0) } ⟨w.heap.size, 0, 0, 0⟩ (.map []) :=
      ⟨rfl, rfl, rfl, by simp, fun k hk => push_get w _ k hk, #[], 0, push_last w _, .nil, .nil, by simp⟩
    simp only [opA] at h
    split at h
    · rename_i kt et hu
      cases h
      refine fin _ rfl ⟨_, _, _, ?_, hb, fun n => ⟨_, upd_same _ _ _, rfl⟩⟩
      simp [Instr.makeMap, run_bind, newObj, Sem.run, run_pure]
    · rename_i kt et x hu
      split at h
      · rename_i k n hx'
        cases h
        have hx := hev x (by simp [Op.operands])
        rw [hx'] at hx
        simp only [TRel, VRel, SRel] at hx
        refine fin _ rfl ⟨_, _, _, ?_, hb, fun n => ⟨_, upd_same _ _ _, rfl⟩⟩
        simp [Instr.makeMap, run_bind, run_und hu, hx, asInt, asIntOf, newObj, Sem.run, run_pure]
      · cases h
    · cases h
  | makeChan t n =>
    have hn := hev n (by simp [Op.operands])
    simp only [opA] at h
    split at h
    · rename_i dir e hu
      split at h
      · rename_i by_ kk m hby hm
        split at h
        · rename_i hc
          cases h
          rw [hm] at hn
          simp only [TRel, VRel, SRel] at hn
          obtain ⟨i, hi, hib⟩ := run_by (P := P) (w := w) hby
          have hb : NewBlk ι w { w with heap := w.heap.push (.chan m.toNat #[] false 0 0 false) } ⟨w.heap.size, 0, 0, 0⟩ (.chan m.toNat []) :=
            ⟨rfl, rfl, rfl, by simp, fun k hk => push_get w _ k hk, #[], 0, 0, push_last w _, .nil⟩
          refine fin _ rfl ⟨_, _, _, ?_, hb, fun n => ⟨_, upd_same _ _ _, rfl⟩⟩
          have wm : IntKind.i64.wrap m = m := IntWalk.i64_in m (by omega)
          have hmul : (by_ : Int) * m ≤ 1000 * 1000000 := by
            have h1 : (by_ : Int) ≤ 1000 := by omega
            calc (by_ : Int) * m ≤ 1000 * m := Int.mul_le_mul_of_nonneg_right h1 hc.1
              _ ≤ 1000 * 1000000 := Int.mul_le_mul_of_nonneg_left hc.2.1 (by decide)
          have hcond : ¬ (m < 0 ∨ m > IntKind.i64.max ∨ (by_ : Int) * m > 2 ^ 48 - 112) := by
            have hmx : IntKind.i64.max = 9223372036854775807 := by decide
            rw [hmx]
            omega
          simp only [Instr.makeChan, run_bind, run_und hu, hn, asInt, asIntOf, run_pure, hi, hib, wm]
          rw [if_neg hcond]
          simp [run_bind, newObj, Sem.run, run_pure]
        · cases h
      · cases h
    · cases h
  | makeSlice t l c =>
    have hl := hev l (by simp [Op.operands])
    have hcc := hev c (by simp [Op.operands])
    simp only [opA] at h
    split at h
    · rename_i e hu
      split at h
      · rename_i n z by_ hn hz hby
        split at h
        · rename_i kl lv kc cv hl' hc'
          split at h
          · rename_i hc
            cases h
            rw [hl'] at hl; rw [hc'] at hcc
            simp only [TRel, VRel, SRel] at hl hcc
            obtain ⟨zv, hzr, hzrel⟩ := run_zero (P := P) (w := w) (ι := ι) hz
            have hzc := VRel.cells hzrel
            obtain ⟨zs, hz1, hz2⟩ := zeros_rel hzc cv.toNat n hc.1
            obtain ⟨i, hi, hib⟩ := run_by (P := P) (w := w) hby
            obtain ⟨_, c1, c2, c3, c4⟩ := hc
            have wl : IntKind.i64.wrap lv = lv := IntWalk.i64_in lv (by omega)
            have wc : IntKind.i64.wrap cv = cv := IntWalk.i64_in cv (by omega)
            refine fin _ rfl ⟨_, .slice (some ⟨w.heap.size, 0, none⟩) lv.toNat cv.toNat, _, ?_, newRow_blk (e := e) hz2 #[] (fun _ h => by cases h) _ rfl, fun k => ⟨_, upd_same _ _ _, rfl, by omega⟩⟩
            have hz' : (zs.toArray : Array Value) = (Array.range (cv.toNat * n)).map ((if cv.toNat * n = 0 then #[] else zv.cells)[· % (if cv.toNat * n = 0 then #[] else zv.cells).size]!) := by
              by_cases h0 : cv.toNat * n = 0
              · rw [h0] at hz1 ⊢
                rw [← hz1]
                simp
              · rw [if_neg h0, ← hz1]
            have hroom : ∀ (k : Nat) (w : World), (askRoom k).run P w = .ok () w := by
              intro k w
              unfold askRoom
              split
              · rfl
              · rfl
            have hcond : ((decide (cv < 0) || decide ((by_ : Int) * cv > 2 ^ 48)) || decide (lv < 0) || decide (lv > cv)) = false := by
              simp only [Bool.or_eq_false_iff, decide_eq_false_iff_not]
              refine ⟨⟨⟨by omega, ?_⟩, by omega⟩, by omega⟩
              have : ((by_ : Int) * cv) ≤ 2 ^ 48 := c4
              omega
            simp only [Instr.makeSlice, run_bind, run_und hu, hl, hcc, asInt, asIntOf, run_pure, hi, hib, wl, wc]
            simp only [hcond, Bool.false_eq_true, if_false, run_bind, hroom, run_sz hn]
            by_cases h0 : cv.toNat * n = 0
            · rw [if_pos h0] at hz'
              simp only [if_pos h0, run_pure, ← hz', newRow, newObj, run_bind, Sem.run, Array.append_empty]
            · rw [if_neg h0] at hz'
              simp only [if_neg h0, run_bind, hzr, run_pure, ← hz', newRow, newObj, Sem.run, Array.append_empty]
          · cases h
        · cases h
      · cases h
    · cases h
  | convert s d x =>
    have hx := hev x (by simp [Op.operands])
    simp only [opA] at h
    split at h
    · rename_i e hs hd
      split at h
      · rename_i he
        split at h
        · rename_i l hl
          cases h
          rw [hl] at hx
          obtain ⟨s', hx', rfl⟩ := hx
          have hconv : (Go.convert s d (ρ x)).run P w = (Conv.stringToBytes e s').run P w := by
            rw [hx']
            simp only [Go.convert, run_bind, run_und hs, run_und hd, run_und he]
          obtain ⟨cap, hcap, hrun⟩ := stringToBytes_run (P := P) e s' w
          refine fin _ rfl ⟨⟨w.heap.size, 0, cap, 0⟩, _, _, hconv.trans hrun, ?_, fun k => ?_⟩
          · refine ⟨rfl, rfl, rfl, by simp, ?_, ?_⟩
            · intro k hk
              simp only []
              rw [Array.getElem?_push, if_neg (by omega)]
            · refine ⟨_, e, _, push_last w _, ?_, ?_, ?_, ?_⟩
              · have hz : s'.data.size = s'.size := rfl
                simp only [Array.size_append, Array.size_map, Array.size_replicate, hz]; omega
              · simp only [strBytes, List.length_map, Nat.zero_add, ← size_data]; exact hcap
              · intro j y hy
                have hj : j < s'.data.toList.length := by
                  have := (List.getElem?_eq_some_iff.1 hy).1
                  simpa [strBytes] using this
                rw [strBytes, List.getElem?_map, List.getElem?_eq_getElem hj] at hy
                cases hy
                refine ⟨.int .u8 (s'.data.toList[j]).toNat, ?_, rfl⟩
                have hj' : j < s'.data.size := by simpa using hj
                simp only [Nat.zero_add]
                rw [Array.getElem?_append_left (by simpa using hj')]
                rw [Array.getElem?_map, Array.getElem?_eq_getElem hj']
                rfl
              · intro j hj
                simp only []
                omega
          · refine ⟨_, cap, upd_same _ _ _, ?_, ?_, ?_⟩
            · rw [← size_data]
            · rw [← size_data]; exact hcap
            · simp
        · cases h
      · cases h
    · cases h
  | _ => simp [opA] at h
end
end Go.Abs

/-
  Operations that write: stores, map entries, append, copy.
-/
noncomputable section
namespace Go.Abs
open Go

def tt : T := .tup []

def aStore (n : Nat) (a x : T) (σ : St) : Option (T × St) :=
  match a, x with
  | .v (.s (.ptr i o)), .v y => match σ.get i with
    | some (.cells true vs) => if y.cells.length = n ∧ o + n ≤ vs.length then some (tt, σ.set i (.cells true (setRange vs o y.cells))) else none
    | some (.mark vs) => if y.cells.length = n ∧ o + n ≤ vs.length then some (tt, σ.set i (.cells false (setRange vs o y.cells))) else none
    | _ => none
  | _, _ => none

def aMapSet (m k x : T) (σ : St) : Option (T × St) :=
  match m, keyS k, x with
  | .v (.s (.map i)), some k, .v y => match σ.get i with
    | some (.map es) => match aFind k es 0 with
      | some (some (j, _)) => some (tt, σ.set i (.map (es.set j (k, y))))
      | some none => some (tt, σ.set i (.map (es ++ [(k, y)])))
      | none => none
    | _ => none
  | _, _, _ => none

def aDelete (m k : T) (σ : St) : Option (T × St) :=
  match m, keyS k with
  | .v (.s .nilm), some _ => some (tt, σ)
  | .v (.s (.map i)), some k => match σ.get i with
    | some (.map es) => match aFind k es 0 with
      | some (some (j, _)) => some (tt, σ.set i (.map (es.eraseIdx j)))
      | some none => some (tt, σ)
      | none => none
    | _ => none
  | _, _ => none

/-- What is appended or copied: how many elements, their cells. -/
def aSrc (e : Nat) (x : T) (g : Mem) : Option (Nat × List S) :=
  match x with
  | .v (.s .nils) => some (0, [])
  | .v (.s (.emp _ _)) => some (0, [])
  | .v (.s (.sl i o n _)) => if n = 0 then some (0, []) else match g i with
    | some (.cells _ vs) => if o + n * e ≤ vs.length then some (n, (vs.drop o).take (n * e)) else none
    | some (.mark vs) => if o + n * e ≤ vs.length then some (n, (vs.drop o).take (n * e)) else none
    | _ => none
  | .v (.s (.str l)) => if e = 1 then some (l.length, strBytes l) else none
  | _ => none

/-- append: elements of e cells and so many bytes each. -/
def aAppend (e by_ : Nat) (s x : T) (σ : St) : Option (T × St) :=
  match aSrc e x σ.get with
  | none => none
  | some (n, xs) => if e = 0 then none else match s with
    | .v (.s .nils) => if n = 0 then some (Z .nils, σ) else if n * by_ ≤ 140737488355328 then
        some (Z (.sl σ.size 0 n (.grown e)), σ.push (.cells true xs)) else none
    | .v (.s (.sl i o len (.known c))) => if (len + n) * by_ ≤ 140737488355328 then match σ.get i with
        | some (.cells own vs) =>
          if len + n ≤ c then (if own = true ∧ o + len * e + n * e ≤ vs.length then some (Z (.sl i o (len + n) (.known c)), σ.set i (.cells true (setRange vs (o + len * e) xs))) else if n = 0 then some (s, σ) else none)
          else if o + len * e ≤ vs.length then some (Z (.sl σ.size 0 (len + n) (.grown e)), σ.push (.cells true ((vs.drop o).take (len * e) ++ xs))) else none
        | _ => none
        else none
    | .v (.s (.sl i o len (.grown q))) => if q = e ∧ (len + n) * by_ ≤ 140737488355328 then
        if n = 0 then some (s, σ) else match σ.get i with
        | some (.cells true vs) =>
          if o + (len + n) * e ≤ vs.length then some (Z (.sl i o (len + n) (.grown e)), σ.set i (.cells true (setRange vs (o + len * e) xs)))
          else if o + len * e ≤ vs.length then some (Z (.sl σ.size 0 (len + n) (.grown e)), (σ.set i .dead).push (.cells true ((vs.drop o).take (len * e) ++ xs))) else none
        | _ => none
        else none
    | .v (.s (.emp i q)) => if q = e ∧ n * by_ ≤ 140737488355328 then
        if n = 0 then some (s, σ) else match σ.get i with
        | some (.cells true _) => some (Z (.sl σ.size 0 n (.grown e)), (σ.set i .dead).push (.cells true xs))
        | _ => none
        else none
    | _ => none

/-- append of so many zeros to a slice that is nil. -/
def aGrow (e by_ : Nat) (z : List S) (s x : T) (σ : St) : Option (T × St) :=
  match s, x with
  | .v (.s .nils), .v (.s (.int .i64 n)) => if 0 < n ∧ n.toNat * by_ ≤ 140737488355328 ∧ e ≠ 0 then some (Z (.sl σ.size 0 n.toNat (.grown e)), σ.push (.cells true (zeros n.toNat z))) else none
  | .v (.s (.sl i o k (.known c))), .v (.s (.int .i64 n)) => match σ.get i with
    | some (.cells true vs) => if 0 < n ∧ k ≤ c ∧ c < k + n.toNat ∧ (k + n.toNat) * by_ ≤ 140737488355328 ∧ e ≠ 0 ∧ o + k * e ≤ vs.length then
        some (Z (.sl σ.size 0 (k + n.toNat) (.grown e)), σ.push (.cells true ((vs.drop o).take (k * e) ++ zeros n.toNat z))) else none
    | _ => none
  | _, _ => none

def asIntT (P : Program) (t : TypeId) : Bool := match P.underlying t with
  | some (.int _) => true
  | _ => false

def aCopy (e : Nat) (d x : T) (σ : St) : Option (T × St) :=
  match aSrc e x σ.get with
  | none => none
  | some (n, xs) => match d with
    | .v (.s .nils) => some (I .i64 0, σ)
    | .v (.s (.emp _ _)) => some (I .i64 0, σ)
    | .v (.s (.sl i o len _)) => match σ.get i with
      | some (.cells true vs) => if o + Nat.min n len * e ≤ vs.length then some (I .i64 (Nat.min n len), σ.set i (.cells true (setRange vs o (xs.take (Nat.min n len * e))))) else none
      | _ => none
    | _ => none

/-- clear of a slice: its elements are zeros. -/
def aClear (e : Nat) (z : List S) (x : T) (σ : St) : Option (T × St) :=
  match x with
  | .v (.s .nils) => some (tt, σ)
  | .v (.s (.emp _ _)) => some (tt, σ)
  | .v (.s (.sl i o n _)) => if n = 0 then some (tt, σ) else match σ.get i with
    | some (.cells true vs) => if o + n * e ≤ vs.length then some (tt, σ.set i (.cells true (setRange vs o (zeros n z)))) else none
    | _ => none
  | _ => none

def asSrcT (P : Program) (t : TypeId) : Bool := match P.underlying t with
  | some (.slice _) => true
  | some .string => true
  | _ => false

/-- A slice of bytes turned into itself: its block is marked behind its end. -/
def aMark (x : T) (σ : St) : Option (T × St) :=
  match x with
  | .v (.s (.sl i _ _ _)) => match σ.get i with
    | some (.cells true vs) => some (x, σ.set i (.cells false vs))
    | _ => none
  | _ => none

def opW (P : Program) (op : Op) (ev : Operand → T) (σ : St) : Option (T × St) :=
  match op with
  | .store t a x => match szOf P t with
    | some n => aStore n (ev a) (ev x) σ
    | none => none
  | .mapUpdate t m k x => match P.underlying t with
    | some (.map kt _) => match kkOf P kt with
      | some kk => if isKey kk (ev k) then aMapSet (ev m) (ev k) (ev x) σ else none
      | none => none
    | _ => none
  | .convert s d x => match P.underlying s, P.underlying d with
    | some (.slice _), some (.slice e) => match s == d, P.underlying e with
      | true, some (.int .u8) => aMark (ev x) σ
      | _, _ => none
    | _, _ => none
  | .insert t m k x => match P.underlying t with
    | some (.map kt _) => match kkOf P kt with
      | some kk => if isKey kk (ev k) then aMapSet (ev m) (ev k) (ev x) σ else none
      | none => none
    | _ => none
  | .call { callee := .builtin .delete, args, argTypes } => match args.toList, argTypes.toList with
    | [m, k], [t, _] => match P.underlying t with
      | some (.map kt _) => match kkOf P kt with
        | some kk => if isKey kk (ev k) then aDelete (ev m) (ev k) σ else none
        | none => none
      | _ => none
    | _, _ => none
  | .call { callee := .builtin .append, args, argTypes } => match args.toList, argTypes.toList with
    | [s, x], [t, u] => match P.underlying t with
      | some (.slice e) => match szOf P e, byOf P e, zeroOf P e with
        | some n, some b, some z => if asSrcT P u ∧ b ≠ 0 ∧ z.cells.length = n then aAppend n b (ev s) (ev x) σ else if asIntT P u ∧ b ≠ 0 ∧ z.cells.length = n then aGrow n b z.cells (ev s) (ev x) σ else none
        | _, _, _ => none
      | _ => none
    | _, _ => none
  | .call { callee := .builtin .copy, args, argTypes } => match args.toList, argTypes.toList with
    | [d, x], [t, _] => match P.underlying t with
      | some (.slice e) => match szOf P e with
        | some n => aCopy n (ev d) (ev x) σ
        | none => none
      | _ => none
    | _, _ => none
  | .call { callee := .builtin .clear, args, argTypes } => match args.toList, argTypes.toList with
    | [x], [t] => match P.underlying t with
      | some (.slice e) => match szOf P e, zeroOf P e with
        | some n, some z => if z.cells.length = n then aClear n z.cells (ev x) σ else none
        | _, _ => none
      | _ => none
    | _, _ => none
  | _ => none

/-- A writing operation's end. -/
def Wrote (P : Program) (ι : Inj) (σ : St) (w : World) (ρ : Operand → Value) (o : Oper) (t : T) (τ : St) : Prop :=
  ∃ κ u nx v, (execOp ρ o).run P w = .ok nx u ∧ (nx = .value v ∨ nx = .skip ∧ v = undef) ∧ Ext ι σ w κ τ u ∧ Rel κ τ.get u ∧ TRel κ t v ∧ τ.wf

section
variable {P : Program} {ι : Inj} {w : World} {σ : St}

theorem tt_undef {κ : Inj} : TRel κ tt undef := ⟨[], rfl, .nil⟩

theorem aStore_run {t : TypeId} {n : Nat} {a x : T} {u v : Value} {r : T} {τ : St} (hn : szOf P t = some n) (hR : Rel ι σ.get w) (wf : σ.wf) (ha : TRel ι a u) (hx : TRel ι x v) (h : aStore n a x σ = some (r, τ)) :
    ∃ w', (Instr.storeAt t u v).run P w = .ok () w' ∧ Ext ι σ w ι τ w' ∧ Rel ι τ.get w' ∧ r = tt ∧ τ.wf := by
  unfold aStore at h
  split at h
  · rename_i i o y
    obtain ⟨L, hL, rfl⟩ := ha
    split at h
    · rename_i vs hb
      split at h
      · rename_i hc
        cases h
        have hcells := VRel.cells hx
        have hlen := forall2_length hcells
        obtain ⟨κ, w', a, hrun, he, hr, rfl⟩ := does_storeCells (P := P) hR wf hL hb (o := o) (by omega) hcells
        refine ⟨w', ?_, he, hr, rfl, St.wf_set wf (wf.lt hb) _⟩
        simp only [Instr.storeAt, Instr.sureAddr, run_bind, run_pure, storeVar, run_sz hn]
        have hsz : v.cells.size = n := by simp only [Array.length_toList] at hlen; omega
        rw [if_neg (by simp [hsz])]
        exact hrun
      · cases h
    · rename_i vs hb
      split at h
      · rename_i hc
        cases h
        have hcells := VRel.cells hx
        have hlen := forall2_length hcells
        obtain ⟨κ, w', a, hrun, he, hr, rfl⟩ := does_storeMark (P := P) hR wf hL hb (o := o) (by omega) hcells
        refine ⟨w', ?_, he, hr, rfl, St.wf_set wf (wf.lt hb) _⟩
        simp only [Instr.storeAt, Instr.sureAddr, run_bind, run_pure, storeVar, run_sz hn]
        have hsz : v.cells.size = n := by simp only [Array.length_toList] at hlen; omega
        rw [if_neg (by simp [hsz])]
        exact hrun
      · cases h
    · cases h
  · cases h

theorem rel_setMap {κ : Inj} {i : Nat} {L : Loc} {es es' : List (S × V)} {mes' : Array MapEntry} {clk' : Nat} (hR : Rel ι σ.get w) (wf : σ.wf) (hL : ι i = some L) (hb : σ.get i = some (.map es))
    (hκ : κ = ι) (h1 : All2 (EntRel ι) es' mes'.toList) (h2 : mes'.toList.Pairwise fun x y => x.born < y.born) (h3 : ∀ e ∈ mes'.toList, e.born < clk') :
    ∃ w', (setObj L.b (.map mes' clk')).run P w = .ok () w' ∧ Ext ι σ w κ (σ.set i (.map es')) w' ∧ Rel κ (σ.set i (.map es')).get w' := by
  subst hκ
  obtain ⟨mes, clk, hh, _⟩ := hR.blk i L _ hL hb
  have hlt := (Array.getElem?_eq_some_iff.1 hh).1
  obtain ⟨he, hr⟩ := rel_set hR wf hL hb trivial (.map mes' clk') (.map es') trivial ⟨mes', clk', by simp [hlt], h1, h2, h3⟩
  exact ⟨_, by simp [setObj, Sem.run, hh], he, hr⟩

theorem key_eq {a b : S} (h : keyEq a b = some true) : a = b := by
  cases a <;> cases b <;> simp only [keyEq] at h <;> first | (cases h; done) | skip
  · simp at h; subst h; rfl
  · rename_i k a k' b
    by_cases e : k = k'
    · subst e; simp at h; subst h; rfl
    · rw [if_neg e] at h; cases h
  · simp at h; subst h; rfl
  · rename_i k a k' b
    split at h
    · rename_i hc
      obtain ⟨rfl, _⟩ := hc
      simp at h; subst h; rfl
    · cases h

theorem sameBits_key {a b : S} {u v : Value} (ha : KRel ι a u) (hb : KRel ι b v) (h : keyEq a b = some true) (n : Nat) : Instr.sameBits (n + 1) v u = true := by
  have e := key_eq h
  subst e
  cases a <;> simp only [keyEq] at h <;> first | (cases h; done) | skip
  · simp only [KRel, SRel] at ha hb; subst ha hb; simp [Instr.sameBits]
  · simp only [KRel, SRel] at ha hb; subst ha hb; simp [Instr.sameBits]
  · obtain ⟨s, rfl, hs⟩ := ha
    obtain ⟨s', rfl, hs'⟩ := hb
    have : s = s' := by
      cases s; cases s'
      simp only at hs hs'
      congr
      apply Array.ext'
      rw [hs, hs']
    subst this
    simp only [Instr.sameBits]; rw [beq_toListBytes]; simp
  · rename_i k l
    simp only [KRel] at ha hb; subst ha hb
    simp only [Instr.sameBits, beq_self_eq_true, Bool.true_and, List.all_eq_true]
    intro p hp
    have : ∀ (l : List Value), p ∈ l.zip l → p.1 = p.2 ∧ p.1 ∈ l := by
      intro l
      induction l with
      | nil => intro h; cases h
      | cons x l ih =>
        intro h
        rcases List.mem_cons.1 h with rfl | h
        · exact ⟨rfl, by simp⟩
        · exact ⟨(ih h).1, List.mem_cons_of_mem _ (ih h).2⟩
    obtain ⟨e1, e2⟩ := this _ hp
    obtain ⟨x, y⟩ := p
    simp only at e1 e2 ⊢
    subst e1
    obtain ⟨m, _, rfl⟩ := List.mem_map.1 e2
    cases n <;> simp [Instr.sameBits]

theorem pairwise_map_born {l : List MapEntry} {f : MapEntry → MapEntry} (hf : ∀ e, (f e).born = e.born) (j : Nat) (h : l.Pairwise fun x y => x.born < y.born) : (l.modify j f).Pairwise fun x y => x.born < y.born := by
  induction l generalizing j with
  | nil => simp
  | cons a l ih =>
    rw [List.pairwise_cons] at h
    cases j with
    | zero =>
      rw [List.modify_zero_cons] 
      rw [List.pairwise_cons]
      exact ⟨fun b hb => by rw [hf]; exact h.1 b hb, h.2⟩
    | succ j =>
      rw [List.modify_succ_cons]
      rw [List.pairwise_cons]
      refine ⟨fun b hb => ?_, ih j h.2⟩
      have : ∃ c ∈ l, c.born = b.born := by
        clear ih h
        induction l generalizing j with
        | nil => simp at hb
        | cons c l ih2 =>
          cases j with
          | zero =>
            rw [List.modify_zero_cons] at hb
            cases hb with
            | head => exact ⟨c, by simp, (hf c).symm⟩
            | tail _ hb => exact ⟨b, List.mem_cons_of_mem _ hb, rfl⟩
          | succ j =>
            rw [List.modify_succ_cons] at hb
            cases hb with
            | head => exact ⟨b, by simp, rfl⟩
            | tail _ hb =>
              obtain ⟨c', h1, h2⟩ := ih2 j hb
              exact ⟨c', by simp [h1], h2⟩
      obtain ⟨c, hc, e⟩ := this
      rw [← e]; exact h.1 c hc

theorem mem_modify_born {l : List MapEntry} {f : MapEntry → MapEntry} (hf : ∀ e, (f e).born = e.born) {j clk : Nat} (h : ∀ e ∈ l, e.born < clk) : ∀ e ∈ l.modify j f, e.born < clk := by
  induction l generalizing j with
  | nil => intro e he; simp at he
  | cons a l ih =>
    intro e he
    cases j with
    | zero =>
      rw [List.modify_zero_cons] at he
      cases he with
      | head => rw [hf]; exact h a (by simp)
      | tail _ he => exact h e (List.mem_cons_of_mem _ he)
    | succ j =>
      rw [List.modify_succ_cons] at he
      cases he with
      | head => exact h a (by simp)
      | tail _ he => exact ih (fun e he => h e (by simp [he])) e he

theorem all2_modify {es : List (S × V)} {mes : List MapEntry} {f : MapEntry → MapEntry} {p : S × V} : ∀ {j : Nat}, All2 (EntRel ι) es mes → (∀ e, mes[j]? = some e → EntRel ι p (f e)) →
    All2 (EntRel ι) (es.set j p) (mes.modify j f) := by
  intro j h
  induction h generalizing j with
  | nil => intro _; simpa using All2.nil
  | @cons a b l m hr h ih =>
    intro hp
    cases j with
    | zero => rw [List.set_cons_zero, List.modify_zero_cons]; exact .cons (hp b rfl) h
    | succ j => rw [List.set_cons_succ, List.modify_succ_cons]; exact .cons hr (ih fun e he => hp e (by simpa using he))

theorem all2_erase {α β : Type} {R : α → β → Prop} {l : List α} {m : List β} (h : All2 R l m) : ∀ j, All2 R (l.eraseIdx j) (m.eraseIdx j) := by
  induction h with
  | nil => intro j; simpa using All2.nil
  | cons a h ih => intro j; cases j with
    | zero => simpa using h
    | succ j => simpa using All2.cons a (ih j)

theorem aMapSet_run {t kt et : TypeId} {kk : KK} {m k x : T} {um uk ux : Value} {r : T} {τ : St} (hu : P.underlying t = some (.map kt et)) (hkk : kkOf P kt = some kk) (hik : isKey kk k = true) (hR : Rel ι σ.get w) (wf : σ.wf)
    (hm : TRel ι m um) (hk : TRel ι k uk) (hx : TRel ι x ux) (h : aMapSet m k x σ = some (r, τ)) :
    ∃ w', (Instr.mapUpdate t um uk ux).run P w = .ok () w' ∧ Ext ι σ w ι τ w' ∧ Rel ι τ.get w' ∧ r = tt ∧ τ.wf := by
  unfold aMapSet at h
  split at h
  · rename_i i kv y hkv
    obtain ⟨L, hL, rfl⟩ := hm
    split at h
    · rename_i es hb
      obtain ⟨mes, clk, hh, hall, hpw, hlt⟩ := hR.blk i L _ hL hb
      obtain ⟨d, hd, hchk, _⟩ := kk_fits (P := P) (w := w) hkk hik hkv hk false 9998
      have hchk' : (Instr.checkKey false 10000 kt uk).run P w = .ok () w := hchk
      have hget : (getObj L.b).run P w = .ok (.map mes clk) w := by simp [getObj, Sem.run, hh]
      split at h
      · rename_i j v hf
        cases h
        obtain ⟨v', h1, h2, q, e, h3, h4, h5, h6⟩ := findKey_run (P := P) (w := w) hkk hik hkv hk hall hf
        have hqe : EntRel ι (q, v) e := by
          obtain ⟨e', he', r⟩ := forall2_get hall j _ h3
          rw [h4] at he'; cases he'; exact r
        have hstay : (Instr.keyThatStays (((mes[j]?).map (·.key)).getD uk) uk).run P w = .ok uk w := by
          have e1 : mes[j]? = some e := by rw [← Array.getElem?_toList]; exact h4
          simp only [Instr.keyThatStays, e1, Option.map_some, Option.getD_some]
          rw [sameBits_key (keyS_rel hkv hk) hqe.1 h5 9999]
          rfl
        have hK := keyS_rel hkv hk
        have hrel : EntRel ι (kv, y) { e with key := uk, val := ux } := ⟨hK, hx⟩
        obtain ⟨w', hs, hE, hRr⟩ := rel_setMap (P := P) (κ := ι) (es' := es.set j (kv, y)) (mes' := mes.modify j fun e => { e with key := uk, val := ux }) (clk' := clk) hR wf hL hb rfl
          (by rw [Array.toList_modify]; exact all2_modify hall (fun e' _ => ⟨hK, hx⟩))
          (by rw [Array.toList_modify]; exact pairwise_map_born (f := fun e => { e with key := uk, val := ux }) (fun _ => rfl) j hpw)
          (by rw [Array.toList_modify]; exact mem_modify_born (f := fun e => { e with key := uk, val := ux }) (fun _ => rfl) hlt)
        refine ⟨w', ?_, hE, hRr, rfl, St.wf_set wf (wf.lt hb) _⟩
        simp only [Instr.mapUpdate, run_bind, run_und hu, hget, hchk', h1, hstay, hs]
      · rename_i hf
        cases h
        have h1 := findKey_run (P := P) (w := w) hkk hik hkv hk hall hf
        simp only at h1
        obtain ⟨w', hs, hE, hRr⟩ := rel_setMap (P := P) (κ := ι) (es' := es ++ [(kv, y)]) (mes' := mes.push { key := uk, val := ux, born := clk }) (clk' := clk + 1) hR wf hL hb rfl
          (by rw [Array.toList_push]; exact forall2_append hall (.cons ⟨keyS_rel hkv hk, hx⟩ .nil))
          (by
            rw [Array.toList_push, List.pairwise_append]
            refine ⟨hpw, by simp, ?_⟩
            intro a ha b hb
            simp only [List.mem_singleton] at hb
            subst hb
            exact hlt a ha)
          (by
            intro e he
            rw [Array.toList_push, List.mem_append] at he
            rcases he with he | he
            · have := hlt e he; omega
            · simp only [List.mem_singleton] at he; subst he; simp)
        refine ⟨w', ?_, hE, hRr, rfl, St.wf_set wf (wf.lt hb) _⟩
        simp only [Instr.mapUpdate, run_bind, run_und hu, hget, hchk', h1, hs]
      · cases h
    · cases h
  · cases h

theorem aDelete_run {t kt et t' : TypeId} {ty : TypeId} {kk : KK} {m k : T} {um uk : Value} {r : T} {τ : St} (hu : P.underlying t = some (.map kt et)) (hkk : kkOf P kt = some kk) (hik : isKey kk k = true) (hR : Rel ι σ.get w) (wf : σ.wf)
    (hm : TRel ι m um) (hk : TRel ι k uk) (h : aDelete m k σ = some (r, τ)) :
    ∃ w', (Builtin.delete_ #[t, t'] ty #[um, uk]).run P w = .ok undef w' ∧ Ext ι σ w ι τ w' ∧ Rel ι τ.get w' ∧ r = tt ∧ τ.wf := by
  unfold aDelete at h
  split at h
  · rename_i kv hkv
    simp only [TRel, VRel, SRel] at hm
    subst hm
    cases h
    obtain ⟨d, hd, hchk, _⟩ := kk_fits (P := P) (w := w) hkk hik hkv hk true 9998
    have hchk' : (Instr.checkKey true 10000 kt uk).run P w = .ok () w := hchk
    refine ⟨w, ?_, Ext.refl _ _ _, hR, rfl, wf⟩
    simp [Builtin.delete_, run_bind, run_und hu, hchk', run_pure, undef]
  · rename_i i kv hkv
    obtain ⟨L, hL, rfl⟩ := hm
    split at h
    · rename_i es hb
      obtain ⟨mes, clk, hh, hall, hpw, hlt⟩ := hR.blk i L _ hL hb
      obtain ⟨d, hd, hchk, _⟩ := kk_fits (P := P) (w := w) hkk hik hkv hk mes.isEmpty 9998
      have hchk' : (Instr.checkKey mes.isEmpty 10000 kt uk).run P w = .ok () w := hchk
      have hget : (getObj L.b).run P w = .ok (.map mes clk) w := by simp [getObj, Sem.run, hh]
      split at h
      · rename_i j v hf
        cases h
        obtain ⟨v', h1, h2, q, e, h3, h4, h5, h6⟩ := findKey_run (P := P) (w := w) hkk hik hkv hk hall hf
        have hj : j < mes.size := by
          have := (List.getElem?_eq_some_iff.1 h4).1
          simpa using this
        have herase : (mes.eraseIdxIfInBounds j).toList = mes.toList.eraseIdx j := by
          unfold Array.eraseIdxIfInBounds
          rw [dif_pos hj]
          simp
        obtain ⟨w', hs, hE, hRr⟩ := rel_setMap (P := P) (κ := ι) (es' := es.eraseIdx j) (mes' := mes.eraseIdxIfInBounds j) (clk' := clk) hR wf hL hb rfl
          (by rw [herase]; exact all2_erase hall j)
          (by rw [herase]; exact hpw.sublist (List.eraseIdx_sublist ..))
          (by rw [herase]; intro e he; exact hlt e (List.mem_of_mem_eraseIdx he))
        refine ⟨w', ?_, hE, hRr, rfl, St.wf_set wf (wf.lt hb) _⟩
        simp [Builtin.delete_, run_bind, run_und hu, hget, hchk', h1, hs, run_pure, undef]
      · rename_i hf
        cases h
        have h1 := findKey_run (P := P) (w := w) hkk hik hkv hk hall hf
        simp only at h1
        have hlt' := (Array.getElem?_eq_some_iff.1 hh).1
        have heq : w.heap.setIfInBounds L.b (.map mes clk) = w.heap := by
          apply Array.ext_getElem?
          intro j
          by_cases h : L.b = j
          · subst h
            rw [hh, Array.getElem?_setIfInBounds_self_of_lt hlt']
          · rw [Array.getElem?_setIfInBounds_ne h]
        have hs : (setObj L.b (.map mes clk)).run P w = .ok () w := by
          simp only [setObj, Sem.run, hh, heq]
        refine ⟨w, ?_, Ext.refl _ _ _, hR, rfl, wf⟩
        simp [Builtin.delete_, run_bind, run_und hu, hget, hchk', h1, hs, run_pure, undef]
      · cases h
    · cases h
  · cases h
end
end Go.Abs

/-
  append and copy.
-/
namespace Go.Abs
open Go
section
variable {P : Program} {ι : Inj} {w : World} {σ : St}

theorem run_askRoom (k : Nat) (w : World) : (askRoom k).run P w = .ok () w := by
  unfold askRoom
  split
  · rfl
  · rfl

theorem aSrc_run {e n : Nat} {x : T} {u : Value} {xs : List S} {g : Mem} (hR : Rel ι g w) (hx : TRel ι x u) (h : aSrc e x g = some (n, xs)) :
    xs.length = n * e ∧ (Builtin.lenOf u).run P w = .ok n w ∧
      ∀ k, k ≤ n → ∃ cs : List Value, (Builtin.firstCells e k u).run P w = .ok cs.toArray w ∧ All2 (SRel ι) (xs.take (k * e)) cs := by
  unfold aSrc at h
  split at h
  · cases h
    simp only [TRel, VRel, SRel] at hx; subst hx
    exact ⟨by simp, rfl, fun k hk => ⟨[], by simp [Builtin.firstCells, run_pure], by simpa using All2.nil⟩⟩
  · cases h
    obtain ⟨L, o, c, hL, rfl, _⟩ := hx
    refine ⟨by simp, rfl, fun k hk => ?_⟩
    have : k = 0 := by omega
    subst this
    exact ⟨[], by simp [Builtin.firstCells, loadCells, loadCellsFrom, run_pure], by simpa using All2.nil⟩
  · rename_i i o len c
    obtain ⟨L, k, hL, rfl, _⟩ := sl_shape hx
    split at h
    · rename_i hz
      subst hz
      cases h
      refine ⟨by simp, rfl, fun k hk => ?_⟩
      have : k = 0 := by omega
      subst this
      exact ⟨[], by simp [Builtin.firstCells, loadCells, loadCellsFrom, run_pure], by simpa using All2.nil⟩
    split at h
    · rename_i own vs hb
      split at h
      · rename_i hle
        cases h
        refine ⟨by simp; omega, rfl, fun k hk => ?_⟩
        have hke : k * e ≤ n * e := Nat.mul_le_mul_right e hk
        obtain ⟨ds, hd, rd⟩ := run_loadCells (P := P) hR hL hb (o := o) (n := k * e) rfl (by simp; omega)
        refine ⟨ds, by simpa [Builtin.firstCells] using hd, ?_⟩
        rw [List.take_take, Nat.min_eq_left hke]
        exact rd
      · cases h
    · rename_i vs hb
      split at h
      · rename_i hle
        cases h
        refine ⟨by simp; omega, rfl, fun k hk => ?_⟩
        have hke : k * e ≤ n * e := Nat.mul_le_mul_right e hk
        obtain ⟨ds, hd, rd⟩ := run_loadCells (P := P) hR.demote hL (own := false) (vs := vs) (by rw [hb]; rfl) (o := o) (n := k * e) rfl (by simp; omega)
        refine ⟨ds, by simpa [Builtin.firstCells] using hd, ?_⟩
        rw [List.take_take, Nat.min_eq_left hke]
        exact rd
      · cases h
    · cases h
  · rename_i l
    split at h
    · rename_i he
      subst he
      cases h
      obtain ⟨s, rfl, rfl⟩ := hx
      refine ⟨by simp [strBytes], ?_, ?_⟩
      · rw [← size_data]; rfl
      · intro k hk
        refine ⟨(s.data.toList.take k).map fun b => .int .u8 b.toNat, ?_, ?_⟩
        · simp only [Builtin.firstCells, run_pure]
          congr 1
          rw [ByteArray.data_extract]
          apply Array.toList_inj.1
          simp [List.map_take]
        · rw [Nat.mul_one, strBytes, ← List.map_take]
          exact all2_map fun b _ => rfl
    · cases h
  · cases h

theorem zeroCells_one {c : Array Value} (h : ∀ v ∈ c.toList, oneCell v = true) (k : Nat) : ∀ v ∈ (Builtin.zeroCells c k).toList, oneCell v = true := by
  intro v hv
  unfold Builtin.zeroCells at hv
  rw [Array.mem_toList_iff, Array.mem_map] at hv
  obtain ⟨i, hi, rfl⟩ := hv
  rw [Array.mem_range] at hi
  have hc : 0 < c.size := by
    rcases Nat.eq_zero_or_pos c.size with h0 | h0
    · rw [h0] at hi; omega
    · exact h0
  have hlt := Nat.mod_lt i hc
  rw [getElem!_pos c (i % c.size) hlt]
  exact h _ (Array.mem_toList_iff.2 (Array.getElem_mem hlt))

theorem run_append {t u ty e : TypeId} {n b cnt : Nat} (ht : P.underlying t = some (.slice e)) (hn : szOf P e = some n) (hb : byOf P e = some b) {z : V} (hz : zeroOf P e = some z) (hu : asSrcT P u = true) (hb0 : b ≠ 0)
    {a : Option Addr} {len cap : Nat} {x : Value} (hlen : (Builtin.lenOf x).run P w = .ok cnt w) {cs : List Value}
    (hcap : len ≤ cap) (hsmall : (len + cnt) * b ≤ 140737488355328) :
    (len + cnt ≤ cap → (Builtin.firstCells n cnt x).run P w = .ok cs.toArray w → (Builtin.append_ #[t, u] ty #[.slice a len cap, x]).run P w =
      match (match a with | some a => storeCells (a.add (len * n)) cs | none => pure ()).run P w with
      | .ok () w' => .ok (.slice a (len + cnt) cap) w'
      | .halt h w' => .halt h w') ∧
    (cap < len + cnt → ∀ old : List Value, (Builtin.firstCells n cnt x).run P { w with drawn := w.drawn + 1 } = .ok cs.toArray { w with drawn := w.drawn + 1 } →
      (Builtin.firstCells n len (.slice a len cap)).run P { w with drawn := w.drawn + 1 } = .ok old.toArray { w with drawn := w.drawn + 1 } → ∃ (c : Nat) (more : Array Value), len + cnt ≤ c ∧ more.size = (c - (len + cnt)) * z.cells.length ∧ (∀ v ∈ more.toList, oneCell v = true) ∧
      (Builtin.append_ #[t, u] ty #[.slice a len cap, x]).run P w =
        .ok (.slice (some ⟨w.heap.size, 0, none⟩) (len + cnt) c) { w with drawn := w.drawn + 1, heap := w.heap.push (.cells ((old ++ cs).toArray ++ more) e (0, 0)) }) := by
  obtain ⟨i, hi, hib⟩ := run_by (P := P) (w := w) hb
  have hi' : ∀ w', (typeInfo e).run P w' = .ok i w' := by
    intro w'
    obtain ⟨i', h1, _⟩ := run_by (P := P) (w := w') hb
    have : P.info? e = some i := by
      simp only [typeInfo, run_bind, program, Sem.run] at hi
      cases hx : P.info? e with
      | none => rw [hx] at hi; simp [stuck, Sem.run] at hi
      | some k => rw [hx] at hi; simp only [run_pure] at hi; cases hi; rfl
    simp [typeInfo, run_bind, run_pure, program, Sem.run, this]
  have hud : ∃ d, P.underlying u = some d ∧ ∀ k, d ≠ .int k := by
    unfold asSrcT at hu
    split at hu
    · rename_i hu'; exact ⟨_, hu', fun k h => by cases h⟩
    · rename_i hu'; exact ⟨_, hu', fun k h => by cases h⟩
    · cases hu
  obtain ⟨d, hd, hdk⟩ := hud
  have hdm : (match d with | .int _ => true | _ => false) = false := by
    cases d <;> first | rfl | (rename_i k; exact (hdk k rfl).elim)
  constructor
  · intro hle hcs
    simp only [Builtin.append_, run_bind, run_pure, run_und ht, run_und hd, run_sz hn, List.getElem?_toArray, List.getElem?_cons_zero, List.getElem?_cons_succ, hdm, Bool.false_eq_true, if_false, hlen, if_pos hle,
      Bool.not_false, if_true, hcs]
    cases a with
    | none => simp [run_pure]
    | some a =>
      simp only [run_bind]
      cases (storeCells (a.add (len * n)) cs).run P w with
      | halt h w' => rfl
      | ok x w' => rfl
  · intro hgt old hcs hold
    have hgrow := growslice_fits (bytes := b) hgt hsmall
    obtain ⟨zv, hzr, hzrel⟩ := run_zero (P := P) (w := { w with drawn := w.drawn + 1 }) (ι := fun _ => none) hz
    have hzl := forall2_length (VRel.cells hzrel)
    let c := (len + cnt) + (w.tape w.drawn (.appendCap (len + cnt) cap e)) % (2 ^ 63 - (len + cnt))
    have hch : (choose (.appendCap (len + cnt) cap e)).run P w = .ok c { w with drawn := w.drawn + 1 } := by
      simp only [choose, Sem.run, Question.forced, Bool.false_eq_true, if_false, Question.cut, c]
    refine ⟨c, Builtin.zeroCells zv.cells (c - (len + cnt)), by simp only [c]; omega, by simp [Builtin.zeroCells, hzl], zeroCells_one (all2_oneCell (VRel.cells hzrel)) _, ?_⟩
    have hnot1 : ¬ (((len + cnt : Nat) : Int) > IntKind.i64.max ∧ (False ∨ i.bytes = 0)) := by rw [hib]; rintro ⟨_, h | h⟩; exact h; exact hb0 h
    have hnot2 : ¬ (Builtin.nextslicecap (len + cnt) cap * i.bytes > 2 ^ 48) := by rw [hib]; omega
    simp only [Builtin.append_, run_bind, run_pure, run_und ht, run_und hd, run_sz hn, List.getElem?_toArray, List.getElem?_cons_zero, List.getElem?_cons_succ, hdm, Bool.false_eq_true, if_false, hlen,
      if_neg (Nat.not_le.2 hgt), Bool.not_false, if_true, hi']
    rw [if_neg hnot1]
    simp only [run_bind, hi']
    rw [if_neg hnot2]
    simp only [run_bind, hch, hi', run_askRoom, hold, hcs, hzr, newRow, newObj, Sem.run, run_pure]
    simp
end
end Go.Abs

/-
  append and copy: the store.
-/
namespace Go.Abs
open Go
section
variable {P : Program} {ι : Inj} {w : World} {σ : St}

theorem ext_kill {i : Nat} {L : Loc} {vs : List S} (hR : Rel ι σ.get w) (hL : ι i = some L) (hb : σ.get i = some (.cells true vs)) : Ext ι σ w ι (σ.set i .dead) w ∧ Rel ι (σ.set i .dead).get w := by
  constructor
  · refine ⟨Nat.le_refl _, fun _ _ => rfl, ?_, ?_, ?_, fun k M h1 h2 => by simp at h2; omega, rfl, rfl, Nat.le_refl _, fun _ _ _ => rfl⟩
    · intro k hk hl
      by_cases e : k = i
      · subst e; rw [St.get_set_same] at hl; exact hl.elim
      · rwa [St.get_set_ne _ _ e] at hl
    · intro k hk hl
      by_cases e : k = i
      · subst e; rw [St.get_set_same] at hl; exact hl.elim
      · rwa [St.get_set_ne _ _ e] at hl
    · intro k hk hn
      by_cases e : k = i
      · subst e; rw [hL] at hn; cases hn
      · exact St.get_set_ne _ _ e
  · constructor
    · intro k M b hM hbk
      by_cases e : k = i
      · subst e; rw [St.get_set_same] at hbk; cases hbk; trivial
      · rw [St.get_set_ne _ _ e] at hbk; exact hR.blk k M b hM hbk
    · intro k j M N hM hN hl hh hne
      by_cases e : k = i
      · subst e; rw [St.get_set_same] at hl; exact hl.elim
      · rw [St.get_set_ne _ _ e] at hl
        by_cases ej : j = i
        · subst ej; rw [St.get_set_same] at hh; exact hh.elim
        · rw [St.get_set_ne _ _ ej] at hh
          exact hR.sep k j M N hM hN hl hh hne
    · intro k n vs hg
      by_cases e : k = i
      · subst e; exact ⟨L, hL⟩
      · rw [St.get_set_ne _ _ e] at hg
        exact hR.glob k n vs hg

theorem wf_kill (wf : σ.wf) {i : Nat} (hi : i < σ.size) : (σ.set i .dead).wf := St.wf_set wf hi _

/-- A block goes on under a new number. -/
theorem rel_move (hR : Rel ι σ.get w) (wf : σ.wf) (hf : ι σ.size = none) {i : Nat} {L M : Loc} {vs : List S} (hL : ι i = some L) (hb : σ.get i = some (.cells true vs)) (ob : Obj) (hM : M.b = L.b) (b : Blk)
    (hbr : BlkRel ι M { w with heap := w.heap.setIfInBounds L.b ob } b) :
    Ext ι σ w (upd ι σ.size M) ((σ.set i .dead).push b) { w with heap := w.heap.setIfInBounds L.b ob } ∧
      Rel (upd ι σ.size M) ((σ.set i .dead).push b).get { w with heap := w.heap.setIfInBounds L.b ob } := by
  have hi := wf.lt hb
  have hle := le_upd M hf
  have hold : ∀ k, k ≠ L.b → (w.heap.setIfInBounds L.b ob)[k]? = w.heap[k]? := fun k hk => Array.getElem?_setIfInBounds_ne (fun e => hk e.symm)
  have hget : ∀ k, k ≠ σ.size → k ≠ i → ((σ.set i .dead).push b).get k = σ.get k := by
    intro k h1 h2
    rw [St.get_push_ne _ _ (by simpa using h1), St.get_set_ne _ _ h2]
  have hgi : ((σ.set i .dead).push b).get i = some .dead := by
    rw [St.get_push_ne _ _ (by simp; omega), St.get_set_same]
  have hgn : ((σ.set i .dead).push b).get σ.size = some b := by
    have := St.get_push_same (σ.set i .dead) b
    simpa using this
  constructor
  · refine ⟨by simp, ?_, ?_, ?_, ?_, ?_, rfl, rfl, by simp, ?_⟩
    · intro k hk
      simp only [St.size_push, St.size_set] at hk
      exact upd_ne _ _ (by omega)
    · intro k hk hl
      by_cases e : k = i
      · subst e; rw [hgi] at hl; exact hl.elim
      · rwa [hget k (by omega) e] at hl
    · intro k hk hl
      by_cases e : k = i
      · subst e; rw [hgi] at hl; exact hl.elim
      · rwa [hget k (by omega) e] at hl
    · intro k hk hn
      by_cases e : k = i
      · subst e; rw [hL] at hn; cases hn
      · exact hget k (by omega) e
    · intro k N h1 h2 hN _
      simp only [St.size_push, St.size_set] at h2
      have : k = σ.size := by omega
      subst this
      rw [upd_same] at hN; cases hN
      exact .inr ⟨i, L, hi, hL, hM.symm, by rw [hb]; trivial⟩
    · intro k hk hn
      refine hold k fun e => ?_
      exact hn i L hi hL (by rw [hb]; trivial) e.symm
  · constructor
    · intro k N c hN hc
      by_cases e : k = σ.size
      · subst e
        rw [upd_same] at hN; cases hN
        rw [hgn] at hc; cases hc
        exact hbr.mono hle
      · rw [upd_ne _ _ e] at hN
        by_cases e2 : k = i
        · subst e2; rw [hgi] at hc; cases hc; trivial
        · rw [hget k e e2] at hc
          have hr := hR.blk k N c hN hc
          cases c with
          | dead => trivial
          | cells own vs' => exact (hr.mono hle).congr (hold _ (Ne.symm (hR.sep i k L N hL hN (by rw [hb]; trivial) (by rw [hc]; trivial) (Ne.symm e2))))
          | map es => exact (hr.mono hle).congr (hold _ (Ne.symm (hR.sep i k L N hL hN (by rw [hb]; trivial) (by rw [hc]; trivial) (Ne.symm e2))))
          | chan cap vs => exact (hr.mono hle).congr (hold _ (Ne.symm (hR.sep i k L N hL hN (by rw [hb]; trivial) (by rw [hc]; trivial) (Ne.symm e2))))
          | glob g vs => exact (hr.mono hle).congr (hold _ (Ne.symm (hR.sep i k L N hL hN (by rw [hb]; trivial) (by rw [hc]; trivial) (Ne.symm e2))))
          | mark vs => exact (hr.mono hle).congr (hold _ (Ne.symm (hR.sep i k L N hL hN (by rw [hb]; trivial) (by rw [hc]; trivial) (Ne.symm e2))))
    · intro k j N N' hN hN' hl hh hne
      by_cases ek : k = i
      · subst ek; rw [hgi] at hl; exact hl.elim
      · by_cases ej : j = i
        · subst ej; rw [hgi] at hh; exact hh.elim
        · by_cases e : k = σ.size
          · subst e
            rw [upd_same] at hN; cases hN
            have ej2 : j ≠ σ.size := fun x => hne x.symm
            rw [upd_ne _ _ ej2] at hN'
            rw [hget j ej2 ej] at hh
            rw [hM]
            exact hR.sep i j L N' hL hN' (by rw [hb]; trivial) hh (Ne.symm ej)
          · rw [upd_ne _ _ e] at hN
            rw [hget k e ek] at hl
            by_cases e2 : j = σ.size
            · subst e2
              rw [upd_same] at hN'; cases hN'
              rw [hM]
              exact hR.sep k i N L hN hL hl (by rw [hb]; trivial) ek
            · rw [upd_ne _ _ e2] at hN'
              rw [hget j e2 ej] at hh
              exact hR.sep k j N N' hN hN' hl hh hne
    · intro k n vs hg
      by_cases e : k = σ.size
      · subst e; exact ⟨_, upd_same _ _ _⟩
      · by_cases ek : k = i
        · subst ek; rw [hgi] at hg; cases hg
        · rw [hget k e ek] at hg
          obtain ⟨N, hN⟩ := hR.glob k n vs hg
          exact ⟨N, by rw [upd_ne _ _ e]; exact hN⟩

/-- The cells of a block, from a place on, read on with what a run of stores wrote behind them. -/
theorem moved_blk {i o m : Nat} {L : Loc} {vs xs : List S} {cs : List Value} (hR : Rel ι σ.get w) (hL : ι i = some L) (hb : σ.get i = some (.cells true vs)) (hm : o + m ≤ vs.length)
    (hx : All2 (SRel ι) xs cs) (hsz : L.base + o + m + xs.length ≤ L.size) :
    ∃ ob, (storeCells ⟨L.b, L.base + o + m, none⟩ cs).run P w = .ok () { w with heap := w.heap.setIfInBounds L.b ob } ∧
      BlkRel ι ⟨L.b, L.base + o, L.size, L.ty⟩ { w with heap := w.heap.setIfInBounds L.b ob } (.cells true ((vs.drop o).take m ++ xs)) := by
  obtain ⟨c, e, fz, h1, h2, h3, h4, h5⟩ := hR.blk i L _ hL hb
  have hlen := forall2_length hx
  obtain ⟨c', hrun, hs, hget⟩ := run_storeCells P L.b e fz cs (L.base + o + m) 0 w c h1 (by omega) (fun j hj hh => by have := (h5 rfl).1; omega) (all2_oneCell hx)
  have hlt := (Array.getElem?_eq_some_iff.1 h1).1
  refine ⟨.cells c' e fz, hrun, c', e, fz, by simp [hlt], by show c'.size = L.size; omega, ?_, ?_, fun _ => ⟨by have := (h5 rfl).1; omega, stored_oneCell (h5 rfl).2 (all2_oneCell hx) _ hget⟩⟩
  · show L.base + o + ((vs.drop o).take m ++ xs).length ≤ L.size
    simp; omega
  · intro j x hj
    have hml : ((vs.drop o).take m).length = m := by simp; omega
    show ∃ v, c'[L.base + o + j]? = some v ∧ SRel ι x v
    rw [hget]
    by_cases hjm : j < m
    · rw [List.getElem?_append_left (by omega), List.getElem?_take, if_pos hjm, List.getElem?_drop] at hj
      rw [if_neg (by omega)]
      have := h4 (o + j) x hj
      rw [← Nat.add_assoc] at this
      exact this
    · rw [List.getElem?_append_right (by omega), hml] at hj
      obtain ⟨v, hv, r⟩ := forall2_get hx _ _ hj
      have hjl := (List.getElem?_eq_some_iff.1 hv).1
      rw [if_pos (by omega)]
      have e1 : L.base + o + j - (L.base + o + m + 0) = j - m := by omega
      rw [e1]
      exact ⟨v, hv, r⟩

/-- A new row behind a draw. -/
theorem grown_new {e : TypeId} {xs : List S} {cs : List Value} (hx : All2 (SRel ι) xs cs) (more : Array Value) (hm : ∀ v ∈ more.toList, oneCell v = true) :
    NewBlk ι w { w with drawn := w.drawn + 1, heap := w.heap.push (.cells (cs.toArray ++ more) e (0, 0)) } ⟨w.heap.size, 0, cs.length + more.size, e⟩ (.cells true xs) := by
  have h := newRow_blk (ι := ι) (w := w) (e := e) hx more hm _ rfl
  exact ⟨h.b_eq, h.os, h.output, h.size, h.keep, h.blk⟩

theorem take_zero_mul (xs : List S) (n e : Nat) (h : xs.length = n * e) : xs.take (n * e) = xs := List.take_of_length_le (by omega)

theorem sl_known {i o n c : Nat} {L : Loc} (hL : ι i = some L) (h : n ≤ c) : TRel ι (Z (.sl i o n (.known c))) (.slice (some ⟨L.b, L.base + o, none⟩) n c) := ⟨L, hL, rfl, h⟩
theorem sl_grown {i o n c e : Nat} {L : Loc} (hL : ι i = some L) (h : n ≤ c) (hs : L.base + o + c * e = L.size) : TRel ι (Z (.sl i o n (.grown e))) (.slice (some ⟨L.b, L.base + o, none⟩) n c) := ⟨L, c, hL, rfl, h, hs⟩

set_option maxHeartbeats 400000 in
theorem aAppend_run {t u ty el : TypeId} {e b : Nat} {z : V} {s x : T} {us ux : Value} {r : T} {τ : St} (ht : P.underlying t = some (.slice el)) (hn : szOf P el = some e) (hby : byOf P el = some b) (hz : zeroOf P el = some z)
    (hzl : z.cells.length = e) (hu : asSrcT P u = true) (hb0 : b ≠ 0) (hR : Rel ι σ.get w) (wf : σ.wf) (hf : Free ι σ.size τ.size) (hs : TRel ι s us) (hx : TRel ι x ux) (h : aAppend e b s x σ = some (r, τ)) :
    ∃ κ v w', (Builtin.append_ #[t, u] ty #[us, ux]).run P w = .ok v w' ∧ Ext ι σ w κ τ w' ∧ Rel κ τ.get w' ∧ TRel κ r v ∧ τ.wf := by
  unfold aAppend at h
  split at h
  · cases h
  rename_i n xs hsrc
  obtain ⟨hxl, hlen, hfirst⟩ := aSrc_run (P := P) hR hx hsrc
  have hR1 : Rel ι σ.get { w with drawn := w.drawn + 1 } := hR.heap rfl
  obtain ⟨_, _, hfirst1⟩ := aSrc_run (P := P) hR1 hx hsrc
  obtain ⟨cs, hc, hcr⟩ := hfirst n (Nat.le_refl _)
  obtain ⟨ds, hd, hdr⟩ := hfirst1 n (Nat.le_refl _)
  rw [take_zero_mul xs n e hxl] at hcr hdr
  have hcl := forall2_length hcr
  have hdl := forall2_length hdr
  split at h
  · cases h
  rename_i he0
  split at h
  · simp only [TRel, VRel, SRel] at hs
    subst hs
    split at h
    · rename_i h0
      subst h0
      cases h
      obtain ⟨hin, _⟩ := run_append (P := P) (w := w) (ty := ty) ht hn hby hz hu hb0 (a := none) (len := 0) (cap := 0) hlen (cs := cs) (Nat.le_refl _) (by omega)
      exact ⟨ι, .slice none 0 0, w, hin (Nat.le_refl _) hc, Ext.refl _ _ _, hR, rfl, wf⟩
    · rename_i h0
      split at h
      · rename_i hsm
        cases h
        obtain ⟨_, hgr⟩ := run_append (P := P) (w := w) (ty := ty) ht hn hby hz hu hb0 (a := none) (len := 0) (cap := 0) hlen (cs := ds) (Nat.le_refl _) (by simpa using hsm)
        obtain ⟨c, more, hcge, hmore, hone, hrun⟩ := hgr (by omega) [] hd (by simp [Builtin.firstCells, run_pure])
        have hfree : ι σ.size = none := hf σ.size (Nat.le_refl _) (by simp)
        have hN := grown_new (ι := ι) (w := w) (e := el) hdr more hone
        refine ⟨_, _, _, hrun, ext_new hN, by rw [push_updM]; exact rel_new hR hfree hN, ?_, St.wf_push wf _⟩
        simp only [Nat.zero_add] at hcge hmore ⊢
        refine sl_grown (upd_same _ _ _) hcge ?_
        show 0 + 0 + c * e = ds.length + more.size
        rw [hmore, hzl, ← hdl, hxl, ← Nat.add_mul]
        simp only [Nat.zero_add]
        congr 1; omega
      · cases h
  · rename_i i o len c
    split at h
    · rename_i hsm
      obtain ⟨L, hL, rfl, hlc⟩ := hs
      split at h
      · rename_i own vs hb
        split at h
        · rename_i hle
          obtain ⟨hin, _⟩ := run_append (P := P) (w := w) (ty := ty) ht hn hby hz hu hb0 (a := some ⟨L.b, L.base + o, none⟩) (len := len) (cap := c) hlen (cs := cs) hlc hsm
          have hrun := hin hle hc
          split at h
          · rename_i hcond
            obtain ⟨rfl, hvs⟩ := hcond
            cases h
            obtain ⟨κ, w', _, hst, hE, hRr, rfl⟩ := does_storeCells (P := P) hR wf hL hb (o := o + len * e) (xs := xs) (by omega) hcr
            simp only [add_eq] at hrun
            rw [Nat.add_assoc, hst] at hrun
            exact ⟨_, _, w', hrun, hE, hRr, sl_known hL hle, St.wf_set wf (wf.lt hb) _⟩
          · split at h
            · rename_i h0
              subst h0
              cases h
              have hcs : cs = [] := List.eq_nil_of_length_eq_zero (by omega)
              subst hcs
              simp only [storeCells, run_pure] at hrun
              exact ⟨ι, _, w, hrun, Ext.refl _ _ _, hR, sl_known hL (by omega), wf⟩
            · cases h
        · rename_i hgt
          split at h
          · rename_i hvs
            cases h
            obtain ⟨_, hgr⟩ := run_append (P := P) (w := w) (ty := ty) ht hn hby hz hu hb0 (a := some ⟨L.b, L.base + o, none⟩) (len := len) (cap := c) hlen (cs := ds) hlc hsm
            obtain ⟨old, ho, hor⟩ := run_loadCells (P := P) hR1 hL hb (o := o) (n := len * e) rfl (by simp; omega)
            obtain ⟨c', more, hcge, hmore, hone, hrun⟩ := hgr (by omega) old hd (by simpa [Builtin.firstCells] using ho)
            have hfree : ι σ.size = none := hf σ.size (Nat.le_refl _) (by simp)
            have hall := forall2_append hor hdr
            have hol := forall2_length hor
            have hN := grown_new (ι := ι) (w := w) (e := el) hall more hone
            refine ⟨_, _, _, hrun, ext_new hN, by rw [push_updM]; exact rel_new hR hfree hN, ?_, St.wf_push wf _⟩
            refine sl_grown (upd_same _ _ _) hcge ?_
            show 0 + 0 + c' * e = (old ++ ds).length + more.size
            have hll : ((vs.drop o).take (len * e)).length = len * e := by simp; omega
            rw [hmore, hzl, List.length_append, ← hdl, hxl, ← hol, hll, ← Nat.add_mul, ← Nat.add_mul]
            simp only [Nat.zero_add]
            congr 1; omega
          · cases h
      · cases h
    · cases h
  · rename_i i o len q
    split at h
    · rename_i hcond
      obtain ⟨hq, hsm⟩ := hcond
      have hq' := hq.symm
      subst hq'
      obtain ⟨L, c, hL, rfl, hlc, hsz⟩ := hs
      obtain ⟨hin, _⟩ := run_append (P := P) (w := w) (ty := ty) ht hn hby hz hu hb0 (a := some ⟨L.b, L.base + o, none⟩) (len := len) (cap := c) hlen (cs := cs) hlc hsm
      obtain ⟨_, hgr⟩ := run_append (P := P) (w := w) (ty := ty) ht hn hby hz hu hb0 (a := some ⟨L.b, L.base + o, none⟩) (len := len) (cap := c) hlen (cs := ds) hlc hsm
      split at h
      · rename_i h0
        subst h0
        cases h
        have hcs : cs = [] := List.eq_nil_of_length_eq_zero (by omega)
        subst hcs
        have hrun := hin (by omega) hc
        simp only [storeCells, run_pure] at hrun
        exact ⟨ι, _, w, hrun, Ext.refl _ _ _, hR, sl_grown hL (by omega) hsz, wf⟩
      · rename_i h0
        split at h
        · rename_i vs hb
          have hbr := hR.blk i L _ hL hb
          obtain ⟨bc, be, bfz, bh1, bh2, bh3, _⟩ := hbr
          split at h
          · rename_i hvs
            cases h
            have hle : len + n ≤ c := by
              have h1 : (len + n) * e ≤ c * e := by omega
              exact Nat.le_of_mul_le_mul_right h1 (Nat.pos_of_ne_zero he0)
            have hrun := hin hle hc
            have e1 : (len + n) * e = len * e + n * e := Nat.add_mul ..
            obtain ⟨κ, w', _, hst, hE, hRr, rfl⟩ := does_storeCells (P := P) hR wf hL hb (o := o + len * e) (xs := xs) (by omega) hcr
            simp only [add_eq] at hrun
            rw [Nat.add_assoc, hst] at hrun
            exact ⟨_, _, w', hrun, hE, hRr, sl_grown hL hle hsz, St.wf_set wf (wf.lt hb) _⟩
          · split at h
            · rename_i hvs
              cases h
              have hfree : ι σ.size = none := hf σ.size (Nat.le_refl _) (by simp)
              by_cases hle : len + n ≤ c
              · have hrun := hin hle hc
                have e1 : (len + n) * e = len * e + n * e := Nat.add_mul ..
                have e2 : (len + n) * e ≤ c * e := Nat.mul_le_mul_right e hle
                obtain ⟨ob, hst, hbk⟩ := moved_blk (P := P) hR hL hb (o := o) (m := len * e) hvs hcr (by omega)
                simp only [add_eq] at hrun
                rw [hst] at hrun
                obtain ⟨hE, hRr⟩ := rel_move hR wf hfree hL hb ob (M := ⟨L.b, L.base + o, L.size, L.ty⟩) rfl _ hbk
                refine ⟨_, _, _, hrun, hE, hRr, ?_, St.wf_push (wf_kill wf (wf.lt hb)) _⟩
                exact sl_grown (L := ⟨L.b, L.base + o, L.size, L.ty⟩) (upd_same _ _ _) hle (by simpa using hsz)
              · obtain ⟨old, ho, hor⟩ := run_loadCells (P := P) hR1 hL hb (o := o) (n := len * e) rfl (by simp; omega)
                obtain ⟨c', more, hcge, hmore, hone, hrun⟩ := hgr (by omega) old hd (by simpa [Builtin.firstCells] using ho)
                have hall := forall2_append hor hdr
                have hol := forall2_length hor
                have hN := grown_new (ι := ι) (w := w) (e := el) hall more hone
                obtain ⟨hE, hRk⟩ := ext_kill hR hL hb
                refine ⟨_, _, _, hrun, hE.trans (ext_new hN), by rw [push_updM]; exact rel_new hRk hfree hN, ?_, St.wf_push (wf_kill wf (wf.lt hb)) _⟩
                refine sl_grown (upd_same _ _ _) hcge ?_
                show 0 + 0 + c' * e = (old ++ ds).length + more.size
                have hll : ((vs.drop o).take (len * e)).length = len * e := by simp; omega
                rw [hmore, hzl, List.length_append, ← hdl, hxl, ← hol, hll, ← Nat.add_mul, ← Nat.add_mul]
                simp only [Nat.zero_add]
                congr 1; omega
            · cases h
        · cases h
    · cases h
  · rename_i i q
    split at h
    · rename_i hcond
      obtain ⟨hq, hsm⟩ := hcond
      have hq' := hq.symm
      subst hq'
      obtain ⟨L, A, c, hL, rfl, hsz⟩ := hs
      obtain ⟨hin, _⟩ := run_append (P := P) (w := w) (ty := ty) ht hn hby hz hu hb0 (a := some A) (len := 0) (cap := c) hlen (cs := cs) (Nat.zero_le _) (by simpa using hsm)
      obtain ⟨_, hgr⟩ := run_append (P := P) (w := w) (ty := ty) ht hn hby hz hu hb0 (a := some A) (len := 0) (cap := c) hlen (cs := ds) (Nat.zero_le _) (by simpa using hsm)
      split at h
      · rename_i h0
        subst h0
        cases h
        have hcs : cs = [] := List.eq_nil_of_length_eq_zero (by omega)
        subst hcs
        have hrun := hin (by omega) hc
        simp only [storeCells, run_pure] at hrun
        exact ⟨ι, _, w, hrun, Ext.refl _ _ _, hR, ⟨L, A, c, hL, rfl, hsz⟩, wf⟩
      · rename_i h0
        split at h
        · rename_i vs hb
          cases h
          have hfree : ι σ.size = none := hf σ.size (Nat.le_refl _) (by simp)
          by_cases hle : 0 + n ≤ c
          · have hrun := hin hle hc
            obtain ⟨o, rfl, hsz'⟩ := hsz.resolve_left (by omega)
            have e2 : n * e ≤ c * e := Nat.mul_le_mul_right e (by omega)
            obtain ⟨bc, be, bfz, bh1, bh2, bh3, bh4, bh5⟩ := hR.blk i L _ hL hb
            obtain ⟨c', hst, hs', hget⟩ := run_storeCells P L.b be bfz cs (L.base + o) 0 w bc bh1 (by omega) (fun j hj hh => by have := (bh5 rfl).1; omega) (all2_oneCell hcr)
            have hlt := (Array.getElem?_eq_some_iff.1 bh1).1
            have hbk : BlkRel ι ⟨L.b, L.base + o, L.size, L.ty⟩ { w with heap := w.heap.setIfInBounds L.b (.cells c' be bfz) } (.cells true xs) := by
              refine ⟨c', be, bfz, by simp [hlt], by show c'.size = L.size; omega, by show L.base + o + xs.length ≤ L.size; omega, ?_, fun _ => ⟨by have := (bh5 rfl).1; omega, stored_oneCell (bh5 rfl).2 (all2_oneCell hcr) _ hget⟩⟩
              intro j x hj
              show ∃ v, c'[L.base + o + j]? = some v ∧ SRel ι x v
              obtain ⟨v, hv, r⟩ := forall2_get hcr _ _ hj
              have hjl := (List.getElem?_eq_some_iff.1 hv).1
              rw [hget, if_pos (by omega)]
              have e1 : L.base + o + j - (L.base + o + 0) = j := by omega
              rw [e1]
              exact ⟨v, hv, r⟩
            simp only [Nat.zero_mul, add_eq, Nat.add_zero, Nat.zero_add] at hrun hst
            rw [hst] at hrun
            obtain ⟨hE, hRr⟩ := rel_move hR wf hfree hL hb _ (M := ⟨L.b, L.base + o, L.size, L.ty⟩) rfl _ hbk
            refine ⟨_, _, _, hrun, hE, hRr, ?_, St.wf_push (wf_kill wf (wf.lt hb)) _⟩
            exact sl_grown (L := ⟨L.b, L.base + o, L.size, L.ty⟩) (upd_same _ _ _) (by omega) (by simpa using hsz')
          · obtain ⟨c', more, hcge, hmore, hone, hrun⟩ := hgr (by omega) [] hd (by simp [Builtin.firstCells, loadCells, loadCellsFrom, run_pure])
            have hN := grown_new (ι := ι) (w := w) (e := el) hdr more hone
            obtain ⟨hE, hRk⟩ := ext_kill hR hL hb
            refine ⟨_, _, _, hrun, hE.trans (ext_new hN), by rw [push_updM]; exact rel_new hRk hfree hN, ?_, St.wf_push (wf_kill wf (wf.lt hb)) _⟩
            simp only [Nat.zero_add] at hcge hmore ⊢
            refine sl_grown (upd_same _ _ _) hcge ?_
            show 0 + 0 + c' * e = ds.length + more.size
            rw [hmore, hzl, ← hdl, hxl, ← Nat.add_mul]
            simp only [Nat.zero_add]
            congr 1; omega
        · cases h
    · cases h
  · cases h
end
end Go.Abs

/-
  copy; all writing operations.
-/
namespace Go.Abs
open Go
section
variable {P : Program} {ι : Inj} {w : World} {σ : St}

theorem aCopy_run {t u ty el : TypeId} {e : Nat} {d x : T} {ud ux : Value} {r : T} {τ : St} (ht : P.underlying t = some (.slice el)) (hn : szOf P el = some e)
    (hR : Rel ι σ.get w) (wf : σ.wf) (hd : TRel ι d ud) (hx : TRel ι x ux) (h : aCopy e d x σ = some (r, τ)) :
    ∃ v w', (Builtin.copy_ #[t, u] ty #[ud, ux]).run P w = .ok v w' ∧ Ext ι σ w ι τ w' ∧ Rel ι τ.get w' ∧ TRel ι r v ∧ τ.wf := by
  unfold aCopy at h
  split at h
  · cases h
  rename_i n xs hsrc
  obtain ⟨hxl, hlen, hfirst⟩ := aSrc_run (P := P) hR hx hsrc
  split at h
  · simp only [TRel, VRel, SRel] at hd; subst hd
    cases h
    obtain ⟨cs, hc, hcr⟩ := hfirst 0 (Nat.zero_le _)
    refine ⟨.int .i64 0, w, ?_, Ext.refl _ _ _, hR, rfl, wf⟩
    simp [Builtin.copy_, run_bind, run_und ht, hlen, run_sz hn, hc, run_pure, goInt]
  · obtain ⟨L, o, c, hL, rfl, _⟩ := hd
    cases h
    obtain ⟨cs, hc, hcr⟩ := hfirst 0 (Nat.zero_le _)
    have hcs : cs = [] := List.eq_nil_of_length_eq_zero (by have := forall2_length hcr; simp at this; omega)
    subst hcs
    refine ⟨.int .i64 0, w, ?_, Ext.refl _ _ _, hR, rfl, wf⟩
    simp [Builtin.copy_, run_bind, run_und ht, hlen, run_sz hn, hc, run_pure, goInt, storeCells]
  · rename_i i o len c
    obtain ⟨L, k, hL, rfl, _⟩ := sl_shape hd
    split at h
    · rename_i vs hb
      split at h
      · rename_i hle
        cases h
        obtain ⟨cs, hc, hcr⟩ := hfirst (Nat.min n len) (Nat.min_le_left ..)
        have hmul : Nat.min n len * e ≤ n * e := Nat.mul_le_mul_right e (Nat.min_le_left ..)
        have htl : (xs.take (Nat.min n len * e)).length = Nat.min n len * e := by simp; omega
        obtain ⟨κ, w', _, hst, hE, hRr, rfl⟩ := does_storeCells (P := P) hR wf hL hb (o := o) (by omega) hcr
        refine ⟨.int .i64 (Nat.min n len), w', ?_, hE, hRr, rfl, St.wf_set wf (wf.lt hb) _⟩
        simp only [Builtin.copy_, run_bind, run_und ht, hlen, run_sz hn, hc, run_pure, goInt, List.getElem?_toArray, List.getElem?_cons_zero, List.getElem?_cons_succ, hst]
      · cases h
    · cases h
  · cases h

theorem aClear_run {t ty el : TypeId} {e : Nat} {z : V} {x : T} {ux : Value} {r : T} {τ : St} (ht : P.underlying t = some (.slice el)) (hn : szOf P el = some e) (hz : zeroOf P el = some z) (hzl : z.cells.length = e)
    (hR : Rel ι σ.get w) (wf : σ.wf) (hx : TRel ι x ux) (h : aClear e z.cells x σ = some (r, τ)) :
    ∃ w', (Builtin.clear_ #[t] ty #[ux]).run P w = .ok undef w' ∧ Ext ι σ w ι τ w' ∧ Rel ι τ.get w' ∧ r = tt ∧ τ.wf := by
  unfold aClear at h
  split at h
  · simp only [TRel, VRel, SRel] at hx; subst hx
    cases h
    exact ⟨w, by simp [Builtin.clear_, run_bind, run_und ht, run_pure, undef], Ext.refl _ _ _, hR, rfl, wf⟩
  · obtain ⟨L, o, c, hL, rfl, _⟩ := hx
    cases h
    exact ⟨w, by simp [Builtin.clear_, run_bind, run_und ht, run_pure, undef], Ext.refl _ _ _, hR, rfl, wf⟩
  · rename_i i o len c
    obtain ⟨L, k, hL, rfl, _⟩ := sl_shape hx
    split at h
    · rename_i h0
      cases h
      subst h0
      exact ⟨w, by simp [Builtin.clear_, run_bind, run_und ht, run_pure, undef], Ext.refl _ _ _, hR, rfl, wf⟩
    · rename_i h0
      split at h
      · rename_i vs hb
        split at h
        · rename_i hle
          cases h
          obtain ⟨v, hv, rv⟩ := run_zero (P := P) (w := w) (ι := ι) hz
          have hc := VRel.cells rv
          obtain ⟨ds, hd, rd⟩ := zeros_rel hc len e hzl
          have hzs : (zeros len z.cells).length = len * e := by simp [zeros, hzl]
          obtain ⟨κ, w', _, hst, hE, hRr, rfl⟩ := does_storeCells (P := P) hR wf hL hb (o := o) (xs := zeros len z.cells) (by rw [hzs]; exact hle) rd
          refine ⟨w', ?_, hE, hRr, rfl, St.wf_set wf (wf.lt hb) _⟩
          have hlen := forall2_length hc
          have hzc : (Builtin.zeroCells v.cells len).toList = ds := by
            unfold Builtin.zeroCells
            have e1 : len * v.cells.size = len * e := by rw [show v.cells.size = e by rw [← hzl, hlen]; simp]
            rw [e1, ← Array.toArray_toList (xs := v.cells), hd]
          obtain ⟨m, rfl⟩ : ∃ m, len = m + 1 := ⟨len - 1, by omega⟩
          simp [Builtin.clear_, run_bind, run_und ht, run_pure, undef, hv, hzc, hst, Result.andThen]
        · cases h
      · cases h
  · cases h

theorem aMark_run {x : T} {ux : Value} {r : T} {τ : St} (hR : Rel ι σ.get w) (wf : σ.wf) (hx : TRel ι x ux) (h : aMark x σ = some (r, τ)) :
    ∃ a n c w', ux = .slice (some a) n c ∧ (markStringish a).run P w = .ok () w' ∧ Ext ι σ w ι τ w' ∧ Rel ι τ.get w' ∧ TRel ι r ux ∧ τ.wf := by
  unfold aMark at h
  split at h
  · rename_i i o len cap
    split at h
    · rename_i vs hb
      cases h
      obtain ⟨L, k, hL, rfl, _⟩ := sl_shape hx
      obtain ⟨c, e, fz, h1, h2, h3, h4, h5⟩ := hR.blk i L _ hL hb
      have hlt := (Array.getElem?_eq_some_iff.1 h1).1
      have hg := (Array.getElem?_eq_some_iff.1 h1).2
      have hrun : (markStringish ⟨L.b, L.base + o, none⟩).run P w = .ok () (w.freeze ⟨L.b, c.size, none⟩ 1) := by
        unfold markStringish
        rw [run_bind]
        have hs : w.shape? L.b = some (e, c.size) := by
          unfold World.shape?
          rw [h1]
        have : (shape L.b).run P w = .ok (some (e, c.size)) w := by
          rw [← hs]
          rfl
        simp only [this]
        rfl
      have hmod : w.freeze ⟨L.b, c.size, none⟩ 1 = { w with heap := w.heap.setIfInBounds L.b (.cells c e (if fz.1 == fz.2 then (c.size, c.size + 1) else (min fz.1 c.size, max fz.2 (c.size + 1)))) } := by
        unfold World.freeze
        rw [if_neg (by omega)]
        congr 1
        apply Array.ext_getElem?
        intro k
        rw [Array.getElem?_modify, Array.getElem?_setIfInBounds]
        by_cases hk : L.b = k
        · subst hk
          rw [if_pos rfl, if_pos rfl, if_pos hlt, h1]
          rfl
        · rw [if_neg hk, if_neg hk]
      generalize (if fz.1 == fz.2 then (c.size, c.size + 1) else (min fz.1 c.size, max fz.2 (c.size + 1))) = fz' at hmod
      obtain ⟨he, hr⟩ := rel_set hR wf hL hb trivial (.cells c e fz') (.cells false vs) trivial ⟨c, e, fz', by simp [hlt], h2, h3, h4, fun h => by cases h⟩
      rw [← hmod] at he hr
      exact ⟨_, _, _, _, rfl, hrun, he, hr, hx, St.wf_set wf (wf.lt hb) _⟩
    · cases h
  · cases h

theorem zeros_len {z : List S} {e : Nat} (hz : z.length = e) (m : Nat) : (zeros m z).length = m * e := by
  induction m with
  | zero => simp [zeros]
  | succ k ih => simp only [zeros, List.replicate_succ, List.flatten_cons, List.length_append] at ih ⊢; rw [ih, hz, Nat.add_mul]; omega

/-- A slice that has no room, made longer by zeros. -/
theorem grow_known {t u ty el : TypeId} {e b : Nat} {z : V} {i o k c m : Nat} {us : Value} {vs : List S} (ht : P.underlying t = some (.slice el)) (hn : szOf P el = some e) (hby : byOf P el = some b) (hz : zeroOf P el = some z)
    (hzl : z.cells.length = e) (hu : asIntT P u = true) (hb0 : b ≠ 0) (hR : Rel ι σ.get w) (wf : σ.wf) (hf : Free ι σ.size (σ.size + 1)) (hs : TRel ι (Z (.sl i o k (.known c))) us) (hb : σ.get i = some (.cells true vs))
    (h0 : 0 < m) (hc : c < k + m) (hsm : (k + m) * b ≤ 140737488355328) (he0 : e ≠ 0) (hvs : o + k * e ≤ vs.length) :
    ∃ κ v w', (Builtin.append_ #[t, u] ty #[us, .int .i64 (m : Int)]).run P w = .ok v w' ∧ Ext ι σ w κ (σ.push (.cells true ((vs.drop o).take (k * e) ++ zeros m z.cells))) w' ∧
      Rel κ (σ.push (.cells true ((vs.drop o).take (k * e) ++ zeros m z.cells))).get w' ∧ TRel κ (Z (.sl σ.size 0 (k + m) (.grown e))) v := by
  obtain ⟨L, hL, rfl, hlc⟩ := hs
  have hR1 : Rel ι σ.get w.drew := hR.heap rfl
  obtain ⟨old, ho, hor⟩ := run_loadCells (P := P) hR1 hL hb (o := o) (n := k * e) rfl (by simp; omega)
  obtain ⟨inf, zv, hi, hzv, hzrel, hisz, hiby⟩ : ∃ inf zv, P.info? el = some inf ∧ inf.zero = some zv ∧ VRel ι z zv ∧ inf.size = e ∧ inf.bytes = b := by
    unfold zeroOf at hz
    unfold szOf at hn
    unfold byOf at hby
    cases hi : P.info? el with
    | none => rw [hi] at hz; cases hz
    | some inf =>
      rw [hi] at hz hn hby
      simp only [Option.bind_some] at hz
      cases hzv : inf.zero with
      | none => rw [hzv] at hz; cases hz
      | some v =>
        rw [hzv] at hz
        exact ⟨inf, v, rfl, hzv, absV_rel hz, by simpa using hn, by simpa using hby⟩
  obtain ⟨kn, hkn⟩ : ∃ kn, P.underlying u = some (.int kn) := by
    unfold asIntT at hu
    split at hu
    · rename_i k' hu'; exact ⟨k', hu'⟩
    · cases hu
  have hmb : (k + m) ≤ (k + m) * b := Nat.le_mul_of_pos_right _ (Nat.pos_of_ne_zero hb0)
  have hmm : m * b ≤ (k + m) * b := Nat.mul_le_mul_right _ (by omega)
  have hfit := growslice_fits (bytes := b) hc hsm
  have hrun := Lib.run_append_grow_zeros (P := P) w t u ty el inf zv .i64 kn ht hkn hi hzv (some ⟨L.b, L.base + o, none⟩) k c old (by rw [hisz]; simpa [Builtin.firstCells] using ho) m h0 (by omega) hc (by omega) (by rw [hiby]; omega) (by rw [hiby]; exact hfit)
  have hzc := VRel.cells hzrel
  have hzl' := forall2_length hzc
  obtain ⟨ds, hd1, hd2⟩ := zeros_rel (cs := zv.cells.toList) (by simpa using hzc) m e hzl
  have hds : Builtin.zeroCells zv.cells m = ds.toArray := by
    unfold Builtin.zeroCells
    rw [← hd1]
    have : zv.cells.size = e := by rw [← hzl, hzl', Array.length_toList]
    rw [this, Array.toArray_toList]
  obtain ⟨G, hG⟩ : ∃ G, G = grownCap w (k + m) c el := ⟨_, rfl⟩
  have hGe : k + m ≤ G := by rw [hG]; exact grownCap_ge w _ _ _
  rw [← hG, hds] at hrun
  obtain ⟨more, hme, hms, hone⟩ : ∃ more : Array Value, more = Builtin.zeroCells zv.cells (G - (k + m)) ∧ more.size = (G - (k + m)) * z.cells.length ∧ ∀ v ∈ more.toList, oneCell v = true :=
    ⟨_, rfl, by simp [Builtin.zeroCells, hzl'], zeroCells_one (all2_oneCell (VRel.cells hzrel)) _⟩
  rw [← hme] at hrun
  have hfree : ι σ.size = none := hf σ.size (Nat.le_refl _) (by omega)
  have hall := forall2_append hor hd2
  have hN := grown_new (ι := ι) (w := w) (e := el) hall more hone
  have ea : old.toArray ++ ds.toArray = (old ++ ds).toArray := by simp
  rw [ea] at hrun
  refine ⟨_, _, _, hrun, ext_new hN, by rw [push_updM]; exact rel_new hR hfree hN, ?_⟩
  refine sl_grown (upd_same _ _ _) hGe ?_
  show 0 + 0 + G * e = (old ++ ds).length + more.size
  have hol := forall2_length hor
  have hdl := forall2_length hd2
  rw [zeros_len hzl m] at hdl
  have hll : ((vs.drop o).take (k * e)).length = k * e := by simp; omega
  rw [hms, hzl, List.length_append, ← hol, hll, ← hdl, ← Nat.add_mul, ← Nat.add_mul]
  simp only [Nat.zero_add]
  congr 1; omega

theorem aGrow_run {t u ty el : TypeId} {e b : Nat} {z : V} {s x : T} {us ux : Value} {r : T} {τ : St} (ht : P.underlying t = some (.slice el)) (hn : szOf P el = some e) (hby : byOf P el = some b) (hz : zeroOf P el = some z)
    (hzl : z.cells.length = e) (hu : asIntT P u = true) (hb0 : b ≠ 0) (hR : Rel ι σ.get w) (wf : σ.wf) (hf : Free ι σ.size τ.size) (hs : TRel ι s us) (hx : TRel ι x ux) (h : aGrow e b z.cells s x σ = some (r, τ)) :
    ∃ κ v w', (Builtin.append_ #[t, u] ty #[us, ux]).run P w = .ok v w' ∧ Ext ι σ w κ τ w' ∧ Rel κ τ.get w' ∧ TRel κ r v ∧ τ.wf := by
  unfold aGrow at h
  split at h
  · rename_i n
    split at h
    · rename_i hc
      obtain ⟨hn0, hsm, he0⟩ := hc
      cases h
      simp only [TRel, VRel, SRel] at hs hx
      subst hs hx
      obtain ⟨i, hi, hib⟩ := run_by (P := P) (w := w) hby
      have hi' : ∀ w', (typeInfo el).run P w' = .ok i w' := by
        intro w'
        obtain ⟨i', h1, _⟩ := run_by (P := P) (w := w') hby
        have : P.info? el = some i := by
          simp only [typeInfo, run_bind, program, Sem.run] at hi
          cases hx : P.info? el with
          | none => rw [hx] at hi; simp [stuck, Sem.run] at hi
          | some k => rw [hx] at hi; simp only [run_pure] at hi; cases hi; rfl
        simp [typeInfo, run_bind, run_pure, program, Sem.run, this]
      have hud : ∃ k, P.underlying u = some (.int k) := by
        unfold asIntT at hu
        split at hu
        · rename_i k hu'; exact ⟨k, hu'⟩
        · cases hu
      obtain ⟨k, hd⟩ := hud
      obtain ⟨m, hm⟩ : ∃ m : Nat, n = m := ⟨n.toNat, by omega⟩
      subst hm
      rw [Int.toNat_natCast] at hsm ⊢
      have hm0 : 0 < m := by omega
      have hmle : m ≤ 140737488355328 := Nat.le_trans (Nat.le_mul_of_pos_right m (Nat.pos_of_ne_zero hb0)) hsm
      have hw : IntKind.i64.wrap (m : Int) = (m : Int) := by
        unfold IntKind.wrap
        simp [IntKind.signed, IntKind.bits]
        omega
      have hgrow := growslice_fits (bytes := b) (show 0 < 0 + m by omega) (by simpa using hsm)
      rw [Nat.zero_add] at hgrow
      have hzr : ∀ w', ∃ zv, (zeroValue el).run P w' = .ok zv w' ∧ VRel ι z zv := fun w' => run_zero (P := P) (w := w') (ι := ι) hz
      obtain ⟨zv, hz1, hzrel⟩ := hzr { w with drawn := w.drawn + 1 }
      have hzc := VRel.cells hzrel
      have hzl' := forall2_length hzc
      obtain ⟨ds, hd1, hd2⟩ := zeros_rel (cs := zv.cells.toList) (by simpa using hzc) m e hzl
      have hds : Builtin.zeroCells zv.cells m = ds.toArray := by
        unfold Builtin.zeroCells
        rw [← hd1]
        have : zv.cells.size = e := by rw [← hzl, hzl', Array.length_toList]
        rw [this, Array.toArray_toList]
      let c := m + (w.tape w.drawn (.appendCap m 0 el)) % (2 ^ 63 - m)
      have hch : (choose (.appendCap m 0 el)).run P w = .ok c { w with drawn := w.drawn + 1 } := by
        simp only [choose, Sem.run, Question.forced, Bool.false_eq_true, if_false, Question.cut, c]
      have hmore : ∃ more : Array Value, more = Builtin.zeroCells zv.cells (c - m) ∧ more.size = (c - m) * z.cells.length ∧ ∀ v ∈ more.toList, oneCell v = true := ⟨_, rfl, by simp [Builtin.zeroCells, hzl'], zeroCells_one (all2_oneCell (VRel.cells hzrel)) _⟩
      obtain ⟨more, hme, hms, hone⟩ := hmore
      have hcm : m ≤ c := by simp only [c]; omega
      have hnot0 : ¬ ((m : Int) * i.bytes > 2 ^ 48) := by
        have : (m : Int) * (i.bytes : Int) = ((m * b : Nat) : Int) := by rw [hib]; push_cast; rfl
        rw [this]
        omega
      have hnot1 : ¬ (((0 + m : Nat) : Int) > IntKind.i64.max) := by
        show ¬ (((0 + m : Nat) : Int) > 9223372036854775807)
        omega
      have hnot2 : ¬ (Builtin.nextslicecap m 0 * i.bytes > 2 ^ 48) := by rw [hib]; omega
      have hsz := hn
      have hms0 : ¬ (m * e = 0) := Nat.mul_ne_zero (by omega) he0
      have hrun : (Builtin.append_ #[t, u] ty #[.slice none 0 0, .int .i64 m]).run P w =
          .ok (.slice (some ⟨w.heap.size, 0, none⟩) m c) { w with drawn := w.drawn + 1, heap := w.heap.push (.cells (ds.toArray ++ more) el (0, 0)) } := by
        have hl0 : ¬ ((m : Int) < 0) := by omega
        have hle : ¬ (0 + m ≤ 0) := by omega
        simp only [Builtin.append_, run_bind, run_pure, run_und ht, run_und hd, run_sz hn, List.getElem?_toArray, List.getElem?_cons_zero, List.getElem?_cons_succ, if_true, asInt, asIntOf, hw, if_neg hl0, hi', if_neg hnot0, Int.toNat_natCast, if_neg hle]
        rw [if_neg (by rintro ⟨h', _⟩; exact hnot1 h')]
        simp only [run_bind, hi', Nat.zero_add]
        rw [if_neg hnot2]
        simp only [run_bind, run_pure, hch, hi', run_askRoom, Builtin.firstCells, Bool.not_true, Bool.false_eq_true, if_false, if_neg hms0, hz1, hds, newRow, newObj, Sem.run, ← hme]
        simp
      have hfree : ι σ.size = none := hf σ.size (Nat.le_refl _) (by simp)
      have hN := grown_new (ι := ι) (w := w) (e := el) hd2 more hone
      refine ⟨_, _, _, hrun, ext_new hN, by rw [push_updM]; exact rel_new hR hfree hN, ?_, St.wf_push wf _⟩
      refine sl_grown (upd_same _ _ _) hcm ?_
      show 0 + 0 + c * e = ds.length + more.size
      have hdl := forall2_length hd2
      rw [hms, hzl, ← hdl]
      have : (zeros m z.cells).length = m * e := by
        have : ∀ k, (zeros k z.cells).length = k * e := by
          intro k
          induction k with
          | zero => simp [zeros]
          | succ k ih => simp only [zeros, List.replicate_succ, List.flatten_cons, List.length_append] at ih ⊢; rw [ih, hzl, Nat.add_mul]; omega
        exact this m
      rw [this, ← Nat.add_mul]
      simp only [Nat.zero_add]
      congr 1
      omega
    · cases h
  · rename_i i o k c n
    split at h
    · rename_i vs hb
      split at h
      · rename_i hc
        obtain ⟨h0, hkc, hc, hsm, he0, hvs⟩ := hc
        cases h
        simp only [TRel, VRel, SRel] at hx
        subst hx
        obtain ⟨m, hm⟩ : ∃ m : Nat, n = m := ⟨n.toNat, by omega⟩
        subst hm
        rw [Int.toNat_natCast] at *
        obtain ⟨κ, v, w', h1, h2, h3, h4⟩ := grow_known (P := P) (ty := ty) ht hn hby hz hzl hu hb0 hR wf (by simpa using hf) hs hb (by omega) hc hsm he0 hvs
        exact ⟨κ, v, w', h1, h2, h3, h4, St.wf_push wf _⟩
      · cases h
    · cases h
  · cases h

theorem opW_run {o : Oper} {ev : Operand → T} {ρ : Operand → Value} {t : T} {τ : St} (hR : Rel ι σ.get w) (wf : σ.wf) (hf : Free ι σ.size τ.size) (hev : ∀ x ∈ o.op.operands, TRel ι (ev x) (ρ x)) (h : opW P o.op ev σ = some (t, τ)) :
    Wrote P ι σ w ρ o t τ := by
  obtain ⟨dst, op, ty, pos, after, guard⟩ := o
  simp only at hev h
  have two : ∀ {α : Type} {l : Array α} {x y : α}, l.toList = [x, y] → l = #[x, y] := by
    intro α l x y e; rw [← Array.toArray_toList (xs := l), e]
  have one : ∀ {α : Type} {l : Array α} {x : α}, l.toList = [x] → l = #[x] := by
    intro α l x e; rw [← Array.toArray_toList (xs := l), e]
  cases op with
  | store tt' a x =>
    simp only [opW] at h
    split at h
    · rename_i n hn
      obtain ⟨w', h1, h2, h3, rfl, h5⟩ := aStore_run (P := P) (t := tt') hn hR wf (hev a (by simp [Op.operands])) (hev x (by simp [Op.operands])) h
      exact ⟨ι, w', .skip, undef, by simp only [execOp, run_bind, h1, run_pure], .inr ⟨rfl, rfl⟩, h2, h3, tt_undef, h5⟩
    · cases h
  | convert s d x =>
    simp only [opW] at h
    split at h
    · rename_i e' e hs hd
      split at h
      · rename_i hsd he
        obtain ⟨a, n, c, w', hx, h1, h2, h3, h4, h5⟩ := aMark_run (P := P) hR wf (hev x (by simp [Op.operands])) h
        refine ⟨ι, w', .value (ρ x), ρ x, ?_, .inl rfl, h2, h3, h4, h5⟩
        simp only [execOp, run_bind, Go.convert, run_und hs, run_und hd, hx, hsd, run_und he, h1, run_pure]
      · cases h
    · cases h
  | mapUpdate tm m k x =>
    simp only [opW] at h
    split at h
    · rename_i kt et hu
      split at h
      · rename_i kk hkk
        split at h
        · rename_i hik
          obtain ⟨w', h1, h2, h3, rfl, h5⟩ := aMapSet_run (P := P) hu hkk hik hR wf (hev m (by simp [Op.operands])) (hev k (by simp [Op.operands])) (hev x (by simp [Op.operands])) h
          exact ⟨ι, w', .skip, undef, by simp only [execOp, run_bind, h1, run_pure], .inr ⟨rfl, rfl⟩, h2, h3, tt_undef, h5⟩
        · cases h
      · cases h
    · cases h
  | insert tm m k x =>
    simp only [opW] at h
    split at h
    · rename_i kt et hu
      split at h
      · rename_i kk hkk
        split at h
        · rename_i hik
          obtain ⟨w', h1, h2, h3, rfl, h5⟩ := aMapSet_run (P := P) hu hkk hik hR wf (hev m (by simp [Op.operands])) (hev k (by simp [Op.operands])) (hev x (by simp [Op.operands])) h
          exact ⟨ι, w', .skip, undef, by simp only [execOp, run_bind, h1, run_pure], .inr ⟨rfl, rfl⟩, h2, h3, tt_undef, h5⟩
        · cases h
      · cases h
    · cases h
  | call c =>
    obtain ⟨callee, args, argTypes⟩ := c
    cases callee with
    | value f => simp [opW] at h
    | invoke r n => simp [opW] at h
    | builtin b =>
      have ha : ∀ x ∈ args, TRel ι (ev x) (ρ x) := fun x hx => hev x (by simp [Op.operands, Call.operands, hx])
      cases b <;> first | (simp [opW] at h; done) | skip
      · simp only [opW] at h
        split at h
        · rename_i s x t' u' hx' ht'
          have ea := two hx'; have et := two ht'; subst ea et
          split at h
          · rename_i el hu
            split at h
            · rename_i n b z hn hb hz
              split at h
              · rename_i hc
                obtain ⟨κ, v, w', h1, h2, h3, h4, h5⟩ := aAppend_run (P := P) (ty := ty) hu hn hb hz hc.2.2 hc.1 hc.2.1 hR wf hf (ha s (by simp)) (ha x (by simp)) h
                refine ⟨κ, w', .value v, v, ?_, .inl rfl, h2, h3, h4, h5⟩
                simp [execOp, resolve, invoke, Go.builtin, run_bind, run_pure, h1]
              · split at h
                · rename_i hc
                  obtain ⟨κ, v, w', h1, h2, h3, h4, h5⟩ := aGrow_run (P := P) (ty := ty) hu hn hb hz hc.2.2 hc.1 hc.2.1 hR wf hf (ha s (by simp)) (ha x (by simp)) h
                  refine ⟨κ, w', .value v, v, ?_, .inl rfl, h2, h3, h4, h5⟩
                  simp [execOp, resolve, invoke, Go.builtin, run_bind, run_pure, h1]
                · cases h
            · cases h
          · cases h
        · cases h
      · simp only [opW] at h
        split at h
        · rename_i x t' hx' ht'
          have ea := one hx'; have et := one ht'; subst ea et
          split at h
          · rename_i el hu
            split at h
            · rename_i n z hn hz
              split at h
              · rename_i hzl
                obtain ⟨w', h1, h2, h3, rfl, h5⟩ := aClear_run (P := P) (ty := ty) hu hn hz hzl hR wf (ha x (by simp)) h
                refine ⟨ι, w', .value undef, undef, ?_, .inl rfl, h2, h3, tt_undef, h5⟩
                simp [execOp, resolve, invoke, Go.builtin, run_bind, run_pure, h1]
              · cases h
            · cases h
          · cases h
        · cases h
      · simp only [opW] at h
        split at h
        · rename_i d x t' u' hx' ht'
          have ea := two hx'; have et := two ht'; subst ea et
          split at h
          · rename_i el hu
            split at h
            · rename_i n hn
              obtain ⟨v, w', h1, h2, h3, h4, h5⟩ := aCopy_run (P := P) (u := u') (ty := ty) hu hn hR wf (ha d (by simp)) (ha x (by simp)) h
              refine ⟨ι, w', .value v, v, ?_, .inl rfl, h2, h3, h4, h5⟩
              simp [execOp, resolve, invoke, Go.builtin, run_bind, run_pure, h1]
            · cases h
          · cases h
        · cases h
      · simp only [opW] at h
        split at h
        · rename_i m k t' u' hx' ht'
          have ea := two hx'; have et := two ht'; subst ea et
          split at h
          · rename_i kt et hu
            split at h
            · rename_i kk hkk
              split at h
              · rename_i hik
                obtain ⟨w', h1, h2, h3, rfl, h5⟩ := aDelete_run (P := P) (t' := u') (ty := ty) hu hkk hik hR wf (ha m (by simp)) (ha k (by simp)) h
                refine ⟨ι, w', .value undef, undef, ?_, .inl rfl, h2, h3, tt_undef, h5⟩
                simp [execOp, resolve, invoke, Go.builtin, run_bind, run_pure, h1]
              · cases h
            · cases h
          · cases h
        · cases h
  | _ => simp [opW] at h
end
end Go.Abs

/-
  What a piece of code comes to, in frames that are none of a variable's early making: as the kit's 'wp', and over operations that speak to a channel.
-/
namespace Go.Abs
open Go Go.Conc

def WpN (P : Program) (c : Code) (Q : Exit → Act → World → Prop) (a : Act) (w : World) : Prop :=
  ∀ (b : Frame) (k : List Item) (cs : List Frame), b.kind ≠ .early → ∃ e a' w', Q e a' w' ∧ Arrives P (lone (b.at a (.code c :: k)) cs w) b k cs e a' w'

/-- The same of what is left of a region's operations. -/
def OpsN (P : Program) (ops : Array Oper) (Q : Exit → Act → World → Prop) (l : List Nat) (a : Act) (w : World) : Prop :=
  ∀ (b : Frame) (k : List Item) (cs : List Frame), b.kind ≠ .early → ∃ e a' w', Q e a' w' ∧ Arrives P (lone (b.at a (.inRegion ops l :: k)) cs w) b k cs e a' w'

section
variable {P : Program} {Q : Exit → Act → World → Prop} {a : Act} {w : World}

theorem WpN.of {c : Code} (h : c.wp P Q a w) : WpN P c Q a w := fun b k cs _ => h b k cs
theorem OpsN.of {ops : Array Oper} {l : List Nat} (h : wpOps P ops Q l a w) : OpsN P ops Q l a w := fun b k cs _ => wp_ops l a w h b k cs

theorem wn_skip (h : Q .normal a w) : WpN P .skip Q a w := .of (wp_skip h)
theorem wn_label {l : Nat} (h : Q .normal a w) : WpN P (.label l) Q a w := .of (wp_label h)
theorem wn_exit {id : Nat} (h : Q (.exit id) a w) : WpN P (.exit id) Q a w := .of (wp_exit h)
theorem wn_ret (h : Q .ret a w) : WpN P .ret Q a w := .of (wp_ret h)

theorem wn_seq {x y : Code} (h : WpN P x (Exit.then (WpN P y Q) Q) a w) : WpN P (.seq x y) Q a w := by
  intro b k cs hb
  obtain ⟨e, a1, w1, hq, har⟩ := h b (.code y :: k) cs hb
  have go : ∀ e, e ≠ .normal → Arrives P (lone (b.at a (.code x :: .code y :: k)) cs w) b (.code y :: k) cs e a1 w1 → Arrives P (lone (b.at a (.code (.seq x y) :: k)) cs w) b k cs e a1 w1 :=
    fun e he h => .of_steps (.one step_seq) (.pass (x := .code y) rfl (fun _ _ => .inl he) h)
  cases e with
  | normal => obtain ⟨e2, a2, w2, q2, r2⟩ := hq b k cs hb; exact ⟨e2, a2, w2, q2, .of_steps (.head step_seq har) r2⟩
  | _ => exact ⟨_, a1, w1, hq, go _ (by simp) har⟩

theorem wn_cond {c : Operand} {x y : Code} (t : Bool) (hc : a.eval c = .bool t) (h : WpN P (if t then x else y) Q a w) : WpN P (.cond c x y) Q a w :=
  fun b k cs hb => let ⟨e, a', w', q, r⟩ := h b k cs hb; ⟨e, a', w', q, .of_steps (.one (step_cond hc)) r⟩

theorem wn_block {id : Nat} {c : Code} (h : WpN P c (Exit.inBlock id Q) a w) : WpN P (.block id c) Q a w := by
  intro b k cs hb
  obtain ⟨e, a1, w1, hq, har⟩ := h b (.inBlock id :: k) cs hb
  cases e with
  | normal => exact ⟨.normal, a1, w1, hq, .head step_block (Steps.trans har (.one step_inBlock))⟩
  | exit i =>
    by_cases hi : i = id
    · simp only [Exit.inBlock, if_pos hi] at hq
      exact ⟨.normal, a1, w1, hq, .head step_block (har k (by simp [exitTo, hi]))⟩
    · simp only [Exit.inBlock, if_neg hi] at hq
      have hne : (id == i) = false := by simpa using fun x => hi x.symm
      exact ⟨.exit i, a1, w1, hq, fun k' hk => .head step_block (har k' (by simp [exitTo, hne, hk]))⟩
  | goto l => exact ⟨_, a1, w1, hq, fun k' hk => .head step_block (har k' (by simp [gotoIn, hk]))⟩
  | _ => exact ⟨_, a1, w1, hq, .of_steps (.one step_block) har⟩

theorem wn_scope {c : Code} (h : WpN P c (Exit.noGoto Q) a w) : WpN P (.scope c) Q a w := by
  intro b k cs hb
  obtain ⟨e, a1, w1, hq, har⟩ := h b (.inScope c :: k) cs hb
  cases e with
  | normal => exact ⟨.normal, a1, w1, hq, .head step_scope (Steps.trans har (.one step_inScope))⟩
  | exit i => exact ⟨.exit i, a1, w1, hq, fun k' hk => .head step_scope (har k' (by simp [exitTo, hk]))⟩
  | goto l => exact hq.elim
  | _ => exact ⟨_, a1, w1, hq, .of_steps (.one step_scope) har⟩

/-- At most so many rounds. -/
def RoundsN (P : Program) (c : Code) (Q : Exit → Act → World → Prop) : Nat → Act → World → Prop
  | 0, _, _ => False
  | n + 1, a, w => WpN P c (Exit.then (RoundsN P c Q n) Q) a w

theorem wn_loop {c : Code} (n : Nat) (h : RoundsN P c Q n a w) : WpN P (.loop c) Q a w := by
  intro b k cs hb
  have key : ∀ n a w, RoundsN P c Q n a w → ∃ e a' w', Q e a' w' ∧ Arrives P (lone (b.at a (.code c :: .inLoop c :: k)) cs w) b k cs e a' w' := by
    intro n
    induction n with
    | zero => intro a w h; exact h.elim
    | succ n ih =>
      intro a w h
      obtain ⟨e, a1, w1, hq, har⟩ := h b (.inLoop c :: k) cs hb
      cases e with
      | normal => obtain ⟨e2, a2, w2, q2, r2⟩ := ih a1 w1 hq; exact ⟨e2, a2, w2, q2, .of_steps (Steps.trans har (.one step_inLoop)) r2⟩
      | _ => exact ⟨_, a1, w1, hq, .pass (x := .inLoop c) rfl (fun _ _ => .inl (by simp)) har⟩
  obtain ⟨e, a', w', hq, har⟩ := key n a w h
  exact ⟨e, a', w', hq, .of_steps (.one step_loop) har⟩

theorem wn_region {id : Nat} {ops : Array Oper} (h : OpsN P ops Q (List.range ops.size) a w) : WpN P (.region id ops false) Q a w :=
  fun b k cs hb => let ⟨e, a', w', q, r⟩ := h b k cs hb; ⟨e, a', w', q, .of_steps (.one step_region) r⟩

theorem calls_of_wn {f : FuncId} {fn : Func} {c : Code} {args : Array Value} {R : Ending → World → Prop} (hf : P.funcs[f]? = some fn) (hb : fn.body = some c)
    (h : WpN P c (bodyPost P fn R) { tmps := args ++ Array.replicate (fn.ntmps - args.size) undef, defers := [] } w) : Calls P f args w R := by
  intro cs
  obtain ⟨b, rfl⟩ : ∃ b : Frame, b = { (default : Frame) with fn := f, kind := .normal } := ⟨_, rfl⟩
  have he : Frame.enter P f args .normal = Frame.at { (default : Frame) with fn := f, kind := .normal } { tmps := args ++ Array.replicate (fn.ntmps - args.size) undef, defers := [] } [.code c] := by
    simp [Frame.enter, Frame.at, hf, hb]
  obtain ⟨e, a', w', hq, har⟩ := h { (default : Frame) with fn := f, kind := .normal } [] cs (by simp)
  rw [← he] at har
  cases e with
  | normal =>
    obtain ⟨hd, v, hr, hR⟩ := hq
    exact ⟨.returned v, w', _, hR, Steps.trans har (.one step_end), rfl, rfl, hd, rfl, fn, hf, hr⟩
  | ret =>
    obtain ⟨hd, v, hr, hR⟩ := hq
    obtain ⟨todo, hs⟩ := har
    exact ⟨.returned v, w', _, hR, hs, rfl, rfl, hd, rfl, fn, hf, hr⟩
  | panic ch =>
    obtain ⟨hd, hR⟩ := hq
    obtain ⟨todo, hs⟩ := har
    exact ⟨.panicked ch, w', _, hR, hs, rfl, rfl, hd, fn, hf⟩
  | exit id => exact hq.elim
  | goto l => exact hq.elim
  | outgrown => exact ⟨.outgrown, w', { (default : Frame) with fn := f, kind := .normal }, hq, har.resolve_left (by simp), rfl, trivial⟩

/-! ### one operation of a region -/
theorem on_nil {ops : Array Oper} (h : Q .normal a w) : OpsN P ops Q [] a w := fun _ _ _ _ => ⟨.normal, a, w, h, .one step_region_end⟩

theorem on_skip {ops : Array Oper} {i : Nat} {l : List Nat} {o : Oper} (ho : ops[i]? = some o) (hw : Region.wanted o (yielded ops a.tmps) = false) (h : OpsN P ops Q l (a.put o.dst undef) w) : OpsN P ops Q (i :: l) a w := by
  intro b k cs hb
  obtain ⟨e, a', w', hq, har⟩ := h b k cs hb
  have hs := step_op_skip (P := P) (b := b) (a := a) (k := k) (cs := cs) (w := w) (ops := ops) (i := i) (rest := l) (by simp [ho, hw])
  simp only [ho, Option.bind_some] at hs
  exact ⟨e, a', w', hq, .of_steps (.one hs) har⟩

/-- An operation that speaks to nobody. -/
theorem on_op {ops : Array Oper} {i : Nat} {l : List Nat} {o : Oper} (ho : ops[i]? = some o) (hw : Region.wanted o (yielded ops a.tmps) = true) (h : o.wp P a w (OpsN P ops Q l) Q) : OpsN P ops Q (i :: l) a w := by
  intro b k cs hb
  have hg := stepG_op (P := P) (b := b) (k := k) (cs := cs) (w := w) (rest := l) ho hw
  have hfin : ∀ v, (b.at a (.inRegion ops (i :: l) :: k)).finish v = b.at (a.put o.dst v) (.inRegion ops l :: k) := by
    intro v; rw [Frame.finish_at, ho]; rfl
  simp only [Oper.wp, Oper.upon] at h
  split at h
  · rename_i v w' hr
    obtain ⟨e, a', w2, q, har⟩ := h b k cs hb
    refine ⟨e, a', w2, q, .of_steps (.one (step_lone_go ?_)) har⟩
    rw [hg, ← hfin]; simp [stepG.apply, hr]
  · rename_i w' hr
    obtain ⟨e, a', w2, q, har⟩ := h b k cs hb
    refine ⟨e, a', w2, q, .of_steps (.one (step_lone_go ?_)) har⟩
    rw [hg, ← hfin]; simp [stepG.apply, hr]
  · rename_i d w' hr
    obtain ⟨e, a', w2, q, har⟩ := h b k cs hb
    refine ⟨e, a', w2, q, .of_steps (.one (step_lone_go ?_)) har⟩
    have : ({ b.at a (.inRegion ops (i :: l) :: k) with defers := d :: a.defers } : Frame).finish undef = b.at ({ a with defers := d :: a.defers }.put o.dst undef) (.inRegion ops l :: k) := by
      have := Frame.finish_at b { a with defers := d :: a.defers } ops i l k undef
      rw [ho] at this; exact this
    rw [hg]
    simp only [stepG.apply, Sem.runT_eq, hr, GStep.bare_after]
    exact congrArg (fun fr => GStep.go { frame := fr, callers := cs, status := .running, dying := none } w') this
  · rename_i f args w' hr
    obtain ⟨e, w2, fr, hR, hsteps, _, hleave⟩ := h (b.at a (.inRegion ops (i :: l) :: k) :: cs)
    have henter : step P (lone (b.at a (.inRegion ops (i :: l) :: k)) cs w) = .next (lone (Frame.enter P f args .normal) (b.at a (.inRegion ops (i :: l) :: k) :: cs) w') :=
      step_lone_go (by rw [hg]; simp [stepG.apply, hr, Frame.at])
    cases e with
    | returned v =>
      obtain ⟨e, a', w3, q, har⟩ := hR b k cs hb
      refine ⟨e, a', w3, q, .of_steps (.head henter (hsteps.trans (.one ?_))) har⟩
      rw [← hfin]; exact step_leave_returned hleave
    | panicked chain =>
      refine ⟨.panic chain, a, w2, hR, .inRegion ops (i :: l) :: k, .head henter (hsteps.trans (.one ?_))⟩
      rw [← Frame.raise_at]; exact step_leave_panicked hleave
    | outgrown =>
      obtain ⟨a0, w0, q⟩ := hR
      exact ⟨.outgrown, a0, w0, q, .inr (Outgrown.of_steps (.one henter) hsteps)⟩
  · rename_i row args w' hr
    obtain ⟨v, w2, hR, hsteps⟩ := h (b.at a (.inRegion ops (i :: l) :: k)) cs
    have henter : step P (lone (b.at a (.inRegion ops (i :: l) :: k)) cs w) = .next (lone (Frame.ofRow P row args .normal) (b.at a (.inRegion ops (i :: l) :: k) :: cs) w') :=
      step_lone_go (by rw [hg]; simp [stepG.apply, hr, Frame.at])
    obtain ⟨e, a', w3, q, har⟩ := hR b k cs hb
    refine ⟨e, a', w3, q, .of_steps (.head henter ?_) har⟩
    rw [← hfin]; exact hsteps
  · rename_i v w' hr
    refine ⟨_, a, w', h, .inRegion ops (i :: l) :: k, .one (step_lone_go ?_)⟩
    rw [hg, ← Frame.raise_at]; simp [stepG.apply, hr]
  · exact h.elim

/-! ### an operation that speaks to a channel -/
variable {ops : Array Oper} {i : Nat} {l : List Nat} {o : Oper} {c cap s r : Nat} {buf : Array Value} {z z' v : Value} {blocking : Bool}

theorem on_comm {cases : Array CommCase} {sh : CommShape} {u : Value} {w1 : World} (ho : ops[i]? = some o) (hw : Region.wanted o (yielded ops a.tmps) = true) (hr : (execOp a.eval o).run P w = .ok (.comm cases blocking sh) w)
    (hs : ∀ (fr : Frame) (cs : List Frame) (es : Array Event), stepG P true (G fr cs) w = .comm (G fr cs) cases blocking sh w es → Go.step P (solo (G fr cs) w) = .next (solo (G (fr.finish u) cs) w1))
    (h : OpsN P ops Q l (a.put o.dst u) w1) : OpsN P ops Q (i :: l) a w := by
  intro b k cs hb
  obtain ⟨e, a', w2, q, har⟩ := h b k cs hb
  refine ⟨e, a', w2, q, .of_steps (.one ?_) har⟩
  have hfin : (b.at a (.inRegion ops (i :: l) :: k)).finish u = b.at (a.put o.dst u) (.inRegion ops l :: k) := by
    rw [Frame.finish_at, ho]; rfl
  rw [lone_eq_solo, hs _ cs _ (stepG_comm (main := true) ho hw hb hr), hfin, ← lone_eq_solo]

end
end Go.Abs

/-
  One operation of a region; a region in the text's order.
-/
noncomputable section
namespace Go.Abs
open Go

abbrev CallF := FuncId → List T → St → Option (T × St)

def callable (P : Program) (f : FuncId) : Bool :=
  match P.funcs[f]? with
  | some fn => fn.body.isSome && fn.name != "runtime.NumGoroutine"
  | none => false

def capT (p : Nat × Nat) : T := Z (.ptr p.1 p.2)

/-- What an entry of the model's own table is found by. -/
def lookX (fn : Func) (n : String) : Option (Array Value → Sem Value) :=
  (Extern.allGenericRows.lookup n).map (· fn.targs fn.params fn.resultTypes) <|> (Extern.allTypedRows.lookup n).map (· fn.params fn.resultTypes) <|> Extern.allRows.lookup n

/-- A function without a body that is slices.overlaps. -/
def overT (P : Program) (f : FuncId) : Bool :=
  match P.funcs[f]? with
  | some fn => !(fn.name == "runtime.NumGoroutine") && fn.body.isNone && (Extern.findNext fn).isNone && (lookX fn fn.name).isNone && decide (fn.origin = "slices.overlaps") && (match fn.params[0]? with
    | some t => match P.underlying t with
      | some (.slice e) => (szOf P e).isSome
      | _ => false
    | none => false)
  | none => false

/-- Do two slices of two blocks share memory? -/
def aOver (P : Program) (f : FuncId) (ts : List T) (g : Mem) : Option T :=
  match ts with
  | [.v (.s (.sl i _ _ _)), .v (.s (.sl j _ _ _))] => match g i, g j with
    | some (.cells true _), some (.cells true _) => match Nat.beq i j with
      | true => none
      | false => match overT P f with
        | true => some (Z (.bool false))
        | false => none
    | _, _ => none
  | _ => none

def xOver (P : Program) (f : FuncId) (ts : List T) (σ : St) : Option (T × St) := match aOver P f ts σ.get with
  | some t => some (t, σ)
  | none => none

/-- A call of a function value. -/
def aCall (callf : CallF) (f : T) (args : List T) (σ : St) : Option (T × St) :=
  match f with
  | .v (.s (.clo g caps)) => callf g (args ++ caps.map capT) σ
  | _ => none

def opWC (P : Program) (callf : CallF) (op : Op) (ev : Operand → T) (σ : St) : Option (T × St) :=
  match op with
  | .call { callee := .value f, args, .. } => match ev f with
    | .v (.s (.clo g caps)) => if callable P g then callf g (args.toList.map ev ++ caps.map capT) σ else xOver P g (args.toList.map ev ++ caps.map capT) σ
    | _ => none
  | op => opW P op ev σ

structure CallSound (P : Program) (callf : CallF) : Prop where
  wf : ∀ f ts σ t τ, callf f ts σ = some (t, τ) → σ.wf → τ.wf ∧ σ.size ≤ τ.size
  calls : ∀ f ts σ t τ, callf f ts σ = some (t, τ) → σ.wf → ∀ ι w vs, Rel ι σ.get w → Free ι σ.size τ.size → All2 (TRel ι) ts vs →
    Calls P f vs.toArray w fun e u => ∃ κ v, e = .returned v ∧ Ext ι σ w κ τ u ∧ Rel κ τ.get u ∧ TRel κ t v

inductive K where
  | P | L | A | W | C
  deriving DecidableEq

def kindOf (P : Program) (op : Op) : K :=
  match op with
  | .load _ _ => .L
  | .lookup _ _ _ _ => .L
  | .convert s d _ => match P.underlying s, P.underlying d with
    | some (.slice _), some .string => .L
    | some .string, some (.slice _) => .A
    | some (.slice _), some (.slice _) => .W
    | _, _ => .P
  | .alloc _ => .A
  | .box _ _ => .A
  | .buildSlice _ _ _ => .A
  | .makeMap _ _ => .A
  | .makeChan _ _ => .A
  | .send _ _ => .C
  | .select _ _ => .C
  | .makeSlice _ _ _ => .A
  | .store _ _ _ => .W
  | .mapUpdate _ _ _ _ => .W
  | .insert _ _ _ _ => .W
  | .call { callee := .builtin .len, argTypes, .. } => match argTypes.toList with
    | [t] => match P.underlying t with
      | some (.map _ _) => .L
      | _ => .P
    | _ => .P
  | .call { callee := .builtin .cap, .. } => .P
  | .call { callee := .builtin .min, .. } => .P
  | .call { callee := .builtin .max, .. } => .P
  | .call _ => .W
  | _ => .P

def putE (env : List T) (dst : Option Tmp) (t : T) : List T :=
  match dst with
  | some d => env.set d t
  | none => env

def wantedA (ops : List Oper) (env : List T) (o : Oper) : Option Bool :=
  match o.guard with
  | none => some true
  | some (j, want) => match ops[j]? with
    | none => some false
    | some oj => match oj.dst with
      | none => some false
      | some d => match env.getD d .any with
        | .any => none
        | .v (.s .any) => none
        | .v (.s (.bool b)) => some (b == want)
        | _ => some false

def step (P : Program) (callf : CallF) (ops : List Oper) (o : Oper) (s : List T × St) : Option (List T × St) :=
  match wantedA ops s.1 o with
  | none => none
  | some false => some (putE s.1 o.dst tt, s.2)
  | some true => match kindOf P o.op with
    | .P => match opP P o.op (evO s.1) with
      | some t => some (putE s.1 o.dst t, s.2)
      | none => none
    | .L => match opL P o.op (evO s.1) s.2.get with
      | some t => some (putE s.1 o.dst t, s.2)
      | none => none
    | .A => match opA P o.op (evO s.1) with
      | some (b, f) => some (putE s.1 o.dst (f s.2.size), s.2.push b)
      | none => none
    | .W => match opWC P callf o.op (evO s.1) s.2 with
      | some (t, τ) => some (putE s.1 o.dst t, τ)
      | none => none
    | .C => none

/-- A send into a buffer with room. -/
def aSend (ch x : T) (σ : St) : Option (T × St) := match ch, x with
  | .v (.s (.chan i)), .v (.s y) => match σ.get i with
    | some (.chan cap vs) => match Nat.blt vs.length cap with
      | true => some (tt, σ.set i (.chan cap (vs ++ [y])))
      | false => none
    | _ => none
  | _, _ => none

/-- A select of one send with a default. -/
def aSelS (ch x : T) (σ : St) : Option (T × St) := match ch, x with
  | .v (.s (.chan i)), .v (.s y) => match σ.get i with
    | some (.chan cap vs) => match Nat.blt vs.length cap with
      | true => some (.tup [.s (.int .i64 0), .s (.bool false)], σ.set i (.chan cap (vs ++ [y])))
      | false => some (.tup [.s (.int .i64 (-1)), .s (.bool false)], σ)
    | _ => none
  | _, _ => none

/-- A select of one receive with a default. -/
def aSelR (z : S) (ch : T) (σ : St) : Option (T × St) := match ch with
  | .v (.s (.chan i)) => match σ.get i with
    | some (.chan cap vs) => match vs with
      | [] => some (.tup [.s (.int .i64 (-1)), .s (.bool false), .s z], σ)
      | y :: r => some (.tup [.s (.int .i64 0), .s (.bool true), .s y], σ.set i (.chan cap r))
    | _ => none
  | _ => none

/-- What an operation on a channel gives, of those that never wait. -/
def aComm (P : Program) (op : Op) (ev : Operand → T) (σ : St) : Option (T × St) := match op with
  | .send ch x => aSend (ev ch) (ev x) σ
  | .select cases false => match cases.toList with
    | [c] => match zeroOf P c.elem with
      | some (.s z) => match c.send with
        | some x => aSelS (ev c.chan) (ev x) σ
        | none => aSelR z (ev c.chan) σ
      | _ => none
    | _ => none
  | _ => none

def isC (P : Program) (o : Oper) : Bool := match kindOf P o.op with
  | .C => true
  | _ => false

/-- One operation of a region in the text's order. -/
def stepS (P : Program) (callf : CallF) (ops : List Oper) (o : Oper) (s : List T × St) : Option (List T × St) := match isC P o with
  | true => match wantedA ops s.1 o with
    | none => none
    | some false => some (putE s.1 o.dst tt, s.2)
    | some true => match aComm P o.op (evO s.1) s.2 with
      | some (t, τ) => some (putE s.1 o.dst t, τ)
      | none => none
  | false => step P callf ops o s

def runOps (P : Program) (callf : CallF) (ops : List Oper) : List Oper → List T × St → Option (List T × St)
  | [], s => some s
  | o :: r, s => match stepS P callf ops o s with
    | some s' => runOps P callf ops r s'
    | none => none

section
variable {P : Program} {callf : CallF} {ι : Inj} {w : World} {σ : St}

theorem opW_wf {op : Op} {ev : Operand → T} {t : T} {τ : St} (wf : σ.wf) (h : opW P op ev σ = some (t, τ)) : τ.wf ∧ σ.size ≤ τ.size := by
  have hset : ∀ {i : Nat} {b b' : Blk}, σ.get i = some b → (σ.set i b').wf ∧ σ.size ≤ (σ.set i b').size := fun hb => ⟨St.wf_set wf (wf.lt hb) _, Nat.le_refl _⟩
  have hpush : ∀ b : Blk, (σ.push b).wf ∧ σ.size ≤ (σ.push b).size := fun b => ⟨St.wf_push wf b, by simp⟩
  have hsp : ∀ {i : Nat} {b b' c : Blk}, σ.get i = some b → ((σ.set i b').push c).wf ∧ σ.size ≤ ((σ.set i b').push c).size := fun hb => ⟨St.wf_push (St.wf_set wf (wf.lt hb) _) _, by simp⟩
  have hid : σ.wf ∧ σ.size ≤ σ.size := ⟨wf, Nat.le_refl _⟩
  have h1 : ∀ n a x, aStore n a x σ = some (t, τ) → τ.wf ∧ σ.size ≤ τ.size := by
    intro n a x h
    unfold aStore at h
    (repeat' split at h) <;> first | (cases h; done) | (cases h; exact hset ‹_›)
  have h2 : ∀ m k x, aMapSet m k x σ = some (t, τ) → τ.wf ∧ σ.size ≤ τ.size := by
    intro n a x h
    unfold aMapSet at h
    (repeat' split at h) <;> first | (cases h; done) | (cases h; exact hset ‹_›)
  have h3 : ∀ m k, aDelete m k σ = some (t, τ) → τ.wf ∧ σ.size ≤ τ.size := by
    intro n a h
    unfold aDelete at h
    (repeat' split at h) <;> first | (cases h; done) | (cases h; first | exact hid | exact hset ‹_›)
  have h4 : ∀ e b s x, aAppend e b s x σ = some (t, τ) → τ.wf ∧ σ.size ≤ τ.size := by
    intro e b s x h
    unfold aAppend at h
    (repeat' split at h) <;> first | (cases h; done) | (cases h; first | exact hid | exact hpush _ | exact hset ‹_› | exact hsp ‹_›)
  have h7 : ∀ e b z s x, aGrow e b z s x σ = some (t, τ) → τ.wf ∧ σ.size ≤ τ.size := by
    intro e b z s x h
    unfold aGrow at h
    (repeat' split at h) <;> first | (cases h; done) | (cases h; exact hpush _)
  have h5 : ∀ e d x, aCopy e d x σ = some (t, τ) → τ.wf ∧ σ.size ≤ τ.size := by
    intro e d x h
    unfold aCopy at h
    (repeat' split at h) <;> first | (cases h; done) | (cases h; first | exact hid | exact hset ‹_›)
  have h8 : ∀ e z x, aClear e z x σ = some (t, τ) → τ.wf ∧ σ.size ≤ τ.size := by
    intro e z x h
    unfold aClear at h
    (repeat' split at h) <;> first | (cases h; done) | (cases h; first | exact hid | exact hset ‹_›)
  have h6 : ∀ x, aMark x σ = some (t, τ) → τ.wf ∧ σ.size ≤ τ.size := by
    intro x h
    unfold aMark at h
    (repeat' split at h) <;> first | (cases h; done) | (cases h; exact hset ‹_›)
  unfold opW at h
  (repeat' split at h) <;> first | (cases h; done) | exact h1 _ _ _ h | exact h2 _ _ _ h | exact h3 _ _ h | exact h4 _ _ _ _ h | exact h5 _ _ _ h | exact h6 _ h | exact h8 _ _ _ h | exact h7 _ _ _ _ _ h

theorem opWC_wf (hs : CallSound P callf) {op : Op} {ev : Operand → T} {t : T} {τ : St} (wf : σ.wf) (h : opWC P callf op ev σ = some (t, τ)) : τ.wf ∧ σ.size ≤ τ.size := by
  unfold opWC at h
  split at h
  · split at h
    · split at h
      · exact hs.wf _ _ _ _ _ h wf
      · unfold xOver at h
        split at h
        · cases h; exact ⟨wf, Nat.le_refl _⟩
        · cases h
    · cases h
  · exact opW_wf wf h

/-- What is left of an operation's run is a value for its temporary. -/
theorem wp_value {o : Oper} {a : Act} {nx : Next} {v : Value} {u : World} {K' : Act → World → Prop} {Q : Exit → Act → World → Prop} (h : (execOp a.eval o).run P w = .ok nx u) (hn : nx = .value v ∨ nx = .skip ∧ v = undef)
    (hK : K' (a.put o.dst v) u) : o.wp P a w K' Q := by
  unfold Oper.wp
  rw [h]
  rcases hn with rfl | ⟨rfl, rfl⟩
  · exact hK
  · exact hK

theorem callFunc_run {f : FuncId} {args : Array Value} (h : callable P f = true) : (callFunc f args).run P w = .ok (.enter f args) w := by
  unfold callable at h
  cases hf : P.funcs[f]? with
  | none => rw [hf] at h; cases h
  | some fn =>
    rw [hf] at h
    simp only [Bool.and_eq_true, bne_iff_ne, ne_eq] at h
    have hb : fn.body.isNone = false := by
      cases hb : fn.body with
      | none => rw [hb] at h; simp at h
      | some c => rfl
    simp only [callFunc, run_bind, program, Sem.run, hf]
    rw [if_neg (by simpa using h.2), if_neg (by simp [hb])]
    rfl

theorem aOver_run {f : FuncId} {ts : List T} {t : T} {vs : List Value} (hR : Rel ι σ.get w) (hts : All2 (TRel ι) ts vs) (h : aOver P f ts σ.get = some t) :
    ∃ v, (callFunc f vs.toArray).run P w = .ok (.value v) w ∧ TRel ι t v := by
  unfold aOver at h
  split at h
  · rename_i i o n c j p m q
    split at h
    · rename_i xs ys hi hj
      split at h
      · cases h
      · rename_i hij
        split at h
        · rename_i ho
          cases h
          cases hts with
          | cons h1 hts =>
            cases hts with
            | cons h2 hts =>
              cases hts
              obtain ⟨L, k1, hL, rfl, _⟩ := sl_shape h1
              obtain ⟨M, k2, hM, rfl, _⟩ := sl_shape h2
              obtain ⟨ca, ea, fa, a1, a2, a3, a4, a5⟩ := hR.blk i L _ hL hi
              obtain ⟨cb, eb, fb, b1, b2, b3, b4, b5⟩ := hR.blk j M _ hM hj
              have ha : fa.1 = fa.2 := by have := (a5 rfl).1; omega
              have hb : fb.1 = fb.2 := by have := (b5 rfl).1; omega
              have hne : L.b ≠ M.b := hR.sep i j L M hL hM (by rw [hi]; trivial) (by rw [hj]; trivial) (fun e => by subst e; simp at hij)
              unfold overT at ho
              split at ho
              · rename_i fn hfn
                simp only [Bool.and_eq_true, Bool.not_eq_true', decide_eq_true_eq] at ho
                obtain ⟨⟨⟨⟨⟨o1, o2⟩, o3⟩, o4⟩, o5⟩, o6⟩ := ho
                have hfind : Extern.find fn = some (Extern.SlicesOverlaps.overlaps fn.params fn.resultTypes) := by
                  have e1 : Extern.find fn = (lookX fn fn.name <|> lookX fn fn.origin) := rfl
                  have e2 : lookX fn fn.name = none := Option.isNone_iff_eq_none.1 o4
                  have e3 : lookX fn "slices.overlaps" = some (Extern.SlicesOverlaps.overlaps fn.params fn.resultTypes) := by
                    unfold lookX
                    have g1 : Extern.allGenericRows.lookup "slices.overlaps" = none := by kernel_rfl
                    have g2 : Extern.allTypedRows.lookup "slices.overlaps" = some Extern.SlicesOverlaps.overlaps := by kernel_rfl
                    rw [g1, g2]
                    rfl
                  rw [e1, e2, o5, e3]
                  rfl
                rw [run_callFunc_extern hfn o1 o2 (Option.isNone_iff_eq_none.1 o3) hfind]
                split at o6
                · rename_i t0 ht0
                  split at o6
                  · rename_i e he
                    obtain ⟨z, hz⟩ := Option.isSome_iff_exists.1 o6
                    have hnf : ∀ (b off : Nat), b = L.b ∨ b = M.b → w.frozen? ⟨b, off, none⟩ = false := by
                      intro b off hb'
                      rcases hb' with rfl | rfl
                      · simp only [World.frozen?, a1]
                        obtain ⟨x, y⟩ := fa
                        simp only at ha
                        subst ha
                        simp
                      · simp only [World.frozen?, b1]
                        obtain ⟨x, y⟩ := fb
                        simp only at hb
                        subst hb
                        simp
                    have hsa : w.shape? L.b = some (ea, ca.size) := by unfold World.shape?; rw [a1]
                    have hsb : w.shape? M.b = some (eb, cb.size) := by unfold World.shape?; rw [b1]
                    have hrun : (Extern.SlicesOverlaps.overlaps fn.params fn.resultTypes #[.slice (some ⟨L.b, L.base + o, none⟩) n k1, .slice (some ⟨M.b, M.base + p, none⟩) m k2]).run P w = .ok (.bool false) w := by
                      have hz' := fun w => run_sz (P := P) (w := w) hz
                      have nb : (L.b != M.b) = true := by simpa using hne
                      have nb' : (L.b == M.b) = false := by simpa using hne
                      change Sem.run P (α := Value) (do
                        let some t := fn.params[0]? | stuck "slices.overlaps: no parameter types"
                        let .slice elem ← underlying t | stuck "slices.overlaps: slice type expected"
                        let size ← sizeOf elem
                        match (some (⟨L.b, L.base + o, none⟩ : Addr) : Option Addr), (some (⟨M.b, M.base + p, none⟩ : Addr) : Option Addr) with
                        | some a, some b =>
                          if n = 0 ∨ m = 0 ∨ size = 0 then pure (Value.bool false)
                          else if a.block != b.block && (← frozen a) && (← frozen b) then unsupported .addressObserved
                          else do
                            if a.block != b.block then do
                              noView a; noView b
                              if ← mayBeOne a b then return Value.bool ((← choose _) == 1)
                            pure (Value.bool (a.block == b.block && a.off < b.off + m * size && b.off < a.off + n * size))
                        | _, _ => pure (Value.bool false)) w = _
                      by_cases h0 : n = 0 ∨ m = 0 ∨ z = 0
                      · simp [ht0, run_underlying he, hz', h0]
                      · simp [ht0, run_underlying he, hz', h0, nb, nb', frozen, noView, viewAt, mayBeOne, stringish, shape, Sem.run, hsa, hsb, hnf]
                    rw [show ([Value.slice (some ⟨L.b, L.base + o, none⟩) n k1, .slice (some ⟨M.b, M.base + p, none⟩) m k2] : List Value).toArray = #[.slice (some ⟨L.b, L.base + o, none⟩) n k1, .slice (some ⟨M.b, M.base + p, none⟩) m k2] from rfl, hrun]
                    exact ⟨_, rfl, rfl⟩
                  · cases o6
                · cases o6
              · cases ho
        · cases h
    · cases h
  · cases h

theorem opWC_wp (hs : CallSound P callf) {o : Oper} {a : Act} {ev : Operand → T} {t : T} {τ : St} {K' : Act → World → Prop} {Q : Exit → Act → World → Prop} (hR : Rel ι σ.get w) (wf : σ.wf) (hf : Free ι σ.size τ.size)
    (hev : ∀ x ∈ o.op.operands, TRel ι (ev x) (a.eval x)) (h : opWC P callf o.op ev σ = some (t, τ))
    (hK : ∀ κ u v, Ext ι σ w κ τ u → Rel κ τ.get u → TRel κ t v → K' (a.put o.dst v) u) : o.wp P a w K' Q := by
  unfold opWC at h
  split at h
  · rename_i f args at_ ho
    split at h
    · rename_i g caps hg
      split at h
      · rename_i hc
        have hfr := hev f (by rw [ho]; simp [Op.operands, Call.operands])
        rw [hg] at hfr
        obtain ⟨cs, hfe, hcs⟩ := hfr
        have hargs : All2 (TRel ι) (args.toList.map ev) (args.toList.map a.eval) := all2_map fun x hx => hev x (by rw [ho]; simp [Op.operands, Call.operands]; exact .inr (by simpa using hx))
        have hcaps : All2 (TRel ι) (caps.map capT) cs := by
          clear hfe hg h
          induction hcs with
          | nil => exact .nil
          | cons r _ ih => exact .cons r ih
        have hall := forall2_append hargs hcaps
        have hcall := hs.calls _ _ _ _ _ h wf ι w _ hR hf hall
        have hrun : (execOp a.eval o).run P w = .ok (.enter g (args.toList.map a.eval ++ cs).toArray) w := by
          have e1 : ((args.map a.eval) ++ cs.toArray : Array Value) = (args.toList.map a.eval ++ cs).toArray := by
            apply Array.toList_inj.1; simp
          simp only [execOp, ho, resolve, run_bind, hfe, Deferred.ofValue, run_pure, invoke]
          rw [Array.empty_append, e1]
          exact callFunc_run hc
        unfold Oper.wp
        rw [hrun]
        refine Calls.mono hcall ?_
        rintro e u ⟨κ, v, rfl, hE, hRr, hT⟩
        exact hK κ u v hE hRr hT
      · have hfr := hev f (by rw [ho]; simp [Op.operands, Call.operands])
        rw [hg] at hfr
        obtain ⟨cs, hfe, hcs⟩ := hfr
        have hargs : All2 (TRel ι) (args.toList.map ev) (args.toList.map a.eval) := all2_map fun x hx => hev x (by rw [ho]; simp [Op.operands, Call.operands]; exact .inr (by simpa using hx))
        have hcaps : All2 (TRel ι) (caps.map capT) cs := by
          clear hfe hg h
          induction hcs with
          | nil => exact .nil
          | cons r _ ih => exact .cons r ih
        have hall := forall2_append hargs hcaps
        unfold xOver at h
        split at h
        · rename_i t' ht'
          cases h
          obtain ⟨v, h1, h2⟩ := aOver_run (w := w) hR hall ht'
          have hrun : (execOp a.eval o).run P w = .ok (.value v) w := by
            have e1 : ((args.map a.eval) ++ cs.toArray : Array Value) = (args.toList.map a.eval ++ cs).toArray := by
              apply Array.toList_inj.1; simp
            simp only [execOp, ho, resolve, run_bind, hfe, Deferred.ofValue, run_pure, invoke]
            rw [Array.empty_append, e1]
            exact h1
          exact wp_value hrun (.inl rfl) (hK ι w v (Ext.refl _ _ _) hR h2)
        · cases h
    · cases h
  · obtain ⟨κ, u, nx, v, h1, h2, h3, h4, h5, _⟩ := opW_run hR wf hf hev h
    exact wp_value h1 h2 (hK κ u v h3 h4 h5)

theorem opA_wp {o : Oper} {a : Act} {ev : Operand → T} {b : Blk} {f : Nat → T} {K' : Act → World → Prop} {Q : Exit → Act → World → Prop}
    (hev : ∀ x ∈ o.op.operands, TRel ι (ev x) (a.eval x)) (h : opA P o.op ev = some (b, f))
    (hK : ∀ L u v, NewBlk ι w u L b → (∀ n, TRel (upd ι n L) (f n) v) → K' (a.put o.dst v) u) : o.wp P a w K' Q := by
  obtain ⟨L, v, u, h1, h2, h3⟩ := opA_run hev h w
  exact wp_value h1 (.inl rfl) (hK L u v h2 h3)

theorem opP_wp {o : Oper} {a : Act} {ev : Operand → T} {t : T} {K' : Act → World → Prop} {Q : Exit → Act → World → Prop}
    (hev : ∀ x ∈ o.op.operands, TRel ι (ev x) (a.eval x)) (h : opP P o.op ev = some t) (hK : ∀ v, TRel ι t v → K' (a.put o.dst v) w) : o.wp P a w K' Q := by
  obtain ⟨v, h1, h2⟩ := opP_run (w := w) hev h
  exact wp_value h1 (.inl rfl) (hK v h2)

theorem opL_wp {g : Mem} {o : Oper} {a : Act} {ev : Operand → T} {t : T} {K' : Act → World → Prop} {Q : Exit → Act → World → Prop} (hR : Rel ι g w)
    (hev : ∀ x ∈ o.op.operands, TRel ι (ev x) (a.eval x)) (h : opL P o.op ev g = some t) (hK : ∀ v, TRel ι t v → K' (a.put o.dst v) w) : o.wp P a w K' Q := by
  obtain ⟨v, h1, h2⟩ := opL_run hR hev h
  exact wp_value h1 (.inl rfl) (hK v h2)

/-- The temporaries in a state. -/
structure EnvR (ι : Inj) (env : List T) (tmps : Array Value) : Prop where
  len : env.length ≤ tmps.size
  rel : ∀ t, TRel ι (env.getD t .any) (tmps.getD t undef)

theorem EnvR.mono {κ : Inj} (h : ι.le κ) {env : List T} {tmps : Array Value} (k : EnvR ι env tmps) : EnvR κ env tmps := ⟨k.len, fun t => (k.rel t).mono h⟩

theorem getD_set (env : List T) (d t : Nat) (x : T) : (env.set d x).getD t .any = if d = t ∧ d < env.length then x else env.getD t .any := by
  rw [List.getD_eq_getElem?_getD, List.getD_eq_getElem?_getD]
  by_cases e : d = t
  · subst e
    by_cases hl : d < env.length
    · rw [List.getElem?_set_self hl, if_pos ⟨rfl, hl⟩]; rfl
    · rw [if_neg (by omega), List.set_eq_of_length_le (by omega)]
  · rw [List.getElem?_set_ne e, if_neg (by omega)]

theorem getD_setA (tmps : Array Value) (d t : Nat) (v : Value) : (tmps.setIfInBounds d v).getD t undef = if d = t ∧ d < tmps.size then v else tmps.getD t undef := by
  rw [Array.getD_eq_getD_getElem?, Array.getD_eq_getD_getElem?]
  by_cases e : d = t
  · subst e
    by_cases hl : d < tmps.size
    · rw [Array.getElem?_setIfInBounds_self_of_lt hl, if_pos ⟨rfl, hl⟩]; rfl
    · rw [if_neg (by omega)]
      have : tmps.setIfInBounds d v = tmps := by
        apply Array.ext_getElem?
        intro j
        by_cases ej : d = j
        · subst ej
          rw [Array.getElem?_eq_none (by simp; omega), Array.getElem?_eq_none (by omega)]
        · rw [Array.getElem?_setIfInBounds_ne ej]
      rw [this]
  · rw [Array.getElem?_setIfInBounds_ne e, if_neg (by omega)]

theorem EnvR.put {env : List T} {a : Act} {t : T} {v : Value} (h : EnvR ι env a.tmps) (dst : Option Tmp) (ht : TRel ι t v) : EnvR ι (putE env dst t) (a.put dst v).tmps := by
  cases dst with
  | none => exact h
  | some d =>
    refine ⟨?_, ?_⟩
    · simp only [putE, Act.put, List.length_set, Array.size_setIfInBounds]; exact h.len
    · intro k
      simp only [putE, Act.put]
      rw [getD_set, getD_setA]
      by_cases e : d = k
      · subst e
        by_cases hl : d < env.length
        · rw [if_pos ⟨rfl, hl⟩, if_pos ⟨rfl, Nat.lt_of_lt_of_le hl h.len⟩]; exact ht
        · rw [if_neg (fun h => hl h.2)]
          have : env.getD d .any = .any := by rw [List.getD_eq_getElem?_getD, List.getElem?_eq_none (Nat.le_of_not_lt hl)]; rfl
          rw [this]; trivial
      · rw [if_neg (fun h => e h.1), if_neg (fun h => e h.1)]; exact h.rel k

theorem wanted_of {ops : Array Oper} {env : List T} {tmps : Array Value} {o : Oper} {b : Bool} (h : wantedA ops.toList env o = some b)
    (hg : ∀ j want oj d, o.guard = some (j, want) → ops[j]? = some oj → oj.dst = some d → TRel ι (env.getD d .any) (tmps.getD d undef)) : Region.wanted o (yielded ops tmps) = b := by
  unfold wantedA at h
  unfold Region.wanted
  split at h
  · rename_i hgd; rw [hgd]; cases h; rfl
  · rename_i j want hgd
    rw [hgd]
    simp only
    split at h
    · rename_i hj
      cases h
      rw [Array.getElem?_toList] at hj
      simp [yielded, hj]
    · rename_i oj hj
      rw [Array.getElem?_toList] at hj
      split at h
      · rename_i hd
        cases h
        simp [yielded, hj, hd]
      · rename_i d hd
        have hr := hg j want oj d hgd hj hd
        have key : ∀ x : Value, (∀ q, x ≠ .bool q) → tmps.getD d undef = x → yielded ops tmps j = none := by
          intro x hx he
          simp only [yielded, hj, Option.bind_some, hd]
          rw [Array.getD_eq_getD_getElem?] at he
          cases ht : tmps[d]? with
          | none => rfl
          | some y =>
            rw [ht] at he
            simp only [Option.getD_some] at he
            subst he
            cases y <;> first | rfl | exact (hx _ rfl).elim
        split at h
        · cases h
        · cases h
        · rename_i q he
          cases h
          rw [he] at hr
          simp only [TRel, VRel, SRel] at hr
          have : yielded ops tmps j = some q := by
            simp only [yielded, hj, Option.bind_some, hd]
            rw [Array.getD_eq_getD_getElem?] at hr
            cases ht : tmps[d]? with
            | none => rw [ht] at hr; cases hr
            | some y => rw [ht] at hr; simp only [Option.getD_some] at hr; subst hr; rfl
          rw [this]
          cases q <;> cases want <;> rfl
        · rename_i h1 h0 h2
          cases h
          generalize hxe : env.getD d .any = x at hr h0 h1 h2
          have hnb : ∀ q, tmps.getD d undef ≠ .bool q := by
            intro q hq
            rw [hq] at hr
            cases x with
            | any => exact h1 rfl
            | tup l => obtain ⟨vs, e, _⟩ := hr; cases e
            | v y => cases y with
              | agg l => obtain ⟨vs, e, _⟩ := hr; cases e
              | s z =>
                cases z with
                | bool b => exact h2 b rfl
                | int k n => cases hr
                | str l => obtain ⟨_, e, _⟩ := hr; cases e
                | ptr i o => obtain ⟨_, _, e⟩ := hr; cases e
                | nilp => cases hr
                | sl i o n c => obtain ⟨_, _, _, e, _⟩ := sl_shape hr; cases e
                | emp i e => obtain ⟨_, _, _, _, e, _⟩ := hr; cases e
                | nils => cases hr
                | map i => obtain ⟨_, _, e⟩ := hr; cases e
                | nilm => cases hr
                | clo f c => obtain ⟨_, e, _⟩ := hr; cases e
                | nilf => cases hr
                | nili => cases hr
                | tptr t i n => obtain ⟨_, _, _, _, _, e⟩ := hr; cases e
                | buf q i n => obtain ⟨_, _, _, _, _, _, _, _, e⟩ := hr; cases e
                | chan i => obtain ⟨_, _, e⟩ := hr; cases e
                | nilc => cases hr
                | arr _ _ => exact hr
                | any => exact h0 rfl
          rw [key _ hnb rfl]
          cases want <;> rfl

theorem aComm_wf {op : Op} {ev : Operand → T} {t : T} {τ : St} (wf : σ.wf) (h : aComm P op ev σ = some (t, τ)) : τ.wf ∧ σ.size ≤ τ.size := by
  have hset : ∀ {i : Nat} {b b' : Blk}, σ.get i = some b → (σ.set i b').wf ∧ σ.size ≤ (σ.set i b').size := fun hb => ⟨St.wf_set wf (wf.lt hb) _, Nat.le_refl _⟩
  have hid : σ.wf ∧ σ.size ≤ σ.size := ⟨wf, Nat.le_refl _⟩
  have h1 : ∀ c x, aSend c x σ = some (t, τ) → τ.wf ∧ σ.size ≤ τ.size := by
    intro c x h
    unfold aSend at h
    (repeat' split at h) <;> first | (cases h; done) | (cases h; exact hset ‹_›)
  have h2 : ∀ c x, aSelS c x σ = some (t, τ) → τ.wf ∧ σ.size ≤ τ.size := by
    intro c x h
    unfold aSelS at h
    (repeat' split at h) <;> first | (cases h; done) | (cases h; first | exact hid | exact hset ‹_›)
  have h3 : ∀ z c, aSelR z c σ = some (t, τ) → τ.wf ∧ σ.size ≤ τ.size := by
    intro z c h
    unfold aSelR at h
    (repeat' split at h) <;> first | (cases h; done) | (cases h; first | exact hid | exact hset ‹_›)
  unfold aComm at h
  (repeat' split at h) <;> first | (cases h; done) | exact h1 _ _ h | exact h2 _ _ h | exact h3 _ _ h

open Conc in
/-- An operation on a channel, in the world. -/
theorem aComm_run {o : Oper} {ρ : Operand → Value} {ev : Operand → T} {t : T} {τ : St} (hR : Rel ι σ.get w) (wf : σ.wf) (hev : ∀ x ∈ o.op.operands, TRel ι (ev x) (ρ x)) (h : aComm P o.op ev σ = some (t, τ)) :
    ∃ (cases : Array CommCase) (blocking : Bool) (sh : CommShape) (u : Value) (w1 : World), (execOp ρ o).run P w = .ok (.comm cases blocking sh) w ∧
      (∀ (fr : Frame) (cs : List Frame) (es : Array Event), stepG P true (G fr cs) w = .comm (G fr cs) cases blocking sh w es → Go.step P (solo (G fr cs) w) = .next (solo (G (fr.finish u) cs) w1)) ∧
      Ext ι σ w ι τ w1 ∧ Rel ι τ.get w1 ∧ TRel ι t u := by
  obtain ⟨dst, op, ty, pos, after, guard⟩ := o
  simp only at hev h
  have put : ∀ {i cap : Nat} {vs vs' : List S} {L : Loc} {buf buf' : Array Value} {s r s' r' : Nat}, ι i = some L → σ.get i = some (.chan cap vs) → w.heap[L.b]? = some (.chan cap buf false s r false) →
      All2 (SRel ι) vs' buf'.toList → Ext ι σ w ι (σ.set i (.chan cap vs')) (w.setChan L.b cap buf' false s' r' false) ∧ Rel ι (σ.set i (.chan cap vs')).get (w.setChan L.b cap buf' false s' r' false) := by
    intro i cap vs vs' L buf buf' s r s' r' hL hb hh hv
    have hlt := (Array.getElem?_eq_some_iff.1 hh).1
    exact rel_set hR wf hL hb trivial (.chan cap buf' false s' r' false) (.chan cap vs') trivial ⟨buf', s', r', by simp [hlt], hv⟩
  have len : ∀ {vs : List S} {buf : Array Value}, All2 (SRel ι) vs buf.toList → vs.length = buf.size := fun h => by have := forall2_length h; simpa using this
  have push : ∀ {vs : List S} {buf : Array Value} {y : S} {v : Value}, All2 (SRel ι) vs buf.toList → SRel ι y v → All2 (SRel ι) (vs ++ [y]) (buf.push v).toList := fun h k => by
    rw [Array.toList_push]; exact forall2_append h (.cons k .nil)
  unfold aComm at h
  split at h
  · rename_i ch x
    have hc := hev ch (by simp [Op.operands])
    have hx := hev x (by simp [Op.operands])
    unfold aSend at h
    split at h
    · rename_i i y e1 e2
      rw [e1] at hc; rw [e2] at hx
      obtain ⟨L, hL, hcv⟩ := hc
      split at h
      · rename_i cap vs hb
        obtain ⟨buf, s, r, hh, hv⟩ := hR.blk i L _ hL hb
        split at h
        · rename_i hroom
          cases h
          have hroom' : buf.size < cap := by rw [← len hv]; simpa [Nat.blt_eq] using hroom
          obtain ⟨hE, hRr⟩ := put (buf' := buf.push (ρ x)) (s' := s + 1) (r' := r) hL hb hh (push hv hx)
          refine ⟨#[scase L.b (ρ x) (.tuple #[])], true, .send, undef, _, ?_, fun fr cs es hg => step_lone_send_room hg hh hroom', hE, hRr, tt_undef⟩
          simp [execOp, hcv, run_pure, scase]
        · cases h
      · cases h
    · cases h
  · rename_i cases
    split at h
    · rename_i c hcs
      have ecs : cases = #[c] := by rw [← Array.toArray_toList (xs := cases), hcs]
      subst ecs
      split at h
      · rename_i z hz
        obtain ⟨zv, hzr, hzrel⟩ := run_zero (P := P) (w := w) (ι := ι) hz
        obtain ⟨chan, send, elem⟩ := c
        simp only at h hz hzr
        have hc := hev chan (by simp [Op.operands])
        split at h
        · rename_i x
          have hx := hev x (by simp [Op.operands])
          unfold aSelS at h
          split at h
          · rename_i i y e1 e2
            rw [e1] at hc; rw [e2] at hx
            obtain ⟨L, hL, hcv⟩ := hc
            have hexec : (execOp ρ ⟨dst, .select #[⟨chan, some x, elem⟩] false, ty, pos, after, guard⟩).run P w = .ok (.comm #[scase L.b (ρ x) zv] false .select) w := by
              simp [execOp, hcv, run_pure, run_bind, hzr, scase]
            split at h
            · rename_i cap vs hb
              obtain ⟨buf, s, r, hh, hv⟩ := hR.blk i L _ hL hb
              split at h
              · rename_i hroom
                cases h
                have hroom' : buf.size < cap := by rw [← len hv]; simpa [Nat.blt_eq] using hroom
                obtain ⟨hE, hRr⟩ := put (buf' := buf.push (ρ x)) (s' := s + 1) (r' := r) hL hb hh (push hv hx)
                refine ⟨_, _, _, _, _, hexec, fun fr cs es hg => step_lone_sel_send_room (k := 0) hg rfl (fun m c' hm hc' => ?_) hh hroom', hE, hRr, ?_⟩
                · rcases m with _ | m
                  · exact absurd rfl hm
                  · simp at hc'
                · exact ⟨[.int .i64 0, .bool false], by simp [commResult, scase, goInt], .cons rfl (.cons rfl .nil)⟩
              · rename_i hroom
                cases h
                have hfull : cap ≤ buf.size := by
                  rw [← len hv]
                  have : ¬ vs.length < cap := fun h => by
                    have h2 : Nat.blt vs.length cap = true := by rw [Nat.blt_eq]; exact h
                    rw [h2] at hroom; cases hroom
                  omega
                refine ⟨_, _, _, _, w, hexec, fun fr cs es hg => step_lone_sel_default hg (fun cc hcc => ?_), Ext.refl _ _ _, hR, ?_⟩
                · simp only [List.mem_toArray, List.mem_singleton] at hcc
                  subst hcc
                  exact noWay_send hh hfull
                · exact ⟨[.int .i64 (-1), .bool false], by simp [commResult, scase, goInt], .cons rfl (.cons rfl .nil)⟩
            · cases h
          · cases h
        · unfold aSelR at h
          split at h
          · rename_i i e1
            rw [e1] at hc
            obtain ⟨L, hL, hcv⟩ := hc
            have hexec : (execOp ρ ⟨dst, .select #[⟨chan, none, elem⟩] false, ty, pos, after, guard⟩).run P w = .ok (.comm #[rcase L.b zv] false .select) w := by
              simp [execOp, hcv, run_pure, run_bind, hzr, rcase]
            split at h
            · rename_i cap vs hb
              obtain ⟨buf, s, r, hh, hv⟩ := hR.blk i L _ hL hb
              split at h
              · cases h
                have hemp : buf = #[] := by
                  have := len hv
                  simpa using this.symm
                subst hemp
                refine ⟨_, _, _, _, w, hexec, fun fr cs es hg => step_lone_sel_default hg (fun cc hcc => ?_), Ext.refl _ _ _, hR, ?_⟩
                · simp only [List.mem_toArray, List.mem_singleton] at hcc
                  subst hcc
                  exact noWay_recv hh
                · exact ⟨[.int .i64 (-1), .bool false, zv], by simp [commResult, rcase, goInt], .cons rfl (.cons rfl (.cons hzrel .nil))⟩
              · rename_i y rest
                cases h
                have hsz := len hv
                have hsome : 0 < buf.size := by rw [← hsz]; simp
                obtain ⟨bl, hbl⟩ : ∃ bl, buf.toList = bl := ⟨_, rfl⟩
                rw [hbl] at hv
                cases hv with
                | @cons _ b _ m hy hrest =>
                  have hget : buf.getD 0 undef = b := by
                    have : buf[0]? = some b := by rw [← Array.getElem?_toList, hbl]; rfl
                    rw [Array.getD_eq_getD_getElem?, this]; rfl
                  have hext : (buf.extract 1 buf.size).toList = m := by
                    rw [Array.toList_extract, hbl]
                    have : m.length + 1 = buf.size := by
                      have := congrArg List.length hbl
                      simpa using this.symm
                    simp [List.extract, ← this]
                  obtain ⟨hE, hRr⟩ := put (vs' := rest) (buf' := buf.extract 1 buf.size) (s' := s) (r' := r + 1) hL hb hh (by rw [hext]; exact hrest)
                  refine ⟨_, _, _, _, _, hexec, fun fr cs es hg => step_lone_sel_recv_buf (k := 0) hg rfl (fun m c' hm hc' => ?_) hh hsome, hE, hRr, ?_⟩
                  · rcases m with _ | m
                    · exact absurd rfl hm
                    · simp at hc'
                  · rw [hget]
                    exact ⟨[.int .i64 0, .bool true, b], by simp [commResult, rcase, goInt], .cons rfl (.cons rfl (.cons hy .nil))⟩
            · cases h
          · cases h
      · cases h
    · cases h
  · cases h
end
end Go.Abs

/-
  A region in the text's order.
-/
namespace Go.Abs
open Go
section
variable {P : Program} {callf : CallF}

theorem step_wf (hs : CallSound P callf) {ops : List Oper} {o : Oper} {s s' : List T × St} (h : step P callf ops o s = some s') (wf : s.2.wf) : s'.2.wf ∧ s.2.size ≤ s'.2.size := by
  unfold step at h
  split at h
  · cases h
  · cases h; exact ⟨wf, Nat.le_refl _⟩
  · split at h
    · split at h
      · cases h; exact ⟨wf, Nat.le_refl _⟩
      · cases h
    · split at h
      · cases h; exact ⟨wf, Nat.le_refl _⟩
      · cases h
    · split at h
      · cases h; exact ⟨St.wf_push wf _, by simp⟩
      · cases h
    · split at h
      · rename_i t τ hw; cases h; exact opWC_wf hs wf hw
      · cases h
    · cases h

/-- In the text's order operations on channels are served, too. -/
theorem step_stepS {ops : List Oper} {o : Oper} {s s' : List T × St} (h : step P callf ops o s = some s') : stepS P callf ops o s = some s' := by
  unfold stepS
  split
  · rename_i hc
    have hk : kindOf P o.op = .C := by
      unfold isC at hc
      split at hc
      · assumption
      · cases hc
    unfold step at h
    split at h
    · cases h
    · exact h
    · rw [hk] at h; cases h
  · exact h

theorem stepS_wf (hs : CallSound P callf) {ops : List Oper} {o : Oper} {s s' : List T × St} (h : stepS P callf ops o s = some s') (wf : s.2.wf) : s'.2.wf ∧ s.2.size ≤ s'.2.size := by
  unfold stepS at h
  split at h
  · split at h
    · cases h
    · cases h; exact ⟨wf, Nat.le_refl _⟩
    · split at h
      · rename_i t τ hw; cases h; exact aComm_wf wf hw
      · cases h
  · exact step_wf hs h wf

theorem runOps_wf (hs : CallSound P callf) {ops : List Oper} : ∀ {l : List Oper} {s s' : List T × St}, runOps P callf ops l s = some s' → s.2.wf → s'.2.wf ∧ s.2.size ≤ s'.2.size := by
  intro l
  induction l with
  | nil => intro s s' h wf; cases h; exact ⟨wf, Nat.le_refl _⟩
  | cons o l ih =>
    intro s s' h wf
    simp only [runOps] at h
    split at h
    · rename_i s1 h1
      obtain ⟨w1, z1⟩ := stepS_wf hs h1 wf
      obtain ⟨w2, z2⟩ := ih h w1
      exact ⟨w2, Nat.le_trans z1 z2⟩
    · cases h

theorem put_defers (a : Act) (d : Option Tmp) (v : Value) : (a.put d v).defers = a.defers := by cases d <;> rfl

theorem step_wp (hs : CallSound P callf) {ops : Array Oper} {i : Nat} {o : Oper} {env env' : List T} {σ τ : St} {ι : Inj} {a : Act} {w : World} {K' : Act → World → Prop} {Q : Exit → Act → World → Prop}
    (hi : ops[i]? = some o) (h : step P callf ops.toList o (env, σ) = some (env', τ)) (hE : EnvR ι env a.tmps) (hR : Rel ι σ.get w) (wf : σ.wf) (hf : Free ι σ.size τ.size)
    (hK : ∀ κ u a', a'.defers = a.defers → EnvR κ env' a'.tmps → Ext ι σ w κ τ u → Rel κ τ.get u → K' a' u) : wpOp P ops Q i K' a w := by
  unfold wpOp
  rw [hi]
  simp only
  unfold step at h
  have hev : ∀ x ∈ o.op.operands, TRel ι (evO env x) (a.eval x) := fun x _ => evO_rel hE.rel x
  split at h
  · cases h
  · rename_i hw
    have hw' := wanted_of hw (fun j want oj d _ _ _ => hE.rel d)
    rw [hw']
    cases h
    simp only [Bool.false_eq_true, if_false]
    exact hK ι w _ (put_defers ..) (hE.put _ tt_undef) (Ext.refl _ _ _) hR
  · rename_i hw
    have hw' := wanted_of hw (fun j want oj d _ _ _ => hE.rel d)
    rw [hw']
    simp only [if_true]
    left
    split at h
    · split at h
      · rename_i t ht
        cases h
        exact opP_wp hev ht fun v hv => hK ι w _ (put_defers ..) (hE.put _ hv) (Ext.refl _ _ _) hR
      · cases h
    · split at h
      · rename_i t ht
        cases h
        exact opL_wp hR hev ht fun v hv => hK ι w _ (put_defers ..) (hE.put _ hv) (Ext.refl _ _ _) hR
      · cases h
    · split at h
      · rename_i b f hb
        cases h
        refine opA_wp (w := w) hev hb fun L u v hN hT => ?_
        have hfree : ι σ.size = none := hf σ.size (Nat.le_refl _) (by simp)
        refine hK _ u _ (put_defers ..) ((hE.mono (le_upd L hfree)).put _ (hT σ.size)) (ext_new hN) ?_
        rw [push_updM]; exact rel_new hR hfree hN
      · cases h
    · split at h
      · rename_i t τ' hw
        cases h
        refine opWC_wp hs hR wf hf hev hw fun κ u v hX hRr hT => ?_
        exact hK κ u _ (put_defers ..) ((hE.mono (hX.le hf)).put _ hT) hX hRr
      · cases h
    · cases h

theorem step_on (hs : CallSound P callf) {ops : Array Oper} {i : Nat} {l : List Nat} {o : Oper} {env env' : List T} {σ τ : St} {ι : Inj} {a : Act} {w : World} {Q : Exit → Act → World → Prop}
    (hi : ops[i]? = some o) (h : stepS P callf ops.toList o (env, σ) = some (env', τ)) (hE : EnvR ι env a.tmps) (hR : Rel ι σ.get w) (wf : σ.wf) (hf : Free ι σ.size τ.size)
    (hK : ∀ κ u a', a'.defers = a.defers → EnvR κ env' a'.tmps → Ext ι σ w κ τ u → Rel κ τ.get u → OpsN P ops Q l a' u) : OpsN P ops Q (i :: l) a w := by
  unfold stepS at h
  split at h
  · split at h
    · cases h
    · rename_i hw
      have hw' := wanted_of hw (fun j want oj d _ _ _ => hE.rel d)
      cases h
      exact on_skip hi hw' (hK ι w _ (put_defers ..) (hE.put _ tt_undef) (Ext.refl _ _ _) hR)
    · rename_i hw
      have hw' := wanted_of hw (fun j want oj d _ _ _ => hE.rel d)
      split at h
      · rename_i t τ' hc
        cases h
        have hev : ∀ x ∈ o.op.operands, TRel ι (evO env x) (a.eval x) := fun x _ => evO_rel hE.rel x
        obtain ⟨cases, bl, sh, u, w1, h1, h2, h3, h4, h5⟩ := aComm_run hR wf hev hc
        exact on_comm hi hw' h1 h2 (hK ι w1 _ (put_defers ..) (hE.put _ h5) h3 h4)
      · cases h
  · have hp := step_wp hs (Q := Q) hi h hE hR wf hf hK
    unfold wpOp at hp
    rw [hi] at hp
    simp only at hp
    split at hp
    · rename_i hw
      rcases hp with hp | ⟨hp, a0, w0, q⟩
      · exact on_op hi hw hp
      · intro b k cs hb
        exact ⟨.outgrown, a0, w0, q, .inr (asks_outgrown hi hw hb hp)⟩
    · rename_i hw
      exact on_skip hi (by simpa using hw) hp

theorem runOps_seq (hs : CallSound P callf) {ops : Array Oper} {Q : Exit → Act → World → Prop} : ∀ (l : List Oper) (k : Nat) (env env' : List T) (σ τ : St) (ι : Inj) (a : Act) (w : World),
    ops.toList.drop k = l → runOps P callf ops.toList l (env, σ) = some (env', τ) → EnvR ι env a.tmps → Rel ι σ.get w → σ.wf → Free ι σ.size τ.size →
    (∀ κ u a', a'.defers = a.defers → EnvR κ env' a'.tmps → Ext ι σ w κ τ u → Rel κ τ.get u → Q .normal a' u) → OpsN P ops Q (List.range' k l.length) a w := by
  intro l
  induction l with
  | nil =>
    intro k env env' σ τ ι a w hd h hE hR wf hf hK
    cases h
    exact on_nil (hK ι w a rfl hE (Ext.refl _ _ _) hR)
  | cons o l ih =>
    intro k env env' σ τ ι a w hd h hE hR wf hf hK
    simp only [runOps] at h
    split at h
    · rename_i s1 h1
      obtain ⟨env1, σ1⟩ := s1
      obtain ⟨wf1, z1⟩ := stepS_wf hs h1 wf
      obtain ⟨_, z2⟩ := runOps_wf hs h wf1
      have hk : ops[k]? = some o := by
        have := congrArg (·[0]?) hd
        simpa using this
      have hd' : ops.toList.drop (k + 1) = l := by
        have := congrArg List.tail hd
        simpa using this
      rw [List.length_cons, List.range'_succ]
      refine step_on hs hk h1 hE hR wf (hf.sub (Nat.le_refl _) z2) fun κ u a' hda hE' hX hR' => ?_
      refine ih (k + 1) env1 env' σ1 τ κ a' u hd' h hE' hR' wf1 (hf.next hX) fun κ' u' a'' hda' hE'' hX' hR'' => ?_
      exact hK κ' u' a'' (hda'.trans hda) hE'' (hX.trans hX') hR''
    · cases h

theorem region_seq (hs : CallSound P callf) {id : Nat} {ops : Array Oper} {Q : Exit → Act → World → Prop} {env env' : List T} {σ τ : St} {ι : Inj} {a : Act} {w : World}
    (h : runOps P callf ops.toList ops.toList (env, σ) = some (env', τ)) (hE : EnvR ι env a.tmps) (hR : Rel ι σ.get w) (wf : σ.wf) (hf : Free ι σ.size τ.size)
    (hK : ∀ κ u a', a'.defers = a.defers → EnvR κ env' a'.tmps → Ext ι σ w κ τ u → Rel κ τ.get u → Q .normal a' u) : WpN P (.region id ops false) Q a w := by
  refine wn_region ?_
  have := runOps_seq hs (Q := Q) ops.toList 0 env env' σ τ ι a w (by simp) h hE hR wf hf hK
  rw [Array.length_toList] at this
  rw [List.range_eq_range']
  exact this
end
end Go.Abs
