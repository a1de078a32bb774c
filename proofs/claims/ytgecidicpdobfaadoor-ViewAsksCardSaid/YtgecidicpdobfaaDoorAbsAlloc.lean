/-
  Operations that make one new block.
-/
import Derived.Test.YtgecidicpdobfaaDoorAbsLoad
namespace Go.Abs
open Go

def updM (g : Mem) (n : Nat) (b : Blk) : Mem := fun i => if i = n then some b else g i
theorem updM_same (g : Mem) (n : Nat) (b : Blk) : updM g n b n = some b := by simp [updM]
theorem updM_ne (g : Mem) {n i : Nat} (b : Blk) (h : i ≠ n) : updM g n b i = g i := by simp [updM, h]
theorem push_updM (σ : St) (b : Blk) : (σ.push b).get = updM σ.get σ.size b := by
  funext i; rw [St.get_push]; rfl

structure NewBlk (ι : Inj) (w u : World) (L : Loc) (b : Blk) : Prop where
  b_eq : L.b = w.heap.size
  os : u.os = w.os
  output : u.output = w.output
  size : u.heap.size = w.heap.size + 1
  keep : ∀ k, k < w.heap.size → u.heap[k]? = w.heap[k]?
  blk : BlkRel ι L u b

theorem rel_new {ι : Inj} {g : Mem} {w u : World} {L : Loc} {b : Blk} {n : Nat} (h : Rel ι g w) (hf : ι n = none) (hN : NewBlk ι w u L b) : Rel (upd ι n L) (updM g n b) u := by
  have hle := le_upd L hf
  constructor
  · intro i M c hM hc
    by_cases e : i = n
    · subst e
      rw [upd_same] at hM; cases hM
      rw [updM_same] at hc; cases hc
      exact hN.blk.mono hle
    · rw [upd_ne _ _ e] at hM
      rw [updM_ne _ _ e] at hc
      have hr := h.blk i M c hM hc
      cases c with
      | dead => trivial
      | cells own vs => exact (hr.mono hle).congr (hN.keep _ (hr.lt trivial))
      | map es => exact (hr.mono hle).congr (hN.keep _ (hr.lt trivial))
  · intro i j M N hM hNj hl hh hne
    by_cases e : i = n
    · subst e
      rw [upd_same] at hM; cases hM
      have ej : j ≠ i := fun x => hne x.symm
      rw [upd_ne _ _ ej] at hNj
      rw [updM_ne _ _ ej] at hh
      cases hg : g j with
      | none => rw [hg] at hh; exact hh.elim
      | some c =>
        rw [hg] at hh
        have := (h.blk j N c hNj hg).lt hh
        have := hN.b_eq
        omega
    · rw [upd_ne _ _ e] at hM
      rw [updM_ne _ _ e] at hl
      by_cases ej : j = n
      · subst ej
        rw [upd_same] at hNj; cases hNj
        cases hg : g i with
        | none => rw [hg] at hl; exact hl.elim
        | some c =>
          rw [hg] at hl
          have := (h.blk i M c hM hg).lt hl.held
          have := hN.b_eq
          omega
      · rw [upd_ne _ _ ej] at hNj
        rw [updM_ne _ _ ej] at hh
        exact h.sep i j M N hM hNj hl hh hne

theorem ext_new {ι : Inj} {σ : St} {w u : World} {L : Loc} {b : Blk} (hN : NewBlk ι w u L b) : Ext ι σ w (upd ι σ.size L) (σ.push b) u := by
  refine ⟨by simp, ?_, ?_, ?_, ?_, ?_, hN.os, hN.output, by rw [hN.size]; omega, ?_⟩
  · intro i hi
    simp only [St.size_push] at hi
    exact upd_ne _ _ (by omega)
  · intro i hi hl
    rwa [live_of_push (by omega)] at hl
  · intro i hi hl
    rwa [live_of_push (by omega)] at hl
  · intro i hi _
    exact live_of_push (by omega)
  · intro i M h1 h2 hM hl
    simp only [St.size_push] at h2
    have : i = σ.size := by omega
    subst this
    rw [upd_same] at hM
    cases hM
    exact .inl (by rw [hN.b_eq]; exact Nat.le_refl _)
  · intro k hk _
    exact hN.keep k hk

def zeros (c : Nat) (z : List S) : List S := (List.replicate c z).flatten

def strBytes (l : List UInt8) : List S := l.map fun b => .int .u8 b.toNat

def opA (P : Program) (op : Op) (ev : Operand → T) : Option (Blk × (Nat → T)) :=
  match op with
  | .alloc t => match zeroOf P t with
    | some z => some (.cells true z.cells, fun n => Z (.ptr n 0))
    | none => none
  | .box _ x => match ev x with
    | .v y => some (.cells true y.cells, fun n => Z (.ptr n 0))
    | _ => none
  | .buildSlice t len parts => match P.underlying t with
    | some (.slice e) => match szOf P e, zeroOf P e with
      | some n, some z => if z.cells.length = n ∧ len * n ≤ 2 ^ 24 then
          match aFill (zeros len z.cells) (placesA n ev parts.toList) with
          | some l => some (.cells true l, fun k => Z (.sl k 0 len (.known len)))
          | none => none
        else none
      | _, _ => none
    | _ => none
  | .makeMap t r => match P.underlying t, r with
    | some (.map _ _), none => some (.map [], fun n => Z (.map n))
    | some (.map _ _), some x => match ev x with
      | .v (.s (.int _ _)) => some (.map [], fun n => Z (.map n))
      | _ => none
    | _, _ => none
  | .makeSlice t l c => match P.underlying t with
    | some (.slice e) => match szOf P e, zeroOf P e, byOf P e with
      | some n, some z, some by_ => match ev l, ev c with
        | .v (.s (.int _ l)), .v (.s (.int _ c)) => if z.cells.length = n ∧ 0 ≤ l ∧ l ≤ c ∧ c ≤ 2 ^ 62 ∧ by_ * c ≤ 2 ^ 48 then
            some (.cells true (zeros c.toNat z.cells), fun k => Z (.sl k 0 l.toNat (.known c.toNat)))
          else none
        | _, _ => none
      | _, _, _ => none
    | _ => none
  | .convert s d x => match P.underlying s, P.underlying d with
    | some .string, some (.slice e) => match P.underlying e with
      | some (.int .u8) => match ev x with
        | .v (.s (.str l)) => some (.cells true (strBytes l), fun k => Z (.sl k 0 l.length (.grown 1)))
        | _ => none
      | _ => none
    | _, _ => none
  | _ => none

section
variable {P : Program} {ι : Inj} {w : World} {g : Mem}

theorem zeros_rel {z : List S} {cs : List Value} (h : All2 (SRel ι) z cs) (c n : Nat) (hn : z.length = n) :
    ∃ ds : List Value, (Array.range (c * n)).map (cs.toArray[· % cs.toArray.size]!) = ds.toArray ∧ All2 (SRel ι) (zeros c z) ds := by
  have hl := forall2_length h
  refine ⟨(List.range (c * n)).map (fun i => cs.toArray[i % cs.toArray.size]!), ?_, ?_⟩
  · rw [← List.map_toArray]
    congr 1
    rw [← Array.toArray_toList (xs := Array.range (c * n)), Array.toList_range]
  · subst hn
    induction c with
    | zero => simp [zeros]; exact .nil
    | succ c ih =>
      have e1 : zeros (c + 1) z = zeros c z ++ z := by
        simp [zeros, List.replicate_succ']
      have e2 : (c + 1) * z.length = c * z.length + z.length := by rw [Nat.add_mul]; omega
      rw [e1, e2, List.range_add, List.map_append]
      refine forall2_append ih ?_
      rw [List.map_map]
      refine forall2_of_get (by simp) ?_
      intro j x y hx hy
      have hj : j < z.length := (List.getElem?_eq_some_iff.1 hx).1
      obtain ⟨v, hv, r⟩ := forall2_get h j x hx
      have : y = v := by
        rw [List.getElem?_map, List.getElem?_range hj] at hy
        simp only [Option.map_some, Option.some.injEq, Function.comp] at hy
        rw [← hy]
        have hm : (c * z.length + j) % cs.toArray.size = j := by
          simp only [List.size_toArray, ← hl]
          rw [Nat.mul_comm, Nat.mul_add_mod, Nat.mod_eq_of_lt hj]
        rw [hm]
        have hj' : j < cs.length := by omega
        rw [List.getElem!_toArray]
        rw [List.getElem!_eq_getElem?_getD, hv]; rfl
      rw [this]; exact r

theorem newRow_blk {e : TypeId} {vs : List S} {cs : List Value} (hv : All2 (SRel ι) vs cs) (more : Array Value) (u : World) (hu : u = { w with heap := w.heap.push (.cells (cs.toArray ++ more) e (0, 0)) }) :
    NewBlk ι w u ⟨w.heap.size, 0, cs.length + more.size⟩ (.cells true vs) := by
  subst hu
  have hlen := forall2_length hv
  refine ⟨rfl, rfl, rfl, by simp, fun k hk => push_get w _ k hk, ?_⟩
  refine ⟨cs.toArray ++ more, e, (0, 0), push_last w _, by simp, by simp; omega, ?_, fun _ => .inl rfl⟩
  intro j x hx
  obtain ⟨v, hv', r⟩ := forall2_get hv j x hx
  refine ⟨v, ?_, r⟩
  have hj : j < cs.length := (List.getElem?_eq_some_iff.1 hv').1
  simp only [Nat.zero_add]
  rw [Array.getElem?_append_left (by simpa using hj)]
  simpa using hv'

theorem stringToBytes_run (e : TypeId) (s : ByteArray) (w : World) : ∃ cap, s.size ≤ cap ∧
    (Conv.stringToBytes e s).run P w = .ok (.slice (some ⟨w.heap.size, 0, none⟩) s.size cap)
      { w with drawn := w.drawn + 1, heap := w.heap.push (.cells (s.data.map (fun b => Value.int .u8 b.toNat) ++ Array.replicate (cap - s.size) (.int .u8 0)) e
        ((s.data.map (fun b => Value.int .u8 b.toNat) ++ Array.replicate (cap - s.size) (Value.int .u8 0)).size, (s.data.map (fun b => Value.int .u8 b.toNat) ++ Array.replicate (cap - s.size) (Value.int .u8 0)).size + 1)) } := by
  refine ⟨s.size + (w.tape w.drawn (.appendCap s.size 0 e)) % (2 ^ 63 - s.size), by omega, ?_⟩
  generalize hcap : s.size + (w.tape w.drawn (.appendCap s.size 0 e)) % (2 ^ 63 - s.size) = cap
  have hch : (choose (.appendCap s.size 0 e)).run P w = .ok cap { w with drawn := w.drawn + 1 } := by
    simp only [choose, Sem.run, Question.forced, Bool.false_eq_true, if_false, Question.cut, hcap]
  simp only [Conv.stringToBytes, run_bind, hch, newRow, newObj, Sem.run, run_pure, markStringish, shape, World.shape?, push_last, freeze, World.freeze]
  simp only [Nat.one_ne_zero, if_false]
  congr 2
  apply Array.ext_getElem?
  intro k
  rw [Array.getElem?_modify]
  by_cases hk : w.heap.size = k
  · subst hk
    simp
  · rw [if_neg hk, Array.getElem?_push, Array.getElem?_push, if_neg (Ne.symm hk), if_neg (Ne.symm hk)]

theorem opA_run {o : Oper} {ev : Operand → T} {ρ : Operand → Value} {b : Blk} {f : Nat → T} (hev : ∀ x ∈ o.op.operands, TRel ι (ev x) (ρ x)) (h : opA P o.op ev = some (b, f)) (w : World) :
    ∃ L v u, (execOp ρ o).run P w = .ok (.value v) u ∧ NewBlk ι w u L b ∧ ∀ n, TRel (upd ι n L) (f n) v := by
  obtain ⟨dst, op, ty, pos, after, guard⟩ := o
  simp only at hev h
  have fin : ∀ (s : Sem Value), execOp ρ ⟨dst, op, ty, pos, after, guard⟩ = (do pure (Next.value (← s))) → (∃ L v u, s.run P w = .ok v u ∧ NewBlk ι w u L b ∧ ∀ n, TRel (upd ι n L) (f n) v) →
      ∃ L v u, (execOp ρ ⟨dst, op, ty, pos, after, guard⟩).run P w = .ok (.value v) u ∧ NewBlk ι w u L b ∧ ∀ n, TRel (upd ι n L) (f n) v := by
    intro s he ⟨L, v, u, h1, h2⟩
    refine ⟨L, v, u, ?_, h2⟩
    rw [he]
    simp only [run_bind, h1, run_pure]
  have hptr : ∀ (L : Loc) (n : Nat), L.base = 0 → TRel (upd ι n L) (Z (.ptr n 0)) (.pointer (some ⟨L.b, 0, none⟩)) := by
    intro L n h0
    exact ⟨L, upd_same _ _ _, by rw [h0]⟩
  cases op with
  | alloc t =>
    simp only [opA] at h
    split at h
    · rename_i z hz
      cases h
      obtain ⟨zv, hzr, hzrel⟩ := run_zero (P := P) (w := w) (ι := ι) hz
      have hc := VRel.cells hzrel
      refine fin _ rfl ⟨_, _, _, ?_, newRow_blk (e := t) hc #[] _ rfl, fun n => hptr _ n rfl⟩
      simp [Instr.alloc, run_bind, hzr, newVar, newRow, newObj, Sem.run, run_pure]
    · cases h
  | box t x =>
    have hx := hev x (by simp [Op.operands])
    simp only [opA] at h
    split at h
    · rename_i y hy
      cases h
      rw [hy] at hx
      have hc := VRel.cells hx
      refine fin _ rfl ⟨_, _, _, ?_, newRow_blk (e := t) hc #[] _ rfl, fun n => hptr _ n rfl⟩
      simp [Instr.box, run_bind, newVar, newRow, newObj, Sem.run, run_pure]
    · cases h
  | buildSlice t len parts =>
    simp only [opA] at h
    split at h
    · rename_i e hu
      split at h
      · rename_i n z hn hz
        split at h
        · rename_i hc
          split at h
          · rename_i l hl
            cases h
            obtain ⟨zv, hzr, hzrel⟩ := run_zero (P := P) (w := w) (ι := ι) hz
            have hzc := VRel.cells hzrel
            have hzl := forall2_length hzc
            obtain ⟨zs, hz1, hz2⟩ := zeros_rel hzc len n hc.1
            have hall : ∀ (pp : List (Nat × Operand)), (∀ p ∈ pp, TRel ι (ev p.2) (ρ p.2)) →
                All2 (fun (a : Nat × Nat × T) (b : Nat × Value) => (some (b.1 * n, n) : Option (Nat × Nat)) = some (a.1, a.2.1) ∧ TRel ι a.2.2 b.2) (placesA n ev pp) (pp.map fun p => (p.1, ρ p.2)) := by
              intro pp
              induction pp with
              | nil => intro _; exact .nil
              | cons p pp ih =>
                intro hev
                exact .cons ⟨rfl, hev p (by simp)⟩ (ih fun q hq => hev q (by simp [hq]))
            obtain ⟨ds, hd1, hd2⟩ := aFill_run (ι := ι) (place := fun i => some (i * n, n)) (parts.toList.map fun p => (p.1, ρ p.2)) _ (zeros len z.cells) zs l
              (hall parts.toList (fun p hp => hev p.2 (by
                simp only [Op.operands, List.mem_toArray, List.mem_map]
                exact ⟨p, hp, rfl⟩))) hz2 hl
            have e2 : (parts.map fun p => (p.1, ρ p.2)).toList = parts.toList.map fun p => (p.1, ρ p.2) := by simp
            refine fin _ rfl ⟨_, .slice (some ⟨w.heap.size, 0, none⟩) len len, _, ?_, newRow_blk (e := e) hd2 #[] _ rfl, fun k => ⟨_, upd_same _ _ _, rfl, Nat.le_refl _⟩⟩
            have hz' : (zs.toArray : Array Value) = (Array.range (len * n)).map ((if len * n = 0 then #[] else zv.cells)[· % (if len * n = 0 then #[] else zv.cells).size]!) := by
              by_cases h0 : len * n = 0
              · rw [h0] at hz1 ⊢
                rw [← hz1]
                simp
              · rw [if_neg h0, ← hz1]
            by_cases h0 : len * n = 0
            · rw [if_pos h0] at hz'
              simp only [Instr.buildSlice, run_bind, run_und hu, run_sz hn]
              rw [if_neg (by omega)]
              simp only [run_bind, run_pure, if_pos h0, ← hz', e2, hd1, newRow, newObj, Sem.run, Array.append_empty]
            · rw [if_neg h0] at hz'
              simp only [Instr.buildSlice, run_bind, run_und hu, run_sz hn]
              rw [if_neg (by omega)]
              simp only [run_bind, run_pure, if_neg h0, hzr, ← hz', e2, hd1, newRow, newObj, Sem.run, Array.append_empty]
          · cases h
        · cases h
      · cases h
    · cases h
  | makeMap t r =>
    have hb : NewBlk ι w { w with heap := w.heap.push (.map #[] 0) } ⟨w.heap.size, 0, 0⟩ (.map []) :=
      ⟨rfl, rfl, rfl, by simp, fun k hk => push_get w _ k hk, #[], 0, push_last w _, .nil, .nil, by simp⟩
    simp only [opA] at h
    split at h
    · rename_i kt et hu
      cases h
      refine fin _ rfl ⟨_, _, _, ?_, hb, fun n => ⟨_, upd_same _ _ _, rfl⟩⟩
      simp [Instr.makeMap, run_bind, newObj, Sem.run, run_pure]
    · rename_i kt et x hu
      split at h
      · rename_i k n hx'
        cases h
        have hx := hev x (by simp [Op.operands])
        rw [hx'] at hx
        simp only [TRel, VRel, SRel] at hx
        refine fin _ rfl ⟨_, _, _, ?_, hb, fun n => ⟨_, upd_same _ _ _, rfl⟩⟩
        simp [Instr.makeMap, run_bind, run_und hu, hx, asInt, asIntOf, newObj, Sem.run, run_pure]
      · cases h
    · cases h
  | makeSlice t l c =>
    have hl := hev l (by simp [Op.operands])
    have hcc := hev c (by simp [Op.operands])
    simp only [opA] at h
    split at h
    · rename_i e hu
      split at h
      · rename_i n z by_ hn hz hby
        split at h
        · rename_i kl lv kc cv hl' hc'
          split at h
          · rename_i hc
            cases h
            rw [hl'] at hl; rw [hc'] at hcc
            simp only [TRel, VRel, SRel] at hl hcc
            obtain ⟨zv, hzr, hzrel⟩ := run_zero (P := P) (w := w) (ι := ι) hz
            have hzc := VRel.cells hzrel
            obtain ⟨zs, hz1, hz2⟩ := zeros_rel hzc cv.toNat n hc.1
            obtain ⟨i, hi, hib⟩ := run_by (P := P) (w := w) hby
            obtain ⟨_, c1, c2, c3, c4⟩ := hc
            have wl : IntKind.i64.wrap lv = lv := IntWalk.i64_in lv (by omega)
            have wc : IntKind.i64.wrap cv = cv := IntWalk.i64_in cv (by omega)
            refine fin _ rfl ⟨_, .slice (some ⟨w.heap.size, 0, none⟩) lv.toNat cv.toNat, _, ?_, newRow_blk (e := e) hz2 #[] _ rfl, fun k => ⟨_, upd_same _ _ _, rfl, by omega⟩⟩
            have hz' : (zs.toArray : Array Value) = (Array.range (cv.toNat * n)).map ((if cv.toNat * n = 0 then #[] else zv.cells)[· % (if cv.toNat * n = 0 then #[] else zv.cells).size]!) := by
              by_cases h0 : cv.toNat * n = 0
              · rw [h0] at hz1 ⊢
                rw [← hz1]
                simp
              · rw [if_neg h0, ← hz1]
            have hroom : ∀ (k : Nat) (w : World), (askRoom k).run P w = .ok () w := by
              intro k w
              unfold askRoom
              split
              · rfl
              · rfl
            have hcond : ((decide (cv < 0) || decide ((by_ : Int) * cv > 2 ^ 48)) || decide (lv < 0) || decide (lv > cv)) = false := by
              simp only [Bool.or_eq_false_iff, decide_eq_false_iff_not]
              refine ⟨⟨⟨by omega, ?_⟩, by omega⟩, by omega⟩
              have : ((by_ : Int) * cv) ≤ 2 ^ 48 := c4
              omega
            simp only [Instr.makeSlice, run_bind, run_und hu, hl, hcc, asInt, asIntOf, run_pure, hi, hib, wl, wc]
            simp only [hcond, Bool.false_eq_true, if_false, run_bind, hroom, run_sz hn]
            by_cases h0 : cv.toNat * n = 0
            · rw [if_pos h0] at hz'
              simp only [if_pos h0, run_pure, ← hz', newRow, newObj, run_bind, Sem.run, Array.append_empty]
            · rw [if_neg h0] at hz'
              simp only [if_neg h0, run_bind, hzr, run_pure, ← hz', newRow, newObj, Sem.run, Array.append_empty]
          · cases h
        · cases h
      · cases h
    · cases h
  | convert s d x =>
    have hx := hev x (by simp [Op.operands])
    simp only [opA] at h
    split at h
    · rename_i e hs hd
      split at h
      · rename_i he
        split at h
        · rename_i l hl
          cases h
          rw [hl] at hx
          obtain ⟨s', hx', rfl⟩ := hx
          have hconv : (Go.convert s d (ρ x)).run P w = (Conv.stringToBytes e s').run P w := by
            rw [hx']
            simp only [Go.convert, run_bind, run_und hs, run_und hd, run_und he]
          obtain ⟨cap, hcap, hrun⟩ := stringToBytes_run (P := P) e s' w
          refine fin _ rfl ⟨⟨w.heap.size, 0, cap⟩, _, _, hconv.trans hrun, ?_, fun k => ?_⟩
          · refine ⟨rfl, rfl, rfl, by simp, ?_, ?_⟩
            · intro k hk
              simp only []
              rw [Array.getElem?_push, if_neg (by omega)]
            · refine ⟨_, e, _, push_last w _, ?_, ?_, ?_, ?_⟩
              · have hz : s'.data.size = s'.size := rfl
                simp only [Array.size_append, Array.size_map, Array.size_replicate, hz]; omega
              · simp only [strBytes, List.length_map, Nat.zero_add, ← size_data]; exact hcap
              · intro j y hy
                have hj : j < s'.data.toList.length := by
                  have := (List.getElem?_eq_some_iff.1 hy).1
                  simpa [strBytes] using this
                rw [strBytes, List.getElem?_map, List.getElem?_eq_getElem hj] at hy
                cases hy
                refine ⟨.int .u8 (s'.data.toList[j]).toNat, ?_, rfl⟩
                have hj' : j < s'.data.size := by simpa using hj
                simp only [Nat.zero_add]
                rw [Array.getElem?_append_left (by simpa using hj')]
                rw [Array.getElem?_map, Array.getElem?_eq_getElem hj']
                rfl
              · intro _
                exact .inr (Nat.le_refl _)
          · refine ⟨_, cap, upd_same _ _ _, ?_, ?_, ?_⟩
            · rw [← size_data]
            · rw [← size_data]; exact hcap
            · simp
        · cases h
      · cases h
    · cases h
  | _ => simp [opA] at h
end
end Go.Abs
