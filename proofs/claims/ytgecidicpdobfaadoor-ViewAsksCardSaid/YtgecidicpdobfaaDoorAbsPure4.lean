/-
  The model's operation does what 'opP' says.
-/
import Derived.Test.YtgecidicpdobfaaDoorAbsPure3
namespace Go.Abs
open Go
section
variable {P : Program} {ι : Inj} {w : World}

/-- What is said of an operation that reads temporaries alone. -/
def Gives (P : Program) (ι : Inj) (w : World) (ρ : Operand → Value) (o : Oper) (r : T) : Prop := ∃ v, (execOp ρ o).run P w = .ok (.value v) w ∧ TRel ι r v

theorem gives_v {ρ : Operand → Value} {o : Oper} {r : T} {s : Sem Value} (he : execOp ρ o = (do pure (Next.value (← s)))) (h : ∃ v, s.run P w = .ok v w ∧ TRel ι r v) : Gives P ι w ρ o r := by
  obtain ⟨v, h1, h2⟩ := h
  exact ⟨v, by rw [he]; exact run_value h1, h2⟩

theorem sureAddr_run {x : T} {i o : Nat} {u : Value} (h : TRel ι (Z (.ptr i o)) u) : ∃ L, ι i = some L ∧ u = .pointer (some ⟨L.b, L.base + o, none⟩) ∧ (Instr.sureAddr u).run P w = .ok ⟨L.b, L.base + o, none⟩ w := by
  obtain ⟨L, hL, rfl⟩ := h
  exact ⟨L, hL, rfl, rfl⟩

theorem ptr_rel {i o : Nat} {L : Loc} {b off : Nat} (h : ι i = some L) (hb : b = L.b) (ho : off = L.base + o) : TRel ι (Z (.ptr i o)) (.pointer (some ⟨b, off, none⟩)) := by
  subst hb ho; exact ⟨L, h, rfl⟩

theorem build_run {t : TypeId} {parts : Array (Nat × Operand)} {ev : Operand → T} {ρ : Operand → Value} {r : T} (hev : ∀ p ∈ parts, TRel ι (ev p.2) (ρ p.2))
    (h : opP P (.build t parts) ev = some r) : ∃ v, (Instr.build t (parts.map fun p => (p.1, ρ p.2))).run P w = .ok v w ∧ TRel ι r v := by
  simp only [opP] at h
  split at h
  · rename_i z fs hz hu
    split at h
    · rename_i hfo
      split at h
      · rename_i l hl
        obtain ⟨zv, hzr, hzrel⟩ := run_zero (P := P) (w := w) (ι := ι) hz
        have hzc := VRel.cells hzrel
        obtain ⟨pl, hp1, hp2⟩ := mapM_places (P := P) (w := w) fs.toList (fun f hf => by
          have := (Array.all_eq_true_iff_forall_mem.1 hfo) f (by simpa using hf)
          exact Option.isSome_iff_exists.1 this)
        cases hf : aFill z.cells l with
        | none => rw [hf] at h; cases h
        | some ys =>
          rw [hf] at h; cases h
          have hall : ∀ (pp : List (Nat × Operand)) (l : List (Nat × Nat × T)), (∀ p ∈ pp, TRel ι (ev p.2) (ρ p.2)) → placesS P fs ev pp = some l →
              All2 (fun (a : Nat × Nat × T) (b : Nat × Value) => (pl[b.1]? : Option (Nat × Nat)) = some (a.1, a.2.1) ∧ TRel ι a.2.2 b.2) l (pp.map fun p => (p.1, ρ p.2)) := by
            intro pp
            induction pp with
            | nil => intro l _ h; cases h; exact .nil
            | cons p pp ih =>
              intro l hev h
              obtain ⟨i, x⟩ := p
              simp only [placesS] at h
              split at h
              · rename_i f hfi
                split at h
                · rename_i n l' hn hl'
                  cases h
                  refine .cons ⟨?_, hev (i, x) (by simp)⟩ (ih l' (fun p hp => hev p (by simp [hp])) hl')
                  rw [hp2]
                  simp [hfi, hn]
                · cases h
              · cases h
          obtain ⟨ds, hd1, hd2⟩ := aFill_run (ι := ι) (place := (pl[·]?)) (parts.toList.map fun p => (p.1, ρ p.2)) l z.cells zv.cells.toList ys (hall parts.toList l (fun p hp => hev p (by simpa using hp)) hl) hzc hf
          refine ⟨.agg ds.toArray, ?_, ds, rfl, hd2⟩
          have hmap : (fs.mapM fun f => (do pure (f.offset, ← sizeOf f.type) : Sem (Nat × Nat))).run P w = .ok pl.toArray w := by
            rw [← Array.toArray_toList (xs := fs), List.mapM_toArray]
            show ((Functor.map _ _ : Sem _)).run P w = _
            rw [map_eq_pure_bind, run_bind, hp1]
            simp [run_pure]
          simp only [Instr.build, run_bind, hzr, run_und hu]
          rw [hmap]
          simp only []
          have e : (fun (x : Nat) => pl.toArray[x]?) = (fun (x : Nat) => pl[x]?) := by funext x; simp
          have e2 : (parts.map fun p => (p.1, ρ p.2)).toList = parts.toList.map fun p => (p.1, ρ p.2) := by simp
          rw [e, e2]
          simp only [Array.toArray_toList] at hd1
          rw [hd1]
          rfl
      · cases h
    · cases h
  · rename_i z k e hz hu
    split at h
    · rename_i n hn
      obtain ⟨zv, hzr, hzrel⟩ := run_zero (P := P) (w := w) (ι := ι) hz
      have hzc := VRel.cells hzrel
      cases hf : aFill z.cells (placesA n ev parts.toList) with
      | none => rw [hf] at h; cases h
      | some ys =>
        rw [hf] at h; cases h
        have hall : ∀ (pp : List (Nat × Operand)), (∀ p ∈ pp, TRel ι (ev p.2) (ρ p.2)) →
            All2 (fun (a : Nat × Nat × T) (b : Nat × Value) => (some (b.1 * n, n) : Option (Nat × Nat)) = some (a.1, a.2.1) ∧ TRel ι a.2.2 b.2) (placesA n ev pp) (pp.map fun p => (p.1, ρ p.2)) := by
          intro pp
          induction pp with
          | nil => intro _; exact .nil
          | cons p pp ih =>
            intro hev
            exact .cons ⟨rfl, hev p (by simp)⟩ (ih fun q hq => hev q (by simp [hq]))
        obtain ⟨ds, hd1, hd2⟩ := aFill_run (ι := ι) (place := fun i => some (i * n, n)) (parts.toList.map fun p => (p.1, ρ p.2)) _ z.cells zv.cells.toList ys (hall parts.toList (fun p hp => hev p (by simpa using hp))) hzc hf
        refine ⟨.agg ds.toArray, ?_, ds, rfl, hd2⟩
        have e2 : (parts.map fun p => (p.1, ρ p.2)).toList = parts.toList.map fun p => (p.1, ρ p.2) := by simp
        simp only [Array.toArray_toList] at hd1
        simp only [Instr.build, run_bind, hzr, run_und hu, run_sz hn, e2, hd1]
        rfl
    · cases h
  · cases h
end
end Go.Abs
