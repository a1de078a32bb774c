/-
  Pieces, places, lengths; then all together.
-/
import Derived.Test.YtgecidicpdobfaaDoorAbsPure4
namespace Go.Abs
open Go
section
variable {P : Program} {ι : Inj} {w : World}

theorem orel_map {ev : Operand → T} {ρ : Operand → Value} {x : Option Operand} (h : ∀ y, x = some y → TRel ι (ev y) (ρ y)) : ORel ι (x.map ev) (x.map ρ) := by
  cases x with
  | none => trivial
  | some y => exact h y rfl

theorem isSome_map {α β : Type} (x : Option α) (f : α → β) : (x.map f).isSome = x.isSome := by cases x <;> rfl

theorem pieceStr_run {t : TypeId} {x : T} {u : Value} {lo hi mx : Option T} {lo' hi' mx' : Option Value} {r : T} (hu : P.underlying t = some .string) (hx : TRel ι x u)
    (h1 : ORel ι lo lo') (h2 : ORel ι hi hi') (h3 : ORel ι mx mx') (h : aPieceStr x lo hi mx = some r) :
    ∃ v, (Instr.sliceAt t u lo' hi' mx').run P w = .ok v w ∧ TRel ι r v := by
  unfold aPieceStr at h
  split at h
  · rename_i s
    split at h
    · rename_i l h' m hb
      cases h
      obtain ⟨s', rfl, rfl⟩ := hx
      match mx', h3 with
      | none, _ =>
        rw [← size_data] at hb
        obtain ⟨hr, hl, hh, hm, _⟩ := aBounds_run (P := P) (w := w) (ι := ι) (cap := s'.size) h1 h2 (mx := none) (mx' := none) trivial hb (Nat.le_refl _) (Nat.le_refl _) false
        refine ⟨.string (s'.extract l h'), ?_, s'.extract l h', rfl, ?_⟩
        · simp only [Instr.sliceAt, run_bind, run_und hu, Instr.slice, Option.isSome_none, Bool.false_eq_true, if_false, hr, run_pure]
        · rw [ByteArray.data_extract]
          simp [List.drop_take]
    · cases h
  · cases h

theorem add_none (b o n : Nat) : (⟨b, o, none⟩ : Addr).add n = ⟨b, o + n, none⟩ := add_eq b o n

theorem pieceSl_run {t e : TypeId} {n : Nat} {x : T} {u : Value} {lo hi mx : Option T} {lo' hi' mx' : Option Value} {r : T} (hu : P.underlying t = some (.slice e)) (hn : szOf P e = some n) (hx : TRel ι x u)
    (h1 : ORel ι lo lo') (h2 : ORel ι hi hi') (h3 : ORel ι mx mx') (h : aPieceSl n x lo hi mx = some r) :
    ∃ v, (Instr.sliceAt t u lo' hi' mx').run P w = .ok v w ∧ TRel ι r v := by
  have base : ∀ (mx' : Option Value) (a : Option Addr) (len cap : Nat), (Instr.sliceAt t (.slice a len cap) lo' hi' mx').run P w =
      match (Instr.sliceBounds true len cap lo' hi' mx').run P w with
      | .ok (l, h, m) w' => .ok (.slice (if m = l then a else a.map (·.add (l * n))) (h - l) (m - l)) w'
      | .halt x w' => .halt x w' := by
    intro mx' a len cap
    simp only [Instr.sliceAt, run_bind, run_und hu, Instr.slice]
    cases (Instr.sliceBounds true len cap lo' hi' mx').run P w with
    | halt x w' => rfl
    | ok p w' => simp only [run_sz hn, run_pure]
  unfold aPieceSl at h
  split at h
  · rename_i b o len c
    split at h
    · rename_i l h' m hb
      cases h
      obtain ⟨L, hL, rfl, hlc⟩ := hx
      obtain ⟨hr, hl, hh, hm, hmn⟩ := aBounds_run (P := P) (w := w) (ι := ι) (cap := c) h1 h2 h3 hb (Nat.le_refl _) hlc true
      have hmm : (if mx.isSome then m else c) = m := by
        cases mx with
        | none => simp [hmn rfl]
        | some _ => rfl
      rw [hmm] at hr
      refine ⟨_, by rw [base, hr], L, hL, ?_, by omega⟩
      by_cases e : m = l
      · simp [e]
      · simp only [if_neg e, Option.map_some, add_eq, Nat.add_assoc]
    · cases h
  · rename_i b o len g
    split at h
    · rename_i hge
      subst hge
      obtain ⟨L, c, hL, rfl, hlc, hsz⟩ := hx
      split at h
      · rename_i l h' m hb
        obtain ⟨hr, hl, hh, hm, hmn⟩ := aBounds_run (P := P) (w := w) (ι := ι) (cap := c) h1 h2 h3 hb hlc (Nat.le_refl _) true
        split at h
        · cases h
          simp only [Option.isSome_some, if_true] at hr
          refine ⟨_, by rw [base, hr], L, hL, ?_, by omega⟩
          by_cases e : m = l
          · simp [e]
          · simp only [if_neg e, Option.map_some, add_eq, Nat.add_assoc]
        · simp only [Option.isSome_none, Bool.false_eq_true, if_false] at hr
          have hm' := hmn rfl
          split at h
          · rename_i hlt
            cases h
            refine ⟨_, by rw [base, hr], L, c - l, hL, ?_, by omega, ?_⟩
            · rw [if_neg (by omega)]; simp only [Option.map_some, add_eq, Nat.add_assoc]
            · have : l * g + (c - l) * g = c * g := by rw [← Nat.add_mul]; congr 1; omega
              omega
          · rename_i hlt
            cases h
            have hhl : h' - l = 0 := by omega
            have hcl : l = len := by omega
            subst hcl
            by_cases e : c = l
            · refine ⟨_, by rw [base, hr], L, o, c - l, hL, ?_, ?_⟩
              · rw [if_pos e, hhl]
              · exact .inl (by omega)
            · refine ⟨_, by rw [base, hr], L, o + l * g, c - l, hL, ?_, ?_⟩
              · rw [if_neg e, hhl]; simp only [Option.map_some, add_eq, Nat.add_assoc]
              · have : l * g + (c - l) * g = c * g := by rw [← Nat.add_mul]; congr 1; omega
                exact .inr (by omega)
      · cases h
    · cases h
  · rename_i b g
    split at h
    · rename_i hge
      subst hge
      obtain ⟨L, o, c, hL, rfl, hsz⟩ := hx
      split at h
      · rename_i q hb
        obtain ⟨l, h', m⟩ := q
        cases h
        match mx', h3 with
        | none, _ =>
          obtain ⟨hr, hl, hh, hm, hmn⟩ := aBounds_run (P := P) (w := w) (ι := ι) (cap := c) h1 h2 (mx := none) (mx' := none) trivial hb (Nat.zero_le _) (Nat.le_refl _) true
          simp only [Option.isSome_none, Bool.false_eq_true, if_false] at hr
          have hl0 : l = 0 := by omega
          have hh0 : h' = 0 := by omega
          subst hl0 hh0
          refine ⟨_, by rw [base, hr], L, o, c, hL, ?_, hsz⟩
          by_cases e : c = 0
          · simp [e]
          · simp [e, add_eq]
      · cases h
    · cases h
  · split at h
    · rename_i q hb
      obtain ⟨l, h', m⟩ := q
      cases h
      simp only [TRel, VRel, SRel] at hx; subst hx
      obtain ⟨hr, hl, hh, hm, hmn⟩ := aBounds_run (P := P) (w := w) (ι := ι) (cap := 0) h1 h2 h3 hb (Nat.le_refl _) (Nat.le_refl _) true
      have hmm : (if mx.isSome then m else 0) = 0 := by
        cases mx with
        | none => rfl
        | some _ => simp; omega
      rw [hmm] at hr
      have hl0 : l = 0 := by omega
      have hh0 : h' = 0 := by omega
      subst hl0 hh0
      exact ⟨_, by rw [base, hr], by simp [TRel, VRel, SRel]⟩
    · cases h
  · cases h
end
end Go.Abs
