/-
  All operations that read temporaries alone.
-/
import Derived.Test.YtgecidicpdobfaaDoorAbsPure5
namespace Go.Abs
open Go
section
variable {P : Program} {ι : Inj} {w : World}

theorem pieceArr_run {t e : TypeId} {k n : Nat} {x : T} {u : Value} {lo hi mx : Option T} {lo' hi' mx' : Option Value} {r : T} (hu : P.underlying t = some (.array k e)) (hn : szOf P e = some n) (hx : TRel ι x u)
    (h1 : ORel ι lo lo') (h2 : ORel ι hi hi') (h3 : ORel ι mx mx') (h : aPieceArr k n x lo hi mx = some r) :
    ∃ v, (Instr.sliceAt t u lo' hi' mx').run P w = .ok v w ∧ TRel ι r v := by
  unfold aPieceArr at h
  split at h
  · rename_i b o
    split at h
    · rename_i l h' m hb
      cases h
      obtain ⟨L, hL, rfl⟩ := hx
      obtain ⟨hr, hl, hh, hm, hmn⟩ := aBounds_run (P := P) (w := w) (ι := ι) (cap := k) h1 h2 h3 hb (Nat.le_refl _) (Nat.le_refl _) false
      have hmm : (if mx.isSome then m else k) = m := by
        cases mx with
        | none => simp [hmn rfl]
        | some _ => rfl
      rw [hmm] at hr
      refine ⟨.slice (some (if m = l then ⟨L.b, L.base + o, none⟩ else (⟨L.b, L.base + o, none⟩ : Addr).add (l * n))) (h' - l) (m - l), ?_, L, hL, ?_, by omega⟩
      · simp only [Instr.sliceAt, run_bind, run_und hu, Instr.sureAddr, run_pure, hr, run_sz hn]
      · by_cases e : m = l
        · simp [e]
        · simp only [if_neg e, add_eq, Nat.add_assoc]
    · cases h
  · cases h

theorem fieldAddr_run {s : TypeId} {fs : Array Field} {f n : Nat} {fd : Field} {x : T} {u : Value} {r : T} (hu : P.underlying s = some (.struct fs)) (hf : fs[f]? = some fd) (hn : szOf P fd.type = some (n + 1))
    (hx : TRel ι x u) (h : aFieldAddr fd.offset x = some r) : ∃ v, (Instr.fieldAt s u f).run P w = .ok v w ∧ TRel ι r v := by
  unfold aFieldAddr at h
  split at h
  · cases h
    obtain ⟨L, hL, rfl⟩ := hx
    refine ⟨_, ?_, ptr_rel hL rfl rfl⟩
    simp only [Instr.fieldAt, run_bind, run_und hu, hf, Instr.sureAddr, run_pure, fieldPlace, run_sz hn]
    rw [if_neg (by omega)]
    simp only [run_pure, add_eq, Nat.add_assoc]
  · cases h

theorem field_run {s : TypeId} {fs : Array Field} {f : Nat} {fd : Field} {k : Option Nat} {x : T} {u : Value} {r : T} (hu : P.underlying s = some (.struct fs)) (hf : fs[f]? = some fd) (hk : pkOf P fd.type = some k)
    (hx : TRel ι x u) (h : aField k fd.offset x = some r) : ∃ v, (Instr.field s u f).run P w = .ok v w ∧ TRel ι r v := by
  unfold aField at h
  split at h
  · rename_i xs
    split at h
    · rename_i y hy
      cases h
      obtain ⟨cs, rfl, hcs⟩ := hx
      rw [← aPartK_eq hk] at hy
      obtain ⟨v, hv, r⟩ := aPart_run hcs hy w
      exact ⟨v, by simp only [Instr.field, run_bind, run_und hu, hf, asAgg, run_pure, hv], r⟩
    · cases h
  · cases h

theorem indexSl_run {t e : TypeId} {n : Nat} {x i : T} {u v : Value} {r : T} (hu : P.underlying t = some (.slice e)) (hn : szOf P e = some n) (hx : TRel ι x u) (hi : TRel ι i v)
    (h : aIndexSl n x i = some r) : ∃ z, (Instr.indexAt t u v).run P w = .ok z w ∧ TRel ι r z := by
  unfold aIndexSl at h
  split at h
  · rename_i b o len cap
    split at h
    · rename_i j hj
      cases h
      obtain ⟨k, i, rfl, hi0, hi1, rfl⟩ := aIdx_of hi hj
      have hs : ∃ L c, ι b = some L ∧ u = .slice (some ⟨L.b, L.base + o, none⟩) len c := by
        cases cap with
        | known c => obtain ⟨L, hL, e, _⟩ := hx; exact ⟨L, _, hL, e⟩
        | grown g => obtain ⟨L, c, hL, e, _⟩ := hx; exact ⟨L, _, hL, e⟩
      obtain ⟨L, c, hL, rfl⟩ := hs
      refine ⟨_, ?_, ptr_rel hL rfl rfl⟩
      simp only [Instr.indexAt, asIntOf, run_bind, run_pure, run_und hu]
      rw [if_pos ⟨hi0, hi1⟩]
      simp only [run_bind, run_sz hn, run_pure, add_eq, Nat.add_assoc]
    · cases h
  · cases h

theorem indexArr_run {t e : TypeId} {m n : Nat} {x i : T} {u v : Value} {r : T} (hu : P.underlying t = some (.array m e)) (hn : szOf P e = some n) (hx : TRel ι x u) (hi : TRel ι i v)
    (h : aIndexArr m n x i = some r) : ∃ z, (Instr.indexAt t u v).run P w = .ok z w ∧ TRel ι r z := by
  unfold aIndexArr at h
  split at h
  · rename_i b o
    split at h
    · rename_i j hj
      cases h
      obtain ⟨k, i, rfl, hi0, hi1, rfl⟩ := aIdx_of hi hj
      obtain ⟨L, hL, rfl⟩ := hx
      refine ⟨_, ?_, ptr_rel hL rfl rfl⟩
      simp only [Instr.indexAt, asIntOf, run_bind, run_pure, run_und hu, Instr.sureAddr]
      rw [if_pos ⟨hi0, hi1⟩]
      simp only [run_bind, run_sz hn, run_pure, add_eq, Nat.add_assoc]
    · cases h
  · cases h

theorem atStr_run {t : TypeId} {x i : T} {u v : Value} {r : T} (hu : P.underlying t = some .string) (hx : TRel ι x u) (hi : TRel ι i v)
    (h : aAtStr x i = some r) : ∃ z, (Instr.index t u v).run P w = .ok z w ∧ TRel ι r z := by
  unfold aAtStr at h
  split at h
  · rename_i l
    split at h
    · rename_i j hj
      split at h
      · rename_i b hb
        cases h
        obtain ⟨k, i, rfl, hi0, hi1, rfl⟩ := aIdx_of hi hj
        obtain ⟨s, rfl, rfl⟩ := hx
        refine ⟨.int .u8 b.toNat, ?_, rfl⟩
        have hlt : i.toNat < s.size := by rw [size_data]; omega
        have e : s[i.toNat]? = some b := by
          rw [ByteArray.getElem?_lt' s i.toNat hlt]
          rw [← hb]
          rw [List.getElem?_eq_getElem (by rw [← size_data]; exact hlt)]
          rfl
        simp only [Instr.index, asIntOf, run_bind, run_pure, run_und hu, if_pos hi0, e]
      · cases h
    · cases h
  · cases h

theorem atArr_run {t e : TypeId} {m n : Nat} {k : Option Nat} {x i : T} {u v : Value} {r : T} (hu : P.underlying t = some (.array m e)) (hn : szOf P e = some n) (hk : pkOf P e = some k) (hx : TRel ι x u) (hi : TRel ι i v)
    (h : aAtArr k m n x i = some r) : ∃ z, (Instr.index t u v).run P w = .ok z w ∧ TRel ι r z := by
  unfold aAtArr at h
  split at h
  · rename_i xs
    split at h
    · rename_i j hj
      split at h
      · rename_i y hy
        cases h
        obtain ⟨kk, i, rfl, hi0, hi1, rfl⟩ := aIdx_of hi hj
        obtain ⟨cs, rfl, hcs⟩ := hx
        rw [← aPartK_eq hk] at hy
        obtain ⟨v, hv, r⟩ := aPart_run hcs hy w
        refine ⟨v, ?_, r⟩
        simp only [Instr.index, asIntOf, run_bind, run_pure, run_und hu]
        rw [if_pos ⟨hi0, hi1⟩]
        simp only [run_bind, run_sz hn, hv]
      · cases h
    · cases h
  · cases h

theorem clo_run (f : FuncId) : ∀ (l : List T) (cs : List Value) (acc : List (Nat × Nat)) (ds : List Value) (r : T), All2 (TRel ι) l cs →
    All2 (fun (p : Nat × Nat) (u : Value) => ∃ L, ι p.1 = some L ∧ u = .pointer (some ⟨L.b, L.base + p.2, none⟩)) acc.reverse ds → aClo f l acc = some r → TRel ι r (.func (.func f) #[] (ds ++ cs).toArray) := by
  intro l
  induction l with
  | nil =>
    intro cs acc ds r hl ha h
    cases hl
    cases h
    rw [List.append_nil]
    exact ⟨ds, rfl, ha⟩
  | cons x l ih =>
    intro cs acc ds r hl ha h
    cases hl with
    | @cons _ v _ cs hx hl =>
      cases x with
      | any => cases h
      | tup _ => cases h
      | v x => cases x with
        | agg _ => cases h
        | s x =>
          cases x <;> first | (cases h; done) | skip
          rename_i i o
          obtain ⟨L, hL, rfl⟩ := hx
          have := ih cs ((i, o) :: acc) (ds ++ [.pointer (some ⟨L.b, L.base + o, none⟩)]) r hl (by
            rw [List.reverse_cons]
            exact forall2_append ha (.cons ⟨L, hL, rfl⟩ .nil)) h
          simpa using this

theorem fold_run (f : T → T → Option T) (g : Value → Value → Sem Value) (hfg : ∀ (x y r : T) (u v : Value), TRel ι x u → TRel ι y v → f x y = some r → ∃ z, (g u v).run P w = .ok z w ∧ TRel ι r z) :
    ∀ (l : List T) (x r : T) (u : Value) (vs : List Value), All2 (TRel ι) l vs → TRel ι x u → aFold f x l = some r → ∃ z, (vs.foldlM g u).run P w = .ok z w ∧ TRel ι r z := by
  intro l
  induction l with
  | nil => intro x r u vs hl hx h; cases hl; cases h; exact ⟨u, rfl, hx⟩
  | cons y l ih =>
    intro x r u vs hl hx h
    cases hl with
    | @cons _ v _ vs hy hl =>
      simp only [aFold] at h
      split at h
      · rename_i z hz
        obtain ⟨z', h1, h2⟩ := hfg x y z u v hx hy hz
        obtain ⟨z'', h3, h4⟩ := ih z r z' vs hl h2 h
        exact ⟨z'', by simp only [List.foldlM_cons, run_bind, h1, h3], h4⟩
      · cases h

theorem min2_run (x y r : T) (u v : Value) (hx : TRel ι x u) (hy : TRel ι y v) (h : aMin2 x y = some r) : ∃ z, (Builtin.min2 u v).run P w = .ok z w ∧ TRel ι r z := by
  unfold aMin2 at h
  split at h
  · simp only [TRel, VRel, SRel] at hx hy; subst hx hy; cases h; exact ⟨_, rfl, rfl⟩
  · cases h
theorem max2_run (x y r : T) (u v : Value) (hx : TRel ι x u) (hy : TRel ι y v) (h : aMax2 x y = some r) : ∃ z, (Builtin.max2 u v).run P w = .ok z w ∧ TRel ι r z := by
  unfold aMax2 at h
  split at h
  · simp only [TRel, VRel, SRel] at hx hy; subst hx hy; cases h; exact ⟨_, rfl, rfl⟩
  · cases h

theorem all2_map {α : Type} {β γ : Type} {R : β → γ → Prop} {f : α → β} {g : α → γ} : ∀ {l : List α}, (∀ x ∈ l, R (f x) (g x)) → All2 R (l.map f) (l.map g)
  | [], _ => .nil
  | x :: l, h => .cons (h x (by simp)) (all2_map fun y hy => h y (by simp [hy]))

theorem nil_run {x : T} {u : Value} {r : T} {ρ : Operand → Value} {o : Oper} {a : Operand} (ho : o.op = .nilCheck a) (hu : ρ a = u) (hx : TRel ι x u) (h : aNil x = some r) :
    ∃ v, (execOp ρ o).run P w = .ok (.value v) w ∧ TRel ι r v := by
  unfold aNil at h
  split at h
  · cases h
    obtain ⟨L, hL, e⟩ := hx
    refine ⟨u, ?_, L, hL, e⟩
    simp only [execOp, ho, hu, e, run_pure]
  · cases h
    obtain ⟨cs, e, r⟩ := hx
    refine ⟨u, ?_, cs, e, r⟩
    simp only [execOp, ho, hu, e, run_pure]
  · cases h
end
end Go.Abs
