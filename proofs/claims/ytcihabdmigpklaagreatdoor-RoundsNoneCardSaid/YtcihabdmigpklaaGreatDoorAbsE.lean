/-
  A library of our own, several texts in one: an abstract store for the model, and runs over it. Nothing here speaks of any program. No conditions.
-/
import Derived.Test.YtcihabdmigpklaaGreatDoorAbsC
import Derived.Carry
import Derived.Test.YtcihabdmigpklaaGreatDoorAbsD
set_option linter.unusedSimpArgs false
set_option linter.unusedVariables false
/-
  What a statement's arguments give an abstract run: numbers, strings, flat structs and slices of these; and that they read behind the call as before.
-/
namespace Go.Abs
open Go Go.ChangeShapes

inductive AK where
  | bool
  | int (k : IntKind)
  | str
  deriving DecidableEq

def KS : AK → S → Prop
  | .bool, .bool _ => True
  | .int k, .int q n => q = k ∧ (Lit.int k n).wf = true
  | .str, .str l => l.length ≤ maxLen
  | _, _ => False

def flatF (P : Program) (g : TypeId → Option (List AK)) : List Field → Nat → Option (List AK)
  | [], _ => some []
  | f :: fs, off => if f.offset = off then
      match g f.type with
      | none => none
      | some ks => if ks.length = P.cellsOf f.type then (flatF P g fs (off + ks.length)).map (ks ++ ·) else none
    else none

/-- The kinds of a flat type's cells. -/
def flatK (P : Program) : Nat → TypeId → Option (List AK)
  | 0, _ => none
  | n + 1, t => match P.underlying t with
    | some .bool => some [.bool]
    | some (.int k) => some [.int k]
    | some .string => some [.str]
    | some (.struct fs) => match flatF P (flatK P n) fs.toList 0 with
      | none => none
      | some ks => if ks.length = P.cellsOf t then some ks else none
    | some (.array m e) => match flatK P n e with
      | none => none
      | some ks => if ks.length = P.cellsOf e ∧ P.cellsOf t = m * ks.length then some (List.replicate m ks).flatten else none
    | _ => none

section
variable {H : Type} {enc : TypeId × Value → H} {P : Program} {w : World} {base : Nat} {spare : Nat → Bool} {held : Bool}

theorem flat_fields {cs : List Value} {g : TypeId → Option (List AK)}
    (hg : ∀ (off : Nat) (t : TypeId) (ks : List AK) (m : Nat) (x : DataW H × List MemPlace), DataW.trod enc P w base spare held m t ((cs.drop off).take (P.cellsOf t)) = some x → g t = some ks → ∃ xs : List S, All2 KS ks xs ∧ ∀ ι, All2 (SRel ι) xs ((cs.drop off).take (P.cellsOf t))) :
    ∀ (fs : List Field) (off : Nat) (ks : List AK), flatF P g fs off = some ks → (∀ f ∈ fs, ∃ m x, DataW.trod enc P w base spare held m f.type ((cs.drop f.offset).take (P.cellsOf f.type)) = some x) →
      ∃ xs : List S, All2 KS ks xs ∧ ∀ ι, All2 (SRel ι) xs ((cs.drop off).take ks.length) := by
  intro fs
  induction fs with
  | nil =>
    intro off ks h _
    cases h
    exact ⟨[], .nil, fun ι => by simpa using All2.nil⟩
  | cons f fs ih =>
    intro off ks h hx
    unfold flatF at h
    split at h
    · rename_i ho
      subst ho
      split at h
      · cases h
      · rename_i k1 hk1
        split at h
        · rename_i hl
          rw [Option.map_eq_some_iff] at h
          obtain ⟨k2, hk2, rfl⟩ := h
          obtain ⟨m, x, hx1⟩ := hx f List.mem_cons_self
          obtain ⟨x1, a1, b1⟩ := hg f.offset f.type k1 m x hx1 hk1
          obtain ⟨x2, a2, b2⟩ := ih (f.offset + k1.length) k2 hk2 fun f' hf' => hx f' (List.mem_cons_of_mem _ hf')
          refine ⟨x1 ++ x2, forall2_append a1 a2, fun ι => ?_⟩
          rw [List.length_append, List.take_add, List.drop_drop]
          have b1' := b1 ι
          rw [← hl] at b1'
          exact forall2_append b1' (b2 ι)
        · cases h
    · cases h

theorem flat_rows {cs : List Value} {ks : List AK} (c : Nat) (hc : ks.length = c) :
    ∀ (m off : Nat), (∀ i, i < m → ∃ xs : List S, All2 KS ks xs ∧ ∀ ι, All2 (SRel ι) xs ((cs.drop (off + i * c)).take c)) →
      ∃ xs : List S, All2 KS (List.replicate m ks).flatten xs ∧ ∀ ι, All2 (SRel ι) xs ((cs.drop off).take (m * c)) := by
  intro m
  induction m with
  | zero => intro off _; exact ⟨[], .nil, fun ι => by simpa using All2.nil⟩
  | succ m ih =>
    intro off h
    obtain ⟨x1, a1, b1⟩ := h 0 (by omega)
    obtain ⟨x2, a2, b2⟩ := ih (off + c) fun i hi => by
      have := h (i + 1) (by omega)
      rwa [show off + (i + 1) * c = off + c + i * c by rw [Nat.add_mul]; omega] at this
    refine ⟨x1 ++ x2, ?_, fun ι => ?_⟩
    · rw [List.replicate_succ, List.flatten_cons]
      exact forall2_append a1 a2
    · rw [show (m + 1) * c = c + m * c by rw [Nat.add_mul]; omega, List.take_add, List.drop_drop]
      have b1' := b1 ι
      rw [Nat.zero_mul, Nat.add_zero] at b1'
      exact forall2_append b1' (b2 ι)

theorem flat_trod : ∀ (n m : Nat) (t : TypeId) (cs : List Value) (x : DataW H × List MemPlace) (ks : List AK), DataW.trod enc P w base spare held m t cs = some x → flatK P n t = some ks →
    ∃ xs : List S, All2 KS ks xs ∧ ∀ ι, All2 (SRel ι) xs cs := by
  intro n
  induction n with
  | zero => intro m t cs x ks _ h; cases h
  | succ n ih =>
    intro m t cs x ks hx h
    unfold flatK at h
    split at h
    · rename_i ht
      cases h
      obtain ⟨b, rfl, _⟩ := DataW.trod_bool ht hx
      exact ⟨[.bool b], .cons trivial .nil, fun ι => .cons rfl .nil⟩
    · rename_i k ht
      cases h
      obtain ⟨b, rfl, _, hw⟩ := DataW.trod_int ht hx
      exact ⟨[.int k b], .cons ⟨rfl, hw⟩ .nil, fun ι => .cons rfl .nil⟩
    · rename_i ht
      cases h
      obtain ⟨s, rfl, _, hw⟩ := DataW.trod_string ht hx
      exact ⟨[.str s.data.toList], .cons (by simpa [KS] using hw) .nil, fun ι => .cons ⟨s, rfl, rfl⟩ .nil⟩
    · rename_i fs ht
      split at h
      · cases h
      · rename_i k1 hk1
        split at h
        · rename_i hl
          cases h
          obtain ⟨xs, m', _, _, hcl, hxl, hxs⟩ := DataW.trod_struct ht hx
          obtain ⟨ys, a, b⟩ := flat_fields (cs := cs) (g := flatK P n) (fun off t ks m x h1 h2 => ih m t _ x ks h1 h2) fs.toList 0 ks hk1 fun f hf => by
            obtain ⟨i, hi⟩ := List.getElem?_of_mem hf
            have hi' : fs[i]? = some f := by simpa using hi
            have h2 := hxs i f hi'
            have h3 : i < xs.length := by rw [hxl]; exact (Array.getElem?_eq_some_iff.1 hi').1
            rw [List.getElem?_eq_getElem h3] at h2
            exact ⟨m', _, h2⟩
          refine ⟨ys, a, fun ι => ?_⟩
          have := b ι
          rwa [List.drop_zero, hl, ← hcl, List.take_length] at this
        · cases h
    · rename_i q e ht
      split at h
      · cases h
      · rename_i k1 hk1
        split at h
        · rename_i hl
          cases h
          obtain ⟨xs, m', _, _, hcl, hxl, hxs⟩ := DataW.trod_array ht hx
          obtain ⟨ys, a, b⟩ := flat_rows (cs := cs) (ks := k1) (P.cellsOf e) hl.1 q 0 fun i hi => by
            have h2 := hxs i hi
            have h3 : i < xs.length := by rw [hxl]; exact hi
            rw [List.getElem?_eq_getElem h3] at h2
            obtain ⟨zs, a, b⟩ := ih m' e _ _ k1 h2 hk1
            exact ⟨zs, a, fun ι => by rw [Nat.zero_add]; exact b ι⟩
          refine ⟨ys, a, fun ι => ?_⟩
          have := b ι
          rwa [List.drop_zero, ← hl.1, ← hl.2, ← hcl, List.take_length] at this
        · cases h
    · cases h

/-- A read-only argument's block: nothing is asked of an empty one. -/
def argBlk (vs : List S) : Blk := match vs with
  | [] => .dead
  | x :: l => .cells false (x :: l)

theorem argBlk_get {vs : List S} {j : Nat} {x : S} (h : vs[j]? = some x) : argBlk vs = .cells false vs := by
  cases vs with
  | nil => simp at h
  | cons a l => rfl

theorem argBlk_not_live (vs : List S) : ¬ live (some (argBlk vs)) := by
  cases vs <;> exact fun h => h

theorem cell_at {b : Nat} {c : Array Value} {el : TypeId} {fz : Nat × Nat} (hb : w.heap[b]? = some (.cells c el fz)) (i j : Nat) {o : Nat} : w.cell? (((⟨b, o, none⟩ : Addr).add i).add j) = c[o + i + j]? := by
  have h : ((⟨b, o, none⟩ : Addr).add i).add j = ⟨b, o + i + j, none⟩ := by
    unfold Addr.add
    split <;> split <;> simp_all
  rw [h]
  unfold World.cell?
  simp [hb]

/-- A slice argument of flat elements. -/
theorem open_flats {r : Reach} {b0 : Nat} {t e : TypeId} {ks : List AK} {n : Nat} {v : Value} {d : DataW H} {ps : List MemPlace} (ht : P.underlying t = some (.slice e)) (hk : flatK P n e = some ks) (hc : P.cellsOf e = ks.length)
    (hval : Value.okWide P w r b0 t v) (hd : DataW.Trod enc P w base spare held t v d ps) :
    v = .slice none 0 0 ∨ ∃ (b o cap : Nat) (rows : List (List S)), v = .slice (some ⟨b, o, none⟩) rows.length cap ∧ (rows.length ≤ cap ∧ rows.length < 9223372036854775808) ∧ (∀ x ∈ rows, All2 KS ks x) ∧ ∃ L : Loc, L.b = b ∧ L.base = o ∧ ∀ ι, BlkRel ι L w (argBlk rows.flatten) := by
  have hv : Cell.okWide P w r b0 t v := by
    unfold Value.okWide at hval
    rw [ht] at hval
    exact hval
  obtain ⟨fuel, hf⟩ := hd
  have hv' : Cell.ok P w r b0 t v := by
    unfold Cell.okWide at hv
    rw [ht] at hv
    exact hv
  unfold Cell.ok at hv'
  rw [ht] at hv'
  have hshape : v = .slice none 0 0 ∨ ∃ a len cap, v = .slice (some a) len cap ∧ (cap : Int) ≤ 9223372036854775807 ∧ w.has P r b0 a e cap := by
    split at hv'
    all_goals first | (rename_i he; cases he; done) | skip
    all_goals first | exact .inl rfl | exact hv'.elim | (rename_i he; cases he; exact .inr ⟨_, _, _, rfl, hv'.2.1, hv'.2.2⟩)
  rcases hshape with h0 | ⟨a, len, cap, rfl, hbig, hhas⟩
  · exact .inl h0
  right
  obtain ⟨_, hspot, row, cells, hsh, _⟩ := hhas
  obtain ⟨b, o, sp⟩ := a
  cases hspot
  rcases DataW.trod_slice ht hf with ⟨h0, _⟩ | ⟨a', len', cap', elems, rest, m, _, hcs, _, _, hl, _, hlen, hel, _, _⟩
  · simp [Value.cells] at h0
  · simp only [Value.cells, List.cons.injEq, Value.slice.injEq, Option.some.injEq, and_true] at hcs
    obtain ⟨rfl, rfl, rfl⟩ := hcs
    unfold World.shape? at hsh
    split at hsh
    · rename_i c el fz hb
      have hone : ∀ i, i < len → ∃ xs : List S, All2 KS ks xs ∧ ∀ j, j < ks.length → ∃ x v, xs[j]? = some x ∧ c[o + (i * ks.length + j)]? = some v ∧ ∀ ι, SRel ι x v := by
        intro i hi
        have h1 := hel i hi
        rw [List.getElem?_eq_getElem (by omega), Option.bind_eq_some_iff] at h1
        obtain ⟨cs, hcs, h1⟩ := h1
        obtain ⟨xs, a1, a2⟩ := flat_trod n m e cs _ ks h1 hk
        refine ⟨xs, a1, fun j hj => ?_⟩
        have hcs' := World.cells?_some hcs
        obtain ⟨_, hcl, hcg⟩ := hcs'
        have hx : j < xs.length := by rw [← forall2_length a1]; exact hj
        obtain ⟨y, hy, _⟩ := forall2_get (a2 fun _ => none) j xs[j] (List.getElem?_eq_getElem hx)
        refine ⟨xs[j], y, List.getElem?_eq_getElem hx, ?_, fun ι => ?_⟩
        · have h3 := hcg j (by rw [hc]; exact hj)
          rw [hy, hc] at h3
          rw [← h3, ← Nat.add_assoc]
          exact (cell_at hb _ _).symm
        · obtain ⟨y', hy', hr⟩ := forall2_get (a2 ι) j xs[j] (List.getElem?_eq_getElem hx)
          rw [hy] at hy'
          cases hy'
          exact hr
      have hrows : ∀ q, q ≤ len → ∃ rows : List (List S), rows.length = q ∧ (∀ x ∈ rows, All2 KS ks x) ∧ ∀ j, j < q * ks.length → ∃ x v, rows.flatten[j]? = some x ∧ c[o + j]? = some v ∧ ∀ ι, SRel ι x v := by
        intro q
        induction q with
        | zero => intro _; exact ⟨[], rfl, fun x h => (by cases h), fun j hj => by simp at hj⟩
        | succ q ih =>
          intro hq
          obtain ⟨rows, h1, h2, h3⟩ := ih (by omega)
          obtain ⟨xs, a1, a2⟩ := hone q (by omega)
          have hfl : rows.flatten.length = q * ks.length := by
            clear h3 ih hq a2
            subst h1
            induction rows with
            | nil => simp
            | cons r l ih =>
              rw [List.flatten_cons, List.length_append, ih (fun x hx => h2 x (List.mem_cons_of_mem _ hx)), ← forall2_length (h2 r List.mem_cons_self), List.length_cons, Nat.add_mul]
              omega
          refine ⟨rows ++ [xs], by simp [h1], fun x hx => ?_, fun j hj => ?_⟩
          · rw [List.mem_append, List.mem_singleton] at hx
            rcases hx with hx | rfl
            · exact h2 x hx
            · exact a1
          · rw [List.flatten_append, List.flatten_singleton]
            rcases Nat.lt_or_ge j (q * ks.length) with hj' | hj'
            · rw [List.getElem?_append_left (by omega)]
              exact h3 j hj'
            · rw [List.getElem?_append_right (by omega), hfl]
              obtain ⟨x, v, e1, e2, e3⟩ := a2 (j - q * ks.length) (by rw [Nat.add_mul] at hj; omega)
              refine ⟨x, v, e1, ?_, e3⟩
              rwa [show q * ks.length + (j - q * ks.length) = j by omega] at e2
      obtain ⟨rows, h1, h2, h3⟩ := hrows len (Nat.le_refl _)
      refine ⟨b, o, cap, rows, by rw [h1], ⟨by omega, by omega⟩, h2, ⟨b, o, c.size, 0⟩, rfl, rfl, fun ι => ?_⟩
      have hfl : ∀ j x, rows.flatten[j]? = some x → j < len * ks.length := by
        intro j x hj
        have hj' := (List.getElem?_eq_some_iff.1 hj).1
        have : rows.flatten.length = rows.length * ks.length := by
          clear h3 hj hj' h1
          induction rows with
          | nil => simp
          | cons r l ih =>
            rw [List.flatten_cons, List.length_append, ih (fun x hx => h2 x (List.mem_cons_of_mem _ hx)), ← forall2_length (h2 r List.mem_cons_self), List.length_cons, Nat.add_mul]
            omega
        rw [this, h1] at hj'
        exact hj'
      cases hfr : rows.flatten with
      | nil => trivial
      | cons y ys =>
        refine ⟨c, el, fz, hb, rfl, ?_, ?_, fun h => by cases h⟩
        · have hlast : rows.flatten[ys.length]? ≠ none := by
            rw [hfr]
            simp
          cases hz : rows.flatten[ys.length]? with
          | none => exact absurd hz hlast
          | some z =>
            obtain ⟨x, v, _, e2, _⟩ := h3 ys.length (hfl _ _ hz)
            have := (Array.getElem?_eq_some_iff.1 e2).1
            simp only [List.length_cons]
            omega
        · intro j x hj
          rw [← hfr] at hj
          obtain ⟨x', v, e1, e2, e3⟩ := h3 j (hfl _ _ hj)
          rw [hj] at e1
          cases e1
          exact ⟨v, e2, e3 ι⟩
    · cases hsh

/-- What arguments give. -/
def Inp (W : World) (σ : St) (vs : List Value) (ts : List T) : Prop :=
  ∃ ι : Inj, Rel ι σ.get W ∧ σ.wf ∧ (∀ i, σ.size ≤ i → ι i = none) ∧ (∀ i, ¬ live (σ.get i)) ∧ All2 (TRel ι) ts vs

theorem Inp.nil (W : World) : Inp W St.empty [] [] :=
  ⟨fun _ => none, ⟨(fun i L b h => by cases h), (fun i j L M h => by cases h), (fun i n vs h => by cases h)⟩, St.wf_empty, fun _ _ => rfl, fun _ h => h, .nil⟩

theorem Inp.flat {W : World} {σ : St} {vs : List Value} {ts : List T} (h : Inp W σ vs ts) {v : Value} {x : S} (hx : ∀ ι, SRel ι x v) : Inp W σ (v :: vs) (.v (.s x) :: ts) := by
  obtain ⟨ι, h1, h2, h3, h4, h5⟩ := h
  exact ⟨ι, h1, h2, h3, h4, .cons (hx ι) h5⟩

theorem Inp.agg {W : World} {σ : St} {vs : List Value} {ts : List T} (h : Inp W σ vs ts) {cs : List Value} {xs : List S} (hx : ∀ ι, All2 (SRel ι) xs cs) : Inp W σ (.agg cs.toArray :: vs) (.v (.agg xs) :: ts) := by
  obtain ⟨ι, h1, h2, h3, h4, h5⟩ := h
  exact ⟨ι, h1, h2, h3, h4, .cons ⟨cs, rfl, hx ι⟩ h5⟩

theorem Inp.slice {W : World} {σ : St} {vs : List Value} {ts : List T} (h : Inp W σ vs ts) {b o len cap : Nat} {xs : List S} (hl : len ≤ cap) (L : Loc) (hb : L.b = b) (ho : L.base = o) (hx : ∀ ι, BlkRel ι L W (argBlk xs)) :
    Inp W (σ.push (argBlk xs)) (.slice (some ⟨b, o, none⟩) len cap :: vs) (.v (.s (.sl σ.size 0 len (.known cap))) :: ts) := by
  obtain ⟨ι, h1, h2, h3, h4, h5⟩ := h
  have hle : ι.le (fun i => if i = σ.size then some L else ι i) := by
    intro i M hi
    have : i ≠ σ.size := by
      intro e
      rw [h3 i (by omega)] at hi
      cases hi
    simp [this, hi]
  refine ⟨fun i => if i = σ.size then some L else ι i, ⟨?_, ?_, ?_⟩, St.wf_push h2 _, ?_, ?_, .cons ⟨L, by simp, by rw [hb, ho]; simp, hl⟩ (forall2_mono (fun a c k => k.mono hle) h5)⟩
  · intro i M c hi hc
    by_cases e : i = σ.size
    · subst e
      simp only [if_true] at hi
      cases hi
      rw [St.get_push_same] at hc
      cases hc
      exact hx _
    · simp only [if_neg e] at hi
      rw [St.get_push_ne _ _ e] at hc
      exact (h1.blk i M c hi hc).mono hle
  · intro i j L1 M1 hi hj hli
    exfalso
    by_cases e : i = σ.size
    · subst e
      rw [St.get_push_same] at hli
      exact argBlk_not_live _ hli
    · rw [St.get_push_ne _ _ e] at hli
      exact h4 i hli
  · intro i n vs hg
    by_cases e : i = σ.size
    · subst e; exact ⟨L, by simp⟩
    · rw [St.get_push_ne _ _ e] at hg
      obtain ⟨M, hM⟩ := h1.glob i n vs hg
      exact ⟨M, by simp [e, hM]⟩
  · intro i hi
    rw [St.size_push] at hi
    simp only [if_neg (show i ≠ σ.size by omega)]
    exact h3 i (by omega)
  · intro i hli
    by_cases e : i = σ.size
    · subst e
      rw [St.get_push_same] at hli
      exact argBlk_not_live _ hli
    · rw [St.get_push_ne _ _ e] at hli
      exact h4 i hli

theorem calls_inp {callf : CallF} (hs : CallSound P callf) {f : FuncId} {ts : List T} {vs : List Value} {σ τ : St} {W : World} {b : Bool} (hi : Inp W σ vs ts)
    (h : callf f ts σ = some (B b, τ)) : Calls P f vs.toArray W fun e u => e = .returned (.bool b) ∧ Kept W u := by
  obtain ⟨ι, h1, h2, h3, h4, h5⟩ := hi
  exact calls_of_run hs h h2 h1 (fun i hi _ => h3 i hi) h5 fun i L _ _ => h4 i

theorem kept_same {W u : World} (h : Kept W u) {p : MemPlace} (hp : p.block < W.heap.size) : W.sameAt u p := by
  cases p with
  | cell b o => exact World.cell?_of_block (w := W) (h.2.2.2 b hp)
  | map b => exact h.2.2.2 b hp

/-- What was read reads the same behind the call. -/
theorem trodAll_stays {W u : World} (hl : laidOutB P = true) (hk : Kept W u) :
    ∀ {ts : List TypeId} {vs : List Value} {ds : List (DataW H)} {p : List MemPlace} {sp : Nat → Bool}, DataW.TrodAll enc P W 0 (fun _ => true) true ts vs ds p → (ts.all fun t => P.readableRec t && decide (t < P.types.size)) = true →
      (∀ x ∈ p, x.block < W.heap.size) → (∀ x ∈ p, sp x.block = true) → DataW.TrodAll enc P u 0 sp true ts vs ds p := by
  intro ts
  induction ts with
  | nil =>
    intro vs ds p sp h _ _ _
    cases vs <;> cases ds <;> first | exact h | exact h.elim
  | cons t ts ih =>
    intro vs ds p sp h hr hlt hsp
    cases vs with
    | nil => exact h.elim
    | cons v vs => cases ds with
      | nil => exact h.elim
      | cons d ds =>
        obtain ⟨q, r, h1, h2, rfl⟩ := h
        simp only [List.all_cons, Bool.and_eq_true, decide_eq_true_eq] at hr
        refine ⟨q, r, WideElems.Trod_stays hl hr.1.1 hr.1.2 h1 (fun x hx => ?_) fun x hx => hsp x (List.mem_append_left _ hx), ih h2 hr.2 (fun x hx => hlt x (List.mem_append_right _ hx)) fun x hx => hsp x (List.mem_append_right _ hx), rfl⟩
        have hx' := hlt x (List.mem_append_left _ hx)
        exact kept_same hk hx'
end
end Go.Abs

/-
  Loops by an invariant; rules for slices and their elements.
-/
namespace Go.Abs.F
open Go Go.Abs

theorem loops_inv {f : List T → St → Option (JO × St)} (In : Nat → List T → St → Prop) (Q : JO → St → Prop)
    (step : ∀ k v s, In k v s → (∃ v' s' k', f v s = some (.normal v', s') ∧ k = k' + 1 ∧ In k' v' s') ∨ ∃ j s', f v s = some (j, s') ∧ (∀ v, j ≠ .normal v) ∧ Q j s') :
    ∀ N k v s, In k v s → k < N → ∃ j τ, loops f N v s = some (j, τ) ∧ Q j τ := by
  intro N
  induction N with
  | zero => intro k v s _ h; omega
  | succ N ih =>
    intro k v s hi hk
    rcases step k v s hi with ⟨v', s', k', hf, hk', hi'⟩ | ⟨j, s', hf, hj, hq⟩
    · obtain ⟨j, τ, h, hq⟩ := ih k' v' s' hi' (by omega)
      exact ⟨j, τ, by simp only [loops, hf]; exact h, hq⟩
    · refine ⟨j, s', ?_, hq⟩
      cases j with
      | normal v => exact absurd rfl (hj v)
      | exit i v => simp only [loops, hf]
      | ret r => simp only [loops, hf]

@[simp] theorem aLenSl_sl (b o len : Nat) (c : Cap) : aLenSl (Z (.sl b o len c)) = some (I .i64 len) := nz rfl
@[simp] theorem aLenSl_nils : aLenSl (Z .nils) = some (I .i64 0) := nz rfl
@[simp] theorem aLenSl_emp (i e : Nat) : aLenSl (Z (.emp i e)) = some (I .i64 0) := nz rfl

theorem aIndexSl_int {e b o len : Nat} {c : Cap} {k : IntKind} {n : Int} {j : Nat} (hn : n = j) (h : j < len) : aIndexSl e (Z (.sl b o len c)) (I k n) = some (Z (.ptr b (o + j * e))) := by
  subst hn
  simp [aIndexSl, aIdx, h]

theorem argBlk_load {s : St} {i j : Nat} {vs : List S} {x : S} (h : s.get i = some (argBlk vs)) (hx : vs[j]? = some x) : aLoad1 (Z (.ptr i j)) s.get = some (Z x) := by
  rw [argBlk_get hx] at h
  exact aLoad1_of h hx
end Go.Abs.F
namespace Go.Abs
open Go Go.Abs.F

/-- A slice argument: nil, or its rows one behind the other in this block. -/
def SlOf (a : T) (c : Nat) (rows : List (List S)) : Prop := (a = Z .nils ∧ rows = []) ∨ ∃ cap, rows.length ≤ cap ∧ a = Z (.sl c 0 rows.length (.known cap))

theorem SlOf.len {a : T} {c : Nat} {rows : List (List S)} (h : SlOf a c rows) : aLenSl a = some (I .i64 rows.length) := by
  rcases h with ⟨rfl, rfl⟩ | ⟨cap, _, rfl⟩ <;> rfl

theorem SlOf.index {a : T} {c : Nat} {rows : List (List S)} (h : SlOf a c rows) {k : IntKind} {e j : Nat} {n : Int} (hn : n = j) (hj : j < rows.length) : aIndexSl e a (I k n) = some (Z (.ptr c (j * e))) := by
  rcases h with ⟨rfl, rfl⟩ | ⟨cap, _, rfl⟩
  · simp at hj
  · rw [aIndexSl_int hn hj, Nat.zero_add]

theorem rows_get {rows : List (List S)} {e : Nat} (he : ∀ r ∈ rows, r.length = e) : ∀ (j f : Nat) (r : List S), rows[j]? = some r → f < e → rows.flatten[j * e + f]? = r[f]? := by
  induction rows with
  | nil => intro j f r h; simp at h
  | cons a l ih =>
    intro j f r h hf
    have ha := he a List.mem_cons_self
    rw [List.flatten_cons]
    cases j with
    | zero =>
      simp at h
      subst h
      rw [Nat.zero_mul, Nat.zero_add, List.getElem?_append_left (by omega)]
    | succ j =>
      simp at h
      rw [Nat.add_mul, Nat.one_mul, List.getElem?_append_right (by omega), show j * e + e + f - a.length = j * e + f by omega]
      exact ih (fun r hr => he r (List.mem_cons_of_mem _ hr)) j f r h hf

theorem Inp.dead {W : World} {σ : St} {vs : List Value} {ts : List T} (h : Inp W σ vs ts) : Inp W (σ.push .dead) vs ts := by
  obtain ⟨ι, h1, h2, h3, h4, h5⟩ := h
  have ne : ∀ i L, ι i = some L → i ≠ σ.size := by
    intro i L hi e
    rw [h3 i (by omega)] at hi
    cases hi
  refine ⟨ι, ⟨fun i L b hi hb => ?_, fun i j L M hi hj hl hh => ?_, fun i n vs hg => ?_⟩, St.wf_push h2 _, fun i hi => h3 i (by rw [St.size_push] at hi; omega), fun i hl => ?_, h5⟩
  · rw [St.get_push_ne _ _ (ne i L hi)] at hb
    exact h1.blk i L b hi hb
  · rw [St.get_push_ne _ _ (ne i L hi)] at hl
    exact absurd hl (h4 i)
  · by_cases e : i = σ.size
    · subst e; rw [St.get_push_same] at hg; cases hg
    · rw [St.get_push_ne _ _ e] at hg; exact h1.glob i n vs hg
  · by_cases e : i = σ.size
    · subst e
      rw [St.get_push_same] at hl
      exact hl
    · rw [St.get_push_ne _ _ e] at hl
      exact h4 i hl

theorem Inp.flats2 {H : Type} {enc : TypeId × Value → H} {P : Program} {base b0 : Nat} {spare : Nat → Bool} {hd : Bool} {W : World} {σ : St} {vs : List Value} {ts : List T} (h : Inp W σ vs ts)
    {r : Reach} {t e : TypeId} {ks : List AK} {n : Nat} {v : Value} {d : DataW H} {ps : List MemPlace} (ht : P.underlying t = some (.slice e)) (hk : flatK P n e = some ks) (hc : P.cellsOf e = ks.length)
    (hval : Value.okWide P W r b0 t v) (hdd : DataW.Trod enc P W base spare hd t v d ps) :
    ∃ rows : List (List S), (∀ x ∈ rows, All2 KS ks x) ∧ ∃ a, SlOf a σ.size rows ∧ rows.length < 9223372036854775808 ∧ Inp W (σ.push (argBlk rows.flatten)) (v :: vs) (a :: ts) := by
  rcases open_flats ht hk hc hval hdd with rfl | ⟨b, o, cap, rows, rfl, ⟨hl, hb63⟩, hr, L, hb, ho, hx⟩
  · exact ⟨[], (fun x hx => by cases hx), Z .nils, .inl ⟨rfl, rfl⟩, by simp, h.dead.flat (x := .nils) fun _ => rfl⟩
  · exact ⟨rows, hr, _, .inr ⟨cap, hl, rfl⟩, hb63, h.slice hl L hb ho hx⟩

theorem Inp.flats {H : Type} {enc : TypeId × Value → H} {P : Program} {base b0 : Nat} {spare : Nat → Bool} {hd : Bool} {W : World} {σ : St} {vs : List Value} {ts : List T} (h : Inp W σ vs ts)
    {r : Reach} {t e : TypeId} {ks : List AK} {n : Nat} {v : Value} {d : DataW H} {ps : List MemPlace} (ht : P.underlying t = some (.slice e)) (hk : flatK P n e = some ks) (hc : P.cellsOf e = ks.length)
    (hval : Value.okWide P W r b0 t v) (hdd : DataW.Trod enc P W base spare hd t v d ps) :
    ∃ rows : List (List S), (∀ x ∈ rows, All2 KS ks x) ∧ ∃ a, SlOf a σ.size rows ∧ Inp W (σ.push (argBlk rows.flatten)) (v :: vs) (a :: ts) := by
  obtain ⟨rows, h1, a, h2, _, h3⟩ := Inp.flats2 h ht hk hc hval hdd
  exact ⟨rows, h1, a, h2, h3⟩

theorem KS.int {k : IntKind} {x : S} (h : KS (.int k) x) : ∃ n, x = .int k n ∧ (Lit.int k n).wf = true := by
  cases x <;> first | exact h.elim | (obtain ⟨rfl, hw⟩ := h; exact ⟨_, rfl, hw⟩)

theorem ints_of {ks : List IntKind} {r : List S} (h : All2 KS (ks.map .int) r) : ∃ ns : List Int, r = List.zipWith S.int ks ns ∧ ns.length = ks.length ∧ ∀ (j : Nat) (k : IntKind) (n : Int), ks[j]? = some k → ns[j]? = some n → (Lit.int k n).wf = true := by
  induction ks generalizing r with
  | nil => cases h; exact ⟨[], rfl, rfl, fun j k n h => by simp at h⟩
  | cons k ks ih =>
    cases h with
    | cons a b =>
      obtain ⟨n, rfl, hw⟩ := KS.int a
      obtain ⟨ns, rfl, hl, hh⟩ := ih b
      refine ⟨n :: ns, rfl, by simp [hl], fun j k' n' h1 h2 => ?_⟩
      cases j with
      | zero => simp at h1 h2; subst h1; subst h2; exact hw
      | succ j => exact hh j k' n' (by simpa using h1) (by simpa using h2)
end Go.Abs
