/-
  A library of our own, several texts in one: an abstract store for the model, and runs over it. Nothing here speaks of any program. No conditions.
-/
import Derived.Test.YtbohejffelipoaaGreatDoorAbsC
import Derived.Carry
import Derived.Test.YtbohejffelipoaaGreatDoorAbsD
import Derived.Lib.LaidTab
import Derived.Below
import Derived.Lib.Bytealg
import Derived.Lib.Join
/-
  What a statement's arguments give an abstract run: numbers, strings, flat structs and slices of these; and that they read behind the call as before.
-/
namespace Go.Abs
open Go Go.ChangeShapes

inductive AK where
  | bool
  | int (k : IntKind)
  | str
  deriving DecidableEq

def KS : AK → S → Prop
  | .bool, .bool _ => True
  | .int k, .int q n => q = k ∧ (Lit.int k n).wf = true
  | .str, .str l => l.length ≤ maxLen
  | _, _ => False

def flatF (P : Program) (g : TypeId → Option (List AK)) : List Field → Nat → Option (List AK)
  | [], _ => some []
  | f :: fs, off => if f.offset = off then
      match g f.type with
      | none => none
      | some ks => if ks.length = P.cellsOf f.type then (flatF P g fs (off + ks.length)).map (ks ++ ·) else none
    else none

def flatK (P : Program) : Nat → TypeId → Option (List AK)
  | 0, _ => none
  | n + 1, t => match P.underlying t with
    | some .bool => some [.bool]
    | some (.int k) => some [.int k]
    | some .string => some [.str]
    | some (.struct fs) => match flatF P (flatK P n) fs.toList 0 with
      | none => none
      | some ks => if ks.length = P.cellsOf t then some ks else none
    | some (.array m e) => match flatK P n e with
      | none => none
      | some ks => if ks.length = P.cellsOf e ∧ P.cellsOf t = m * ks.length then some (List.replicate m ks).flatten else none
    | _ => none

section
variable {H : Type} {enc : TypeId × Value → H} {P : Program} {w : World} {base : Nat} {spare : Nat → Bool} {held : Bool}

theorem flat_fields {cs : List Value} {g : TypeId → Option (List AK)}
    (hg : ∀ (off : Nat) (t : TypeId) (ks : List AK) (m : Nat) (x : DataW H × List MemPlace), DataW.trod enc P w base spare held m t ((cs.drop off).take (P.cellsOf t)) = some x → g t = some ks → ∃ xs : List S, All2 KS ks xs ∧ ∀ ι, All2 (SRel ι) xs ((cs.drop off).take (P.cellsOf t))) :
    ∀ (fs : List Field) (off : Nat) (ks : List AK), flatF P g fs off = some ks → (∀ f ∈ fs, ∃ m x, DataW.trod enc P w base spare held m f.type ((cs.drop f.offset).take (P.cellsOf f.type)) = some x) →
      ∃ xs : List S, All2 KS ks xs ∧ ∀ ι, All2 (SRel ι) xs ((cs.drop off).take ks.length) := by
  intro fs
  induction fs with
  | nil =>
    intro off ks h _
    cases h
    exact ⟨[], .nil, fun ι => by simpa using All2.nil⟩
  | cons f fs ih =>
    intro off ks h hx
    unfold flatF at h
    split at h
    · rename_i ho
      subst ho
      split at h
      · cases h
      · rename_i k1 hk1
        split at h
        · rename_i hl
          rw [Option.map_eq_some_iff] at h
          obtain ⟨k2, hk2, rfl⟩ := h
          obtain ⟨m, x, hx1⟩ := hx f List.mem_cons_self
          obtain ⟨x1, a1, b1⟩ := hg f.offset f.type k1 m x hx1 hk1
          obtain ⟨x2, a2, b2⟩ := ih (f.offset + k1.length) k2 hk2 fun f' hf' => hx f' (List.mem_cons_of_mem _ hf')
          refine ⟨x1 ++ x2, forall2_append a1 a2, fun ι => ?_⟩
          rw [List.length_append, List.take_add, List.drop_drop]
          have b1' := b1 ι
          rw [← hl] at b1'
          exact forall2_append b1' (b2 ι)
        · cases h
    · cases h

theorem flat_rows {cs : List Value} {ks : List AK} (c : Nat) (hc : ks.length = c) :
    ∀ (m off : Nat), (∀ i, i < m → ∃ xs : List S, All2 KS ks xs ∧ ∀ ι, All2 (SRel ι) xs ((cs.drop (off + i * c)).take c)) →
      ∃ xs : List S, All2 KS (List.replicate m ks).flatten xs ∧ ∀ ι, All2 (SRel ι) xs ((cs.drop off).take (m * c)) := by
  intro m
  induction m with
  | zero => intro off _; exact ⟨[], .nil, fun ι => by simpa using All2.nil⟩
  | succ m ih =>
    intro off h
    obtain ⟨x1, a1, b1⟩ := h 0 (by omega)
    obtain ⟨x2, a2, b2⟩ := ih (off + c) fun i hi => by
      have := h (i + 1) (by omega)
      rwa [show off + (i + 1) * c = off + c + i * c by rw [Nat.add_mul]; omega] at this
    refine ⟨x1 ++ x2, ?_, fun ι => ?_⟩
    · rw [List.replicate_succ, List.flatten_cons]
      exact forall2_append a1 a2
    · rw [show (m + 1) * c = c + m * c by rw [Nat.add_mul]; omega, List.take_add, List.drop_drop]
      have b1' := b1 ι
      rw [Nat.zero_mul, Nat.add_zero] at b1'
      exact forall2_append b1' (b2 ι)

theorem flat_trod : ∀ (n m : Nat) (t : TypeId) (cs : List Value) (x : DataW H × List MemPlace) (ks : List AK), DataW.trod enc P w base spare held m t cs = some x → flatK P n t = some ks →
    ∃ xs : List S, All2 KS ks xs ∧ ∀ ι, All2 (SRel ι) xs cs := by
  intro n
  induction n with
  | zero => intro m t cs x ks _ h; cases h
  | succ n ih =>
    intro m t cs x ks hx h
    unfold flatK at h
    split at h
    · rename_i ht
      cases h
      obtain ⟨b, rfl, _⟩ := DataW.trod_bool ht hx
      exact ⟨[.bool b], .cons trivial .nil, fun ι => .cons rfl .nil⟩
    · rename_i k ht
      cases h
      obtain ⟨b, rfl, _, hw⟩ := DataW.trod_int ht hx
      exact ⟨[.int k b], .cons ⟨rfl, hw⟩ .nil, fun ι => .cons rfl .nil⟩
    · rename_i ht
      cases h
      obtain ⟨s, rfl, _, hw⟩ := DataW.trod_string ht hx
      exact ⟨[.str s.data.toList], .cons (by simpa [KS] using hw) .nil, fun ι => .cons ⟨s, rfl, rfl⟩ .nil⟩
    · rename_i fs ht
      split at h
      · cases h
      · rename_i k1 hk1
        split at h
        · rename_i hl
          cases h
          obtain ⟨xs, m', _, _, hcl, hxl, hxs⟩ := DataW.trod_struct ht hx
          obtain ⟨ys, a, b⟩ := flat_fields (cs := cs) (g := flatK P n) (fun off t ks m x h1 h2 => ih m t _ x ks h1 h2) fs.toList 0 ks hk1 fun f hf => by
            obtain ⟨i, hi⟩ := List.getElem?_of_mem hf
            have hi' : fs[i]? = some f := by simpa using hi
            have h2 := hxs i f hi'
            have h3 : i < xs.length := by rw [hxl]; exact (Array.getElem?_eq_some_iff.1 hi').1
            rw [List.getElem?_eq_getElem h3] at h2
            exact ⟨m', _, h2⟩
          refine ⟨ys, a, fun ι => ?_⟩
          have := b ι
          rwa [List.drop_zero, hl, ← hcl, List.take_length] at this
        · cases h
    · rename_i q e ht
      split at h
      · cases h
      · rename_i k1 hk1
        split at h
        · rename_i hl
          cases h
          obtain ⟨xs, m', _, _, hcl, hxl, hxs⟩ := DataW.trod_array ht hx
          obtain ⟨ys, a, b⟩ := flat_rows (cs := cs) (ks := k1) (P.cellsOf e) hl.1 q 0 fun i hi => by
            have h2 := hxs i hi
            have h3 : i < xs.length := by rw [hxl]; exact hi
            rw [List.getElem?_eq_getElem h3] at h2
            obtain ⟨zs, a, b⟩ := ih m' e _ _ k1 h2 hk1
            exact ⟨zs, a, fun ι => by rw [Nat.zero_add]; exact b ι⟩
          refine ⟨ys, a, fun ι => ?_⟩
          have := b ι
          rwa [List.drop_zero, ← hl.1, ← hl.2, ← hcl, List.take_length] at this
        · cases h
    · cases h

def argBlk (vs : List S) : Blk := match vs with
  | [] => .dead
  | x :: l => .cells false (x :: l)

theorem argBlk_not_live (vs : List S) : ¬ live (some (argBlk vs)) := by
  cases vs <;> exact fun h => h

theorem cell_at {b : Nat} {c : Array Value} {el : TypeId} {fz : Nat × Nat} (hb : w.heap[b]? = some (.cells c el fz)) (i j : Nat) {o : Nat} : w.cell? (((⟨b, o, none⟩ : Addr).add i).add j) = c[o + i + j]? := by
  have h : ((⟨b, o, none⟩ : Addr).add i).add j = ⟨b, o + i + j, none⟩ := by
    unfold Addr.add
    split <;> split <;> simp_all
  rw [h]
  unfold World.cell?
  simp [hb]

theorem open_flats {r : Reach} {b0 : Nat} {t e : TypeId} {ks : List AK} {n : Nat} {v : Value} {d : DataW H} {ps : List MemPlace} (ht : P.underlying t = some (.slice e)) (hk : flatK P n e = some ks) (hc : P.cellsOf e = ks.length)
    (hval : Value.okWide P w r b0 t v) (hd : DataW.Trod enc P w base spare held t v d ps) :
    v = .slice none 0 0 ∨ ∃ (b o cap : Nat) (rows : List (List S)), v = .slice (some ⟨b, o, none⟩) rows.length cap ∧ (rows.length ≤ cap ∧ rows.length < 9223372036854775808) ∧ (∀ x ∈ rows, All2 KS ks x) ∧ ∃ L : Loc, L.b = b ∧ L.base = o ∧ ∀ ι, BlkRel ι L w (argBlk rows.flatten) := by
  have hv : Cell.okWide P w r b0 t v := by
    unfold Value.okWide at hval
    rw [ht] at hval
    exact hval
  obtain ⟨fuel, hf⟩ := hd
  have hv' : Cell.ok P w r b0 t v := by
    unfold Cell.okWide at hv
    rw [ht] at hv
    exact hv
  unfold Cell.ok at hv'
  rw [ht] at hv'
  have hshape : v = .slice none 0 0 ∨ ∃ a len cap, v = .slice (some a) len cap ∧ (cap : Int) ≤ 9223372036854775807 ∧ w.has P r b0 a e cap := by
    split at hv'
    all_goals first | (rename_i he; cases he; done) | skip
    all_goals first | exact .inl rfl | exact hv'.elim | (rename_i he; cases he; exact .inr ⟨_, _, _, rfl, hv'.2.1, hv'.2.2⟩)
  rcases hshape with h0 | ⟨a, len, cap, rfl, hbig, hhas⟩
  · exact .inl h0
  right
  obtain ⟨_, hspot, row, cells, hsh, _⟩ := hhas
  obtain ⟨b, o, sp⟩ := a
  cases hspot
  rcases DataW.trod_slice ht hf with ⟨h0, _⟩ | ⟨a', len', cap', elems, rest, m, _, hcs, _, _, hl, _, hlen, hel, _, _⟩
  · simp [Value.cells] at h0
  · simp only [Value.cells, List.cons.injEq, Value.slice.injEq, Option.some.injEq, and_true] at hcs
    obtain ⟨rfl, rfl, rfl⟩ := hcs
    unfold World.shape? at hsh
    split at hsh
    · rename_i c el fz hb
      have hone : ∀ i, i < len → ∃ xs : List S, All2 KS ks xs ∧ ∀ j, j < ks.length → ∃ x v, xs[j]? = some x ∧ c[o + (i * ks.length + j)]? = some v ∧ ∀ ι, SRel ι x v := by
        intro i hi
        have h1 := hel i hi
        rw [List.getElem?_eq_getElem (by omega), Option.bind_eq_some_iff] at h1
        obtain ⟨cs, hcs, h1⟩ := h1
        obtain ⟨xs, a1, a2⟩ := flat_trod n m e cs _ ks h1 hk
        refine ⟨xs, a1, fun j hj => ?_⟩
        have hcs' := World.cells?_some hcs
        obtain ⟨_, hcl, hcg⟩ := hcs'
        have hx : j < xs.length := by rw [← forall2_length a1]; exact hj
        obtain ⟨y, hy, _⟩ := forall2_get (a2 fun _ => none) j xs[j] (List.getElem?_eq_getElem hx)
        refine ⟨xs[j], y, List.getElem?_eq_getElem hx, ?_, fun ι => ?_⟩
        · have h3 := hcg j (by rw [hc]; exact hj)
          rw [hy, hc] at h3
          rw [← h3, ← Nat.add_assoc]
          exact (cell_at hb _ _).symm
        · obtain ⟨y', hy', hr⟩ := forall2_get (a2 ι) j xs[j] (List.getElem?_eq_getElem hx)
          rw [hy] at hy'
          cases hy'
          exact hr
      have hrows : ∀ q, q ≤ len → ∃ rows : List (List S), rows.length = q ∧ (∀ x ∈ rows, All2 KS ks x) ∧ ∀ j, j < q * ks.length → ∃ x v, rows.flatten[j]? = some x ∧ c[o + j]? = some v ∧ ∀ ι, SRel ι x v := by
        intro q
        induction q with
        | zero => intro _; exact ⟨[], rfl, fun x h => (by cases h), fun j hj => by simp at hj⟩
        | succ q ih =>
          intro hq
          obtain ⟨rows, h1, h2, h3⟩ := ih (by omega)
          obtain ⟨xs, a1, a2⟩ := hone q (by omega)
          have hfl : rows.flatten.length = q * ks.length := by
            clear h3 ih hq a2
            subst h1
            induction rows with
            | nil => simp
            | cons r l ih =>
              rw [List.flatten_cons, List.length_append, ih (fun x hx => h2 x (List.mem_cons_of_mem _ hx)), ← forall2_length (h2 r List.mem_cons_self), List.length_cons, Nat.add_mul]
              omega
          refine ⟨rows ++ [xs], by simp [h1], fun x hx => ?_, fun j hj => ?_⟩
          · rw [List.mem_append, List.mem_singleton] at hx
            rcases hx with hx | rfl
            · exact h2 x hx
            · exact a1
          · rw [List.flatten_append, List.flatten_singleton]
            rcases Nat.lt_or_ge j (q * ks.length) with hj' | hj'
            · rw [List.getElem?_append_left (by omega)]
              exact h3 j hj'
            · rw [List.getElem?_append_right (by omega), hfl]
              obtain ⟨x, v, e1, e2, e3⟩ := a2 (j - q * ks.length) (by rw [Nat.add_mul] at hj; omega)
              refine ⟨x, v, e1, ?_, e3⟩
              rwa [show q * ks.length + (j - q * ks.length) = j by omega] at e2
      obtain ⟨rows, h1, h2, h3⟩ := hrows len (Nat.le_refl _)
      refine ⟨b, o, cap, rows, by rw [h1], ⟨by omega, by omega⟩, h2, ⟨b, o, c.size, 0⟩, rfl, rfl, fun ι => ?_⟩
      have hfl : ∀ j x, rows.flatten[j]? = some x → j < len * ks.length := by
        intro j x hj
        have hj' := (List.getElem?_eq_some_iff.1 hj).1
        have : rows.flatten.length = rows.length * ks.length := by
          clear h3 hj hj' h1
          induction rows with
          | nil => simp
          | cons r l ih =>
            rw [List.flatten_cons, List.length_append, ih (fun x hx => h2 x (List.mem_cons_of_mem _ hx)), ← forall2_length (h2 r List.mem_cons_self), List.length_cons, Nat.add_mul]
            omega
        rw [this, h1] at hj'
        exact hj'
      cases hfr : rows.flatten with
      | nil => trivial
      | cons y ys =>
        refine ⟨c, el, fz, hb, rfl, ?_, ?_, fun h => by cases h⟩
        · have hlast : rows.flatten[ys.length]? ≠ none := by
            rw [hfr]
            simp
          cases hz : rows.flatten[ys.length]? with
          | none => exact absurd hz hlast
          | some z =>
            obtain ⟨x, v, _, e2, _⟩ := h3 ys.length (hfl _ _ hz)
            have := (Array.getElem?_eq_some_iff.1 e2).1
            simp only [List.length_cons]
            omega
        · intro j x hj
          rw [← hfr] at hj
          obtain ⟨x', v, e1, e2, e3⟩ := h3 j (hfl _ _ hj)
          rw [hj] at e1
          cases e1
          exact ⟨v, e2, e3 ι⟩
    · cases hsh

def Inp (W : World) (σ : St) (vs : List Value) (ts : List T) : Prop :=
  ∃ ι : Inj, Rel ι σ.get W ∧ σ.wf ∧ (∀ i, σ.size ≤ i → ι i = none) ∧ (∀ i, ¬ live (σ.get i)) ∧ All2 (TRel ι) ts vs

theorem Inp.nil (W : World) : Inp W St.empty [] [] :=
  ⟨fun _ => none, ⟨(fun i L b h => by cases h), (fun i j L M h => by cases h), (fun i n vs h => by cases h)⟩, St.wf_empty, fun _ _ => rfl, fun _ h => h, .nil⟩

theorem Inp.flat {W : World} {σ : St} {vs : List Value} {ts : List T} (h : Inp W σ vs ts) {v : Value} {x : S} (hx : ∀ ι, SRel ι x v) : Inp W σ (v :: vs) (.v (.s x) :: ts) := by
  obtain ⟨ι, h1, h2, h3, h4, h5⟩ := h
  exact ⟨ι, h1, h2, h3, h4, .cons (hx ι) h5⟩

theorem Inp.agg {W : World} {σ : St} {vs : List Value} {ts : List T} (h : Inp W σ vs ts) {cs : List Value} {xs : List S} (hx : ∀ ι, All2 (SRel ι) xs cs) : Inp W σ (.agg cs.toArray :: vs) (.v (.agg xs) :: ts) := by
  obtain ⟨ι, h1, h2, h3, h4, h5⟩ := h
  exact ⟨ι, h1, h2, h3, h4, .cons ⟨cs, rfl, hx ι⟩ h5⟩

theorem Inp.slice {W : World} {σ : St} {vs : List Value} {ts : List T} (h : Inp W σ vs ts) {b o len cap : Nat} {xs : List S} (hl : len ≤ cap) (L : Loc) (hb : L.b = b) (ho : L.base = o) (hx : ∀ ι, BlkRel ι L W (argBlk xs)) :
    Inp W (σ.push (argBlk xs)) (.slice (some ⟨b, o, none⟩) len cap :: vs) (.v (.s (.sl σ.size 0 len (.known cap))) :: ts) := by
  obtain ⟨ι, h1, h2, h3, h4, h5⟩ := h
  have hle : ι.le (fun i => if i = σ.size then some L else ι i) := by
    intro i M hi
    have : i ≠ σ.size := by
      intro e
      rw [h3 i (by omega)] at hi
      cases hi
    simp [this, hi]
  refine ⟨fun i => if i = σ.size then some L else ι i, ⟨?_, ?_, ?_⟩, St.wf_push h2 _, ?_, ?_, .cons ⟨L, by simp, by rw [hb, ho]; simp, hl⟩ (forall2_mono (fun a c k => k.mono hle) h5)⟩
  · intro i M c hi hc
    by_cases e : i = σ.size
    · subst e
      simp only [if_true] at hi
      cases hi
      rw [St.get_push_same] at hc
      cases hc
      exact hx _
    · simp only [if_neg e] at hi
      rw [St.get_push_ne _ _ e] at hc
      exact (h1.blk i M c hi hc).mono hle
  · intro i j L1 M1 hi hj hli
    exfalso
    by_cases e : i = σ.size
    · subst e
      rw [St.get_push_same] at hli
      exact argBlk_not_live _ hli
    · rw [St.get_push_ne _ _ e] at hli
      exact h4 i hli
  · intro i n vs hg
    by_cases e : i = σ.size
    · subst e; exact ⟨L, by simp⟩
    · rw [St.get_push_ne _ _ e] at hg
      obtain ⟨M, hM⟩ := h1.glob i n vs hg
      exact ⟨M, by simp [e, hM]⟩
  · intro i hi
    rw [St.size_push] at hi
    simp only [if_neg (show i ≠ σ.size by omega)]
    exact h3 i (by omega)
  · intro i hli
    by_cases e : i = σ.size
    · subst e
      rw [St.get_push_same] at hli
      exact argBlk_not_live _ hli
    · rw [St.get_push_ne _ _ e] at hli
      exact h4 i hli

theorem calls_inp {callf : CallF} (hs : CallSound P callf) {f : FuncId} {ts : List T} {vs : List Value} {σ τ : St} {W : World} {b : Bool} (hi : Inp W σ vs ts)
    (h : callf f ts σ = some (B b, τ)) : Calls P f vs.toArray W fun e u => e = .returned (.bool b) ∧ Kept W u := by
  obtain ⟨ι, h1, h2, h3, h4, h5⟩ := hi
  exact calls_of_run hs h h2 h1 (fun i hi _ => h3 i hi) h5 fun i L _ _ => h4 i

theorem kept_same {W u : World} (h : Kept W u) {p : MemPlace} (hp : p.block < W.heap.size) : W.sameAt u p := by
  cases p with
  | cell b o => exact World.cell?_of_block (w := W) (h.2.2.2 b hp)
  | map b => exact h.2.2.2 b hp

theorem trodAll_stays {W u : World} (hl : laidOutB P = true) (hk : Kept W u) :
    ∀ {ts : List TypeId} {vs : List Value} {ds : List (DataW H)} {p : List MemPlace} {sp : Nat → Bool}, DataW.TrodAll enc P W 0 (fun _ => true) true ts vs ds p → (ts.all fun t => P.readableRec t && decide (t < P.types.size)) = true →
      (∀ x ∈ p, x.block < W.heap.size) → (∀ x ∈ p, sp x.block = true) → DataW.TrodAll enc P u 0 sp true ts vs ds p := by
  intro ts
  induction ts with
  | nil =>
    intro vs ds p sp h _ _ _
    cases vs <;> cases ds <;> first | exact h | exact h.elim
  | cons t ts ih =>
    intro vs ds p sp h hr hlt hsp
    cases vs with
    | nil => exact h.elim
    | cons v vs => cases ds with
      | nil => exact h.elim
      | cons d ds =>
        obtain ⟨q, r, h1, h2, rfl⟩ := h
        simp only [List.all_cons, Bool.and_eq_true, decide_eq_true_eq] at hr
        refine ⟨q, r, WideElems.Trod_stays hl hr.1.1 hr.1.2 h1 (fun x hx => ?_) fun x hx => hsp x (List.mem_append_left _ hx), ih h2 hr.2 (fun x hx => hlt x (List.mem_append_right _ hx)) fun x hx => hsp x (List.mem_append_right _ hx), rfl⟩
        have hx' := hlt x (List.mem_append_left _ hx)
        exact kept_same hk hx'
end
end Go.Abs


/-
  Loops by an invariant; rules for slices and their elements.
-/
namespace Go.Abs.F
open Go Go.Abs

theorem loops_inv {f : List T → St → Option (JO × St)} (In : Nat → List T → St → Prop) (Q : JO → St → Prop)
    (step : ∀ k v s, In k v s → (∃ v' s' k', f v s = some (.normal v', s') ∧ k = k' + 1 ∧ In k' v' s') ∨ ∃ j s', f v s = some (j, s') ∧ (∀ v, j ≠ .normal v) ∧ Q j s') :
    ∀ N k v s, In k v s → k < N → ∃ j τ, loops f N v s = some (j, τ) ∧ Q j τ := by
  intro N
  induction N with
  | zero => intro k v s _ h; omega
  | succ N ih =>
    intro k v s hi hk
    rcases step k v s hi with ⟨v', s', k', hf, hk', hi'⟩ | ⟨j, s', hf, hj, hq⟩
    · obtain ⟨j, τ, h, hq⟩ := ih k' v' s' hi' (by omega)
      exact ⟨j, τ, by simp only [loops, hf]; exact h, hq⟩
    · refine ⟨j, s', ?_, hq⟩
      cases j with
      | normal v => exact absurd rfl (hj v)
      | exit i v => simp only [loops, hf]
      | ret r => simp only [loops, hf]

@[simp] theorem aLenSl_sl (b o len : Nat) (c : Cap) : aLenSl (Z (.sl b o len c)) = some (I .i64 len) := nz rfl
@[simp] theorem aLenSl_nils : aLenSl (Z .nils) = some (I .i64 0) := nz rfl
@[simp] theorem aLenSl_emp (i e : Nat) : aLenSl (Z (.emp i e)) = some (I .i64 0) := nz rfl

theorem aIndexSl_int {e b o len : Nat} {c : Cap} {k : IntKind} {n : Int} {j : Nat} (hn : n = j) (h : j < len) : aIndexSl e (Z (.sl b o len c)) (I k n) = some (Z (.ptr b (o + j * e))) := by
  subst hn
  simp [aIndexSl, aIdx, h]

end Go.Abs.F
namespace Go.Abs
open Go Go.Abs.F

def SlOf (a : T) (c : Nat) (rows : List (List S)) : Prop := (a = Z .nils ∧ rows = []) ∨ ∃ cap, rows.length ≤ cap ∧ a = Z (.sl c 0 rows.length (.known cap))

theorem SlOf.len {a : T} {c : Nat} {rows : List (List S)} (h : SlOf a c rows) : aLenSl a = some (I .i64 rows.length) := by
  rcases h with ⟨rfl, rfl⟩ | ⟨cap, _, rfl⟩ <;> rfl

theorem SlOf.index {a : T} {c : Nat} {rows : List (List S)} (h : SlOf a c rows) {k : IntKind} {e j : Nat} {n : Int} (hn : n = j) (hj : j < rows.length) : aIndexSl e a (I k n) = some (Z (.ptr c (j * e))) := by
  rcases h with ⟨rfl, rfl⟩ | ⟨cap, _, rfl⟩
  · simp at hj
  · rw [aIndexSl_int hn hj, Nat.zero_add]

theorem Inp.dead {W : World} {σ : St} {vs : List Value} {ts : List T} (h : Inp W σ vs ts) : Inp W (σ.push .dead) vs ts := by
  obtain ⟨ι, h1, h2, h3, h4, h5⟩ := h
  have ne : ∀ i L, ι i = some L → i ≠ σ.size := by
    intro i L hi e
    rw [h3 i (by omega)] at hi
    cases hi
  refine ⟨ι, ⟨fun i L b hi hb => ?_, fun i j L M hi hj hl hh => ?_, fun i n vs hg => ?_⟩, St.wf_push h2 _, fun i hi => h3 i (by rw [St.size_push] at hi; omega), fun i hl => ?_, h5⟩
  · rw [St.get_push_ne _ _ (ne i L hi)] at hb
    exact h1.blk i L b hi hb
  · rw [St.get_push_ne _ _ (ne i L hi)] at hl
    exact absurd hl (h4 i)
  · by_cases e : i = σ.size
    · subst e; rw [St.get_push_same] at hg; cases hg
    · rw [St.get_push_ne _ _ e] at hg; exact h1.glob i n vs hg
  · by_cases e : i = σ.size
    · subst e
      rw [St.get_push_same] at hl
      exact hl
    · rw [St.get_push_ne _ _ e] at hl
      exact h4 i hl

theorem Inp.flats2 {H : Type} {enc : TypeId × Value → H} {P : Program} {base b0 : Nat} {spare : Nat → Bool} {hd : Bool} {W : World} {σ : St} {vs : List Value} {ts : List T} (h : Inp W σ vs ts)
    {r : Reach} {t e : TypeId} {ks : List AK} {n : Nat} {v : Value} {d : DataW H} {ps : List MemPlace} (ht : P.underlying t = some (.slice e)) (hk : flatK P n e = some ks) (hc : P.cellsOf e = ks.length)
    (hval : Value.okWide P W r b0 t v) (hdd : DataW.Trod enc P W base spare hd t v d ps) :
    ∃ rows : List (List S), (∀ x ∈ rows, All2 KS ks x) ∧ ∃ a, SlOf a σ.size rows ∧ rows.length < 9223372036854775808 ∧ Inp W (σ.push (argBlk rows.flatten)) (v :: vs) (a :: ts) := by
  rcases open_flats ht hk hc hval hdd with rfl | ⟨b, o, cap, rows, rfl, ⟨hl, hb63⟩, hr, L, hb, ho, hx⟩
  · exact ⟨[], (fun x hx => by cases hx), Z .nils, .inl ⟨rfl, rfl⟩, by simp, h.dead.flat (x := .nils) fun _ => rfl⟩
  · exact ⟨rows, hr, _, .inr ⟨cap, hl, rfl⟩, hb63, h.slice hl L hb ho hx⟩

theorem KS.int {k : IntKind} {x : S} (h : KS (.int k) x) : ∃ n, x = .int k n ∧ (Lit.int k n).wf = true := by
  cases x <;> first | exact h.elim | (obtain ⟨rfl, hw⟩ := h; exact ⟨_, rfl, hw⟩)

end Go.Abs


/-
  Two runs of one text that differ in their first temporary alone.
-/
namespace Go.Abs.F
open Go Go.Abs

section
variable {X Y : T}

inductive Tw (X Y : T) : Option (JO × St) → Option (JO × St) → Prop
  | norm (l : List T) (s : St) : Tw X Y (some (.normal (X :: l), s)) (some (.normal (Y :: l), s))
  | exit (i : Nat) (l : List T) (s : St) : Tw X Y (some (.exit i (X :: l), s)) (some (.exit i (Y :: l), s))
  | same (x : Option (JO × St)) : Tw X Y x x

end
end Go.Abs.F
namespace Go.Abs.F
open Go Go.Abs

end Go.Abs.F
namespace Go.Abs.F
open Go Go.Abs

theorem wrap_in (y : Int) (h0 : -2 ^ 63 ≤ y) (h1 : y < 2 ^ 63) : IntKind.i64.wrap y = y := by
  unfold IntKind.wrap
  simp [IntKind.signed, IntKind.bits]
  omega

theorem wrap_u64 (x : Int) : 0 ≤ IntKind.u64.wrap x := by
  unfold IntKind.wrap
  simp [IntKind.signed, IntKind.bits]
  omega

theorem wrap_u64_in (x : Int) (h0 : 0 ≤ x) (h1 : x < 2 ^ 64) : IntKind.u64.wrap x = x := by
  unfold IntKind.wrap
  simp [IntKind.signed, IntKind.bits]
  omega

end Go.Abs.F
namespace Go.Abs.F
open Go Go.Abs
section
variable {Q Q' : List T → Prop} {X Y : T}

inductive TwQ (Q : List T → Prop) (X Y : T) : Option (JO × St) → Option (JO × St) → Prop
  | norm (l : List T) (s : St) (h : Q l) : TwQ Q X Y (some (.normal (X :: l), s)) (some (.normal (Y :: l), s))
  | same (x : Option (JO × St)) : TwQ Q X Y x x

end

end Go.Abs.F


/-
  A package-level table beside the store, as a block that is read alone; calls that tell plain values.
-/
namespace Go.Abs
open Go Go.Abs.F Go.RowKit

structure Still (w u : World) : Prop where
  os : u.os = w.os
  output : u.output = w.output
  size : w.heap.size ≤ u.heap.size
  block : ∀ k, k < w.heap.size → u.heap[k]? = w.heap[k]?

theorem Still.refl (w : World) : Still w w := ⟨rfl, rfl, Nat.le_refl _, fun _ _ => rfl⟩
theorem Still.of {w u : World} (h : Below w.heap.size w u) : Still w u := ⟨h.os, h.output, h.size, h.block⟩

theorem Rel.below {ι : Inj} {g : Mem} {w u : World} (hR : Rel ι g w) (hb : Still w u) : Rel ι g u := by
  refine ⟨fun i L b hi hb' => ?_, hR.sep, hR.glob⟩
  have hB := hR.blk i L b hi hb'
  cases b with
  | dead => trivial
  | cells own vs => exact hB.congr (hb.block _ (hB.lt trivial))
  | map es => exact hB.congr (hb.block _ (hB.lt trivial))
  | glob g vs => exact hB.congr (hb.block _ (hB.lt trivial))

theorem Ext.below {ι : Inj} {σ : St} {w u : World} (hb : Still w u) : Ext ι σ w ι σ u :=
  ⟨Nat.le_refl _, fun _ _ => rfl, fun _ _ h => h, fun _ _ h => h, fun _ _ _ => rfl, fun i L h1 h2 => by omega, hb.os, hb.output, hb.size, fun k hk _ => hb.block k hk⟩

theorem sound_of_plain {P : Program} {c : CallF} (h : ∀ f ts σ t τ, c f ts σ = some (t, τ) → τ = σ ∧ ∀ ι w vs, Rel ι σ.get w → All2 (TRel ι) ts vs →
    Calls P f vs.toArray w fun e u => ∃ v, e = .returned v ∧ Still w u ∧ TRel ι t v) : CallSound P c := by
  constructor
  · intro f ts σ t τ hc wf
    obtain ⟨rfl, _⟩ := h f ts σ t τ hc
    exact ⟨wf, Nat.le_refl _⟩
  · intro f ts σ t τ hc wf ι w vs hR hF hA
    obtain ⟨rfl, hk⟩ := h f ts σ t τ hc
    refine (hk ι w vs hR hA).mono ?_
    rintro e u ⟨v, rfl, hb, hT⟩
    exact ⟨ι, v, rfl, Ext.below hb, hR.below hb, hT⟩

def tabSt (g : Nat) (vs : List S) : St := St.empty.push (.glob g vs)

theorem Inp.glob {P : Program} {W : World} {name : String} {k : IntKind} {zs : List Int} {g : Nat} (hg : P.globalNamed name = some g) (h : Lib.TabIs P W name k zs) :
    Inp W (tabSt g (zs.map (S.int k))) [] [] := by
  unfold Lib.TabIs World.var? at h
  rw [hg] at h
  simp only [Option.bind_some] at h
  split at h
  · rename_i cs e fz hb
    cases h
    have get0 : ∀ i b, (tabSt g (zs.map (S.int k))).get i = some b → i = 0 ∧ b = .glob g (zs.map (S.int k)) := by
      intro i b hi
      unfold tabSt at hi
      by_cases e : i = 0
      · subst e
        have := St.get_push_same St.empty (.glob g (zs.map (S.int k)))
        rw [show St.empty.size = 0 from rfl] at this
        rw [this] at hi
        cases hi
        exact ⟨rfl, rfl⟩
      · rw [St.get_push_ne _ _ (by simpa using e)] at hi
        cases hi
    refine ⟨fun i => if i = 0 then some ⟨g, 0, 0, 0⟩ else none, ⟨fun i L b hi hb' => ?_, fun i j L M hi hj hl => ?_, fun i n vs hi => ?_⟩, St.wf_push St.wf_empty _, fun i hi => ?_, fun i hi => ?_, .nil⟩
    · obtain ⟨rfl, rfl⟩ := get0 i b hb'
      simp only [if_true, Option.some.injEq] at hi
      subst hi
      refine ⟨rfl, _, _, _, hb, by simp, fun j x hx => ?_⟩
      rw [List.getElem?_map, Option.map_eq_some_iff] at hx
      obtain ⟨n, hn, rfl⟩ := hx
      exact ⟨.int k n, by simp [hn], rfl⟩
    · exfalso
      cases hb2 : (tabSt g (zs.map (S.int k))).get i with
      | none => rw [hb2] at hl; exact hl
      | some b => obtain ⟨_, rfl⟩ := get0 i b hb2; rw [hb2] at hl; exact hl
    · obtain ⟨rfl, _⟩ := get0 i _ hi
      exact ⟨_, rfl⟩
    · have : i ≠ 0 := by
        have : (tabSt g (zs.map (S.int k))).size = 1 := rfl
        omega
      simp [this]
    · cases hb2 : (tabSt g (zs.map (S.int k))).get i with
      | none => rw [hb2] at hi; exact hi
      | some b => obtain ⟨_, rfl⟩ := get0 i b hb2; rw [hb2] at hi; exact hi
  · cases h
end Go.Abs
namespace Go.Abs.F
open Go Go.Abs

end Go.Abs.F


/-
  Slices in any store, whatever their elements: how they read, how they grow; stores that only grow.
-/
namespace Go.Abs
open Go Go.Abs.F
set_option linter.unusedVariables false

def Gr (s t : St) : Prop := t.wf ∧ s.size ≤ t.size ∧ ∀ b, b < s.size → t.get b = s.get b
theorem Gr.refl {s : St} (wf : s.wf) : Gr s s := ⟨wf, Nat.le_refl _, fun _ _ => rfl⟩
theorem Gr.push {s : St} (wf : s.wf) (b : Blk) : Gr s (s.push b) := ⟨St.wf_push wf _, by simp, fun c hc => St.get_push_ne _ _ (by omega)⟩
theorem Gr.trans {a b c : St} (h : Gr a b) (k : Gr b c) : Gr a c := ⟨k.1, Nat.le_trans h.2.1 k.2.1, fun x hx => by rw [k.2.2 x (Nat.lt_of_lt_of_le hx h.2.1), h.2.2 x hx]⟩
theorem Gr.wf {s t : St} (h : Gr s t) : t.wf := h.1
theorem Gr.le {s t : St} (h : Gr s t) : s.size ≤ t.size := h.2.1
theorem Gr.get {s t : St} (h : Gr s t) {b : Nat} {x : Blk} (hb : s.get b = some x) (wf : s.wf) : t.get b = some x := by rw [h.2.2 b (wf.lt hb), hb]

def own : S → Option Nat
  | .emp c _ => some c
  | .sl c _ _ _ => some c
  | _ => none

def okCap (e : Nat) : S → Prop
  | .sl _ _ n (.known c) => n ≤ c
  | .sl _ _ _ (.grown g) => g = e
  | .emp _ g => g = e
  | _ => True

structure Rd (e : Nat) (s : St) (x : S) (n : Nat) (vs : List S) : Prop where
  len : vs.length = n * e
  rd : (n = 0 ∧ (x = .nils ∨ (∃ c g, x = .emp c g) ∨ ∃ c o cap, x = .sl c o 0 cap)) ∨ ∃ c o cap w rows, x = .sl c o n cap ∧ s.get c = some (.cells w rows) ∧ o + n * e ≤ rows.length ∧ (rows.drop o).take (n * e) = vs
  cap : okCap e x

structure Ow (e : Nat) (s : St) (x : S) (n : Nat) (vs : List S) : Prop where
  len : vs.length = n * e
  ow : (x = .nils ∧ n = 0) ∨ (∃ c rows, x = .emp c e ∧ n = 0 ∧ s.get c = some (.cells true rows)) ∨ ∃ c rows cap, x = .sl c 0 n cap ∧ (cap = .grown e ∨ cap = .known n) ∧ s.get c = some (.cells true rows) ∧ n * e ≤ rows.length ∧ rows.take (n * e) = vs

section
variable {e n m : Nat} {s t : St} {x y : S} {vs ws : List S}

theorem Rd.nil (e : Nat) (s : St) : Rd e s .nils 0 [] := ⟨by simp, .inl ⟨rfl, .inl rfl⟩, trivial⟩
theorem Ow.nil (e : Nat) (s : St) : Ow e s .nils 0 [] := ⟨by simp, .inl ⟨rfl, rfl⟩⟩

theorem Ow.rd (h : Ow e s x n vs) : Rd e s x n vs := by
  refine ⟨h.len, ?_, ?_⟩
  · rcases h.ow with ⟨rfl, rfl⟩ | ⟨c, rows, rfl, rfl, _⟩ | ⟨c, rows, cap, rfl, hc, h1, h2, h3⟩
    · exact .inl ⟨rfl, .inl rfl⟩
    · exact .inl ⟨rfl, .inr (.inl ⟨c, e, rfl⟩)⟩
    · exact .inr ⟨c, 0, _, true, rows, rfl, h1, by omega, by simpa using h3⟩
  · rcases h.ow with ⟨rfl, rfl⟩ | ⟨c, rows, rfl, rfl, _⟩ | ⟨c, rows, cap, rfl, hc, h1, h2, h3⟩
    · trivial
    · exact rfl
    · rcases hc with rfl | rfl
      · exact rfl
      · exact Nat.le_refl _

theorem Rd.lens (h : Rd e s x n vs) : aLenSl (Z x) = some (I .i64 n) := by
  rcases h.rd with ⟨rfl, rfl | ⟨c, g, rfl⟩ | ⟨c, o, cap, rfl⟩⟩ | ⟨c, o, cap, w, rows, rfl, _⟩ <;> rfl

theorem Rd.src (h : Rd e s x n vs) : aSrc e (Z x) s.get = some (n, vs) := by
  have hl := h.len
  rcases h.rd with ⟨rfl, rfl | ⟨c, g, rfl⟩ | ⟨c, o, cap, rfl⟩⟩ | ⟨c, o, cap, w, rows, rfl, h1, h2, h3⟩
  · have : vs = [] := List.eq_nil_of_length_eq_zero (by simpa using hl)
    subst this; rfl
  · have : vs = [] := List.eq_nil_of_length_eq_zero (by simpa using hl)
    subst this; rfl
  · have : vs = [] := List.eq_nil_of_length_eq_zero (by simpa using hl)
    subst this; simp [aSrc]
  · by_cases hz : n = 0
    · subst hz
      have : vs = [] := List.eq_nil_of_length_eq_zero (by simpa using hl)
      subst this; simp [aSrc]
    · simp only [aSrc, if_neg hz, h1, if_pos h2, h3]

theorem Rd.keep (h : Rd e s x n vs) (hk : ∀ c, own x = some c → t.get c = s.get c) : Rd e t x n vs := by
  refine ⟨h.len, ?_, h.cap⟩
  rcases h.rd with h | ⟨c, o, cap, w, rows, rfl, h1, h2, h3⟩
  · exact .inl h
  · exact .inr ⟨c, o, cap, w, rows, rfl, by rw [hk c rfl]; exact h1, h2, h3⟩

theorem Ow.keep (h : Ow e s x n vs) (hk : ∀ c, own x = some c → t.get c = s.get c) : Ow e t x n vs := by
  refine ⟨h.len, ?_⟩
  rcases h.ow with h | ⟨c, rows, rfl, rfl, h1⟩ | ⟨c, rows, cap, rfl, hc, h1, h2, h3⟩
  · exact .inl h
  · exact .inr (.inl ⟨c, rows, rfl, rfl, by rw [hk c rfl]; exact h1⟩)
  · exact .inr (.inr ⟨c, rows, cap, rfl, hc, by rw [hk c rfl]; exact h1, h2, h3⟩)

theorem Ow.lt (h : Ow e s x n vs) (wf : s.wf) {c : Nat} (hc : own x = some c) : c < s.size := by
  rcases h.ow with ⟨rfl, rfl⟩ | ⟨c', rows, rfl, rfl, h1⟩ | ⟨c', rows, cap, rfl, _, h1, h2, h3⟩
  · cases hc
  · cases hc; exact wf.lt h1
  · cases hc; exact wf.lt h1

theorem Rd.gr (h : Rd e s x n vs) (hx : ∀ c, own x = some c → c < s.size) (g : Gr s t) : Rd e t x n vs := h.keep fun c hc => g.2.2 c (hx c hc)
theorem Ow.gr (h : Ow e s x n vs) (wf : s.wf) (g : Gr s t) : Ow e t x n vs := h.keep fun c hc => g.2.2 c (h.lt wf hc)

theorem setRange_nil (rows : List S) (o : Nat) : setRange rows o [] = rows := rfl

theorem Ow.append {by_ : Nat} (h : Ow e s x n vs) (wf : s.wf) (he : 0 < e) (hs : aSrc e (Z y) s.get = some (m, ws)) (hws : ws.length = m * e) (hl : (n + m) * by_ ≤ 140737488355328) :
    ∃ x' t, aAppend e by_ (Z x) (Z y) s = some (Z x', t) ∧ t.wf ∧ s.size ≤ t.size ∧ Ow e t x' (n + m) (vs ++ ws) ∧ (∀ b, b < s.size → own x ≠ some b → t.get b = s.get b) ∧ (own x' = none ∨ own x' = own x ∨ ∃ c, own x' = some c ∧ s.size ≤ c) := by
  have hne : e ≠ 0 := by omega
  have hlv := h.len
  have hlen : (vs ++ ws).length = (n + m) * e := by rw [List.length_append, hlv, hws, Nat.add_mul]
  have hm : m * by_ ≤ 140737488355328 := Nat.le_trans (Nat.mul_le_mul_right _ (by omega)) hl
  rcases h.ow with ⟨rfl, rfl⟩ | ⟨c, rows, rfl, rfl, h1⟩ | ⟨c, rows, cap, rfl, hc, h1, h2, h3⟩
  · have hv : vs = [] := List.eq_nil_of_length_eq_zero (by simpa using hlv)
    subst hv
    by_cases hz : m = 0
    · subst hz
      have hw : ws = [] := List.eq_nil_of_length_eq_zero (by simpa using hws)
      subst hw
      refine ⟨.nils, s, ?_, wf, Nat.le_refl _, ⟨by simp, .inl ⟨rfl, rfl⟩⟩, fun _ _ _ => rfl, .inl rfl⟩
      unfold aAppend
      rw [hs]
      dsimp only
      rw [if_neg hne, if_pos rfl]
    · refine ⟨.sl s.size 0 m (.grown e), s.push (.cells true ws), ?_, St.wf_push wf _, by simp, ⟨hlen, .inr (.inr ⟨s.size, ws, _, by rw [Nat.zero_add], .inl rfl, St.get_push_same _ _, by rw [Nat.zero_add, hws]; exact Nat.le_refl _, by rw [Nat.zero_add, List.nil_append]; exact List.take_of_length_le (by omega)⟩)⟩, fun b hb _ => St.get_push_ne _ _ (by omega), .inr (.inr ⟨_, rfl, Nat.le_refl _⟩)⟩
      unfold aAppend
      rw [hs]
      dsimp only
      rw [if_neg hne, if_neg hz, if_pos hm]
  · have hcl := wf.lt h1
    have hv : vs = [] := List.eq_nil_of_length_eq_zero (by simpa using hlv)
    subst hv
    have hB : e = e ∧ m * by_ ≤ 140737488355328 := ⟨rfl, hm⟩
    by_cases hz : m = 0
    · subst hz
      have hw : ws = [] := List.eq_nil_of_length_eq_zero (by simpa using hws)
      subst hw
      refine ⟨.emp c e, s, ?_, wf, Nat.le_refl _, ⟨by simp, .inr (.inl ⟨c, rows, rfl, rfl, h1⟩)⟩, fun _ _ _ => rfl, .inr (.inl rfl)⟩
      unfold aAppend
      rw [hs]
      dsimp only
      rw [if_neg hne, if_pos hB, if_pos rfl]
    · have hg : ((s.set c .dead).push (.cells true ws)).get s.size = some (.cells true ws) := by
        have := St.get_push_same (s.set c .dead) (.cells true ws)
        rwa [St.size_set] at this
      refine ⟨.sl s.size 0 m (.grown e), (s.set c .dead).push (.cells true ws), ?_, St.wf_push (St.wf_set wf hcl _) _, by simp, ⟨hlen, .inr (.inr ⟨s.size, ws, _, by rw [Nat.zero_add], .inl rfl, hg, by rw [Nat.zero_add, hws]; exact Nat.le_refl _, by rw [Nat.zero_add, List.nil_append]; exact List.take_of_length_le (by omega)⟩)⟩, fun b hb hbc => ?_, .inr (.inr ⟨_, rfl, Nat.le_refl _⟩)⟩
      · unfold aAppend
        rw [hs]
        dsimp only
        rw [if_neg hne, if_pos hB, if_neg hz, h1]
      · have : b ≠ c := fun e => hbc (by rw [e]; rfl)
        rw [St.get_push_ne _ _ (by rw [St.size_set]; omega), St.get_set_ne _ _ this]
  · have hcl := wf.lt h1
    have big : ∀ q : St, q.size = s.size → (q.push (.cells true (vs ++ ws))).get s.size = some (.cells true (vs ++ ws)) := fun q hq => by
      have := St.get_push_same q (.cells true (vs ++ ws))
      rwa [hq] at this
    have ownNew : ∀ q : St, q.size = s.size → Ow e (q.push (.cells true (vs ++ ws))) (.sl s.size 0 (n + m) (.grown e)) (n + m) (vs ++ ws) := fun q hq =>
      ⟨hlen, .inr (.inr ⟨s.size, vs ++ ws, _, rfl, .inl rfl, big q hq, by omega, List.take_of_length_le (by omega)⟩)⟩
    have h2' : 0 + n * e ≤ rows.length := by omega
    rcases hc with rfl | rfl
    · have hB : e = e ∧ (n + m) * by_ ≤ 140737488355328 := ⟨rfl, hl⟩
      by_cases hz : m = 0
      · subst hz
        have hw : ws = [] := List.eq_nil_of_length_eq_zero (by simpa using hws)
        subst hw
        refine ⟨.sl c 0 n (.grown e), s, ?_, wf, Nat.le_refl _, ⟨by simpa using hlv, .inr (.inr ⟨c, rows, _, rfl, .inl rfl, h1, h2, by simpa using h3⟩)⟩, fun _ _ _ => rfl, .inr (.inl rfl)⟩
        unfold aAppend
        rw [hs]
        dsimp only
        rw [if_neg hne, if_pos hB, if_pos rfl]
      · by_cases hf : 0 + (n + m) * e ≤ rows.length
        · have hadd : (n + m) * e = n * e + m * e := Nat.add_mul _ _ _
          refine ⟨.sl c 0 (n + m) (.grown e), s.set c (.cells true (setRange rows (0 + n * e) ws)), ?_, St.wf_set wf hcl _, by simp, ⟨hlen, .inr (.inr ⟨c, _, _, rfl, .inl rfl, St.get_set_same _ _ _, ?_, ?_⟩)⟩, fun b hb hbc => ?_, .inr (.inl rfl)⟩
          · unfold aAppend
            rw [hs]
            dsimp only
            rw [if_neg hne, if_pos hB, if_neg hz, h1]
            dsimp only
            rw [if_pos hf]
          · rw [setRange_eq _ _ _ (by omega)]
            simp
            omega
          · rw [setRange_eq _ _ _ (by omega), show 0 + n * e = n * e by omega, h3]
            rw [List.take_append_of_le_length (by omega)]
            exact List.take_of_length_le (by omega)
          · have : b ≠ c := fun e => hbc (by rw [e]; rfl)
            exact St.get_set_ne _ _ this
        · refine ⟨.sl s.size 0 (n + m) (.grown e), (s.set c .dead).push (.cells true (vs ++ ws)), ?_, St.wf_push (St.wf_set wf hcl _) _, by simp, ownNew _ (by simp), fun b hb hbc => ?_, .inr (.inr ⟨_, rfl, Nat.le_refl _⟩)⟩
          · unfold aAppend
            rw [hs]
            dsimp only
            rw [if_neg hne, if_pos hB, if_neg hz, h1]
            dsimp only
            rw [if_neg hf, if_pos h2', List.drop_zero, h3]
          · have : b ≠ c := fun e => hbc (by rw [e]; rfl)
            rw [St.get_push_ne _ _ (by rw [St.size_set]; omega), St.get_set_ne _ _ this]
    · by_cases hz : m = 0
      · subst hz
        have hw : ws = [] := List.eq_nil_of_length_eq_zero (by simpa using hws)
        subst hw
        have hq : true = true ∧ 0 + n * e + 0 * e ≤ rows.length := ⟨rfl, by omega⟩
        refine ⟨.sl c 0 n (.known n), s.set c (.cells true rows), ?_, St.wf_set wf hcl _, by simp, ⟨by simpa using hlv, .inr (.inr ⟨c, rows, _, rfl, .inr rfl, St.get_set_same _ _ _, h2, by simpa using h3⟩)⟩, fun b hb hbc => ?_, .inr (.inl rfl)⟩
        · unfold aAppend
          rw [hs]
          dsimp only
          rw [if_neg hne, if_pos hl, h1]
          dsimp only
          rw [if_pos (by omega), if_pos hq, setRange_nil]
          rfl
        · have : b ≠ c := fun e => hbc (by rw [e]; rfl)
          exact St.get_set_ne _ _ this
      · refine ⟨.sl s.size 0 (n + m) (.grown e), s.push (.cells true (vs ++ ws)), ?_, St.wf_push wf _, by simp, ownNew _ rfl, fun b hb hbc => St.get_push_ne _ _ (by omega), .inr (.inr ⟨_, rfl, Nat.le_refl _⟩)⟩
        unfold aAppend
        rw [hs]
        dsimp only
        rw [if_neg hne, if_pos hl, h1]
        dsimp only
        rw [if_neg (by omega), if_pos h2', List.drop_zero, h3]

structure Fr (e : Nat) (s0 s : St) (x : S) (n : Nat) (vs : List S) : Prop where
  gr : Gr s0 s
  ow : Ow e s x n vs
  new : ∀ c, own x = some c → s0.size ≤ c ∧ c < s.size

theorem Fr.nil (e : Nat) {s : St} (wf : s.wf) : Fr e s s .nils 0 [] := ⟨Gr.refl wf, Ow.nil e s, fun c hc => by cases hc⟩
theorem Fr.rd {s0 : St} (h : Fr e s0 s x n vs) : Rd e s x n vs := h.ow.rd
theorem Fr.gr' {s0 t : St} (h : Fr e s0 s x n vs) (g : Gr s t) : Fr e s0 t x n vs :=
  ⟨h.gr.trans g, h.ow.gr h.gr.1 g, fun c hc => ⟨(h.new c hc).1, Nat.lt_of_lt_of_le (h.new c hc).2 g.2.1⟩⟩
theorem Fr.from {s0 s1 : St} (g : Gr s0 s1) (h : Fr e s1 s x n vs) : Fr e s0 s x n vs :=
  ⟨g.trans h.gr, h.ow, fun c hc => ⟨Nat.le_trans g.2.1 (h.new c hc).1, (h.new c hc).2⟩⟩

theorem Fr.append' {s0 : St} {by_ : Nat} (h : Fr e s0 s x n vs) (he : 0 < e) (hs : aSrc e (Z y) s.get = some (m, ws)) (hws : ws.length = m * e) (hl : (n + m) * by_ ≤ 140737488355328) :
    ∃ x' t, aAppend e by_ (Z x) (Z y) s = some (Z x', t) ∧ Fr e s0 t x' (n + m) (vs ++ ws) ∧ s.size ≤ t.size ∧ (∀ b, b < s.size → own x ≠ some b → t.get b = s.get b) ∧ (own x' = none ∨ own x' = own x ∨ ∃ c, own x' = some c ∧ s.size ≤ c) := by
  obtain ⟨⟨wf, hz, hk⟩, hb, ho⟩ := h
  obtain ⟨x', t, e1, q1, q2, q3, q4, q5⟩ := hb.append wf he hs hws hl
  refine ⟨x', t, e1, ⟨⟨q1, by omega, fun b hb' => ?_⟩, q3, fun c hc => ?_⟩, q2, q4, q5⟩
  · rw [q4 b (by omega) (fun e => by have := ho b e; omega)]
    exact hk b hb'
  · have hlt := q3.lt q1 hc
    rcases q5 with e | e | ⟨c', e, hc'⟩
    · rw [e] at hc; cases hc
    · rw [e] at hc
      exact ⟨(ho c hc).1, hlt⟩
    · rw [e] at hc; cases hc; exact ⟨by omega, hlt⟩

theorem Fr.append {s0 : St} {by_ : Nat} (h : Fr e s0 s x n vs) (he : 0 < e) (hs : aSrc e (Z y) s.get = some (m, ws)) (hws : ws.length = m * e) (hl : (n + m) * by_ ≤ 140737488355328) :
    ∃ x' t, aAppend e by_ (Z x) (Z y) s = some (Z x', t) ∧ Fr e s0 t x' (n + m) (vs ++ ws) ∧ s.size ≤ t.size ∧ ∀ b, b < s.size → own x ≠ some b → t.get b = s.get b := by
  obtain ⟨x', t, a, b, c, d, _⟩ := h.append' he hs hws hl
  exact ⟨x', t, a, b, c, d⟩

theorem Fr.lit (e : Nat) {s : St} (wf : s.wf) {n : Nat} {vs : List S} (hv : vs.length = n * e) : Fr e s (s.push (.cells true vs)) (.sl s.size 0 n (.known n)) n vs :=
  ⟨Gr.push wf _, ⟨hv, .inr (.inr ⟨s.size, vs, _, rfl, .inr rfl, St.get_push_same _ _, by omega, List.take_of_length_le (by omega)⟩)⟩, fun c hc => by cases hc; exact ⟨Nat.le_refl _, by simp⟩⟩

theorem Rd.at (h : Rd e s x n vs) {j : Nat} {i : Int} (hi : i = j) (hj : j < n) : ∃ c p, aIndexSl e (Z x) (I .i64 i) = some (Z (.ptr c p)) ∧ (∀ f v, f < e → vs[j * e + f]? = some v → aLoad1 (Z (.ptr c (p + f))) s.get = some (Z v)) ∧
    aLoadN e (Z (.ptr c p)) s.get = some (.v (.agg ((vs.drop (j * e)).take e))) := by
  rcases h.rd with ⟨rfl, _⟩ | ⟨b, o, cap, w, rows, rfl, h1, h2, h3⟩
  · omega
  · have hje : j * e + e ≤ n * e := by
      have : (j + 1) * e ≤ n * e := Nat.mul_le_mul_right _ hj
      rwa [Nat.add_mul, Nat.one_mul] at this
    refine ⟨b, o + j * e, aIndexSl_int hi hj, fun f v hf hv => aLoad1_of h1 ?_, ?_⟩
    · rw [← h3, List.getElem?_take_of_lt (by omega), List.getElem?_drop] at hv
      rw [Nat.add_assoc]
      exact hv
    · have h4 : o + j * e + e ≤ rows.length := by omega
      have h5 : (vs.drop (j * e)).take e = (rows.drop (o + j * e)).take e := by
        rw [← h3, List.drop_take, List.take_take, List.drop_drop, Nat.min_eq_left (by omega)]
      simp only [aLoadN, h1, if_pos h4, h5]

theorem Rd.at1 (h : Rd 1 s x n vs) {j : Nat} {i : Int} {v : S} (hi : i = j) (hv : vs[j]? = some v) : ∃ p, aIndexSl 1 (Z x) (I .i64 i) = some p ∧ aLoad1 p s.get = some (Z v) := by
  have hj : j < n := by
    have := (List.getElem?_eq_some_iff.1 hv).1
    have := h.len
    omega
  obtain ⟨c, p, h1, h2, _⟩ := h.at hi hj
  exact ⟨_, h1, by have := h2 0 v (by omega) (by simpa using hv); simpa using this⟩

theorem aBounds_hi {len cap k : Nat} (h : k ≤ cap) : aBounds len cap none (some (I .i64 k)) none = some (0, k, cap) := by
  have e : aBnd (I .i64 k) cap = some k := by
    have h0 : (0 : Int) ≤ (k : Int) := by omega
    have h1 : (k : Int) ≤ (cap : Int) := by omega
    simp [aBnd, h]
  delta aBounds
  dsimp only
  rw [e]

theorem aBounds_lh {len cap lo hi : Nat} (h : lo ≤ hi) (k : hi ≤ cap) : aBounds len cap (some (I .i64 lo)) (some (I .i64 hi)) none = some (lo, hi, cap) := by
  have e : aBnd (I .i64 hi) cap = some hi := by
    have h0 : (0 : Int) ≤ (hi : Int) := by omega
    have h1 : (hi : Int) ≤ (cap : Int) := by omega
    simp [aBnd, k]
  have e2 : aBnd (I .i64 lo) hi = some lo := by
    have h1 : (lo : Int) ≤ (hi : Int) := by omega
    simp [aBnd, h]
  delta aBounds
  dsimp only
  rw [e]
  dsimp only
  rw [e2]

theorem aBounds_lo {len cap lo : Nat} (h : lo ≤ len) (k : len ≤ cap) : aBounds len cap (some (I .i64 lo)) none none = some (lo, len, cap) := by
  have e2 : aBnd (I .i64 lo) len = some lo := by
    have h1 : (lo : Int) ≤ (len : Int) := by omega
    simp [aBnd, h]
  delta aBounds
  dsimp only
  rw [e2]

theorem Rd.piece' (h : Rd e s x n vs) {lo hi : Nat} {l r : Option T} (hb : ∀ len cap, n ≤ cap → len = n → aBounds len cap l r none = some (lo, hi, cap)) (h1 : lo ≤ hi) (h2 : hi ≤ n) :
    ∃ y, aPieceSl e (Z x) l r none = some (Z y) ∧ Rd e s y (hi - lo) ((vs.drop (lo * e)).take ((hi - lo) * e)) ∧ (own y = none ∨ own y = own x) := by
  have hlv := h.len
  have hmul : lo * e + (hi - lo) * e ≤ n * e := by
    rw [← Nat.add_mul]
    exact Nat.mul_le_mul_right _ (by omega)
  have hl2 : ((vs.drop (lo * e)).take ((hi - lo) * e)).length = (hi - lo) * e := by rw [List.length_take, List.length_drop]; omega
  have hcap := h.cap
  rcases h.rd with ⟨rfl, rfl | ⟨c, g, rfl⟩ | ⟨c, o, cap, rfl⟩⟩ | ⟨c, o, cap, w, rows, rfl, a1, a2, a3⟩
  · obtain rfl : hi = 0 := by omega
    obtain rfl : lo = 0 := by omega
    refine ⟨.nils, ?_, ⟨hl2, .inl ⟨rfl, .inl rfl⟩, trivial⟩, .inl rfl⟩
    have := hb 0 0 (Nat.le_refl _) rfl
    simp only [aPieceSl, this]
  · obtain rfl : hi = 0 := by omega
    obtain rfl : lo = 0 := by omega
    have hg : g = e := hcap
    refine ⟨.emp c e, ?_, ⟨hl2, .inl ⟨rfl, .inr (.inl ⟨c, e, rfl⟩)⟩, rfl⟩, .inr rfl⟩
    have := hb 0 0 (Nat.le_refl _) rfl
    simp only [aPieceSl, this, if_pos hg]
  · obtain rfl : hi = 0 := by omega
    obtain rfl : lo = 0 := by omega
    cases cap with
    | known k =>
      refine ⟨.sl c (if k = 0 then o else o + 0 * e) 0 (.known (k - 0)), ?_, ⟨hl2, .inl ⟨rfl, .inr (.inr ⟨_, _, _, rfl⟩)⟩, Nat.zero_le _⟩, .inr rfl⟩
      have := hb 0 k (Nat.zero_le _) rfl
      simp only [aPieceSl, this]
    | grown g =>
      have hg : g = e := hcap
      refine ⟨.emp c e, ?_, ⟨hl2, .inl ⟨rfl, .inr (.inl ⟨c, e, rfl⟩)⟩, rfl⟩, .inr rfl⟩
      have := hb 0 0 (Nat.le_refl _) rfl
      simp only [aPieceSl, this, if_pos hg]
      rfl
  · have htk : ∀ o', o' = o + lo * e → (rows.drop o').take ((hi - lo) * e) = (vs.drop (lo * e)).take ((hi - lo) * e) := fun o' e' => by
      rw [e', ← a3, List.drop_take, List.take_take, List.drop_drop, Nat.min_eq_left (by omega)]
    cases cap with
    | known k =>
      have hk : n ≤ k := hcap
      have hbb := hb n k hk rfl
      by_cases hkl : k = lo
      · have hz : hi - lo = 0 := by omega
        refine ⟨.sl c o (hi - lo) (.known (k - lo)), ?_, ⟨hl2, .inl ⟨hz, .inr (.inr ⟨c, o, _, by rw [hz]⟩)⟩, by show hi - lo ≤ k - lo; omega⟩, .inr rfl⟩
        simp only [aPieceSl, hbb, if_pos hkl]
      · refine ⟨.sl c (o + lo * e) (hi - lo) (.known (k - lo)), ?_, ⟨hl2, .inr ⟨c, _, _, w, rows, rfl, a1, by omega, htk _ rfl⟩, by show hi - lo ≤ k - lo; omega⟩, .inr rfl⟩
        simp only [aPieceSl, hbb, if_neg hkl]
    | grown g =>
      have hg : g = e := hcap
      have hbb := hb n n (Nat.le_refl _) rfl
      by_cases hl : lo < n
      · refine ⟨.sl c (o + lo * e) (hi - lo) (.grown e), ?_, ⟨hl2, .inr ⟨c, _, _, w, rows, rfl, a1, by omega, htk _ rfl⟩, rfl⟩, .inr rfl⟩
        simp only [aPieceSl, hbb, if_pos hg, if_pos hl]
      · have hz : hi - lo = 0 := by omega
        refine ⟨.emp c e, ?_, ⟨hl2, .inl ⟨hz, .inr (.inl ⟨c, e, rfl⟩)⟩, rfl⟩, .inr rfl⟩
        simp only [aPieceSl, hbb, if_pos hg, if_neg hl]

theorem Rd.piece (h : Rd e s x n vs) {lo hi : Nat} (h1 : lo ≤ hi) (h2 : hi ≤ n) :
    ∃ y, aPieceSl e (Z x) (some (I .i64 lo)) (some (I .i64 hi)) none = some (Z y) ∧ Rd e s y (hi - lo) ((vs.drop (lo * e)).take ((hi - lo) * e)) ∧ (own y = none ∨ own y = own x) :=
  h.piece' (fun len cap hc hl => aBounds_lh h1 (by omega)) h1 h2
theorem Rd.upto (h : Rd e s x n vs) {hi : Nat} (h2 : hi ≤ n) :
    ∃ y, aPieceSl e (Z x) none (some (I .i64 hi)) none = some (Z y) ∧ Rd e s y hi (vs.take (hi * e)) ∧ (own y = none ∨ own y = own x) := by
  obtain ⟨y, a, b, c⟩ := h.piece' (lo := 0) (hi := hi) (l := none) (r := some (I .i64 hi)) (fun len cap hc hl => aBounds_hi (by omega)) (Nat.zero_le _) h2
  exact ⟨y, a, by simpa using b, c⟩
end

/-! ### Elements by what they stand for -/
section
variable {α : Type} {enc : α → List S} {e : Nat}

def cells (enc : α → List S) (l : List α) : List S := (l.map enc).flatten
@[simp] theorem cells_nil : cells enc [] = [] := rfl
@[simp] theorem cells_cons (a : α) (l : List α) : cells enc (a :: l) = enc a ++ cells enc l := by simp [cells]
theorem cells_append (l r : List α) : cells enc (l ++ r) = cells enc l ++ cells enc r := by simp [cells]
theorem cells_len (he : ∀ a, (enc a).length = e) : ∀ l : List α, (cells enc l).length = l.length * e
  | [] => by simp
  | a :: l => by rw [cells_cons, List.length_append, he, cells_len he l, List.length_cons, Nat.add_mul, Nat.one_mul, Nat.add_comm]
theorem cells_drop (he : ∀ a, (enc a).length = e) : ∀ (k : Nat) (l : List α), (cells enc l).drop (k * e) = cells enc (l.drop k)
  | 0, l => by simp
  | k + 1, [] => by simp
  | k + 1, a :: l => by
    have h1 : (enc a ++ cells enc l).drop e = cells enc l := List.drop_left' (he a)
    rw [cells_cons, List.drop_succ_cons, ← cells_drop he k l]
    conv => rhs; rw [← h1]
    rw [List.drop_drop, Nat.add_mul, Nat.one_mul, Nat.add_comm]
theorem cells_take (he : ∀ a, (enc a).length = e) : ∀ (k : Nat) (l : List α), (cells enc l).take (k * e) = cells enc (l.take k)
  | 0, l => by simp
  | k + 1, [] => by simp
  | k + 1, a :: l => by
    rw [cells_cons, List.take_succ_cons, cells_cons, ← cells_take he k l, Nat.add_mul, Nat.one_mul]
    have h1 : (enc a).length = e := he a
    rw [List.take_append, List.take_of_length_le (by omega)]
    congr 2
    omega
theorem cells_row (he : ∀ a, (enc a).length = e) {l : List α} {j : Nat} {a : α} (h : l[j]? = some a) : ((cells enc l).drop (j * e)).take e = enc a := by
  rw [cells_drop he, List.drop_eq_getElem_cons (List.getElem?_eq_some_iff.1 h).1, cells_cons, (List.getElem?_eq_some_iff.1 h).2]
  rw [List.take_append_of_le_length (by rw [he]; exact Nat.le_refl _)]
  exact List.take_of_length_le (by rw [he]; exact Nat.le_refl _)
end
end Go.Abs


/-
  Bytes in any store: numbers' bytes, sums, texts. No conditions but those named in each line.
-/
namespace Go.Abs
open Go Go.Abs.F
set_option linter.unusedVariables false

def U (bs : List UInt8) : List S := bs.map fun b => .int .u8 b.toNat

@[simp] theorem U_len (bs : List UInt8) : (U bs).length = bs.length := by simp [U]
theorem U_append (a b : List UInt8) : U (a ++ b) = U a ++ U b := by simp [U]
theorem U_get (bs : List UInt8) (j : Nat) : (U bs)[j]? = (bs[j]?).map fun b => S.int .u8 b.toNat := by simp [U]
theorem U_take (bs : List UInt8) (n : Nat) : (U bs).take n = U (bs.take n) := by simp [U, List.map_take]
theorem U_drop (bs : List UInt8) (n : Nat) : (U bs).drop n = U (bs.drop n) := by simp [U, List.map_drop]
abbrev RB (s : St) (x : S) (bs : List UInt8) : Prop := Rd 1 s x bs.length (U bs)
abbrev FB (s0 s : St) (x : S) (bs : List UInt8) : Prop := Fr 1 s0 s x bs.length (U bs)

theorem bv_nat (n a : Nat) (h : a < 2 ^ n) : (BitVec.ofInt n (a : Int)).toNat = a := by
  rw [BitVec.toNat_ofInt]
  have : ((a : Int) % ((2 ^ n : Nat) : Int)) = a := Int.emod_eq_of_lt (by omega) (by omega)
  rw [this]
  rfl

theorem wrap8 (x : Nat) : IntKind.u8.wrap x = ((x % 256 : Nat) : Int) := by
  unfold IntKind.wrap
  simp [IntKind.signed, IntKind.bits]
theorem wrap32 (x : Nat) : IntKind.u32.wrap x = ((x % 4294967296 : Nat) : Int) := by
  unfold IntKind.wrap
  simp [IntKind.signed, IntKind.bits]
theorem wrap64 (x : Nat) (h : x < 2 ^ 64) : IntKind.u64.wrap x = (x : Int) := wrap_u64_in _ (by omega) (by omega)
theorem wrapi (x : Nat) (h : x < 2 ^ 63) : IntKind.i64.wrap x = (x : Int) := wrap_in _ (by omega) (by omega)

theorem and_u8 (a b : Nat) (ha : a < 256) (hb : b < 256) : aBin .and (I .u8 a) (I .u8 b) = some (I .u8 ((a &&& b : Nat))) := by
  have h : a &&& b < 256 := Nat.lt_of_le_of_lt Nat.and_le_left ha
  show some (I .u8 (IntKind.u8.wrap ((BitVec.ofInt 8 a &&& BitVec.ofInt 8 b).toNat : Nat))) = _
  rw [BitVec.toNat_and, bv_nat 8 a ha, bv_nat 8 b hb, wrap8, Nat.mod_eq_of_lt h]

theorem or_u8 (a b : Nat) (ha : a < 256) (hb : b < 256) : aBin .or (I .u8 a) (I .u8 b) = some (I .u8 ((a ||| b : Nat))) := by
  have h : a ||| b < 2 ^ 8 := Nat.or_lt_two_pow ha hb
  show some (I .u8 (IntKind.u8.wrap ((BitVec.ofInt 8 a ||| BitVec.ofInt 8 b).toNat : Nat))) = _
  rw [BitVec.toNat_or, bv_nat 8 a ha, bv_nat 8 b hb, wrap8, Nat.mod_eq_of_lt h]

theorem or_u64 (a b : Nat) (ha : a < 2 ^ 64) (hb : b < 2 ^ 64) : aBin .or (I .u64 a) (I .u64 b) = some (I .u64 ((a ||| b : Nat))) := by
  have h : a ||| b < 2 ^ 64 := Nat.or_lt_two_pow ha hb
  show some (I .u64 (IntKind.u64.wrap ((BitVec.ofInt 64 a ||| BitVec.ofInt 64 b).toNat : Nat))) = _
  rw [BitVec.toNat_or, bv_nat 64 a ha, bv_nat 64 b hb, wrap64 _ h]

theorem shl_u64 (a b : Nat) (h : a * 2 ^ b < 2 ^ 64) (hb : b < 64) : aBin .shl (I .u64 a) (I .u64 b) = some (I .u64 ((a * 2 ^ b : Nat))) := by
  have e : min b 64 = b := by omega
  have h0 : ¬ ((b : Int) < 0) := by omega
  have e2 : (a : Int) * 2 ^ b = ((a * 2 ^ b : Nat) : Int) := by push_cast; rfl
  simp only [aBin, aShift, if_neg h0, Int.toNat_natCast, IntKind.bits, e, e2, wrap64 _ h]

theorem shr_nat (k : IntKind) (a b : Nat) (hb : b ≤ k.bits) : aBin .shr (I k a) (I .u64 b) = some (I k ((a / 2 ^ b : Nat))) := by
  have e : min b k.bits = b := by omega
  have h0 : ¬ ((b : Int) < 0) := by omega
  have e2 : (a : Int).fdiv (2 ^ b) = ((a / 2 ^ b : Nat) : Int) := by
    have : (2 : Int) ^ b = ((2 ^ b : Nat) : Int) := by push_cast; rfl
    rw [this, Int.fdiv_eq_ediv_of_nonneg _ (Int.natCast_nonneg _)]
    exact (Int.natCast_ediv _ _).symm
  simp only [aBin, aShift, if_neg h0, Int.toNat_natCast, e, e2]

def sumB (n : Nat) : List UInt8 → Nat
  | [] => n
  | c :: r => sumB ((n * 257 + c.toNat + 1) % 4294967291) r

def putN : Nat → Nat → List UInt8
  | 0, n => [UInt8.ofNat n]
  | f + 1, n => if 128 ≤ n then UInt8.ofNat (n % 128 + 128) :: putN f (n / 128) else [UInt8.ofNat n]
def vput (n : Nat) : List UInt8 := putN 10 n

def four (n : Nat) : List UInt8 := [UInt8.ofNat n, UInt8.ofNat (n / 256), UInt8.ofNat (n / 65536), UInt8.ofNat (n / 16777216)]

def getN (bs : List UInt8) (at_ : Nat) : Nat → Nat → Nat → Option (Nat × Nat)
  | 0, _, _ => none
  | f + 1, k, n => match bs[at_ + k]? with
    | none => none
    | some c =>
      if k = 9 ∧ 1 < c.toNat then none else
      if 128 ≤ c.toNat then getN bs at_ f (k + 1) (n ||| (c.toNat % 128) * 2 ^ (7 * k)) else
      if 0 < k ∧ c.toNat = 0 then none else some (n ||| (c.toNat % 128) * 2 ^ (7 * k), at_ + k + 1)
def vget (bs : List UInt8) (at_ : Nat) : Option (Nat × Nat) := if at_ ≤ bs.length then getN bs at_ 10 0 0 else none

theorem getN_lt {bs : List UInt8} {at_ : Nat} : ∀ (f k n : Nat) {r : Nat × Nat}, getN bs at_ f k n = some r → at_ + k < r.2 ∧ r.2 ≤ bs.length := by
  intro f
  induction f with
  | zero => intro k n r h; cases h
  | succ f ih =>
    intro k n r h
    unfold getN at h
    split at h
    · cases h
    · rename_i c hc
      have hlt := (List.getElem?_eq_some_iff.1 hc).1
      split at h
      · cases h
      · split at h
        · have := ih _ _ h
          omega
        · split at h
          · cases h
          · cases h
            exact ⟨by show at_ + k < at_ + k + 1; omega, by show at_ + k + 1 ≤ bs.length; omega⟩

theorem vget_lt {bs : List UInt8} {at_ v e : Nat} (h : vget bs at_ = some (v, e)) : at_ < e ∧ e ≤ bs.length := by
  unfold vget at h
  split at h
  · have := getN_lt _ _ _ h
    exact ⟨by simpa using this.1, this.2⟩
  · cases h

theorem More.step (n c : Nat) (hn : n < 4294967291) (hc : c < 256) (u : St) : (aBin .mul (I .u64 n) (I .u64 257) = some (I .u64 ((n * 257 : Nat)))) ∧ aBin .add (I .u64 ((n * 257 : Nat))) (I .u64 c) = some (I .u64 ((n * 257 + c : Nat))) ∧
    aBin .add (I .u64 ((n * 257 + c : Nat))) (I .u64 1) = some (I .u64 ((n * 257 + c + 1 : Nat))) ∧ aBin .rem (I .u64 ((n * 257 + c + 1 : Nat))) (I .u64 4294967291) = some (I .u64 (((n * 257 + c + 1) % 4294967291 : Nat))) := by
  refine ⟨?_, ?_, ?_, ?_⟩
  · rw [mul_int, show ((n : Int) * 257) = ((n * 257 : Nat) : Int) by omega, wrap64 _ (by omega)]
  · rw [add_int, show (((n * 257 : Nat) : Int) + c) = ((n * 257 + c : Nat) : Int) by omega, wrap64 _ (by omega)]
  · rw [add_int, show (((n * 257 + c : Nat) : Int) + 1) = ((n * 257 + c + 1 : Nat) : Int) by omega, wrap64 _ (by omega)]
  · have e : ((n * 257 + c + 1 : Nat) : Int).tmod 4294967291 = (((n * 257 + c + 1) % 4294967291 : Nat) : Int) := by
      rw [Int.tmod_eq_emod_of_nonneg (by omega)]
      omega
    have hP : (4294967291 : Int) ≠ 0 := by decide
    simp only [rem_int _ _ _ hP, e]

theorem sumB_lt : ∀ (bs : List UInt8) (n : Nat), n < 4294967291 → sumB n bs < 4294967291 := by
  intro bs
  induction bs with
  | nil => intro n h; exact h
  | cons c r ih => intro n h; exact ih _ (Nat.mod_lt _ (by decide))

theorem putN_len : ∀ (f n : Nat), (putN f n).length ≤ f + 1 := by
  intro f
  induction f with
  | zero => intro n; simp [putN]
  | succ f ih =>
    intro n
    unfold putN
    split
    · have := ih (n / 128)
      simp
      omega
    · simp

theorem vput_len (n : Nat) : (vput n).length ≤ 11 := putN_len 10 n
theorem or128 : ∀ m : Nat, m < 256 → (m ||| 128) = m % 128 + 128 := by decide +kernel

theorem byte_nat (n : Nat) : (UInt8.ofNat n).toNat = n % 256 := by simp

theorem lit1 (s : St) (c : Nat) : aNew s (nSlice 1 (aFill [.int .u8 0] [(0, 1, I .u8 c)])) = some (Z (.sl s.size 0 1 (.known 1)), s.push (.cells true [.int .u8 c])) := by
  simp [aNew, nSlice, aFill, V.cells, setRange]

theorem lit4 (s : St) (a b c d : Nat) : aNew s (nSlice 4 (aFill [.int .u8 0, .int .u8 0, .int .u8 0, .int .u8 0] [(0, 1, I .u8 a), (1, 1, I .u8 b), (2, 1, I .u8 c), (3, 1, I .u8 d)])) =
    some (Z (.sl s.size 0 4 (.known 4)), s.push (.cells true [.int .u8 a, .int .u8 b, .int .u8 c, .int .u8 d])) := by
  simp [aNew, nSlice, aFill, V.cells, setRange]

section
variable {s t : St} {x y : S} {bs cs : List UInt8}

theorem RB.lenB (h : RB s x bs) : aLenSl (Z x) = some (I .i64 bs.length) := h.lens
theorem RB.atB (h : RB s x bs) {j : Nat} {n : Int} {c : UInt8} (hn : n = j) (hc : bs[j]? = some c) : ∃ p, aIndexSl 1 (Z x) (I .i64 n) = some p ∧ aLoad1 p s.get = some (I .u8 c.toNat) :=
  Rd.at1 h hn (by rw [U_get, hc]; rfl)

theorem toBytes_U : ∀ bs : List UInt8, toBytes (U bs) = some bs
  | [] => rfl
  | b :: r => by
    have ih := toBytes_U r
    show toBytes (.int .u8 b.toNat :: U r) = _
    simp [toBytes, ih]

theorem RB.str (h : RB s x bs) : aBytesStr (Z x) s.get = some (Z (.str bs)) := by
  have nil0 : bs.length = 0 → bs = [] := fun e => List.eq_nil_of_length_eq_zero e
  rcases h.rd with ⟨h0, rfl | ⟨c, g, rfl⟩ | ⟨c, o, cap, rfl⟩⟩ | ⟨c, o, cap, w, vs, rfl, h1, h2, h3⟩
  · rw [nil0 h0]; rfl
  · rw [nil0 h0]; rfl
  · rw [nil0 h0]; simp [aBytesStr]
  · by_cases hz : bs.length = 0
    · rw [nil0 hz]; simp [aBytesStr]
    · rw [Nat.mul_one] at h2 h3
      simp only [aBytesStr, if_neg hz, h1, if_pos h2, h3, toBytes_U]

theorem FB.app {s0 : St} (h : FB s0 s x bs) (hy : RB s y cs) (hl : bs.length + cs.length ≤ 1000000) :
    ∃ x' t, aAppend 1 1 (Z x) (Z y) s = some (Z x', t) ∧ FB s0 t x' (bs ++ cs) ∧ s.size ≤ t.size ∧ ∀ b, b < s.size → own x ≠ some b → t.get b = s.get b := by
  obtain ⟨x', t, e, f, g, k⟩ := h.append (by_ := 1) (by omega) hy.src hy.len (by omega)
  exact ⟨x', t, e, by unfold FB; rw [U_append, List.length_append]; exact f, g, k⟩

theorem FB.app' {s0 : St} (h : FB s0 s x bs) (hy : RB s y cs) (hl : bs.length + cs.length ≤ 1000000) :
    ∃ x' t, aAppend 1 1 (Z x) (Z y) s = some (Z x', t) ∧ FB s0 t x' (bs ++ cs) ∧ s.size ≤ t.size ∧ (∀ b, b < s.size → own x ≠ some b → t.get b = s.get b) ∧ (own x' = none ∨ own x' = own x ∨ ∃ c, own x' = some c ∧ s.size ≤ c) := by
  obtain ⟨x', t, e, f, g, k, n⟩ := h.append' (by_ := 1) (by omega) hy.src hy.len (by omega)
  exact ⟨x', t, e, by unfold FB; rw [U_append, List.length_append]; exact f, g, k, n⟩

theorem strBytes_U (bs : List UInt8) : strBytes bs = U bs := rfl

theorem FB.appStr {s0 : St} (h : FB s0 s x bs) (hl : bs.length + cs.length ≤ 1000000) :
    ∃ x' t, aAppend 1 1 (Z x) (Z (.str cs)) s = some (Z x', t) ∧ FB s0 t x' (bs ++ cs) ∧ s.size ≤ t.size ∧ ∀ b, b < s.size → own x ≠ some b → t.get b = s.get b := by
  obtain ⟨x', t, e, f, g, k⟩ := h.append (by_ := 1) (y := .str cs) (m := cs.length) (ws := U cs) (by omega) (by simp [aSrc, strBytes_U]) (by simp) (by omega)
  exact ⟨x', t, e, by unfold FB; rw [U_append, List.length_append]; exact f, g, k⟩

theorem FB.lit {s0 : St} (h : FB s0 s x bs) (hl : bs.length + cs.length ≤ 1000000) :
    ∃ x' t, aAppend 1 1 (Z x) (Z (.sl s.size 0 cs.length (.known cs.length))) (s.push (.cells true (U cs))) = some (Z x', t) ∧ FB s0 t x' (bs ++ cs) ∧ s.size ≤ t.size ∧ ∀ b, b < s.size → own x ≠ some b → t.get b = s.get b := by
  have l := Fr.lit 1 h.gr.1 (n := cs.length) (vs := U cs) (by simp)
  obtain ⟨x', t, e, f, hz, k⟩ := FB.app (Fr.gr' h l.gr) (cs := cs) l.rd hl
  exact ⟨x', t, e, f, Nat.le_trans l.gr.2.1 hz, fun b hb hb1 => by rw [k b (Nat.lt_of_lt_of_le hb l.gr.2.1) hb1]; exact l.gr.2.2 b hb⟩
end

theorem at_str {bs : List UInt8} {j : Nat} {n : Int} {c : UInt8} (hn : n = j) (hc : bs[j]? = some c) : aAtStr (Z (.str bs)) (I .i64 n) = some (I .u8 c.toNat) := by
  subst hn
  have hj := (List.getElem?_eq_some_iff.1 hc).1
  have e : aIdx (I .i64 (j : Int)) bs.length = some j := by
    simp [aIdx, hj]
  show (match aIdx (I .i64 (j : Int)) bs.length with
    | some j => match bs[j]? with
      | some b => some (I .u8 b.toNat)
      | none => none
    | none => none) = _
  rw [e]
  dsimp only
  rw [hc]

theorem str_add (a b : List UInt8) (h : a.length + b.length ≤ 100000) : aBin .add (Z (.str a)) (Z (.str b)) = some (Z (.str (a ++ b))) := by
  have : ¬ ((a.length + b.length : Nat) : Int) > IntKind.i64.max := by
    show ¬ _ > (9223372036854775807 : Int)
    omega
  simp only [aBin, aStr, if_neg this]

end Go.Abs


/-
  What a statement's arguments give: slices of numbers, of bytes, of rows, as they read in a store. No conditions but those named in each line.
-/
namespace Go.Abs.F
open Go Go.Abs
set_option linter.unusedVariables false
section
variable {s : St} {a : T} {c e : Nat} {rows : List (List S)}

theorem flatten_len : ∀ {rows : List (List S)}, (∀ r ∈ rows, r.length = e) → rows.flatten.length = rows.length * e
  | [], _ => by simp
  | r :: l, h => by
    have h1 := flatten_len (rows := l) fun x hx => h x (by simp [hx])
    have h2 := h r (by simp)
    rw [List.flatten_cons, List.length_append, h1, h2, List.length_cons, Nat.add_mul, Nat.one_mul]
    omega

theorem slRd (ha : SlOf a c rows) (he : 0 < e) (hl : ∀ r ∈ rows, r.length = e) (hb : s.get c = some (argBlk rows.flatten)) : ∃ x, a = Z x ∧ Rd e s x rows.length rows.flatten ∧ ∀ d, own x = some d → d = c := by
  have hf := flatten_len hl
  rcases ha with ⟨rfl, rfl⟩ | ⟨cap, hc, rfl⟩
  · exact ⟨.nils, rfl, Rd.nil e s, fun d hd => by cases hd⟩
  · refine ⟨.sl c 0 rows.length (.known cap), rfl, ⟨hf, ?_, hc⟩, fun d hd => by cases hd; rfl⟩
    cases rows with
    | nil => exact .inl ⟨rfl, .inr (.inr ⟨c, 0, _, rfl⟩)⟩
    | cons r l =>
      have h1 : (r :: l).flatten ≠ [] := fun h0 => by
        have := congrArg List.length h0
        rw [hf, List.length_cons, Nat.add_mul] at this
        simp at this
        omega
      have h2 : argBlk (r :: l).flatten = .cells false (r :: l).flatten := by
        cases hh : (r :: l).flatten with
        | nil => exact absurd hh h1
        | cons _ _ => rfl
      rw [h2] at hb
      exact .inr ⟨c, 0, _, false, _, rfl, hb, by rw [hf]; omega, by rw [List.drop_zero, List.take_of_length_le (by rw [hf]; omega)]⟩

theorem rows_ints {k : IntKind} : ∀ {rows : List (List S)}, (∀ r ∈ rows, All2 KS [.int k] r) → ∃ is : List Int, rows = is.map (fun i => [.int k i]) ∧ ∀ i ∈ is, (Lit.int k i).wf = true
  | [], _ => ⟨[], rfl, fun i h => by cases h⟩
  | r :: l, h => by
    obtain ⟨is, h1, h2⟩ := rows_ints (rows := l) fun x hx => h x (by simp [hx])
    have h3 := h r (by simp)
    cases h3 with
    | cons p q =>
      cases q
      obtain ⟨n, rfl, hn⟩ := KS.int p
      exact ⟨n :: is, by rw [h1]; rfl, fun i hi => by
        rcases List.mem_cons.1 hi with rfl | hi
        · exact hn
        · exact h2 i hi⟩

theorem flatten_one (f : Int → S) : ∀ is : List Int, (is.map fun i => [f i]).flatten = is.map f
  | [] => rfl
  | i :: l => by rw [List.map_cons, List.flatten_cons, flatten_one f l]; rfl

theorem slInts {k : IntKind} (ha : SlOf a c rows) (hr : ∀ r ∈ rows, All2 KS [.int k] r) (hb : s.get c = some (argBlk rows.flatten)) : ∃ x, ∃ is : List Int, a = Z x ∧ Rd 1 s x is.length (is.map (S.int k)) ∧ (∀ d, own x = some d → d = c) ∧ ∀ i ∈ is, (Lit.int k i).wf = true := by
  obtain ⟨is, h1, h2⟩ := rows_ints hr
  obtain ⟨x, rfl, h3, h4⟩ := slRd ha (e := 1) (by decide) (fun r h => by have := hr r h; cases this with | cons p q => cases q; rfl) hb
  refine ⟨x, is, rfl, ?_, h4, h2⟩
  rw [h1, flatten_one, List.length_map] at h3
  exact h3

end

end Go.Abs.F


/-
  Texts: places of a byte, pieces, joining; calls of the library that tell them. No conditions but those named in each line.
-/
namespace Go.Abs
open Go Go.Abs.F
set_option linter.unusedVariables false

abbrev Bs := List UInt8

def ixB (c : UInt8) : Bs → Nat → Int
  | [], _ => -1
  | b :: r, k => match Nat.beq b.toNat c.toNat with
    | true => (k : Int)
    | false => ixB c r (k + 1)

def cntB (c : UInt8) : Bs → Nat
  | [] => 0
  | b :: r => match Nat.beq b.toNat c.toNat with
    | true => cntB c r + 1
    | false => cntB c r

def consHd (b : UInt8) : List Bs → List Bs
  | [] => [[b]]
  | h :: t => (b :: h) :: t

def splitB (c : UInt8) : Bs → List Bs
  | [] => [[]]
  | b :: r => match Nat.beq b.toNat c.toNat with
    | true => [] :: splitB c r
    | false => consHd b (splitB c r)

def joinB (sep : Bs) : List Bs → Bs
  | [] => []
  | [x] => x
  | x :: y :: r => x ++ sep ++ joinB sep (y :: r)

theorem ixB_cons (c b : UInt8) (r : Bs) (k : Nat) : ixB c (b :: r) k = match Nat.beq b.toNat c.toNat with
    | true => (k : Int)
    | false => ixB c r (k + 1) := rfl
theorem cntB_cons (c b : UInt8) (r : Bs) : cntB c (b :: r) = match Nat.beq b.toNat c.toNat with
    | true => cntB c r + 1
    | false => cntB c r := rfl
theorem splitB_cons (c b : UInt8) (r : Bs) : splitB c (b :: r) = match Nat.beq b.toNat c.toNat with
    | true => [] :: splitB c r
    | false => consHd b (splitB c r) := rfl

theorem beq_byte {b c : UInt8} : Nat.beq b.toNat c.toNat = true ↔ b = c := by
  constructor
  · intro h; exact UInt8.toNat.inj (Nat.eq_of_beq_eq_true h)
  · rintro rfl; exact Nat.beq_refl _
theorem beq_byte_ne {b c : UInt8} : Nat.beq b.toNat c.toNat = false ↔ b ≠ c := by
  constructor
  · intro h e; rw [beq_byte.2 e] at h; cases h
  · intro h; cases hb : Nat.beq b.toNat c.toNat with
    | true => exact absurd (beq_byte.1 hb) h
    | false => rfl

theorem ixB_ge (c : UInt8) : ∀ (l : Bs) (k : Nat), ixB c l k = -1 ∨ (k : Int) ≤ ixB c l k
  | [], _ => .inl rfl
  | b :: r, k => by
    unfold ixB
    cases Nat.beq b.toNat c.toNat with
    | true => exact .inr (Int.le_refl _)
    | false => rcases ixB_ge c r (k + 1) with h | h
               · exact .inl h
               · exact .inr (by show (k : Int) ≤ ixB c r (k + 1); omega)

theorem ixB_shift (c : UInt8) : ∀ (l : Bs) (k : Nat), ixB c l k = if ixB c l 0 = -1 then -1 else ixB c l 0 + k
  | [], k => rfl
  | b :: r, k => by
    unfold ixB
    cases hb : Nat.beq b.toNat c.toNat with
    | true => simp
    | false =>
      dsimp only
      rw [ixB_shift c r (k + 1), ixB_shift c r (0 + 1)]
      split
      · simp
      · rename_i h
        have := (ixB_ge c r 0).resolve_left h
        rw [if_neg (by omega)]
        omega

theorem ixB_lib (c : UInt8) : ∀ l : Bs, Lib.indexByte l c = ixB c l 0
  | [] => rfl
  | b :: r => by
    unfold Lib.indexByte ixB
    rw [ixB_lib c r]
    by_cases h : b = c
    · subst h; simp
    · have hb := beq_byte_ne.2 h
      have hb2 : (b == c) = false := by simpa using h
      rw [hb2, hb]
      dsimp only
      rw [ixB_shift c r (0 + 1)]
      by_cases h1 : ixB c r 0 = -1
      · simp [h1]
      · have : (ixB c r 0 == -1) = false := by simpa using h1
        simp [this, h1]

theorem cntB_lib (c : UInt8) : ∀ l : Bs, Lib.countByte l c = cntB c l
  | [] => rfl
  | b :: r => by
    have ih := cntB_lib c r
    unfold Lib.countByte at ih ⊢
    unfold cntB
    by_cases h : b = c
    · subst h; rw [beq_byte.2 rfl, List.count_cons_self, ih]
    · rw [beq_byte_ne.2 h, List.count_cons_of_ne (by simpa using h), ih]

theorem cntB_le (c : UInt8) : ∀ l : Bs, cntB c l ≤ l.length
  | [] => Nat.le_refl _
  | b :: r => by
    have := cntB_le c r
    unfold cntB
    cases Nat.beq b.toNat c.toNat <;> simp <;> omega

theorem splitB_len (c : UInt8) : ∀ l : Bs, (splitB c l).length = cntB c l + 1
  | [] => rfl
  | b :: r => by
    have ih := splitB_len c r
    unfold splitB cntB
    cases Nat.beq b.toNat c.toNat with
    | true => simp [ih]
    | false =>
      dsimp only
      cases hs : splitB c r with
      | nil => rw [hs] at ih; simp at ih
      | cons h t => rw [hs] at ih; simpa [consHd] using ih

theorem split_first (c : UInt8) : ∀ l : Bs, (ixB c l 0 = -1 ∧ cntB c l = 0 ∧ splitB c l = [l]) ∨
    ∃ m, m < l.length ∧ ixB c l 0 = m ∧ splitB c l = l.take m :: splitB c (l.drop (m + 1)) ∧ cntB c l = cntB c (l.drop (m + 1)) + 1
  | [] => .inl ⟨rfl, rfl, rfl⟩
  | b :: r => by
    rw [ixB_cons, cntB_cons, splitB_cons]
    cases hb : Nat.beq b.toNat c.toNat with
    | true => exact .inr ⟨0, by simp, rfl, by simp, by simp⟩
    | false =>
      dsimp only
      rcases split_first c r with ⟨h1, h2, h3⟩ | ⟨m, h0, h1, h2, h3⟩
      · exact .inl ⟨by rw [ixB_shift c r (0 + 1), h1]; rfl, h2, by rw [h3]; rfl⟩
      · refine .inr ⟨m + 1, by simp; omega, ?_, ?_, h3⟩
        · rw [ixB_shift c r (0 + 1), h1, if_neg (by omega)]
          omega
        · rw [h2]; rfl

theorem cut_first (c : UInt8) (l : Bs) : (ixB c l 0 = -1 ∧ l.takeWhile (fun b => !Nat.beq b.toNat c.toNat) = l) ∨ ∃ m, m < l.length ∧ ixB c l 0 = m ∧ l.takeWhile (fun b => !Nat.beq b.toNat c.toNat) = l.take m := by
  induction l with
  | nil => exact .inl ⟨rfl, rfl⟩
  | cons b r ih =>
    unfold ixB
    cases hb : Nat.beq b.toNat c.toNat with
    | true => exact .inr ⟨0, by simp, rfl, by simp [hb]⟩
    | false =>
      dsimp only
      rcases ih with ⟨h1, h2⟩ | ⟨m, h0, h1, h2⟩
      · exact .inl ⟨by rw [ixB_shift c r (0 + 1), h1]; rfl, by rw [List.takeWhile_cons]; simp [hb, h2]⟩
      · refine .inr ⟨m + 1, by simp; omega, ?_, by rw [List.takeWhile_cons]; simp [hb, h2]⟩
        rw [ixB_shift c r (0 + 1), h1, if_neg (by omega)]
        omega

theorem splitB_sum (c : UInt8) : ∀ l : Bs, ((splitB c l).map List.length).sum ≤ l.length
  | [] => by simp [splitB]
  | b :: r => by
    have ih := splitB_sum c r
    unfold splitB
    cases Nat.beq b.toNat c.toNat with
    | true => simp; omega
    | false =>
      dsimp only
      cases hs : splitB c r with
      | nil => simp [consHd]
      | cons h t => rw [hs] at ih; simp [consHd] at ih ⊢; omega

theorem len_le_sum : ∀ (L : List Bs) (x : Bs), x ∈ L → x.length ≤ (L.map List.length).sum
  | [], x, h => by cases h
  | y :: r, x, h => by
    rcases List.mem_cons.1 h with rfl | h
    · simp
    · have := len_le_sum r x h
      simp
      omega

theorem splitB_mem (c : UInt8) (l x : Bs) (h : x ∈ splitB c l) : x.length ≤ l.length := by
  have h1 := splitB_sum c l
  have h2 : x.length ≤ ((splitB c l).map List.length).sum := len_le_sum _ _ h
  omega

theorem joinB_lib (sep : Bs) : ∀ l : List Bs, Lib.join l sep = joinB sep l
  | [] => rfl
  | [x] => by rw [Lib.join_one]; rfl
  | x :: y :: r => by
    rw [show joinB sep (x :: y :: r) = x ++ sep ++ joinB sep (y :: r) from rfl, ← joinB_lib sep (y :: r)]
    simp [Lib.join, List.intercalate, List.intersperse]

def totalLen : List Bs → Nat
  | [] => 0
  | x :: r => x.length + totalLen r

theorem joinB_len (sep : Bs) : ∀ l : List Bs, (joinB sep l).length ≤ totalLen l + l.length * sep.length
  | [] => by simp [joinB, totalLen]
  | [x] => by simp [joinB, totalLen]
  | x :: y :: r => by
    have := joinB_len sep (y :: r)
    simp only [joinB, totalLen, List.length_append, List.length_cons] at this ⊢
    rw [Nat.add_mul]
    omega

theorem totalLen_sum : ∀ l : List Bs, totalLen l = (l.map List.length).sum
  | [] => rfl
  | x :: r => by simp [totalLen, totalLen_sum r]

def strS (l : List Bs) : List S := l.map S.str
@[simp] theorem strS_len (l : List Bs) : (strS l).length = l.length := by simp [strS]
theorem strS_append (a b : List Bs) : strS (a ++ b) = strS a ++ strS b := by simp [strS]
theorem strS_take (l : List Bs) (n : Nat) : (strS l).take n = strS (l.take n) := by simp [strS, List.map_take]
theorem strS_get (l : List Bs) (j : Nat) : (strS l)[j]? = (l[j]?).map S.str := by simp [strS]

abbrev RT (s : St) (x : S) (l : List Bs) : Prop := Rd 1 s x l.length (strS l)
abbrev FT (s0 s : St) (x : S) (l : List Bs) : Prop := Fr 1 s0 s x l.length (strS l)

theorem RT.atT {s : St} {x : S} {l : List Bs} (h : RT s x l) {j : Nat} {n : Int} {c : Bs} (hn : n = j) (hc : l[j]? = some c) : ∃ p, aIndexSl 1 (Z x) (I .i64 n) = some p ∧ aLoad1 p s.get = some (Z (.str c)) :=
  Rd.at1 h hn (by rw [strS_get, hc]; rfl)

theorem FT.lit {s0 s : St} {x : S} {l : List Bs} {c : Bs} (h : FT s0 s x l) (hl : l.length ≤ 1000000) :
    ∃ x' t, (∃ s', aNew s (nSlice 1 (aFill [.str []] [(0, 1, Z (.str c))])) = some (Z (.sl s.size 0 1 (.known 1)), s') ∧ aAppend 1 16 (Z x) (Z (.sl s.size 0 1 (.known 1))) s' = some (Z x', t)) ∧ FT s0 t x' (l ++ [c]) ∧ s.size ≤ t.size ∧ ∀ b, b < s.size → own x ≠ some b → t.get b = s.get b := by
  have L := Fr.lit 1 h.gr.1 (n := 1) (vs := strS [c]) (by simp)
  obtain ⟨x', t, e, f, hz, k⟩ := (h.gr' L.gr).append (by_ := 16) (by omega) L.rd.src (by simp) (by omega)
  refine ⟨x', t, ⟨s.push (.cells true (strS [c])), by simp [aNew, nSlice, aFill, V.cells, setRange, strS], e⟩, ?_, Nat.le_trans L.gr.2.1 hz, fun b hb hb1 => by rw [k b (Nat.lt_of_lt_of_le hb L.gr.2.1) hb1]; exact L.gr.2.2 b hb⟩
  unfold FT
  rw [strS_append, List.length_append]
  exact f

@[simp] theorem eql_str (a b : Bs) : aBin .eql (Z (.str a)) (Z (.str b)) = some (B (decide (a = b))) := by simp [aBin, aStr]
@[simp] theorem neq_str (a b : Bs) : aBin .neq (Z (.str a)) (Z (.str b)) = some (B (!decide (a = b))) := by simp [aBin, aStr]
@[simp] theorem aLenStr_str (a : Bs) : aLenStr (Z (.str a)) = some (I .i64 a.length) := nz rfl

/-! ### Pieces of texts -/

theorem aPieceStr_hi {l : Bs} {m : Nat} {n : Int} (hn : n = m) (h : m ≤ l.length) : aPieceStr (Z (.str l)) none (some (I .i64 n)) none = some (Z (.str (l.take m))) := by
  subst hn
  simp only [aPieceStr]
  rw [aBounds_hi h]
  simp
theorem aPieceStr_lo {l : Bs} {m : Nat} {n : Int} (hn : n = m) (h : m ≤ l.length) : aPieceStr (Z (.str l)) (some (I .i64 n)) none none = some (Z (.str (l.drop m))) := by
  subst hn
  simp only [aPieceStr]
  rw [aBounds_lo h (Nat.le_refl _)]
  have : l.drop m = (l.drop m).take (l.length - m) := (List.take_of_length_le (by simp)).symm
  simp
theorem aPieceStr_lh {l : Bs} {lo hi : Nat} {a b : Int} (ha : a = lo) (hb : b = hi) (h : lo ≤ hi) (k : hi ≤ l.length) : aPieceStr (Z (.str l)) (some (I .i64 a)) (some (I .i64 b)) none = some (Z (.str ((l.drop lo).take (hi - lo)))) := by
  subst ha; subst hb
  simp only [aPieceStr]
  rw [aBounds_lh h k]
  dsimp only
  rw [List.drop_take]
end Go.Abs

namespace Go.Abs.F
open Go Go.Abs

def ixP (fs : List Nat) (g : Nat) : CallF := fun f ts σ => match fs.contains f with
  | true => match ts with
    | [.v (.s (.str l)), .v (.s (.str [c]))] => some (I .i64 (ixB c l 0), σ)
    | _ => none
  | false => match Nat.beq f g with
    | true => match ts with
      | [.v (.s (.str l)), .v (.s (.str [c]))] => some (I .i64 (cntB c l : Nat), σ)
      | _ => none
    | false => none

theorem ixP_sound {P : Program} {fs : List Nat} {g : Nat}
    (hf : ∀ f ∈ fs, ∀ (s : ByteArray) (c : UInt8) (w : World), Calls P f #[.string s, .string ⟨#[c]⟩] w fun e w' => e = .returned (.int .i64 (Lib.indexByte s.data.toList c)) ∧ w' = w)
    (hg : ∀ (s : ByteArray) (c : UInt8) (w : World), Calls P g #[.string s, .string ⟨#[c]⟩] w fun e w' => e = .returned (.int .i64 (Lib.countByte s.data.toList c)) ∧ w' = w) : CallSound P (ixP fs g) := by
  refine sound_of_plain fun f ts σ t τ h => ?_
  have key : ∀ {ι : Inj} {vs : List Value} {l : Bs} {c : UInt8}, All2 (TRel ι) [.v (.s (.str l)), .v (.s (.str [c]))] vs → ∃ s : ByteArray, s.data.toList = l ∧ vs = [.string s, .string ⟨#[c]⟩] := by
    intro ι vs l c hA
    cases hA with
    | cons a b => cases b with
      | cons a' b' =>
        cases b'
        obtain ⟨s, rfl, hs⟩ := a
        obtain ⟨s', rfl, hs'⟩ := a'
        refine ⟨s, hs, ?_⟩
        obtain ⟨⟨q⟩⟩ := s'
        simp at hs'
        subst hs'
        rfl
  unfold ixP at h
  split at h
  · rename_i hc
    split at h
    · rename_i l c
      cases h
      refine ⟨rfl, fun ι w vs hR hA => ?_⟩
      obtain ⟨s, rfl, rfl⟩ := key hA
      refine (hf f (by simpa using hc) s c w).mono ?_
      rintro e u ⟨rfl, rfl⟩
      exact ⟨_, rfl, Still.refl _, by rw [ixB_lib]; rfl⟩
    · cases h
  · split at h
    · rename_i hb
      split at h
      · rename_i l c
        cases h
        have := Nat.eq_of_beq_eq_true hb
        subst this
        refine ⟨rfl, fun ι w vs hR hA => ?_⟩
        obtain ⟨s, rfl, rfl⟩ := key hA
        refine (hg s c w).mono ?_
        rintro e u ⟨rfl, rfl⟩
        exact ⟨_, rfl, Still.refl _, by rw [cntB_lib]; rfl⟩
      · cases h
    · cases h

theorem ixP_at {fs : List Nat} {g f : Nat} {l : Bs} {c : UInt8} {σ : St} (h : fs.contains f = true) : ixP fs g f [Z (.str l), Z (.str [c])] σ = some (I .i64 (ixB c l 0), σ) := by
  simp only [ixP, h]
theorem ixP_cnt {fs : List Nat} {g : Nat} {l : Bs} {c : UInt8} {σ : St} (h : fs.contains g = false) : ixP fs g g [Z (.str l), Z (.str [c])] σ = some (I .i64 (cntB c l : Nat), σ) := by
  simp only [ixP, h, Nat.beq_refl]

def strsOf : List S → Option (List Bs)
  | [] => some []
  | .str l :: r => match strsOf r with
    | some k => some (l :: k)
    | none => none
  | _ :: _ => none

theorem strsOf_strS : ∀ l : List Bs, strsOf (strS l) = some l
  | [] => rfl
  | x :: r => by
    have ih := strsOf_strS r
    show strsOf (.str x :: strS r) = _
    simp only [strsOf, ih]
theorem strsOf_eq : ∀ {vs : List S} {l : List Bs}, strsOf vs = some l → vs = strS l
  | [], l, h => by cases h; rfl
  | v :: r, l, h => by
    cases v with
    | str x =>
      unfold strsOf at h
      split at h
      · rename_i k hk
        cases h
        rw [strsOf_eq hk]
        rfl
      · cases h
    | _ => simp [strsOf] at h

theorem list_choose {α : Type} {P : Nat → α → Prop} : ∀ n : Nat, (∀ j, j < n → ∃ x, P j x) → ∃ xs : List α, xs.length = n ∧ ∀ (j : Nat) x, xs[j]? = some x → P j x
  | 0, _ => ⟨[], rfl, fun j x h => by simp at h⟩
  | n + 1, h => by
    obtain ⟨xs, h1, h2⟩ := list_choose n fun j hj => h j (by omega)
    obtain ⟨y, hy⟩ := h n (by omega)
    refine ⟨xs ++ [y], by simp [h1], fun j x hj => ?_⟩
    by_cases hjn : j < n
    · exact h2 j x (by rwa [List.getElem?_append_left (by omega)] at hj)
    · rw [List.getElem?_append_right (by omega)] at hj
      have : j = n := by
        have := (List.getElem?_eq_some_iff.1 hj).1
        simp at this
        omega
      subst this
      rw [h1, Nat.sub_self] at hj
      simp at hj
      subst hj
      exact hy

theorem all2_two {α β : Type} {R : α → β → Prop} {a b : α} {us : List β} (h : All2 R [a, b] us) : ∃ x y, us = [x, y] ∧ R a x ∧ R b y := by
  cases h with
  | cons p q => cases q with
    | cons p' q' => cases q'; exact ⟨_, _, rfl, p, p'⟩

def joinP (g : Nat) : CallF := fun f ts σ => match Nat.beq f g with
  | false => none
  | true => match ts with
    | [x, .v (.s (.str sep))] => match aSrc 1 x σ.get with
      | some (n, vs) => match strsOf vs with
        | some l => match x with
          | .v (.s (.str _)) => none
          | _ => match Nat.ble (totalLen l + l.length * sep.length) 1000000 && Nat.ble l.length 1000000 with
            | true => some (Z (.str (joinB sep l)), σ)
            | false => none
        | none => none
      | none => none
    | _ => none

theorem joinP_sound {P : Program} {g : Nat}
    (h0 : ∀ (a : Option Addr) (c : Nat) (sep : ByteArray) (w : World), Calls P g #[.slice a 0 c, .string sep] w fun e w' => e = .returned (.string ⟨#[]⟩) ∧ w' = w)
    (h1 : ∀ (bk o c : Nat) (xs : List ByteArray) (sep : ByteArray) (w : World), (∀ (j : Nat) x, xs[j]? = some x → w.cell? ⟨bk, o + j, none⟩ = some (.string x)) → bk < w.heap.size → xs.length ≤ 140737488355328 → xs.length ≤ c →
      (Lib.join (xs.map (·.data.toList)) sep.data.toList).length ≤ 140737488355328 →
      Calls P g #[.slice (some ⟨bk, o, none⟩) xs.length c, .string sep] w fun e w' => e = .returned (.string ⟨(Lib.join (xs.map (·.data.toList)) sep.data.toList).toArray⟩) ∧ Go.RowKit.Below w.heap.size w w') : CallSound P (joinP g) := by
  refine sound_of_plain fun f ts σ t τ h => ?_
  unfold joinP at h
  split at h
  · cases h
  · rename_i hb
    have := Nat.eq_of_beq_eq_true hb
    subst this
    split at h
    · rename_i x sep
      split at h
      · rename_i n vs hsrc
        split at h
        · rename_i l hl
          have hvs := strsOf_eq hl
          subst hvs
          split at h
          · cases h
          · rename_i hnstr
            split at h
            · rename_i hle
              cases h
              rw [Bool.and_eq_true] at hle
              have hle1 := Nat.le_of_ble_eq_true hle.1
              have hle2 := Nat.le_of_ble_eq_true hle.2
              refine ⟨rfl, fun ι w us hR hA => ?_⟩
              obtain ⟨u0, u1, rfl, a, a'⟩ := all2_two hA
              · · obtain ⟨sp, rfl, rfl⟩ := a'
                  have none0 : ∀ (ad : Option Addr) (c : Nat), l = [] → Calls P f #[.slice ad 0 c, .string sp] w fun e u => ∃ v, e = .returned v ∧ Still w u ∧ TRel ι (Z (.str (joinB sp.data.toList l))) v := by
                    intro ad c e
                    subst e
                    refine (h0 ad c sp w).mono ?_
                    rintro e u ⟨rfl, rfl⟩
                    exact ⟨_, rfl, Still.refl _, ⟨_, rfl, rfl⟩⟩
                  cases x with
                  | any => cases hsrc
                  | tup _ => cases hsrc
                  | v y => cases y with
                    | agg _ => cases hsrc
                    | s y => cases y with
                      | nils =>
                        simp only [aSrc, Option.some.injEq, Prod.mk.injEq] at hsrc
                        have hl0 : l = [] := by
                          cases l with
                          | nil => rfl
                          | cons _ _ => simp [strS] at hsrc
                        have ha : u0 = Value.slice none 0 0 := a
                        subst ha
                        exact none0 _ _ hl0
                      | emp i e =>
                        simp only [aSrc, Option.some.injEq, Prod.mk.injEq] at hsrc
                        have hl0 : l = [] := by
                          cases l with
                          | nil => rfl
                          | cons _ _ => simp [strS] at hsrc
                        obtain ⟨L, o, c, _, rfl, _⟩ := a
                        exact none0 _ _ hl0
                      | str q => exact absurd rfl (hnstr q)
                      | sl i o m cap =>
                        have hv : ∃ (L : Loc) (c : Nat), ι i = some L ∧ m ≤ c ∧ All2 (TRel ι) [.v (.s (.sl i o m cap))] [Value.slice (some ⟨L.b, L.base + o, none⟩) m c] ∧ ∃ v, v = Value.slice (some ⟨L.b, L.base + o, none⟩) m c ∧ v = u0 := by
                          cases cap with
                          | known c => obtain ⟨L, e1, e2, e3⟩ := a; exact ⟨L, c, e1, e3, .cons ⟨L, e1, rfl, e3⟩ .nil, _, rfl, e2.symm⟩
                          | grown q => obtain ⟨L, c, e1, e2, e3, e4⟩ := a; exact ⟨L, c, e1, e3, .cons ⟨L, c, e1, rfl, e3, e4⟩ .nil, _, rfl, e2.symm⟩
                        obtain ⟨L, c, hL, hmc, _, v, rfl, hvv⟩ := hv
                        subst hvv
                        by_cases hz : m = 0
                        · subst hz
                          simp only [aSrc, if_true, Option.some.injEq, Prod.mk.injEq] at hsrc
                          have hl0 : l = [] := by
                            cases l with
                            | nil => rfl
                            | cons _ _ => simp [strS] at hsrc
                          exact none0 _ _ hl0
                        · simp only [aSrc, if_neg hz] at hsrc
                          split at hsrc
                          · rename_i own rows hrows
                            split at hsrc
                            · rename_i hbnd
                              simp only [Option.some.injEq, Prod.mk.injEq] at hsrc
                              obtain ⟨rfl, hst⟩ := hsrc
                              obtain ⟨cs, e, fz, k1, k2, k3, k4, k5⟩ := hR.blk i L _ hL hrows
                              have hml : m = l.length := by
                                have := congrArg List.length hst
                                rw [List.length_take, List.length_drop, strS_len] at this
                                omega
                              have hx : ∃ xs : List ByteArray, xs.map (·.data.toList) = l ∧ ∀ (j : Nat) x, xs[j]? = some x → w.cell? ⟨L.b, L.base + o + j, none⟩ = some (.string x) := by
                                have hone : ∀ j, j < l.length → ∃ x : ByteArray, x.data.toList = l.getD j [] ∧ w.cell? ⟨L.b, L.base + o + j, none⟩ = some (.string x) := by
                                  intro j hj
                                  have h2 : rows[o + j]? = some (.str (l.getD j [])) := by
                                    have : ((rows.drop o).take (m * 1))[j]? = (strS l)[j]? := by rw [hst]
                                    rw [List.getElem?_take_of_lt (by omega), List.getElem?_drop, strS_get, List.getElem?_eq_getElem hj] at this
                                    rw [this]
                                    simp [List.getD, hj]
                                  obtain ⟨v, hv, x, rfl, hx⟩ := k4 _ _ h2
                                  refine ⟨x, hx, ?_⟩
                                  unfold World.cell?
                                  simp only [k1]
                                  rw [Nat.add_assoc]
                                  simpa using hv
                                obtain ⟨xs, x1, x2⟩ := list_choose l.length hone
                                refine ⟨xs, ?_, fun j x hj => (x2 j x hj).2⟩
                                apply List.ext_getElem?
                                intro j
                                by_cases hj : j < l.length
                                · have h3 : xs[j]? = some xs[j] := List.getElem?_eq_getElem (by omega)
                                  rw [List.getElem?_map, h3, List.getElem?_eq_getElem hj, Option.map_some, (x2 j _ h3).1]
                                  simp [List.getD, hj]
                                · rw [List.getElem?_eq_none (by simp; omega), List.getElem?_eq_none (by omega)]
                              obtain ⟨xs, hxs, hcell⟩ := hx
                              have hxl : xs.length = m := by
                                have := congrArg List.length hxs
                                simpa [← hml] using this
                              have hlt : L.b < w.heap.size := (Array.getElem?_eq_some_iff.1 k1).1
                              have hjl := joinB_len sp.data.toList l
                              have hb2 : (Lib.join (xs.map (·.data.toList)) sp.data.toList).length ≤ 140737488355328 := by
                                rw [hxs, joinB_lib]
                                omega
                              have hcall := h1 L.b (L.base + o) c xs sp w hcell hlt (by omega) (by omega) hb2
                              rw [hxl] at hcall
                              refine hcall.mono ?_
                              rintro e u ⟨rfl, hbel⟩
                              refine ⟨_, rfl, Still.of hbel, ⟨_, rfl, ?_⟩⟩
                              rw [hxs, joinB_lib]
                            · cases hsrc
                          · cases hsrc
                      | _ => cases hsrc
            · cases h
        · cases h
      · cases h
    · cases h

theorem joinP_at {g : Nat} {x : S} {l : List Bs} {sep : Bs} {σ : St} (h : RT σ x l) (hb : totalLen l + l.length * sep.length ≤ 1000000) (hl : l.length ≤ 1000000) : joinP g g [Z x, Z (.str sep)] σ = some (Z (.str (joinB sep l)), σ) := by
  have hns : ∀ q, (Z x : T) ≠ .v (.s (.str q)) := by
    intro q e
    rcases h.rd with ⟨_, rfl | ⟨c, g, rfl⟩ | ⟨c, o, cap, rfl⟩⟩ | ⟨c, o, cap, w, vs, rfl, _⟩ <;> cases e
  have e1 := Nat.ble_eq_true_of_le hb
  have e2 := Nat.ble_eq_true_of_le hl
  unfold joinP
  rw [Nat.beq_refl]
  dsimp only
  rw [h.src]
  dsimp only
  rw [strsOf_strS]
  dsimp only
  rw [e1, e2]
  rcases h.rd with ⟨_, rfl | ⟨c, g, rfl⟩ | ⟨c, o, cap, rfl⟩⟩ | ⟨c, o, cap, w, vs, rfl, _⟩ <;> rfl
end Go.Abs.F

