/-
  A library of our own, several texts in one: an abstract store for the model, and runs over it. Nothing here speaks of any program. No conditions.
-/
import Derived.Test.YtoibllpfjnicfaaAbsC
import Derived.Carry
import Derived.Test.YtoibllpfjnicfaaAbsD
import Derived.Lib.LaidTab
import Derived.Below
import Derived.Lib.Bytealg
import Derived.Lib.Join
import Derived.ChangeArms
import Derived.DataReads
/-
  What a statement's arguments give an abstract run: numbers, strings, flat structs and slices of these; and that they read behind the call as before.
-/
namespace Go.Abs
open Go Go.ChangeShapes

inductive AK where
  | bool
  | int (k : IntKind)
  | str
  deriving DecidableEq

def KS : AK → S → Prop
  | .bool, .bool _ => True
  | .int k, .int q n => q = k ∧ (Lit.int k n).wf = true
  | .str, .str l => l.length ≤ maxLen
  | _, _ => False

def flatF (P : Program) (g : TypeId → Option (List AK)) : List Field → Nat → Option (List AK)
  | [], _ => some []
  | f :: fs, off => if f.offset = off then
      match g f.type with
      | none => none
      | some ks => if ks.length = P.cellsOf f.type then (flatF P g fs (off + ks.length)).map (ks ++ ·) else none
    else none

def flatK (P : Program) : Nat → TypeId → Option (List AK)
  | 0, _ => none
  | n + 1, t => match P.underlying t with
    | some .bool => some [.bool]
    | some (.int k) => some [.int k]
    | some .string => some [.str]
    | some (.struct fs) => match flatF P (flatK P n) fs.toList 0 with
      | none => none
      | some ks => if ks.length = P.cellsOf t then some ks else none
    | some (.array m e) => match flatK P n e with
      | none => none
      | some ks => if ks.length = P.cellsOf e ∧ P.cellsOf t = m * ks.length then some (List.replicate m ks).flatten else none
    | _ => none

section
variable {H : Type} {enc : TypeId × Value → H} {P : Program} {w : World} {base : Nat} {spare : Nat → Bool} {held : Bool}

theorem flat_fields {cs : List Value} {g : TypeId → Option (List AK)}
    (hg : ∀ (off : Nat) (t : TypeId) (ks : List AK) (m : Nat) (x : DataW H × List MemPlace), DataW.trod enc P w base spare held m t ((cs.drop off).take (P.cellsOf t)) = some x → g t = some ks → ∃ xs : List S, All2 KS ks xs ∧ ∀ ι, All2 (SRel ι) xs ((cs.drop off).take (P.cellsOf t))) :
    ∀ (fs : List Field) (off : Nat) (ks : List AK), flatF P g fs off = some ks → (∀ f ∈ fs, ∃ m x, DataW.trod enc P w base spare held m f.type ((cs.drop f.offset).take (P.cellsOf f.type)) = some x) →
      ∃ xs : List S, All2 KS ks xs ∧ ∀ ι, All2 (SRel ι) xs ((cs.drop off).take ks.length) := by
  intro fs
  induction fs with
  | nil =>
    intro off ks h _
    cases h
    exact ⟨[], .nil, fun ι => by simpa using All2.nil⟩
  | cons f fs ih =>
    intro off ks h hx
    unfold flatF at h
    split at h
    · rename_i ho
      subst ho
      split at h
      · cases h
      · rename_i k1 hk1
        split at h
        · rename_i hl
          rw [Option.map_eq_some_iff] at h
          obtain ⟨k2, hk2, rfl⟩ := h
          obtain ⟨m, x, hx1⟩ := hx f List.mem_cons_self
          obtain ⟨x1, a1, b1⟩ := hg f.offset f.type k1 m x hx1 hk1
          obtain ⟨x2, a2, b2⟩ := ih (f.offset + k1.length) k2 hk2 fun f' hf' => hx f' (List.mem_cons_of_mem _ hf')
          refine ⟨x1 ++ x2, forall2_append a1 a2, fun ι => ?_⟩
          rw [List.length_append, List.take_add, List.drop_drop]
          have b1' := b1 ι
          rw [← hl] at b1'
          exact forall2_append b1' (b2 ι)
        · cases h
    · cases h

theorem flat_rows {cs : List Value} {ks : List AK} (c : Nat) (hc : ks.length = c) :
    ∀ (m off : Nat), (∀ i, i < m → ∃ xs : List S, All2 KS ks xs ∧ ∀ ι, All2 (SRel ι) xs ((cs.drop (off + i * c)).take c)) →
      ∃ xs : List S, All2 KS (List.replicate m ks).flatten xs ∧ ∀ ι, All2 (SRel ι) xs ((cs.drop off).take (m * c)) := by
  intro m
  induction m with
  | zero => intro off _; exact ⟨[], .nil, fun ι => by simpa using All2.nil⟩
  | succ m ih =>
    intro off h
    obtain ⟨x1, a1, b1⟩ := h 0 (by omega)
    obtain ⟨x2, a2, b2⟩ := ih (off + c) fun i hi => by
      have := h (i + 1) (by omega)
      rwa [show off + (i + 1) * c = off + c + i * c by rw [Nat.add_mul]; omega] at this
    refine ⟨x1 ++ x2, ?_, fun ι => ?_⟩
    · rw [List.replicate_succ, List.flatten_cons]
      exact forall2_append a1 a2
    · rw [show (m + 1) * c = c + m * c by rw [Nat.add_mul]; omega, List.take_add, List.drop_drop]
      have b1' := b1 ι
      rw [Nat.zero_mul, Nat.add_zero] at b1'
      exact forall2_append b1' (b2 ι)

theorem flat_trod : ∀ (n m : Nat) (t : TypeId) (cs : List Value) (x : DataW H × List MemPlace) (ks : List AK), DataW.trod enc P w base spare held m t cs = some x → flatK P n t = some ks →
    ∃ xs : List S, All2 KS ks xs ∧ ∀ ι, All2 (SRel ι) xs cs := by
  intro n
  induction n with
  | zero => intro m t cs x ks _ h; cases h
  | succ n ih =>
    intro m t cs x ks hx h
    unfold flatK at h
    split at h
    · rename_i ht
      cases h
      obtain ⟨b, rfl, _⟩ := DataW.trod_bool ht hx
      exact ⟨[.bool b], .cons trivial .nil, fun ι => .cons rfl .nil⟩
    · rename_i k ht
      cases h
      obtain ⟨b, rfl, _, hw⟩ := DataW.trod_int ht hx
      exact ⟨[.int k b], .cons ⟨rfl, hw⟩ .nil, fun ι => .cons rfl .nil⟩
    · rename_i ht
      cases h
      obtain ⟨s, rfl, _, hw⟩ := DataW.trod_string ht hx
      exact ⟨[.str s.data.toList], .cons (by simpa [KS] using hw) .nil, fun ι => .cons ⟨s, rfl, rfl⟩ .nil⟩
    · rename_i fs ht
      split at h
      · cases h
      · rename_i k1 hk1
        split at h
        · rename_i hl
          cases h
          obtain ⟨xs, m', _, _, hcl, hxl, hxs⟩ := DataW.trod_struct ht hx
          obtain ⟨ys, a, b⟩ := flat_fields (cs := cs) (g := flatK P n) (fun off t ks m x h1 h2 => ih m t _ x ks h1 h2) fs.toList 0 ks hk1 fun f hf => by
            obtain ⟨i, hi⟩ := List.getElem?_of_mem hf
            have hi' : fs[i]? = some f := by simpa using hi
            have h2 := hxs i f hi'
            have h3 : i < xs.length := by rw [hxl]; exact (Array.getElem?_eq_some_iff.1 hi').1
            rw [List.getElem?_eq_getElem h3] at h2
            exact ⟨m', _, h2⟩
          refine ⟨ys, a, fun ι => ?_⟩
          have := b ι
          rwa [List.drop_zero, hl, ← hcl, List.take_length] at this
        · cases h
    · rename_i q e ht
      split at h
      · cases h
      · rename_i k1 hk1
        split at h
        · rename_i hl
          cases h
          obtain ⟨xs, m', _, _, hcl, hxl, hxs⟩ := DataW.trod_array ht hx
          obtain ⟨ys, a, b⟩ := flat_rows (cs := cs) (ks := k1) (P.cellsOf e) hl.1 q 0 fun i hi => by
            have h2 := hxs i hi
            have h3 : i < xs.length := by rw [hxl]; exact hi
            rw [List.getElem?_eq_getElem h3] at h2
            obtain ⟨zs, a, b⟩ := ih m' e _ _ k1 h2 hk1
            exact ⟨zs, a, fun ι => by rw [Nat.zero_add]; exact b ι⟩
          refine ⟨ys, a, fun ι => ?_⟩
          have := b ι
          rwa [List.drop_zero, ← hl.1, ← hl.2, ← hcl, List.take_length] at this
        · cases h
    · cases h

def argBlk (vs : List S) : Blk := match vs with
  | [] => .dead
  | x :: l => .cells false (x :: l)

theorem argBlk_not_live (vs : List S) : ¬ live (some (argBlk vs)) := by
  cases vs <;> exact fun h => h

theorem cell_at {b : Nat} {c : Array Value} {el : TypeId} {fz : Nat × Nat} (hb : w.heap[b]? = some (.cells c el fz)) (i j : Nat) {o : Nat} : w.cell? (((⟨b, o, none⟩ : Addr).add i).add j) = c[o + i + j]? := by
  have h : ((⟨b, o, none⟩ : Addr).add i).add j = ⟨b, o + i + j, none⟩ := by
    unfold Addr.add
    split <;> split <;> simp_all
  rw [h]
  unfold World.cell?
  simp [hb]

def Inp (W : World) (σ : St) (vs : List Value) (ts : List T) : Prop :=
  ∃ ι : Inj, Rel ι σ.get W ∧ σ.wf ∧ (∀ i, σ.size ≤ i → ι i = none) ∧ (∀ i, ¬ live (σ.get i)) ∧ All2 (TRel ι) ts vs

theorem Inp.nil (W : World) : Inp W St.empty [] [] :=
  ⟨fun _ => none, ⟨(fun i L b h => by cases h), (fun i j L M h => by cases h), (fun i n vs h => by cases h)⟩, St.wf_empty, fun _ _ => rfl, fun _ h => h, .nil⟩

theorem Inp.flat {W : World} {σ : St} {vs : List Value} {ts : List T} (h : Inp W σ vs ts) {v : Value} {x : S} (hx : ∀ ι, SRel ι x v) : Inp W σ (v :: vs) (.v (.s x) :: ts) := by
  obtain ⟨ι, h1, h2, h3, h4, h5⟩ := h
  exact ⟨ι, h1, h2, h3, h4, .cons (hx ι) h5⟩

theorem Inp.agg {W : World} {σ : St} {vs : List Value} {ts : List T} (h : Inp W σ vs ts) {cs : List Value} {xs : List S} (hx : ∀ ι, All2 (SRel ι) xs cs) : Inp W σ (.agg cs.toArray :: vs) (.v (.agg xs) :: ts) := by
  obtain ⟨ι, h1, h2, h3, h4, h5⟩ := h
  exact ⟨ι, h1, h2, h3, h4, .cons ⟨cs, rfl, hx ι⟩ h5⟩

theorem Inp.slice {W : World} {σ : St} {vs : List Value} {ts : List T} (h : Inp W σ vs ts) {b o len cap : Nat} {xs : List S} (hl : len ≤ cap) (L : Loc) (hb : L.b = b) (ho : L.base = o) (hx : ∀ ι, BlkRel ι L W (argBlk xs)) :
    Inp W (σ.push (argBlk xs)) (.slice (some ⟨b, o, none⟩) len cap :: vs) (.v (.s (.sl σ.size 0 len (.known cap))) :: ts) := by
  obtain ⟨ι, h1, h2, h3, h4, h5⟩ := h
  have hle : ι.le (fun i => if i = σ.size then some L else ι i) := by
    intro i M hi
    have : i ≠ σ.size := by
      intro e
      rw [h3 i (by omega)] at hi
      cases hi
    simp [this, hi]
  refine ⟨fun i => if i = σ.size then some L else ι i, ⟨?_, ?_, ?_⟩, St.wf_push h2 _, ?_, ?_, .cons ⟨L, by simp, by rw [hb, ho]; simp, hl⟩ (forall2_mono (fun a c k => k.mono hle) h5)⟩
  · intro i M c hi hc
    by_cases e : i = σ.size
    · subst e
      simp only [if_true] at hi
      cases hi
      rw [St.get_push_same] at hc
      cases hc
      exact hx _
    · simp only [if_neg e] at hi
      rw [St.get_push_ne _ _ e] at hc
      exact (h1.blk i M c hi hc).mono hle
  · intro i j L1 M1 hi hj hli
    exfalso
    by_cases e : i = σ.size
    · subst e
      rw [St.get_push_same] at hli
      exact argBlk_not_live _ hli
    · rw [St.get_push_ne _ _ e] at hli
      exact h4 i hli
  · intro i n vs hg
    by_cases e : i = σ.size
    · subst e; exact ⟨L, by simp⟩
    · rw [St.get_push_ne _ _ e] at hg
      obtain ⟨M, hM⟩ := h1.glob i n vs hg
      exact ⟨M, by simp [e, hM]⟩
  · intro i hi
    rw [St.size_push] at hi
    simp only [if_neg (show i ≠ σ.size by omega)]
    exact h3 i (by omega)
  · intro i hli
    by_cases e : i = σ.size
    · subst e
      rw [St.get_push_same] at hli
      exact argBlk_not_live _ hli
    · rw [St.get_push_ne _ _ e] at hli
      exact h4 i hli

theorem calls_inp {callf : CallF} (hs : CallSound P callf) {f : FuncId} {ts : List T} {vs : List Value} {σ τ : St} {W : World} {b : Bool} (hi : Inp W σ vs ts)
    (h : callf f ts σ = some (B b, τ)) : Calls P f vs.toArray W fun e u => e = .returned (.bool b) ∧ Kept W u := by
  obtain ⟨ι, h1, h2, h3, h4, h5⟩ := hi
  exact calls_of_run hs h h2 h1 (fun i hi _ => h3 i hi) h5 fun i L _ _ => h4 i

theorem kept_same {W u : World} (h : Kept W u) {p : MemPlace} (hp : p.block < W.heap.size) : W.sameAt u p := by
  cases p with
  | cell b o => exact World.cell?_of_block (w := W) (h.2.2.2 b hp)
  | map b => exact h.2.2.2 b hp

theorem trodAll_stays {W u : World} (hl : laidOutB P = true) (hk : Kept W u) :
    ∀ {ts : List TypeId} {vs : List Value} {ds : List (DataW H)} {p : List MemPlace} {sp : Nat → Bool}, DataW.TrodAll enc P W 0 (fun _ => true) true ts vs ds p → (ts.all fun t => P.readableRec t && decide (t < P.types.size)) = true →
      (∀ x ∈ p, x.block < W.heap.size) → (∀ x ∈ p, sp x.block = true) → DataW.TrodAll enc P u 0 sp true ts vs ds p := by
  intro ts
  induction ts with
  | nil =>
    intro vs ds p sp h _ _ _
    cases vs <;> cases ds <;> first | exact h | exact h.elim
  | cons t ts ih =>
    intro vs ds p sp h hr hlt hsp
    cases vs with
    | nil => exact h.elim
    | cons v vs => cases ds with
      | nil => exact h.elim
      | cons d ds =>
        obtain ⟨q, r, h1, h2, rfl⟩ := h
        simp only [List.all_cons, Bool.and_eq_true, decide_eq_true_eq] at hr
        refine ⟨q, r, WideElems.Trod_stays hl hr.1.1 hr.1.2 h1 (fun x hx => ?_) fun x hx => hsp x (List.mem_append_left _ hx), ih h2 hr.2 (fun x hx => hlt x (List.mem_append_right _ hx)) fun x hx => hsp x (List.mem_append_right _ hx), rfl⟩
        have hx' := hlt x (List.mem_append_left _ hx)
        exact kept_same hk hx'
end
end Go.Abs


/-
  Loops by an invariant; rules for slices and their elements.
-/
namespace Go.Abs.F
open Go Go.Abs

theorem loops_inv {f : List T → St → Option (JO × St)} (In : Nat → List T → St → Prop) (Q : JO → St → Prop)
    (step : ∀ k v s, In k v s → (∃ v' s' k', f v s = some (.normal v', s') ∧ k = k' + 1 ∧ In k' v' s') ∨ ∃ j s', f v s = some (j, s') ∧ (∀ v, j ≠ .normal v) ∧ Q j s') :
    ∀ N k v s, In k v s → k < N → ∃ j τ, loops f N v s = some (j, τ) ∧ Q j τ := by
  intro N
  induction N with
  | zero => intro k v s _ h; omega
  | succ N ih =>
    intro k v s hi hk
    rcases step k v s hi with ⟨v', s', k', hf, hk', hi'⟩ | ⟨j, s', hf, hj, hq⟩
    · obtain ⟨j, τ, h, hq⟩ := ih k' v' s' hi' (by omega)
      exact ⟨j, τ, by simp only [loops, hf]; exact h, hq⟩
    · refine ⟨j, s', ?_, hq⟩
      cases j with
      | normal v => exact absurd rfl (hj v)
      | exit i v => simp only [loops, hf]
      | ret r => simp only [loops, hf]

@[simp] theorem aLenSl_sl (b o len : Nat) (c : Cap) : aLenSl (Z (.sl b o len c)) = some (I .i64 len) := nz rfl
@[simp] theorem aLenSl_nils : aLenSl (Z .nils) = some (I .i64 0) := nz rfl
@[simp] theorem aLenSl_emp (i e : Nat) : aLenSl (Z (.emp i e)) = some (I .i64 0) := nz rfl

theorem aIndexSl_int {e b o len : Nat} {c : Cap} {k : IntKind} {n : Int} {j : Nat} (hn : n = j) (h : j < len) : aIndexSl e (Z (.sl b o len c)) (I k n) = some (Z (.ptr b (o + j * e))) := by
  subst hn
  simp [aIndexSl, aIdx, h]

end Go.Abs.F
namespace Go.Abs
open Go Go.Abs.F

def SlOf (a : T) (c : Nat) (rows : List (List S)) : Prop := (a = Z .nils ∧ rows = []) ∨ ∃ cap, rows.length ≤ cap ∧ a = Z (.sl c 0 rows.length (.known cap))

theorem SlOf.len {a : T} {c : Nat} {rows : List (List S)} (h : SlOf a c rows) : aLenSl a = some (I .i64 rows.length) := by
  rcases h with ⟨rfl, rfl⟩ | ⟨cap, _, rfl⟩ <;> rfl

theorem SlOf.index {a : T} {c : Nat} {rows : List (List S)} (h : SlOf a c rows) {k : IntKind} {e j : Nat} {n : Int} (hn : n = j) (hj : j < rows.length) : aIndexSl e a (I k n) = some (Z (.ptr c (j * e))) := by
  rcases h with ⟨rfl, rfl⟩ | ⟨cap, _, rfl⟩
  · simp at hj
  · rw [aIndexSl_int hn hj, Nat.zero_add]

theorem rows_get {rows : List (List S)} {e : Nat} (he : ∀ r ∈ rows, r.length = e) : ∀ (j f : Nat) (r : List S), rows[j]? = some r → f < e → rows.flatten[j * e + f]? = r[f]? := by
  induction rows with
  | nil => intro j f r h; simp at h
  | cons a l ih =>
    intro j f r h hf
    have ha := he a List.mem_cons_self
    rw [List.flatten_cons]
    cases j with
    | zero =>
      simp at h
      subst h
      rw [Nat.zero_mul, Nat.zero_add, List.getElem?_append_left (by omega)]
    | succ j =>
      simp at h
      rw [Nat.add_mul, Nat.one_mul, List.getElem?_append_right (by omega), show j * e + e + f - a.length = j * e + f by omega]
      exact ih (fun r hr => he r (List.mem_cons_of_mem _ hr)) j f r h hf

theorem Inp.dead {W : World} {σ : St} {vs : List Value} {ts : List T} (h : Inp W σ vs ts) : Inp W (σ.push .dead) vs ts := by
  obtain ⟨ι, h1, h2, h3, h4, h5⟩ := h
  have ne : ∀ i L, ι i = some L → i ≠ σ.size := by
    intro i L hi e
    rw [h3 i (by omega)] at hi
    cases hi
  refine ⟨ι, ⟨fun i L b hi hb => ?_, fun i j L M hi hj hl hh => ?_, fun i n vs hg => ?_⟩, St.wf_push h2 _, fun i hi => h3 i (by rw [St.size_push] at hi; omega), fun i hl => ?_, h5⟩
  · rw [St.get_push_ne _ _ (ne i L hi)] at hb
    exact h1.blk i L b hi hb
  · rw [St.get_push_ne _ _ (ne i L hi)] at hl
    exact absurd hl (h4 i)
  · by_cases e : i = σ.size
    · subst e; rw [St.get_push_same] at hg; cases hg
    · rw [St.get_push_ne _ _ e] at hg; exact h1.glob i n vs hg
  · by_cases e : i = σ.size
    · subst e
      rw [St.get_push_same] at hl
      exact hl
    · rw [St.get_push_ne _ _ e] at hl
      exact h4 i hl

theorem KS.int {k : IntKind} {x : S} (h : KS (.int k) x) : ∃ n, x = .int k n ∧ (Lit.int k n).wf = true := by
  cases x <;> first | exact h.elim | (obtain ⟨rfl, hw⟩ := h; exact ⟨_, rfl, hw⟩)

end Go.Abs


/-
  Two runs of one text that differ in their first temporary alone.
-/
namespace Go.Abs.F
open Go Go.Abs

section
variable {X Y : T}

inductive Tw (X Y : T) : Option (JO × St) → Option (JO × St) → Prop
  | norm (l : List T) (s : St) : Tw X Y (some (.normal (X :: l), s)) (some (.normal (Y :: l), s))
  | exit (i : Nat) (l : List T) (s : St) : Tw X Y (some (.exit i (X :: l), s)) (some (.exit i (Y :: l), s))
  | same (x : Option (JO × St)) : Tw X Y x x

end
end Go.Abs.F
namespace Go.Abs.F
open Go Go.Abs

end Go.Abs.F
namespace Go.Abs.F
open Go Go.Abs

theorem wrap_in (y : Int) (h0 : -2 ^ 63 ≤ y) (h1 : y < 2 ^ 63) : IntKind.i64.wrap y = y := by
  unfold IntKind.wrap
  simp [IntKind.signed, IntKind.bits]
  omega

theorem wrap_u64_in (x : Int) (h0 : 0 ≤ x) (h1 : x < 2 ^ 64) : IntKind.u64.wrap x = x := by
  unfold IntKind.wrap
  simp [IntKind.signed, IntKind.bits]
  omega

end Go.Abs.F
namespace Go.Abs.F
open Go Go.Abs
section
variable {Q Q' : List T → Prop} {X Y : T}

inductive TwQ (Q : List T → Prop) (X Y : T) : Option (JO × St) → Option (JO × St) → Prop
  | norm (l : List T) (s : St) (h : Q l) : TwQ Q X Y (some (.normal (X :: l), s)) (some (.normal (Y :: l), s))
  | same (x : Option (JO × St)) : TwQ Q X Y x x

end

end Go.Abs.F


/-
  A package-level table beside the store, as a block that is read alone; calls that tell plain values.
-/
namespace Go.Abs
open Go Go.Abs.F Go.RowKit

structure Still (w u : World) : Prop where
  os : u.os = w.os
  output : u.output = w.output
  size : w.heap.size ≤ u.heap.size
  block : ∀ k, k < w.heap.size → u.heap[k]? = w.heap[k]?

theorem Still.refl (w : World) : Still w w := ⟨rfl, rfl, Nat.le_refl _, fun _ _ => rfl⟩
theorem Still.of {w u : World} (h : Below w.heap.size w u) : Still w u := ⟨h.os, h.output, h.size, h.block⟩

theorem Rel.below {ι : Inj} {g : Mem} {w u : World} (hR : Rel ι g w) (hb : Still w u) : Rel ι g u := by
  refine ⟨fun i L b hi hb' => ?_, hR.sep, hR.glob⟩
  have hB := hR.blk i L b hi hb'
  cases b with
  | dead => trivial
  | cells own vs => exact hB.congr (hb.block _ (hB.lt trivial))
  | map es => exact hB.congr (hb.block _ (hB.lt trivial))
  | glob g vs => exact hB.congr (hb.block _ (hB.lt trivial))

theorem Ext.below {ι : Inj} {σ : St} {w u : World} (hb : Still w u) : Ext ι σ w ι σ u :=
  ⟨Nat.le_refl _, fun _ _ => rfl, fun _ _ h => h, fun _ _ h => h, fun _ _ _ => rfl, fun i L h1 h2 => by omega, hb.os, hb.output, hb.size, fun k hk _ => hb.block k hk⟩

def tabSt (g : Nat) (vs : List S) : St := St.empty.push (.glob g vs)

theorem Inp.glob {P : Program} {W : World} {name : String} {k : IntKind} {zs : List Int} {g : Nat} (hg : P.globalNamed name = some g) (h : Lib.TabIs P W name k zs) :
    Inp W (tabSt g (zs.map (S.int k))) [] [] := by
  unfold Lib.TabIs World.var? at h
  rw [hg] at h
  simp only [Option.bind_some] at h
  split at h
  · rename_i cs e fz hb
    cases h
    have get0 : ∀ i b, (tabSt g (zs.map (S.int k))).get i = some b → i = 0 ∧ b = .glob g (zs.map (S.int k)) := by
      intro i b hi
      unfold tabSt at hi
      by_cases e : i = 0
      · subst e
        have := St.get_push_same St.empty (.glob g (zs.map (S.int k)))
        rw [show St.empty.size = 0 from rfl] at this
        rw [this] at hi
        cases hi
        exact ⟨rfl, rfl⟩
      · rw [St.get_push_ne _ _ (by simpa using e)] at hi
        cases hi
    refine ⟨fun i => if i = 0 then some ⟨g, 0, 0, 0⟩ else none, ⟨fun i L b hi hb' => ?_, fun i j L M hi hj hl => ?_, fun i n vs hi => ?_⟩, St.wf_push St.wf_empty _, fun i hi => ?_, fun i hi => ?_, .nil⟩
    · obtain ⟨rfl, rfl⟩ := get0 i b hb'
      simp only [if_true, Option.some.injEq] at hi
      subst hi
      refine ⟨rfl, _, _, _, hb, by simp, fun j x hx => ?_⟩
      rw [List.getElem?_map, Option.map_eq_some_iff] at hx
      obtain ⟨n, hn, rfl⟩ := hx
      exact ⟨.int k n, by simp [hn], rfl⟩
    · exfalso
      cases hb2 : (tabSt g (zs.map (S.int k))).get i with
      | none => rw [hb2] at hl; exact hl
      | some b => obtain ⟨_, rfl⟩ := get0 i b hb2; rw [hb2] at hl; exact hl
    · obtain ⟨rfl, _⟩ := get0 i _ hi
      exact ⟨_, rfl⟩
    · have : i ≠ 0 := by
        have : (tabSt g (zs.map (S.int k))).size = 1 := rfl
        omega
      simp [this]
    · cases hb2 : (tabSt g (zs.map (S.int k))).get i with
      | none => rw [hb2] at hi; exact hi
      | some b => obtain ⟨_, rfl⟩ := get0 i b hb2; rw [hb2] at hi; exact hi
  · cases h
end Go.Abs
namespace Go.Abs.F
open Go Go.Abs

end Go.Abs.F


/-
  Slices in any store, whatever their elements: how they read, how they grow; stores that only grow.
-/
namespace Go.Abs
open Go Go.Abs.F
set_option linter.unusedVariables false

def Gr (s t : St) : Prop := t.wf ∧ s.size ≤ t.size ∧ ∀ b, b < s.size → t.get b = s.get b
theorem Gr.refl {s : St} (wf : s.wf) : Gr s s := ⟨wf, Nat.le_refl _, fun _ _ => rfl⟩
theorem Gr.push {s : St} (wf : s.wf) (b : Blk) : Gr s (s.push b) := ⟨St.wf_push wf _, by simp, fun c hc => St.get_push_ne _ _ (by omega)⟩
theorem Gr.trans {a b c : St} (h : Gr a b) (k : Gr b c) : Gr a c := ⟨k.1, Nat.le_trans h.2.1 k.2.1, fun x hx => by rw [k.2.2 x (Nat.lt_of_lt_of_le hx h.2.1), h.2.2 x hx]⟩
theorem Gr.wf {s t : St} (h : Gr s t) : t.wf := h.1
theorem Gr.le {s t : St} (h : Gr s t) : s.size ≤ t.size := h.2.1
theorem Gr.get {s t : St} (h : Gr s t) {b : Nat} {x : Blk} (hb : s.get b = some x) (wf : s.wf) : t.get b = some x := by rw [h.2.2 b (wf.lt hb), hb]

def own : S → Option Nat
  | .emp c _ => some c
  | .sl c _ _ _ => some c
  | _ => none

def okCap (e : Nat) : S → Prop
  | .sl _ _ n (.known c) => n ≤ c
  | .sl _ _ _ (.grown g) => g = e
  | .emp _ g => g = e
  | _ => True

structure Rd (e : Nat) (s : St) (x : S) (n : Nat) (vs : List S) : Prop where
  len : vs.length = n * e
  rd : (n = 0 ∧ (x = .nils ∨ (∃ c g, x = .emp c g) ∨ ∃ c o cap, x = .sl c o 0 cap)) ∨ ∃ c o cap w rows, x = .sl c o n cap ∧ s.get c = some (.cells w rows) ∧ o + n * e ≤ rows.length ∧ (rows.drop o).take (n * e) = vs
  cap : okCap e x

structure Ow (e : Nat) (s : St) (x : S) (n : Nat) (vs : List S) : Prop where
  len : vs.length = n * e
  ow : (x = .nils ∧ n = 0) ∨ (∃ c rows, x = .emp c e ∧ n = 0 ∧ s.get c = some (.cells true rows)) ∨ ∃ c rows cap, x = .sl c 0 n cap ∧ (cap = .grown e ∨ cap = .known n) ∧ s.get c = some (.cells true rows) ∧ n * e ≤ rows.length ∧ rows.take (n * e) = vs

section
variable {e n m : Nat} {s t : St} {x y : S} {vs ws : List S}

theorem Rd.nil (e : Nat) (s : St) : Rd e s .nils 0 [] := ⟨by simp, .inl ⟨rfl, .inl rfl⟩, trivial⟩
theorem Ow.nil (e : Nat) (s : St) : Ow e s .nils 0 [] := ⟨by simp, .inl ⟨rfl, rfl⟩⟩

theorem Ow.rd (h : Ow e s x n vs) : Rd e s x n vs := by
  refine ⟨h.len, ?_, ?_⟩
  · rcases h.ow with ⟨rfl, rfl⟩ | ⟨c, rows, rfl, rfl, _⟩ | ⟨c, rows, cap, rfl, hc, h1, h2, h3⟩
    · exact .inl ⟨rfl, .inl rfl⟩
    · exact .inl ⟨rfl, .inr (.inl ⟨c, e, rfl⟩)⟩
    · exact .inr ⟨c, 0, _, true, rows, rfl, h1, by omega, by simpa using h3⟩
  · rcases h.ow with ⟨rfl, rfl⟩ | ⟨c, rows, rfl, rfl, _⟩ | ⟨c, rows, cap, rfl, hc, h1, h2, h3⟩
    · trivial
    · exact rfl
    · rcases hc with rfl | rfl
      · exact rfl
      · exact Nat.le_refl _

theorem Rd.lens (h : Rd e s x n vs) : aLenSl (Z x) = some (I .i64 n) := by
  rcases h.rd with ⟨rfl, rfl | ⟨c, g, rfl⟩ | ⟨c, o, cap, rfl⟩⟩ | ⟨c, o, cap, w, rows, rfl, _⟩ <;> rfl

theorem Rd.src (h : Rd e s x n vs) : aSrc e (Z x) s.get = some (n, vs) := by
  have hl := h.len
  rcases h.rd with ⟨rfl, rfl | ⟨c, g, rfl⟩ | ⟨c, o, cap, rfl⟩⟩ | ⟨c, o, cap, w, rows, rfl, h1, h2, h3⟩
  · have : vs = [] := List.eq_nil_of_length_eq_zero (by simpa using hl)
    subst this; rfl
  · have : vs = [] := List.eq_nil_of_length_eq_zero (by simpa using hl)
    subst this; rfl
  · have : vs = [] := List.eq_nil_of_length_eq_zero (by simpa using hl)
    subst this; simp [aSrc]
  · by_cases hz : n = 0
    · subst hz
      have : vs = [] := List.eq_nil_of_length_eq_zero (by simpa using hl)
      subst this; simp [aSrc]
    · simp only [aSrc, if_neg hz, h1, if_pos h2, h3]

theorem Rd.keep (h : Rd e s x n vs) (hk : ∀ c, own x = some c → t.get c = s.get c) : Rd e t x n vs := by
  refine ⟨h.len, ?_, h.cap⟩
  rcases h.rd with h | ⟨c, o, cap, w, rows, rfl, h1, h2, h3⟩
  · exact .inl h
  · exact .inr ⟨c, o, cap, w, rows, rfl, by rw [hk c rfl]; exact h1, h2, h3⟩

theorem Ow.keep (h : Ow e s x n vs) (hk : ∀ c, own x = some c → t.get c = s.get c) : Ow e t x n vs := by
  refine ⟨h.len, ?_⟩
  rcases h.ow with h | ⟨c, rows, rfl, rfl, h1⟩ | ⟨c, rows, cap, rfl, hc, h1, h2, h3⟩
  · exact .inl h
  · exact .inr (.inl ⟨c, rows, rfl, rfl, by rw [hk c rfl]; exact h1⟩)
  · exact .inr (.inr ⟨c, rows, cap, rfl, hc, by rw [hk c rfl]; exact h1, h2, h3⟩)

theorem Ow.lt (h : Ow e s x n vs) (wf : s.wf) {c : Nat} (hc : own x = some c) : c < s.size := by
  rcases h.ow with ⟨rfl, rfl⟩ | ⟨c', rows, rfl, rfl, h1⟩ | ⟨c', rows, cap, rfl, _, h1, h2, h3⟩
  · cases hc
  · cases hc; exact wf.lt h1
  · cases hc; exact wf.lt h1

theorem Rd.gr (h : Rd e s x n vs) (hx : ∀ c, own x = some c → c < s.size) (g : Gr s t) : Rd e t x n vs := h.keep fun c hc => g.2.2 c (hx c hc)
theorem Ow.gr (h : Ow e s x n vs) (wf : s.wf) (g : Gr s t) : Ow e t x n vs := h.keep fun c hc => g.2.2 c (h.lt wf hc)

theorem setRange_nil (rows : List S) (o : Nat) : setRange rows o [] = rows := rfl

theorem Ow.append {by_ : Nat} (h : Ow e s x n vs) (wf : s.wf) (he : 0 < e) (hs : aSrc e (Z y) s.get = some (m, ws)) (hws : ws.length = m * e) (hl : (n + m) * by_ ≤ 140737488355328) :
    ∃ x' t, aAppend e by_ (Z x) (Z y) s = some (Z x', t) ∧ t.wf ∧ s.size ≤ t.size ∧ Ow e t x' (n + m) (vs ++ ws) ∧ (∀ b, b < s.size → own x ≠ some b → t.get b = s.get b) ∧ (own x' = none ∨ own x' = own x ∨ ∃ c, own x' = some c ∧ s.size ≤ c) := by
  have hne : e ≠ 0 := by omega
  have hlv := h.len
  have hlen : (vs ++ ws).length = (n + m) * e := by rw [List.length_append, hlv, hws, Nat.add_mul]
  have hm : m * by_ ≤ 140737488355328 := Nat.le_trans (Nat.mul_le_mul_right _ (by omega)) hl
  rcases h.ow with ⟨rfl, rfl⟩ | ⟨c, rows, rfl, rfl, h1⟩ | ⟨c, rows, cap, rfl, hc, h1, h2, h3⟩
  · have hv : vs = [] := List.eq_nil_of_length_eq_zero (by simpa using hlv)
    subst hv
    by_cases hz : m = 0
    · subst hz
      have hw : ws = [] := List.eq_nil_of_length_eq_zero (by simpa using hws)
      subst hw
      refine ⟨.nils, s, ?_, wf, Nat.le_refl _, ⟨by simp, .inl ⟨rfl, rfl⟩⟩, fun _ _ _ => rfl, .inl rfl⟩
      unfold aAppend
      rw [hs]
      dsimp only
      rw [if_neg hne, if_pos rfl]
    · refine ⟨.sl s.size 0 m (.grown e), s.push (.cells true ws), ?_, St.wf_push wf _, by simp, ⟨hlen, .inr (.inr ⟨s.size, ws, _, by rw [Nat.zero_add], .inl rfl, St.get_push_same _ _, by rw [Nat.zero_add, hws]; exact Nat.le_refl _, by rw [Nat.zero_add, List.nil_append]; exact List.take_of_length_le (by omega)⟩)⟩, fun b hb _ => St.get_push_ne _ _ (by omega), .inr (.inr ⟨_, rfl, Nat.le_refl _⟩)⟩
      unfold aAppend
      rw [hs]
      dsimp only
      rw [if_neg hne, if_neg hz, if_pos hm]
  · have hcl := wf.lt h1
    have hv : vs = [] := List.eq_nil_of_length_eq_zero (by simpa using hlv)
    subst hv
    have hB : e = e ∧ m * by_ ≤ 140737488355328 := ⟨rfl, hm⟩
    by_cases hz : m = 0
    · subst hz
      have hw : ws = [] := List.eq_nil_of_length_eq_zero (by simpa using hws)
      subst hw
      refine ⟨.emp c e, s, ?_, wf, Nat.le_refl _, ⟨by simp, .inr (.inl ⟨c, rows, rfl, rfl, h1⟩)⟩, fun _ _ _ => rfl, .inr (.inl rfl)⟩
      unfold aAppend
      rw [hs]
      dsimp only
      rw [if_neg hne, if_pos hB, if_pos rfl]
    · have hg : ((s.set c .dead).push (.cells true ws)).get s.size = some (.cells true ws) := by
        have := St.get_push_same (s.set c .dead) (.cells true ws)
        rwa [St.size_set] at this
      refine ⟨.sl s.size 0 m (.grown e), (s.set c .dead).push (.cells true ws), ?_, St.wf_push (St.wf_set wf hcl _) _, by simp, ⟨hlen, .inr (.inr ⟨s.size, ws, _, by rw [Nat.zero_add], .inl rfl, hg, by rw [Nat.zero_add, hws]; exact Nat.le_refl _, by rw [Nat.zero_add, List.nil_append]; exact List.take_of_length_le (by omega)⟩)⟩, fun b hb hbc => ?_, .inr (.inr ⟨_, rfl, Nat.le_refl _⟩)⟩
      · unfold aAppend
        rw [hs]
        dsimp only
        rw [if_neg hne, if_pos hB, if_neg hz, h1]
      · have : b ≠ c := fun e => hbc (by rw [e]; rfl)
        rw [St.get_push_ne _ _ (by rw [St.size_set]; omega), St.get_set_ne _ _ this]
  · have hcl := wf.lt h1
    have big : ∀ q : St, q.size = s.size → (q.push (.cells true (vs ++ ws))).get s.size = some (.cells true (vs ++ ws)) := fun q hq => by
      have := St.get_push_same q (.cells true (vs ++ ws))
      rwa [hq] at this
    have ownNew : ∀ q : St, q.size = s.size → Ow e (q.push (.cells true (vs ++ ws))) (.sl s.size 0 (n + m) (.grown e)) (n + m) (vs ++ ws) := fun q hq =>
      ⟨hlen, .inr (.inr ⟨s.size, vs ++ ws, _, rfl, .inl rfl, big q hq, by omega, List.take_of_length_le (by omega)⟩)⟩
    have h2' : 0 + n * e ≤ rows.length := by omega
    rcases hc with rfl | rfl
    · have hB : e = e ∧ (n + m) * by_ ≤ 140737488355328 := ⟨rfl, hl⟩
      by_cases hz : m = 0
      · subst hz
        have hw : ws = [] := List.eq_nil_of_length_eq_zero (by simpa using hws)
        subst hw
        refine ⟨.sl c 0 n (.grown e), s, ?_, wf, Nat.le_refl _, ⟨by simpa using hlv, .inr (.inr ⟨c, rows, _, rfl, .inl rfl, h1, h2, by simpa using h3⟩)⟩, fun _ _ _ => rfl, .inr (.inl rfl)⟩
        unfold aAppend
        rw [hs]
        dsimp only
        rw [if_neg hne, if_pos hB, if_pos rfl]
      · by_cases hf : 0 + (n + m) * e ≤ rows.length
        · have hadd : (n + m) * e = n * e + m * e := Nat.add_mul _ _ _
          refine ⟨.sl c 0 (n + m) (.grown e), s.set c (.cells true (setRange rows (0 + n * e) ws)), ?_, St.wf_set wf hcl _, by simp, ⟨hlen, .inr (.inr ⟨c, _, _, rfl, .inl rfl, St.get_set_same _ _ _, ?_, ?_⟩)⟩, fun b hb hbc => ?_, .inr (.inl rfl)⟩
          · unfold aAppend
            rw [hs]
            dsimp only
            rw [if_neg hne, if_pos hB, if_neg hz, h1]
            dsimp only
            rw [if_pos hf]
          · rw [setRange_eq _ _ _ (by omega)]
            simp
            omega
          · rw [setRange_eq _ _ _ (by omega), show 0 + n * e = n * e by omega, h3]
            rw [List.take_append_of_le_length (by omega)]
            exact List.take_of_length_le (by omega)
          · have : b ≠ c := fun e => hbc (by rw [e]; rfl)
            exact St.get_set_ne _ _ this
        · refine ⟨.sl s.size 0 (n + m) (.grown e), (s.set c .dead).push (.cells true (vs ++ ws)), ?_, St.wf_push (St.wf_set wf hcl _) _, by simp, ownNew _ (by simp), fun b hb hbc => ?_, .inr (.inr ⟨_, rfl, Nat.le_refl _⟩)⟩
          · unfold aAppend
            rw [hs]
            dsimp only
            rw [if_neg hne, if_pos hB, if_neg hz, h1]
            dsimp only
            rw [if_neg hf, if_pos h2', List.drop_zero, h3]
          · have : b ≠ c := fun e => hbc (by rw [e]; rfl)
            rw [St.get_push_ne _ _ (by rw [St.size_set]; omega), St.get_set_ne _ _ this]
    · by_cases hz : m = 0
      · subst hz
        have hw : ws = [] := List.eq_nil_of_length_eq_zero (by simpa using hws)
        subst hw
        have hq : true = true ∧ 0 + n * e + 0 * e ≤ rows.length := ⟨rfl, by omega⟩
        refine ⟨.sl c 0 n (.known n), s.set c (.cells true rows), ?_, St.wf_set wf hcl _, by simp, ⟨by simpa using hlv, .inr (.inr ⟨c, rows, _, rfl, .inr rfl, St.get_set_same _ _ _, h2, by simpa using h3⟩)⟩, fun b hb hbc => ?_, .inr (.inl rfl)⟩
        · unfold aAppend
          rw [hs]
          dsimp only
          rw [if_neg hne, if_pos hl, h1]
          dsimp only
          rw [if_pos (by omega), if_pos hq, setRange_nil]
          rfl
        · have : b ≠ c := fun e => hbc (by rw [e]; rfl)
          exact St.get_set_ne _ _ this
      · refine ⟨.sl s.size 0 (n + m) (.grown e), s.push (.cells true (vs ++ ws)), ?_, St.wf_push wf _, by simp, ownNew _ rfl, fun b hb hbc => St.get_push_ne _ _ (by omega), .inr (.inr ⟨_, rfl, Nat.le_refl _⟩)⟩
        unfold aAppend
        rw [hs]
        dsimp only
        rw [if_neg hne, if_pos hl, h1]
        dsimp only
        rw [if_neg (by omega), if_pos h2', List.drop_zero, h3]

structure Fr (e : Nat) (s0 s : St) (x : S) (n : Nat) (vs : List S) : Prop where
  gr : Gr s0 s
  ow : Ow e s x n vs
  new : ∀ c, own x = some c → s0.size ≤ c ∧ c < s.size

theorem Fr.nil (e : Nat) {s : St} (wf : s.wf) : Fr e s s .nils 0 [] := ⟨Gr.refl wf, Ow.nil e s, fun c hc => by cases hc⟩
theorem Fr.rd {s0 : St} (h : Fr e s0 s x n vs) : Rd e s x n vs := h.ow.rd
theorem Fr.gr' {s0 t : St} (h : Fr e s0 s x n vs) (g : Gr s t) : Fr e s0 t x n vs :=
  ⟨h.gr.trans g, h.ow.gr h.gr.1 g, fun c hc => ⟨(h.new c hc).1, Nat.lt_of_lt_of_le (h.new c hc).2 g.2.1⟩⟩
theorem Fr.from {s0 s1 : St} (g : Gr s0 s1) (h : Fr e s1 s x n vs) : Fr e s0 s x n vs :=
  ⟨g.trans h.gr, h.ow, fun c hc => ⟨Nat.le_trans g.2.1 (h.new c hc).1, (h.new c hc).2⟩⟩

theorem Fr.append' {s0 : St} {by_ : Nat} (h : Fr e s0 s x n vs) (he : 0 < e) (hs : aSrc e (Z y) s.get = some (m, ws)) (hws : ws.length = m * e) (hl : (n + m) * by_ ≤ 140737488355328) :
    ∃ x' t, aAppend e by_ (Z x) (Z y) s = some (Z x', t) ∧ Fr e s0 t x' (n + m) (vs ++ ws) ∧ s.size ≤ t.size ∧ (∀ b, b < s.size → own x ≠ some b → t.get b = s.get b) ∧ (own x' = none ∨ own x' = own x ∨ ∃ c, own x' = some c ∧ s.size ≤ c) := by
  obtain ⟨⟨wf, hz, hk⟩, hb, ho⟩ := h
  obtain ⟨x', t, e1, q1, q2, q3, q4, q5⟩ := hb.append wf he hs hws hl
  refine ⟨x', t, e1, ⟨⟨q1, by omega, fun b hb' => ?_⟩, q3, fun c hc => ?_⟩, q2, q4, q5⟩
  · rw [q4 b (by omega) (fun e => by have := ho b e; omega)]
    exact hk b hb'
  · have hlt := q3.lt q1 hc
    rcases q5 with e | e | ⟨c', e, hc'⟩
    · rw [e] at hc; cases hc
    · rw [e] at hc
      exact ⟨(ho c hc).1, hlt⟩
    · rw [e] at hc; cases hc; exact ⟨by omega, hlt⟩

theorem Fr.append {s0 : St} {by_ : Nat} (h : Fr e s0 s x n vs) (he : 0 < e) (hs : aSrc e (Z y) s.get = some (m, ws)) (hws : ws.length = m * e) (hl : (n + m) * by_ ≤ 140737488355328) :
    ∃ x' t, aAppend e by_ (Z x) (Z y) s = some (Z x', t) ∧ Fr e s0 t x' (n + m) (vs ++ ws) ∧ s.size ≤ t.size ∧ ∀ b, b < s.size → own x ≠ some b → t.get b = s.get b := by
  obtain ⟨x', t, a, b, c, d, _⟩ := h.append' he hs hws hl
  exact ⟨x', t, a, b, c, d⟩

theorem Fr.lit (e : Nat) {s : St} (wf : s.wf) {n : Nat} {vs : List S} (hv : vs.length = n * e) : Fr e s (s.push (.cells true vs)) (.sl s.size 0 n (.known n)) n vs :=
  ⟨Gr.push wf _, ⟨hv, .inr (.inr ⟨s.size, vs, _, rfl, .inr rfl, St.get_push_same _ _, by omega, List.take_of_length_le (by omega)⟩)⟩, fun c hc => by cases hc; exact ⟨Nat.le_refl _, by simp⟩⟩

theorem Rd.at (h : Rd e s x n vs) {j : Nat} {i : Int} (hi : i = j) (hj : j < n) : ∃ c p, aIndexSl e (Z x) (I .i64 i) = some (Z (.ptr c p)) ∧ (∀ f v, f < e → vs[j * e + f]? = some v → aLoad1 (Z (.ptr c (p + f))) s.get = some (Z v)) ∧
    aLoadN e (Z (.ptr c p)) s.get = some (.v (.agg ((vs.drop (j * e)).take e))) := by
  rcases h.rd with ⟨rfl, _⟩ | ⟨b, o, cap, w, rows, rfl, h1, h2, h3⟩
  · omega
  · have hje : j * e + e ≤ n * e := by
      have : (j + 1) * e ≤ n * e := Nat.mul_le_mul_right _ hj
      rwa [Nat.add_mul, Nat.one_mul] at this
    refine ⟨b, o + j * e, aIndexSl_int hi hj, fun f v hf hv => aLoad1_of h1 ?_, ?_⟩
    · rw [← h3, List.getElem?_take_of_lt (by omega), List.getElem?_drop] at hv
      rw [Nat.add_assoc]
      exact hv
    · have h4 : o + j * e + e ≤ rows.length := by omega
      have h5 : (vs.drop (j * e)).take e = (rows.drop (o + j * e)).take e := by
        rw [← h3, List.drop_take, List.take_take, List.drop_drop, Nat.min_eq_left (by omega)]
      simp only [aLoadN, h1, if_pos h4, h5]

theorem Rd.at1 (h : Rd 1 s x n vs) {j : Nat} {i : Int} {v : S} (hi : i = j) (hv : vs[j]? = some v) : ∃ p, aIndexSl 1 (Z x) (I .i64 i) = some p ∧ aLoad1 p s.get = some (Z v) := by
  have hj : j < n := by
    have := (List.getElem?_eq_some_iff.1 hv).1
    have := h.len
    omega
  obtain ⟨c, p, h1, h2, _⟩ := h.at hi hj
  exact ⟨_, h1, by have := h2 0 v (by omega) (by simpa using hv); simpa using this⟩

theorem aBounds_hi {len cap k : Nat} (h : k ≤ cap) : aBounds len cap none (some (I .i64 k)) none = some (0, k, cap) := by
  have e : aBnd (I .i64 k) cap = some k := by
    have h0 : (0 : Int) ≤ (k : Int) := by omega
    have h1 : (k : Int) ≤ (cap : Int) := by omega
    simp [aBnd, h]
  delta aBounds
  dsimp only
  rw [e]

theorem aBounds_lh {len cap lo hi : Nat} (h : lo ≤ hi) (k : hi ≤ cap) : aBounds len cap (some (I .i64 lo)) (some (I .i64 hi)) none = some (lo, hi, cap) := by
  have e : aBnd (I .i64 hi) cap = some hi := by
    have h0 : (0 : Int) ≤ (hi : Int) := by omega
    have h1 : (hi : Int) ≤ (cap : Int) := by omega
    simp [aBnd, k]
  have e2 : aBnd (I .i64 lo) hi = some lo := by
    have h1 : (lo : Int) ≤ (hi : Int) := by omega
    simp [aBnd, h]
  delta aBounds
  dsimp only
  rw [e]
  dsimp only
  rw [e2]

theorem aBounds_lo {len cap lo : Nat} (h : lo ≤ len) (k : len ≤ cap) : aBounds len cap (some (I .i64 lo)) none none = some (lo, len, cap) := by
  have e2 : aBnd (I .i64 lo) len = some lo := by
    have h1 : (lo : Int) ≤ (len : Int) := by omega
    simp [aBnd, h]
  delta aBounds
  dsimp only
  rw [e2]

theorem Rd.piece' (h : Rd e s x n vs) {lo hi : Nat} {l r : Option T} (hb : ∀ len cap, n ≤ cap → len = n → aBounds len cap l r none = some (lo, hi, cap)) (h1 : lo ≤ hi) (h2 : hi ≤ n) :
    ∃ y, aPieceSl e (Z x) l r none = some (Z y) ∧ Rd e s y (hi - lo) ((vs.drop (lo * e)).take ((hi - lo) * e)) ∧ (own y = none ∨ own y = own x) := by
  have hlv := h.len
  have hmul : lo * e + (hi - lo) * e ≤ n * e := by
    rw [← Nat.add_mul]
    exact Nat.mul_le_mul_right _ (by omega)
  have hl2 : ((vs.drop (lo * e)).take ((hi - lo) * e)).length = (hi - lo) * e := by rw [List.length_take, List.length_drop]; omega
  have hcap := h.cap
  rcases h.rd with ⟨rfl, rfl | ⟨c, g, rfl⟩ | ⟨c, o, cap, rfl⟩⟩ | ⟨c, o, cap, w, rows, rfl, a1, a2, a3⟩
  · obtain rfl : hi = 0 := by omega
    obtain rfl : lo = 0 := by omega
    refine ⟨.nils, ?_, ⟨hl2, .inl ⟨rfl, .inl rfl⟩, trivial⟩, .inl rfl⟩
    have := hb 0 0 (Nat.le_refl _) rfl
    simp only [aPieceSl, this]
  · obtain rfl : hi = 0 := by omega
    obtain rfl : lo = 0 := by omega
    have hg : g = e := hcap
    refine ⟨.emp c e, ?_, ⟨hl2, .inl ⟨rfl, .inr (.inl ⟨c, e, rfl⟩)⟩, rfl⟩, .inr rfl⟩
    have := hb 0 0 (Nat.le_refl _) rfl
    simp only [aPieceSl, this, if_pos hg]
  · obtain rfl : hi = 0 := by omega
    obtain rfl : lo = 0 := by omega
    cases cap with
    | known k =>
      refine ⟨.sl c (if k = 0 then o else o + 0 * e) 0 (.known (k - 0)), ?_, ⟨hl2, .inl ⟨rfl, .inr (.inr ⟨_, _, _, rfl⟩)⟩, Nat.zero_le _⟩, .inr rfl⟩
      have := hb 0 k (Nat.zero_le _) rfl
      simp only [aPieceSl, this]
    | grown g =>
      have hg : g = e := hcap
      refine ⟨.emp c e, ?_, ⟨hl2, .inl ⟨rfl, .inr (.inl ⟨c, e, rfl⟩)⟩, rfl⟩, .inr rfl⟩
      have := hb 0 0 (Nat.le_refl _) rfl
      simp only [aPieceSl, this, if_pos hg]
      rfl
  · have htk : ∀ o', o' = o + lo * e → (rows.drop o').take ((hi - lo) * e) = (vs.drop (lo * e)).take ((hi - lo) * e) := fun o' e' => by
      rw [e', ← a3, List.drop_take, List.take_take, List.drop_drop, Nat.min_eq_left (by omega)]
    cases cap with
    | known k =>
      have hk : n ≤ k := hcap
      have hbb := hb n k hk rfl
      by_cases hkl : k = lo
      · have hz : hi - lo = 0 := by omega
        refine ⟨.sl c o (hi - lo) (.known (k - lo)), ?_, ⟨hl2, .inl ⟨hz, .inr (.inr ⟨c, o, _, by rw [hz]⟩)⟩, by show hi - lo ≤ k - lo; omega⟩, .inr rfl⟩
        simp only [aPieceSl, hbb, if_pos hkl]
      · refine ⟨.sl c (o + lo * e) (hi - lo) (.known (k - lo)), ?_, ⟨hl2, .inr ⟨c, _, _, w, rows, rfl, a1, by omega, htk _ rfl⟩, by show hi - lo ≤ k - lo; omega⟩, .inr rfl⟩
        simp only [aPieceSl, hbb, if_neg hkl]
    | grown g =>
      have hg : g = e := hcap
      have hbb := hb n n (Nat.le_refl _) rfl
      by_cases hl : lo < n
      · refine ⟨.sl c (o + lo * e) (hi - lo) (.grown e), ?_, ⟨hl2, .inr ⟨c, _, _, w, rows, rfl, a1, by omega, htk _ rfl⟩, rfl⟩, .inr rfl⟩
        simp only [aPieceSl, hbb, if_pos hg, if_pos hl]
      · have hz : hi - lo = 0 := by omega
        refine ⟨.emp c e, ?_, ⟨hl2, .inl ⟨hz, .inr (.inl ⟨c, e, rfl⟩)⟩, rfl⟩, .inr rfl⟩
        simp only [aPieceSl, hbb, if_pos hg, if_neg hl]

theorem Rd.piece (h : Rd e s x n vs) {lo hi : Nat} (h1 : lo ≤ hi) (h2 : hi ≤ n) :
    ∃ y, aPieceSl e (Z x) (some (I .i64 lo)) (some (I .i64 hi)) none = some (Z y) ∧ Rd e s y (hi - lo) ((vs.drop (lo * e)).take ((hi - lo) * e)) ∧ (own y = none ∨ own y = own x) :=
  h.piece' (fun len cap hc hl => aBounds_lh h1 (by omega)) h1 h2
theorem Rd.upto (h : Rd e s x n vs) {hi : Nat} (h2 : hi ≤ n) :
    ∃ y, aPieceSl e (Z x) none (some (I .i64 hi)) none = some (Z y) ∧ Rd e s y hi (vs.take (hi * e)) ∧ (own y = none ∨ own y = own x) := by
  obtain ⟨y, a, b, c⟩ := h.piece' (lo := 0) (hi := hi) (l := none) (r := some (I .i64 hi)) (fun len cap hc hl => aBounds_hi (by omega)) (Nat.zero_le _) h2
  exact ⟨y, a, by simpa using b, c⟩
theorem Rd.onfrom (h : Rd e s x n vs) {lo : Nat} (h2 : lo ≤ n) :
    ∃ y, aPieceSl e (Z x) (some (I .i64 lo)) none none = some (Z y) ∧ Rd e s y (n - lo) (vs.drop (lo * e)) ∧ (own y = none ∨ own y = own x) := by
  obtain ⟨y, a, b, c⟩ := h.piece' (lo := lo) (hi := n) (l := some (I .i64 lo)) (r := none) (fun len cap hc hl => by subst hl; exact aBounds_lo h2 hc) h2 (Nat.le_refl _)
  refine ⟨y, a, ?_, c⟩
  have hl := h.len
  have : (vs.drop (lo * e)).take ((n - lo) * e) = vs.drop (lo * e) := List.take_of_length_le (by rw [List.length_drop, Nat.sub_mul]; omega)
  rwa [this] at b
end

/-! ### Elements by what they stand for -/
section
variable {α : Type} {enc : α → List S} {e : Nat}

def cells (enc : α → List S) (l : List α) : List S := (l.map enc).flatten
@[simp] theorem cells_nil : cells enc [] = [] := rfl
@[simp] theorem cells_cons (a : α) (l : List α) : cells enc (a :: l) = enc a ++ cells enc l := by simp [cells]
end
end Go.Abs


/-
  Bytes in any store: numbers' bytes, sums, texts. No conditions but those named in each line.
-/
namespace Go.Abs
open Go Go.Abs.F
set_option linter.unusedVariables false

def U (bs : List UInt8) : List S := bs.map fun b => .int .u8 b.toNat

@[simp] theorem U_len (bs : List UInt8) : (U bs).length = bs.length := by simp [U]
theorem U_append (a b : List UInt8) : U (a ++ b) = U a ++ U b := by simp [U]
abbrev RB (s : St) (x : S) (bs : List UInt8) : Prop := Rd 1 s x bs.length (U bs)
abbrev FB (s0 s : St) (x : S) (bs : List UInt8) : Prop := Fr 1 s0 s x bs.length (U bs)

theorem wrap64 (x : Nat) (h : x < 2 ^ 64) : IntKind.u64.wrap x = (x : Int) := wrap_u64_in _ (by omega) (by omega)
theorem More.step (n c : Nat) (hn : n < 4294967291) (hc : c < 256) (u : St) : (aBin .mul (I .u64 n) (I .u64 257) = some (I .u64 ((n * 257 : Nat)))) ∧ aBin .add (I .u64 ((n * 257 : Nat))) (I .u64 c) = some (I .u64 ((n * 257 + c : Nat))) ∧
    aBin .add (I .u64 ((n * 257 + c : Nat))) (I .u64 1) = some (I .u64 ((n * 257 + c + 1 : Nat))) ∧ aBin .rem (I .u64 ((n * 257 + c + 1 : Nat))) (I .u64 4294967291) = some (I .u64 (((n * 257 + c + 1) % 4294967291 : Nat))) := by
  refine ⟨?_, ?_, ?_, ?_⟩
  · rw [mul_int, show ((n : Int) * 257) = ((n * 257 : Nat) : Int) by omega, wrap64 _ (by omega)]
  · rw [add_int, show (((n * 257 : Nat) : Int) + c) = ((n * 257 + c : Nat) : Int) by omega, wrap64 _ (by omega)]
  · rw [add_int, show (((n * 257 + c : Nat) : Int) + 1) = ((n * 257 + c + 1 : Nat) : Int) by omega, wrap64 _ (by omega)]
  · have e : ((n * 257 + c + 1 : Nat) : Int).tmod 4294967291 = (((n * 257 + c + 1) % 4294967291 : Nat) : Int) := by
      rw [Int.tmod_eq_emod_of_nonneg (by omega)]
      omega
    have hP : (4294967291 : Int) ≠ 0 := by decide
    simp only [rem_int _ _ _ hP, e]

theorem byte_nat (n : Nat) : (UInt8.ofNat n).toNat = n % 256 := by simp

section
variable {s t : St} {x y : S} {bs cs : List UInt8}

theorem RB.lenB (h : RB s x bs) : aLenSl (Z x) = some (I .i64 bs.length) := h.lens
theorem toBytes_U : ∀ bs : List UInt8, toBytes (U bs) = some bs
  | [] => rfl
  | b :: r => by
    have ih := toBytes_U r
    show toBytes (.int .u8 b.toNat :: U r) = _
    simp [toBytes, ih]

theorem RB.str (h : RB s x bs) : aBytesStr (Z x) s.get = some (Z (.str bs)) := by
  have nil0 : bs.length = 0 → bs = [] := fun e => List.eq_nil_of_length_eq_zero e
  rcases h.rd with ⟨h0, rfl | ⟨c, g, rfl⟩ | ⟨c, o, cap, rfl⟩⟩ | ⟨c, o, cap, w, vs, rfl, h1, h2, h3⟩
  · rw [nil0 h0]; rfl
  · rw [nil0 h0]; rfl
  · rw [nil0 h0]; simp [aBytesStr]
  · by_cases hz : bs.length = 0
    · rw [nil0 hz]; simp [aBytesStr]
    · rw [Nat.mul_one] at h2 h3
      simp only [aBytesStr, if_neg hz, h1, if_pos h2, h3, toBytes_U]

theorem FB.app {s0 : St} (h : FB s0 s x bs) (hy : RB s y cs) (hl : bs.length + cs.length ≤ 1000000) :
    ∃ x' t, aAppend 1 1 (Z x) (Z y) s = some (Z x', t) ∧ FB s0 t x' (bs ++ cs) ∧ s.size ≤ t.size ∧ ∀ b, b < s.size → own x ≠ some b → t.get b = s.get b := by
  obtain ⟨x', t, e, f, g, k⟩ := h.append (by_ := 1) (by omega) hy.src hy.len (by omega)
  exact ⟨x', t, e, by unfold FB; rw [U_append, List.length_append]; exact f, g, k⟩

theorem FB.lit {s0 : St} (h : FB s0 s x bs) (hl : bs.length + cs.length ≤ 1000000) :
    ∃ x' t, aAppend 1 1 (Z x) (Z (.sl s.size 0 cs.length (.known cs.length))) (s.push (.cells true (U cs))) = some (Z x', t) ∧ FB s0 t x' (bs ++ cs) ∧ s.size ≤ t.size ∧ ∀ b, b < s.size → own x ≠ some b → t.get b = s.get b := by
  have l := Fr.lit 1 h.gr.1 (n := cs.length) (vs := U cs) (by simp)
  obtain ⟨x', t, e, f, hz, k⟩ := FB.app (Fr.gr' h l.gr) (cs := cs) l.rd hl
  exact ⟨x', t, e, f, Nat.le_trans l.gr.2.1 hz, fun b hb hb1 => by rw [k b (Nat.lt_of_lt_of_le hb l.gr.2.1) hb1]; exact l.gr.2.2 b hb⟩
end

end Go.Abs


/-
  What a statement's arguments give: slices of numbers, of bytes, of rows, as they read in a store. No conditions but those named in each line.
-/
namespace Go.Abs.F
open Go Go.Abs
set_option linter.unusedVariables false
section
variable {s : St} {a : T} {c e : Nat} {rows : List (List S)}

theorem flatten_len : ∀ {rows : List (List S)}, (∀ r ∈ rows, r.length = e) → rows.flatten.length = rows.length * e
  | [], _ => by simp
  | r :: l, h => by
    have h1 := flatten_len (rows := l) fun x hx => h x (by simp [hx])
    have h2 := h r (by simp)
    rw [List.flatten_cons, List.length_append, h1, h2, List.length_cons, Nat.add_mul, Nat.one_mul]
    omega

theorem slRd (ha : SlOf a c rows) (he : 0 < e) (hl : ∀ r ∈ rows, r.length = e) (hb : s.get c = some (argBlk rows.flatten)) : ∃ x, a = Z x ∧ Rd e s x rows.length rows.flatten ∧ ∀ d, own x = some d → d = c := by
  have hf := flatten_len hl
  rcases ha with ⟨rfl, rfl⟩ | ⟨cap, hc, rfl⟩
  · exact ⟨.nils, rfl, Rd.nil e s, fun d hd => by cases hd⟩
  · refine ⟨.sl c 0 rows.length (.known cap), rfl, ⟨hf, ?_, hc⟩, fun d hd => by cases hd; rfl⟩
    cases rows with
    | nil => exact .inl ⟨rfl, .inr (.inr ⟨c, 0, _, rfl⟩)⟩
    | cons r l =>
      have h1 : (r :: l).flatten ≠ [] := fun h0 => by
        have := congrArg List.length h0
        rw [hf, List.length_cons, Nat.add_mul] at this
        simp at this
        omega
      have h2 : argBlk (r :: l).flatten = .cells false (r :: l).flatten := by
        cases hh : (r :: l).flatten with
        | nil => exact absurd hh h1
        | cons _ _ => rfl
      rw [h2] at hb
      exact .inr ⟨c, 0, _, false, _, rfl, hb, by rw [hf]; omega, by rw [List.drop_zero, List.take_of_length_le (by rw [hf]; omega)]⟩

theorem rows_ints {k : IntKind} : ∀ {rows : List (List S)}, (∀ r ∈ rows, All2 KS [.int k] r) → ∃ is : List Int, rows = is.map (fun i => [.int k i]) ∧ ∀ i ∈ is, (Lit.int k i).wf = true
  | [], _ => ⟨[], rfl, fun i h => by cases h⟩
  | r :: l, h => by
    obtain ⟨is, h1, h2⟩ := rows_ints (rows := l) fun x hx => h x (by simp [hx])
    have h3 := h r (by simp)
    cases h3 with
    | cons p q =>
      cases q
      obtain ⟨n, rfl, hn⟩ := KS.int p
      exact ⟨n :: is, by rw [h1]; rfl, fun i hi => by
        rcases List.mem_cons.1 hi with rfl | hi
        · exact hn
        · exact h2 i hi⟩

theorem flatten_one (f : Int → S) : ∀ is : List Int, (is.map fun i => [f i]).flatten = is.map f
  | [] => rfl
  | i :: l => by rw [List.map_cons, List.flatten_cons, flatten_one f l]; rfl

theorem byte_of {n : Int} (h : (Lit.int .u8 n).wf = true) : ∃ c : UInt8, n = (c.toNat : Int) := by
  have h1 : IntKind.u8.min ≤ n ∧ n ≤ IntKind.u8.max := by simpa [Lit.wf] using h
  have h2 : (0 : Int) ≤ n ∧ n ≤ 255 := h1
  exact ⟨UInt8.ofNat n.toNat, by rw [byte_nat]; omega⟩

end

end Go.Abs.F


/-
  Texts: places of a byte, pieces, joining; calls of the library that tell them. No conditions but those named in each line.
-/
namespace Go.Abs
open Go Go.Abs.F
set_option linter.unusedVariables false

abbrev Bs := List UInt8

def strS (l : List Bs) : List S := l.map S.str
@[simp] theorem strS_len (l : List Bs) : (strS l).length = l.length := by simp [strS]
theorem strS_append (a b : List Bs) : strS (a ++ b) = strS a ++ strS b := by simp [strS]
theorem strS_get (l : List Bs) (j : Nat) : (strS l)[j]? = (l[j]?).map S.str := by simp [strS]

abbrev FT (s0 s : St) (x : S) (l : List Bs) : Prop := Fr 1 s0 s x l.length (strS l)

theorem FT.lit {s0 s : St} {x : S} {l : List Bs} {c : Bs} (h : FT s0 s x l) (hl : l.length ≤ 1000000) :
    ∃ x' t, (∃ s', aNew s (nSlice 1 (aFill [.str []] [(0, 1, Z (.str c))])) = some (Z (.sl s.size 0 1 (.known 1)), s') ∧ aAppend 1 16 (Z x) (Z (.sl s.size 0 1 (.known 1))) s' = some (Z x', t)) ∧ FT s0 t x' (l ++ [c]) ∧ s.size ≤ t.size ∧ ∀ b, b < s.size → own x ≠ some b → t.get b = s.get b := by
  have L := Fr.lit 1 h.gr.1 (n := 1) (vs := strS [c]) (by simp)
  obtain ⟨x', t, e, f, hz, k⟩ := (h.gr' L.gr).append (by_ := 16) (by omega) L.rd.src (by simp) (by omega)
  refine ⟨x', t, ⟨s.push (.cells true (strS [c])), by simp [aNew, nSlice, aFill, V.cells, setRange, strS], e⟩, ?_, Nat.le_trans L.gr.2.1 hz, fun b hb hb1 => by rw [k b (Nat.lt_of_lt_of_le hb L.gr.2.1) hb1]; exact L.gr.2.2 b hb⟩
  unfold FT
  rw [strS_append, List.length_append]
  exact f

@[simp] theorem eql_str (a b : Bs) : aBin .eql (Z (.str a)) (Z (.str b)) = some (B (decide (a = b))) := by simp [aBin, aStr]
@[simp] theorem neq_str (a b : Bs) : aBin .neq (Z (.str a)) (Z (.str b)) = some (B (!decide (a = b))) := by simp [aBin, aStr]
@[simp] theorem aLenStr_str (a : Bs) : aLenStr (Z (.str a)) = some (I .i64 a.length) := nz rfl

/-! ### Pieces of texts -/

end Go.Abs

namespace Go.Abs.F
open Go Go.Abs

theorem all2_two {α β : Type} {R : α → β → Prop} {a b : α} {us : List β} (h : All2 R [a, b] us) : ∃ x y, us = [x, y] ∧ R a x ∧ R b y := by
  cases h with
  | cons p q => cases q with
    | cons p' q' => cases q'; exact ⟨_, _, rfl, p, p'⟩

end Go.Abs.F


/-
  What a statement's argument gives that is a slice of structs whose fields are flat or slices of flat elements. No conditions but those named in each line.
-/
namespace Go.Abs
open Go Go.Abs.F
set_option linter.unusedVariables false

inductive NK where
  | flat (k : AK)
  | sl (ks : List AK)

def SlIn (W : World) (ks : List AK) (v : Value) : Prop :=
  v = .slice none 0 0 ∨ (∃ a, v = .slice (some a) 0 0) ∨
    ∃ (b o cap : Nat) (rows : List (List S)), v = .slice (some ⟨b, o, none⟩) rows.length cap ∧ (rows.length ≤ cap ∧ rows.length < 9223372036854775808) ∧ (∀ x ∈ rows, All2 KS ks x) ∧ ∃ L : Loc, L.b = b ∧ L.base = o ∧ ∀ ι, BlkRel ι L W (argBlk rows.flatten)

def NIn (W : World) : NK → Value → Prop
  | .flat k, v => ∃ x, KS k x ∧ ∀ ι, SRel ι x v
  | .sl ks, v => 0 < ks.length ∧ SlIn W ks v

def NOut (s : St) : NK → S → Prop
  | .flat k, x => KS k x
  | .sl ks, x => ∃ rows : List (List S), (∀ r ∈ rows, All2 KS ks r) ∧ rows.length < 9223372036854775808 ∧ Rd ks.length s x rows.length rows.flatten ∧ ∀ c, own x = some c → c < s.size

def nestF (P : Program) (n : Nat) : List Field → Nat → Option (List NK)
  | [], _ => some []
  | f :: fs, off => if f.offset = off then
      match P.underlying f.type with
      | some (.slice e) => match flatK P n e with
        | some ks => if 0 < ks.length ∧ P.cellsOf e = ks.length ∧ P.cellsOf f.type = 1 then (nestF P n fs (off + 1)).map (.sl ks :: ·) else none
        | none => none
      | _ => match flatK P n f.type with
        | none => none
        | some ks => if ks.length = P.cellsOf f.type then (nestF P n fs (off + ks.length)).map (ks.map .flat ++ ·) else none
    else none

section
variable {H : Type} {enc : TypeId × Value → H} {P : Program} {W : World} {base : Nat} {held : Bool}

theorem arg_blk {ι : Inj} {b o : Nat} {c : Array Value} {el : TypeId} {fz : Nat × Nat} {cs : List Value} {xs : List S} (hb : W.heap[b]? = some (.cells c el fz)) (hc : ∀ j, j < cs.length → c[o + j]? = cs[j]?) (h : All2 (SRel ι) xs cs) :
    BlkRel ι ⟨b, o, c.size, 0⟩ W (argBlk xs) := by
  cases hxs : xs with
  | nil => trivial
  | cons y ys =>
    rw [← hxs]
    have hl := forall2_length h
    have hne : argBlk xs = .cells false xs := by rw [hxs]; rfl
    rw [hne]
    have hpos : 0 < xs.length := by rw [hxs]; simp
    refine ⟨c, el, fz, hb, rfl, ?_, ?_, fun h => by cases h⟩
    · have h1 := hc (xs.length - 1) (by omega)
      rw [List.getElem?_eq_getElem (show xs.length - 1 < cs.length by omega)] at h1
      have := (Array.getElem?_eq_some_iff.1 h1).1
      show o + xs.length ≤ c.size
      omega
    · intro j x hj
      obtain ⟨v, hv, hr⟩ := forall2_get h _ _ hj
      have hjl := (List.getElem?_eq_some_iff.1 hv).1
      exact ⟨v, by rw [← hv]; exact hc j hjl, hr⟩

theorem rows_at {a : Addr} {k len : Nat} {Q : List Value → Prop} {b o : Nat} {c : Array Value} {el : TypeId} {fz : Nat × Nat} (ha : a = ⟨b, o, none⟩) (hb : W.heap[b]? = some (.cells c el fz))
    (h : ∀ i, i < len → ∃ cs, W.cells? base (a.add (i * k)) k = some cs ∧ Q cs) :
    ∃ css : List (List Value), css.length = len ∧ (∀ cs ∈ css, Q cs ∧ cs.length = k) ∧ css.flatten.length = len * k ∧ ∀ j, j < css.flatten.length → c[o + j]? = css.flatten[j]? := by
  subst ha
  induction len with
  | zero => exact ⟨[], rfl, fun x h => (by cases h), by simp, fun j hj => by simp at hj⟩
  | succ q ih =>
    obtain ⟨css, h1, h2, h3, h4⟩ := ih fun i hi => h i (by omega)
    obtain ⟨cs, hcs, hQ⟩ := h q (by omega)
    obtain ⟨_, hcl, hcg⟩ := World.cells?_some hcs
    refine ⟨css ++ [cs], by simp [h1], fun x hx => ?_, ?_, fun j hj => ?_⟩
    · rw [List.mem_append, List.mem_singleton] at hx
      rcases hx with hx | rfl
      · exact h2 x hx
      · exact ⟨hQ, hcl⟩
    · rw [List.flatten_append, List.flatten_singleton, List.length_append, h3, hcl, Nat.add_mul]; omega
    · rw [List.flatten_append, List.flatten_singleton] at hj ⊢
      rcases Nat.lt_or_ge j (q * k) with hj' | hj'
      · rw [List.getElem?_append_left (by omega)]
        exact h4 j (by omega)
      · rw [List.getElem?_append_right (by omega), h3]
        rw [List.length_append, h3, hcl] at hj
        have h5 := hcg (j - q * k) (by omega)
        rw [← h5, cell_at hb]
        congr 1
        omega

theorem spot_of {a : Addr} {k : Nat} {cs : List Value} (hk : 0 < k) (h : W.cells? base a k = some cs) : ∃ b o, a = ⟨b, o, none⟩ ∧ ∃ c el fz, W.heap[b]? = some (.cells c el fz) := by
  obtain ⟨_, hl, hg⟩ := World.cells?_some h
  have h1 := hg 0 hk
  rw [List.getElem?_eq_getElem (by omega)] at h1
  obtain ⟨b, o, sp⟩ := a
  simp only [Addr.add, if_true] at h1
  unfold World.cell? at h1
  split at h1
  · rename_i c el fz hb
    cases sp with
    | none => exact ⟨b, o, rfl, c, el, fz, hb⟩
    | some _ => simp at h1
  · cases h1

theorem slice_trod {t e : TypeId} {fuel : Nat} {cs : List Value} {x : DataW H × List MemPlace} {Q : List Value → Prop} (ht : P.underlying t = some (.slice e)) (h0 : 0 < P.cellsOf e)
    (h : DataW.trod enc P W base (fun _ => true) held fuel t cs = some x) (hQ : ∀ m cs x, DataW.trod enc P W base (fun _ => true) held m e cs = some x → Q cs) :
    ∃ v, cs = [v] ∧ (v = .slice none 0 0 ∨ (∃ a, v = .slice (some a) 0 0) ∨ ∃ (b o cap : Nat) (css : List (List Value)) (c : Array Value) (el : TypeId) (fz : Nat × Nat), v = .slice (some ⟨b, o, none⟩) css.length cap ∧ css.length ≤ cap ∧ css.length < 9223372036854775808 ∧
      W.heap[b]? = some (.cells c el fz) ∧ (∀ cs ∈ css, Q cs ∧ cs.length = P.cellsOf e) ∧ ∀ j, j < css.flatten.length → c[o + j]? = css.flatten[j]?) := by
  rcases DataW.trod_slice ht h with ⟨h1, _⟩ | ⟨a, len, cap, elems, rest, m, _, hcs, _, _, hlc, hcap, hlen, hel, hre, _⟩
  · exact ⟨_, h1, .inl rfl⟩
  · refine ⟨_, hcs, .inr ?_⟩
    have hel' : ∀ i, i < len → ∃ cs, W.cells? base (a.add (i * P.cellsOf e)) (P.cellsOf e) = some cs ∧ Q cs := by
      intro i hi
      have h1 := hel i hi
      rw [List.getElem?_eq_getElem (by omega), Option.bind_eq_some_iff] at h1
      obtain ⟨cs, hcs, h1⟩ := h1
      exact ⟨cs, hcs, hQ _ _ _ h1⟩
    by_cases hc0 : cap = 0
    · subst hc0
      have : len = 0 := by omega
      subst this
      exact .inl ⟨a, rfl⟩
    · right
      have hsp : ∃ b o, a = ⟨b, o, none⟩ ∧ ∃ c el fz, W.heap[b]? = some (.cells c el fz) := by
        by_cases hl0 : len = 0
        · subst hl0
          obtain ⟨hrl, hr⟩ := hre rfl
          have h1 := hr 0 (by omega)
          rw [List.getElem?_eq_getElem (by omega), Option.bind_eq_some_iff] at h1
          obtain ⟨cs, hcs, _⟩ := h1
          rw [Nat.zero_add, Nat.zero_mul] at hcs
          exact spot_of h0 (by simpa [Addr.add] using hcs)
        · obtain ⟨cs, hcs, _⟩ := hel' 0 (by omega)
          rw [Nat.zero_mul] at hcs
          exact spot_of h0 (by simpa [Addr.add] using hcs)
      obtain ⟨b, o, rfl, c, el, fz, hb⟩ := hsp
      obtain ⟨css, h1, h2, _, h4⟩ := rows_at rfl hb hel'
      have hm : maxLen < 9223372036854775808 := by decide
      exact ⟨b, o, cap, css, c, el, fz, by rw [h1], by omega, by omega, hb, h2, h4⟩

theorem rows_flat {ks : List AK} : ∀ {css : List (List Value)}, (∀ cs ∈ css, (∃ xs : List S, All2 KS ks xs ∧ ∀ ι, All2 (SRel ι) xs cs)) →
    ∃ rows : List (List S), rows.length = css.length ∧ (∀ r ∈ rows, All2 KS ks r) ∧ ∀ ι, All2 (SRel ι) rows.flatten css.flatten
  | [], _ => ⟨[], rfl, fun r h => (by cases h), fun ι => .nil⟩
  | cs :: css, h => by
    obtain ⟨xs, h1, h2⟩ := h cs (by simp)
    obtain ⟨rows, h3, h4, h5⟩ := rows_flat (css := css) fun c hc => h c (by simp [hc])
    refine ⟨xs :: rows, by simp [h3], fun r hr => ?_, fun ι => ?_⟩
    · rcases List.mem_cons.1 hr with rfl | hr
      · exact h1
      · exact h4 r hr
    · rw [List.flatten_cons, List.flatten_cons]
      exact forall2_append (h2 ι) (h5 ι)

theorem slin_trod {t e : TypeId} {fuel n : Nat} {ks : List AK} {cs : List Value} {x : DataW H × List MemPlace} (ht : P.underlying t = some (.slice e)) (hk : flatK P n e = some ks) (hc : P.cellsOf e = ks.length) (h0 : 0 < ks.length)
    (h : DataW.trod enc P W base (fun _ => true) held fuel t cs = some x) : ∃ v, cs = [v] ∧ SlIn W ks v := by
  obtain ⟨v, h1, h2⟩ := slice_trod (Q := fun cs => ∃ xs : List S, All2 KS ks xs ∧ ∀ ι, All2 (SRel ι) xs cs) ht (by omega) h fun m cs x h => flat_trod n m e cs x ks h hk
  refine ⟨v, h1, ?_⟩
  rcases h2 with h2 | h2 | ⟨b, o, cap, css, c, el, fz, rfl, hl, hb63, hb, hcs, hg⟩
  · exact .inl h2
  · exact .inr (.inl h2)
  · obtain ⟨rows, r1, r2, r3⟩ := rows_flat fun cs h => (hcs cs h).1
    exact .inr (.inr ⟨b, o, cap, rows, by rw [r1], by omega, r2, ⟨b, o, c.size, 0⟩, rfl, rfl, fun ι => arg_blk hb hg (r3 ι)⟩)

theorem nin_flat {ks : List AK} : ∀ {xs : List S} {cs : List Value}, All2 KS ks xs → (∀ ι, All2 (SRel ι) xs cs) → All2 (NIn W) (ks.map .flat) cs := by
  induction ks with
  | nil => intro xs cs h hr; cases h; have := hr fun _ => none; cases this; exact .nil
  | cons k ks ih =>
    intro xs cs h hr
    cases h with
    | cons a b =>
      rename_i x xs
      cases cs with
      | nil => have := hr fun _ => none; cases this
      | cons v cs =>
        exact .cons ⟨x, a, fun ι => by have := hr ι; cases this; assumption⟩ (ih b fun ι => by have := hr ι; cases this; assumption)

theorem nest_fields {cs : List Value} {n : Nat} : ∀ (fs : List Field) (off : Nat) (ks : List NK), nestF P n fs off = some ks →
      (∀ f ∈ fs, ∃ m x, DataW.trod enc P W base (fun _ => true) held m f.type ((cs.drop f.offset).take (P.cellsOf f.type)) = some x) → All2 (NIn W) ks ((cs.drop off).take ks.length) := by
  intro fs
  induction fs with
  | nil =>
    intro off ks h _
    cases h
    simpa using All2.nil
  | cons f fs ih =>
    intro off ks h hx
    unfold nestF at h
    split at h
    · rename_i ho
      subst ho
      obtain ⟨m, x, hx1⟩ := hx f List.mem_cons_self
      have hx2 := fun f' hf' => hx f' (List.mem_cons_of_mem f hf')
      split at h
      · rename_i e ht
        split at h
        · rename_i k1 hk1
          split at h
          · rename_i hl
            rw [Option.map_eq_some_iff] at h
            obtain ⟨k2, hk2, rfl⟩ := h
            obtain ⟨v, hv, hs⟩ := slin_trod ht hk1 hl.2.1 hl.1 hx1
            have b2 := ih (f.offset + 1) k2 hk2 hx2
            rw [hl.2.2] at hv
            rw [List.length_cons, Nat.add_comm, List.take_add, List.drop_drop, hv]
            exact .cons ⟨hl.1, hs⟩ b2
          · cases h
        · cases h
      · split at h
        · cases h
        · rename_i k1 hk1
          split at h
          · rename_i hl
            rw [Option.map_eq_some_iff] at h
            obtain ⟨k2, hk2, rfl⟩ := h
            obtain ⟨xs, a1, a2⟩ := flat_trod n m f.type _ _ _ hx1 hk1
            have b2 := ih (f.offset + k1.length) k2 hk2 hx2
            rw [List.length_append, List.length_map, List.take_add, List.drop_drop]
            have b1 := nin_flat (W := W) a1 a2
            rw [← hl] at b1
            exact forall2_append b1 b2
          · cases h
    · cases h

theorem NOut.keep {s t : St} {k : NK} {x : S} (h : NOut s k x) (hz : s.size ≤ t.size) (hk : ∀ c, c < s.size → t.get c = s.get c) : NOut t k x := by
  cases k with
  | flat k => exact h
  | sl ks =>
    obtain ⟨rows, h1, h2, h3, h4⟩ := h
    exact ⟨rows, h1, h2, h3.keep fun c hc => hk c (h4 c hc), fun c hc => by have := h4 c hc; omega⟩

theorem Inp.wf {W : World} {σ : St} {vs : List Value} {ts : List T} (h : Inp W σ vs ts) : σ.wf := by
  obtain ⟨ι, _, h2, _⟩ := h
  exact h2

theorem slIn_in {W : World} {σ : St} {vs : List Value} {ts : List T} (h : Inp W σ vs ts) {ks : List AK} {v : Value} (h0 : 0 < ks.length) (hv : SlIn W ks v) :
    ∃ x σ', Inp W σ' (v :: vs) (Z x :: ts) ∧ NOut σ' (.sl ks) x ∧ σ.size ≤ σ'.size ∧ ∀ c, c < σ.size → σ'.get c = σ.get c := by
  rcases hv with rfl | ⟨a, rfl⟩ | ⟨b, o, cap, rows, rfl, ⟨hl, hb63⟩, hr, L, hb, ho, hx⟩
  · exact ⟨.nils, σ, h.flat (x := .nils) fun _ => rfl, ⟨[], fun r h => (by cases h), by simp, Rd.nil _ _, fun c h => by cases h⟩, Nat.le_refl _, fun _ _ => rfl⟩
  · have h1 := h.slice (b := 0) (o := 0) (len := 0) (cap := 0) (xs := []) (Nat.le_refl _) ⟨0, 0, 0, 0⟩ rfl rfl fun ι => trivial
    refine ⟨.emp σ.size ks.length, σ.push (argBlk []), ?_, ⟨[], fun r h => (by cases h), by simp, ⟨by simp, .inl ⟨rfl, .inr (.inl ⟨_, _, rfl⟩)⟩, rfl⟩, fun c hc => by cases hc; simp⟩, by simp, fun c hc => St.get_push_ne _ _ (by omega)⟩
    obtain ⟨ι, g1, g2, g3, g4, g5⟩ := h1
    refine ⟨ι, g1, g2, g3, g4, ?_⟩
    cases g5 with
    | cons p q =>
      obtain ⟨L, hL, _⟩ := p
      exact .cons ⟨L, a, 0, hL, rfl, .inl rfl⟩ q
  · refine ⟨_, _, h.slice hl L hb ho hx, ?_, by simp, fun c hc => St.get_push_ne _ _ (by omega)⟩
    obtain ⟨x, hx1, hx2, hx3⟩ := slRd (s := σ.push (argBlk rows.flatten)) (a := Z (.sl σ.size 0 rows.length (.known cap))) (c := σ.size) (rows := rows) (.inr ⟨cap, hl, rfl⟩) h0 (fun r h => (forall2_length (hr r h)).symm) (St.get_push_same _ _)
    cases hx1
    exact ⟨rows, hr, hb63, hx2, fun c hc => by rw [hx3 c hc]; simp⟩

theorem Inp.cells {W : World} {σ : St} {vs : List Value} {ts : List T} (h : Inp W σ vs ts) : ∀ {ks : List NK} {cs : List Value}, All2 (NIn W) ks cs →
    ∃ σ' xs, Inp W σ' (cs ++ vs) (xs.map Z ++ ts) ∧ All2 (NOut σ') ks xs ∧ σ.size ≤ σ'.size ∧ ∀ c, c < σ.size → σ'.get c = σ.get c := by
  intro ks cs hk
  induction hk with
  | nil => exact ⟨σ, [], h, .nil, Nat.le_refl _, fun _ _ => rfl⟩
  | cons a r ih =>
    rename_i k v ks cs
    obtain ⟨σ', xs, h1, h2, h3, h4⟩ := ih
    cases k with
    | flat k =>
      obtain ⟨x, hx1, hx2⟩ := a
      exact ⟨σ', x :: xs, h1.flat hx2, .cons hx1 h2, h3, h4⟩
    | sl ks =>
      obtain ⟨x, σ2, g1, g2, g3, g4⟩ := slIn_in h1 a.1 a.2
      exact ⟨σ2, x :: xs, g1, .cons g2 (forall2_mono (fun a b hab => hab.keep g3 g4) h2), by omega, fun c hc => by rw [g4 c (by omega), h4 c hc]⟩

theorem Inp.rows {W : World} {σ : St} {vs : List Value} {ts : List T} (h : Inp W σ vs ts) {ks : List NK} : ∀ {css : List (List Value)}, (∀ cs ∈ css, All2 (NIn W) ks cs) →
    ∃ (σ' : St) (rows : List (List S)), Inp W σ' (css.flatten ++ vs) (rows.flatten.map Z ++ ts) ∧ (∀ r ∈ rows, All2 (NOut σ') ks r) ∧ rows.length = css.length ∧ rows.flatten.length = css.flatten.length ∧ σ.size ≤ σ'.size ∧ ∀ c, c < σ.size → σ'.get c = σ.get c
  | [], _ => ⟨σ, [], h, fun r h => (by cases h), rfl, rfl, Nat.le_refl _, fun _ _ => rfl⟩
  | cs :: css, hc => by
    obtain ⟨σ', rows, h1, h2, h3, h4, h5, h6⟩ := Inp.rows h (css := css) fun c hc' => hc c (by simp [hc'])
    obtain ⟨σ2, xs, g1, g2, g3, g4⟩ := h1.cells (hc cs (by simp))
    refine ⟨σ2, xs :: rows, by simpa using g1, fun r hr => ?_, by simp [h3], ?_, by omega, fun c hc => by rw [g4 c (by omega), h6 c hc]⟩
    · rcases List.mem_cons.1 hr with rfl | hr
      · exact g2
      · exact forall2_mono (fun a b hab => hab.keep g3 g4) (h2 r hr)
    · rw [List.flatten_cons, List.flatten_cons, List.length_append, List.length_append, h4, ← forall2_length g2, ← forall2_length (hc cs (by simp))]

theorem Inp.outer {W : World} {σ : St} {cs vs : List Value} {xs : List S} {ts : List T} (h : Inp W σ (cs ++ vs) (xs.map Z ++ ts)) (hl : xs.length = cs.length) {b o len cap : Nat} {c : Array Value} {el : TypeId} {fz : Nat × Nat}
    (hlc : len ≤ cap) (hb : W.heap[b]? = some (.cells c el fz)) (hc : ∀ j, j < cs.length → c[o + j]? = cs[j]?) :
    Inp W (σ.push (argBlk xs)) (.slice (some ⟨b, o, none⟩) len cap :: vs) (.v (.s (.sl σ.size 0 len (.known cap))) :: ts) := by
  obtain ⟨ι, h1, h2, h3, h4, h5⟩ := h
  have hsp : All2 (SRel ι) xs cs ∧ All2 (TRel ι) ts vs := by
    clear hc hb
    induction xs generalizing cs with
    | nil =>
      cases cs with
      | nil => exact ⟨.nil, h5⟩
      | cons _ _ => simp at hl
    | cons x xs ih =>
      cases cs with
      | nil => simp at hl
      | cons v cs =>
        cases h5 with
        | cons p q =>
          obtain ⟨i1, i2⟩ := ih (by simpa using hl) q
          exact ⟨.cons p i1, i2⟩
  have hle : ι.le (fun i => if i = σ.size then some ⟨b, o, c.size, 0⟩ else ι i) := by
    intro i M hi
    have : i ≠ σ.size := by
      intro e
      rw [h3 i (by omega)] at hi
      cases hi
    simp [this, hi]
  have hx := arg_blk hb hc hsp.1
  refine ⟨fun i => if i = σ.size then some ⟨b, o, c.size, 0⟩ else ι i, ⟨?_, ?_, ?_⟩, St.wf_push h2 _, ?_, ?_, .cons ⟨⟨b, o, c.size, 0⟩, by simp, by simp, hlc⟩ (forall2_mono (fun a c k => k.mono hle) hsp.2)⟩
  · intro i M b' hi hc
    by_cases e : i = σ.size
    · subst e
      simp only [if_true] at hi
      cases hi
      rw [St.get_push_same] at hc
      cases hc
      exact hx.mono hle
    · simp only [if_neg e] at hi
      rw [St.get_push_ne _ _ e] at hc
      exact (h1.blk i M b' hi hc).mono hle
  · intro i j L1 M1 hi hj hli
    exfalso
    by_cases e : i = σ.size
    · subst e
      rw [St.get_push_same] at hli
      exact argBlk_not_live _ hli
    · rw [St.get_push_ne _ _ e] at hli
      exact h4 i hli
  · intro i n vs hg
    by_cases e : i = σ.size
    · subst e; exact ⟨_, by simp; rfl⟩
    · rw [St.get_push_ne _ _ e] at hg
      obtain ⟨M, hM⟩ := h1.glob i n vs hg
      exact ⟨M, by simp [e, hM]⟩
  · intro i hi
    rw [St.size_push] at hi
    simp only [if_neg (show i ≠ σ.size by omega)]
    exact h3 i (by omega)
  · intro i hli
    by_cases e : i = σ.size
    · subst e
      rw [St.get_push_same] at hli
      exact argBlk_not_live _ hli
    · rw [St.get_push_ne _ _ e] at hli
      exact h4 i hli

theorem Inp.nest {σ : St} {vs : List Value} {ts : List T} (h : Inp W σ vs ts) {t e : TypeId} {fs : Array Field} {n : Nat} {ks : List NK} {v : Value} {d : DataW H} {ps : List MemPlace} (ht : P.underlying t = some (.slice e)) (he : P.underlying e = some (.struct fs))
    (hk : nestF P n fs.toList 0 = some ks) (hc : P.cellsOf e = ks.length) (h0 : 0 < ks.length) {r : Reach} {b0 : Nat} (hval : Value.okWide P W r b0 t v) (hdd : DataW.Trod enc P W base (fun _ => true) held t v d ps) :
    ∃ (σ' : St) (x : S) (rows : List (List S)), Inp W σ' (v :: vs) (Z x :: ts) ∧ (∀ r ∈ rows, All2 (NOut σ') ks r) ∧ rows.length < 9223372036854775808 ∧ Rd ks.length σ' x rows.length rows.flatten ∧ (∀ c, own x = some c → c < σ'.size) ∧ σ.size ≤ σ'.size ∧ ∀ c, c < σ.size → σ'.get c = σ.get c := by
  obtain ⟨fuel, hf⟩ := hdd
  obtain ⟨v', hv, h1⟩ := slice_trod (Q := fun cs => cs.length = P.cellsOf e → All2 (NIn W) ks cs) ht (by omega) hf fun m cs x hx hl => by
    obtain ⟨xs, m', _, _, hcl, hxl, hxs⟩ := DataW.trod_struct he hx
    have := nest_fields (W := W) (cs := cs) (enc := enc) (P := P) (base := base) (held := held) (n := n) fs.toList 0 ks hk fun f hf => by
      obtain ⟨i, hi⟩ := List.getElem?_of_mem hf
      have hi' : fs[i]? = some f := by simpa using hi
      have h2 := hxs i f hi'
      have h3 : i < xs.length := by rw [hxl]; exact (Array.getElem?_eq_some_iff.1 hi').1
      rw [List.getElem?_eq_getElem h3] at h2
      exact ⟨m', _, h2⟩
    rwa [List.drop_zero, ← hc, ← hl, List.take_length] at this
  have hv1 : v = v' := by
    have hv0 : Cell.okWide P W r b0 t v := by
      unfold Value.okWide at hval
      rw [ht] at hval
      exact hval
    have hv' : Cell.ok P W r b0 t v := by
      unfold Cell.okWide at hv0
      rw [ht] at hv0
      exact hv0
    unfold Cell.ok at hv'
    rw [ht] at hv'
    have hshape : ∃ a len cap, v = .slice a len cap := by
      split at hv'
      all_goals first | (rename_i he; cases he; done) | skip
      all_goals first | exact hv'.elim | exact ⟨_, _, _, rfl⟩
    obtain ⟨a, len, cap, rfl⟩ := hshape
    simpa [Value.cells] using hv
  subst hv1
  rcases h1 with rfl | ⟨a, rfl⟩ | ⟨b, o, cap, css, c, el, fz, rfl, hl, hb63, hb, hcs, hg⟩
  · exact ⟨σ, .nils, [], h.flat (x := .nils) fun _ => rfl, fun r h => (by cases h), by simp, Rd.nil _ _, (fun c h => by cases h), Nat.le_refl _, fun _ _ => rfl⟩
  · have h1 := h.slice (b := 0) (o := 0) (len := 0) (cap := 0) (xs := []) (Nat.le_refl _) ⟨0, 0, 0, 0⟩ rfl rfl fun ι => trivial
    refine ⟨σ.push (argBlk []), S.emp σ.size ks.length, [], ?_, fun r h => (by cases h), by simp, ⟨by simp, .inl ⟨rfl, .inr (.inl ⟨_, _, rfl⟩)⟩, rfl⟩, (fun c hc => by cases hc; simp), by simp, fun c hc => St.get_push_ne _ _ (by omega)⟩
    obtain ⟨ι, g1, g2, g3, g4, g5⟩ := h1
    refine ⟨ι, g1, g2, g3, g4, ?_⟩
    cases g5 with
    | cons p q =>
      obtain ⟨L, hL, _⟩ := p
      exact .cons ⟨L, a, 0, hL, rfl, .inl rfl⟩ q
  · obtain ⟨σ', rows, g1, g2, g3, g4, g5, g6⟩ := h.rows (css := css) fun cs hcs' => (hcs cs hcs').1 (hcs cs hcs').2
    have hout := g1.outer g4 hl hb hg
    have hsz : (σ'.push (argBlk rows.flatten)).size = σ'.size + 1 := by simp
    obtain ⟨x, hx1, hx2, hx3⟩ := slRd (s := σ'.push (argBlk rows.flatten)) (a := Z (.sl σ'.size 0 css.length (.known cap))) (c := σ'.size) (e := ks.length) (rows := rows) (.inr ⟨cap, by omega, by rw [g3]⟩) h0 (fun r h => (forall2_length (g2 r h)).symm) (St.get_push_same _ _)
    cases hx1
    exact ⟨_, _, rows, hout, fun r hr => forall2_mono (fun a b hab => hab.keep (by omega) fun c hc => St.get_push_ne _ _ (by omega)) (g2 r hr), by omega, hx2, (fun c hc => by rw [hx3 c hc]; simp), by omega, fun c hc => by rw [St.get_push_ne _ _ (by omega), g6 c hc]⟩
end
end Go.Abs

