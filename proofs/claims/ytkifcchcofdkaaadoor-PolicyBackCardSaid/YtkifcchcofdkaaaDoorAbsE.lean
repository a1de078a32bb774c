/-
  A library of our own, several texts in one: an abstract store for the model, and runs over it. Nothing here speaks of any program. No conditions.
-/
import Derived.Test.YtkifcchcofdkaaaDoorAbsC
import Derived.Carry
import Derived.Test.YtkifcchcofdkaaaDoorAbsD
import Derived.Lib.LaidTab
import Derived.Below
import Derived.Lib.Bytealg
import Derived.Lib.Join
import Derived.Shelf.Strings.Builder1
import Derived.Lib.ItoaNum
import Derived.Sort.Grow
import Derived.Deep.Draws
/-
  What a statement's arguments give an abstract run: numbers, strings, flat structs and slices of these; and that they read behind the call as before.
-/
namespace Go.Abs
open Go Go.ChangeShapes

inductive AK where
  | bool
  | int (k : IntKind)
  | str
  deriving DecidableEq

def KS : AK → S → Prop
  | .bool, .bool _ => True
  | .int k, .int q n => q = k ∧ (Lit.int k n).wf = true
  | .str, .str l => l.length ≤ maxLen
  | _, _ => False

def flatF (P : Program) (g : TypeId → Option (List AK)) : List Field → Nat → Option (List AK)
  | [], _ => some []
  | f :: fs, off => if f.offset = off then
      match g f.type with
      | none => none
      | some ks => if ks.length = P.cellsOf f.type then (flatF P g fs (off + ks.length)).map (ks ++ ·) else none
    else none

def flatK (P : Program) : Nat → TypeId → Option (List AK)
  | 0, _ => none
  | n + 1, t => match P.underlying t with
    | some .bool => some [.bool]
    | some (.int k) => some [.int k]
    | some .string => some [.str]
    | some (.struct fs) => match flatF P (flatK P n) fs.toList 0 with
      | none => none
      | some ks => if ks.length = P.cellsOf t then some ks else none
    | some (.array m e) => match flatK P n e with
      | none => none
      | some ks => if ks.length = P.cellsOf e ∧ P.cellsOf t = m * ks.length then some (List.replicate m ks).flatten else none
    | _ => none

section
variable {H : Type} {enc : TypeId × Value → H} {P : Program} {w : World} {base : Nat} {spare : Nat → Bool} {held : Bool}

theorem flat_fields {cs : List Value} {g : TypeId → Option (List AK)}
    (hg : ∀ (off : Nat) (t : TypeId) (ks : List AK) (m : Nat) (x : DataW H × List MemPlace), DataW.trod enc P w base spare held m t ((cs.drop off).take (P.cellsOf t)) = some x → g t = some ks → ∃ xs : List S, All2 KS ks xs ∧ ∀ ι, All2 (SRel ι) xs ((cs.drop off).take (P.cellsOf t))) :
    ∀ (fs : List Field) (off : Nat) (ks : List AK), flatF P g fs off = some ks → (∀ f ∈ fs, ∃ m x, DataW.trod enc P w base spare held m f.type ((cs.drop f.offset).take (P.cellsOf f.type)) = some x) →
      ∃ xs : List S, All2 KS ks xs ∧ ∀ ι, All2 (SRel ι) xs ((cs.drop off).take ks.length) := by
  intro fs
  induction fs with
  | nil =>
    intro off ks h _
    cases h
    exact ⟨[], .nil, fun ι => by simpa using All2.nil⟩
  | cons f fs ih =>
    intro off ks h hx
    unfold flatF at h
    split at h
    · rename_i ho
      subst ho
      split at h
      · cases h
      · rename_i k1 hk1
        split at h
        · rename_i hl
          rw [Option.map_eq_some_iff] at h
          obtain ⟨k2, hk2, rfl⟩ := h
          obtain ⟨m, x, hx1⟩ := hx f List.mem_cons_self
          obtain ⟨x1, a1, b1⟩ := hg f.offset f.type k1 m x hx1 hk1
          obtain ⟨x2, a2, b2⟩ := ih (f.offset + k1.length) k2 hk2 fun f' hf' => hx f' (List.mem_cons_of_mem _ hf')
          refine ⟨x1 ++ x2, forall2_append a1 a2, fun ι => ?_⟩
          rw [List.length_append, List.take_add, List.drop_drop]
          have b1' := b1 ι
          rw [← hl] at b1'
          exact forall2_append b1' (b2 ι)
        · cases h
    · cases h

theorem flat_rows {cs : List Value} {ks : List AK} (c : Nat) (hc : ks.length = c) :
    ∀ (m off : Nat), (∀ i, i < m → ∃ xs : List S, All2 KS ks xs ∧ ∀ ι, All2 (SRel ι) xs ((cs.drop (off + i * c)).take c)) →
      ∃ xs : List S, All2 KS (List.replicate m ks).flatten xs ∧ ∀ ι, All2 (SRel ι) xs ((cs.drop off).take (m * c)) := by
  intro m
  induction m with
  | zero => intro off _; exact ⟨[], .nil, fun ι => by simpa using All2.nil⟩
  | succ m ih =>
    intro off h
    obtain ⟨x1, a1, b1⟩ := h 0 (by omega)
    obtain ⟨x2, a2, b2⟩ := ih (off + c) fun i hi => by
      have := h (i + 1) (by omega)
      rwa [show off + (i + 1) * c = off + c + i * c by rw [Nat.add_mul]; omega] at this
    refine ⟨x1 ++ x2, ?_, fun ι => ?_⟩
    · rw [List.replicate_succ, List.flatten_cons]
      exact forall2_append a1 a2
    · rw [show (m + 1) * c = c + m * c by rw [Nat.add_mul]; omega, List.take_add, List.drop_drop]
      have b1' := b1 ι
      rw [Nat.zero_mul, Nat.add_zero] at b1'
      exact forall2_append b1' (b2 ι)

theorem flat_trod : ∀ (n m : Nat) (t : TypeId) (cs : List Value) (x : DataW H × List MemPlace) (ks : List AK), DataW.trod enc P w base spare held m t cs = some x → flatK P n t = some ks →
    ∃ xs : List S, All2 KS ks xs ∧ ∀ ι, All2 (SRel ι) xs cs := by
  intro n
  induction n with
  | zero => intro m t cs x ks _ h; cases h
  | succ n ih =>
    intro m t cs x ks hx h
    unfold flatK at h
    split at h
    · rename_i ht
      cases h
      obtain ⟨b, rfl, _⟩ := DataW.trod_bool ht hx
      exact ⟨[.bool b], .cons trivial .nil, fun ι => .cons rfl .nil⟩
    · rename_i k ht
      cases h
      obtain ⟨b, rfl, _, hw⟩ := DataW.trod_int ht hx
      exact ⟨[.int k b], .cons ⟨rfl, hw⟩ .nil, fun ι => .cons rfl .nil⟩
    · rename_i ht
      cases h
      obtain ⟨s, rfl, _, hw⟩ := DataW.trod_string ht hx
      exact ⟨[.str s.data.toList], .cons (by simpa [KS] using hw) .nil, fun ι => .cons ⟨s, rfl, rfl⟩ .nil⟩
    · rename_i fs ht
      split at h
      · cases h
      · rename_i k1 hk1
        split at h
        · rename_i hl
          cases h
          obtain ⟨xs, m', _, _, hcl, hxl, hxs⟩ := DataW.trod_struct ht hx
          obtain ⟨ys, a, b⟩ := flat_fields (cs := cs) (g := flatK P n) (fun off t ks m x h1 h2 => ih m t _ x ks h1 h2) fs.toList 0 ks hk1 fun f hf => by
            obtain ⟨i, hi⟩ := List.getElem?_of_mem hf
            have hi' : fs[i]? = some f := by simpa using hi
            have h2 := hxs i f hi'
            have h3 : i < xs.length := by rw [hxl]; exact (Array.getElem?_eq_some_iff.1 hi').1
            rw [List.getElem?_eq_getElem h3] at h2
            exact ⟨m', _, h2⟩
          refine ⟨ys, a, fun ι => ?_⟩
          have := b ι
          rwa [List.drop_zero, hl, ← hcl, List.take_length] at this
        · cases h
    · rename_i q e ht
      split at h
      · cases h
      · rename_i k1 hk1
        split at h
        · rename_i hl
          cases h
          obtain ⟨xs, m', _, _, hcl, hxl, hxs⟩ := DataW.trod_array ht hx
          obtain ⟨ys, a, b⟩ := flat_rows (cs := cs) (ks := k1) (P.cellsOf e) hl.1 q 0 fun i hi => by
            have h2 := hxs i hi
            have h3 : i < xs.length := by rw [hxl]; exact hi
            rw [List.getElem?_eq_getElem h3] at h2
            obtain ⟨zs, a, b⟩ := ih m' e _ _ k1 h2 hk1
            exact ⟨zs, a, fun ι => by rw [Nat.zero_add]; exact b ι⟩
          refine ⟨ys, a, fun ι => ?_⟩
          have := b ι
          rwa [List.drop_zero, ← hl.1, ← hl.2, ← hcl, List.take_length] at this
        · cases h
    · cases h

def argBlk (vs : List S) : Blk := match vs with
  | [] => .dead
  | x :: l => .cells false (x :: l)

theorem argBlk_not_live (vs : List S) : ¬ live (some (argBlk vs)) := by
  cases vs <;> exact fun h => h

def Inp (W : World) (σ : St) (vs : List Value) (ts : List T) : Prop :=
  ∃ ι : Inj, Rel ι σ.get W ∧ σ.wf ∧ (∀ i, σ.size ≤ i → ι i = none) ∧ (∀ i, ¬ live (σ.get i)) ∧ All2 (TRel ι) ts vs

theorem Inp.nil (W : World) : Inp W St.empty [] [] :=
  ⟨fun _ => none, ⟨(fun i L b h => by cases h), (fun i j L M h => by cases h), (fun i n vs h => by cases h)⟩, St.wf_empty, fun _ _ => rfl, fun _ h => h, .nil⟩

theorem Inp.flat {W : World} {σ : St} {vs : List Value} {ts : List T} (h : Inp W σ vs ts) {v : Value} {x : S} (hx : ∀ ι, SRel ι x v) : Inp W σ (v :: vs) (.v (.s x) :: ts) := by
  obtain ⟨ι, h1, h2, h3, h4, h5⟩ := h
  exact ⟨ι, h1, h2, h3, h4, .cons (hx ι) h5⟩

theorem Inp.agg {W : World} {σ : St} {vs : List Value} {ts : List T} (h : Inp W σ vs ts) {cs : List Value} {xs : List S} (hx : ∀ ι, All2 (SRel ι) xs cs) : Inp W σ (.agg cs.toArray :: vs) (.v (.agg xs) :: ts) := by
  obtain ⟨ι, h1, h2, h3, h4, h5⟩ := h
  exact ⟨ι, h1, h2, h3, h4, .cons ⟨cs, rfl, hx ι⟩ h5⟩

theorem Inp.slice {W : World} {σ : St} {vs : List Value} {ts : List T} (h : Inp W σ vs ts) {b o len cap : Nat} {xs : List S} (hl : len ≤ cap) (L : Loc) (hb : L.b = b) (ho : L.base = o) (hx : ∀ ι, BlkRel ι L W (argBlk xs)) :
    Inp W (σ.push (argBlk xs)) (.slice (some ⟨b, o, none⟩) len cap :: vs) (.v (.s (.sl σ.size 0 len (.known cap))) :: ts) := by
  obtain ⟨ι, h1, h2, h3, h4, h5⟩ := h
  have hle : ι.le (fun i => if i = σ.size then some L else ι i) := by
    intro i M hi
    have : i ≠ σ.size := by
      intro e
      rw [h3 i (by omega)] at hi
      cases hi
    simp [this, hi]
  refine ⟨fun i => if i = σ.size then some L else ι i, ⟨?_, ?_, ?_⟩, St.wf_push h2 _, ?_, ?_, .cons ⟨L, by simp, by rw [hb, ho]; simp, hl⟩ (forall2_mono (fun a c k => k.mono hle) h5)⟩
  · intro i M c hi hc
    by_cases e : i = σ.size
    · subst e
      simp only [if_true] at hi
      cases hi
      rw [St.get_push_same] at hc
      cases hc
      exact hx _
    · simp only [if_neg e] at hi
      rw [St.get_push_ne _ _ e] at hc
      exact (h1.blk i M c hi hc).mono hle
  · intro i j L1 M1 hi hj hli
    exfalso
    by_cases e : i = σ.size
    · subst e
      rw [St.get_push_same] at hli
      exact argBlk_not_live _ hli
    · rw [St.get_push_ne _ _ e] at hli
      exact h4 i hli
  · intro i n vs hg
    by_cases e : i = σ.size
    · subst e; exact ⟨L, by simp⟩
    · rw [St.get_push_ne _ _ e] at hg
      obtain ⟨M, hM⟩ := h1.glob i n vs hg
      exact ⟨M, by simp [e, hM]⟩
  · intro i hi
    rw [St.size_push] at hi
    simp only [if_neg (show i ≠ σ.size by omega)]
    exact h3 i (by omega)
  · intro i hli
    by_cases e : i = σ.size
    · subst e
      rw [St.get_push_same] at hli
      exact argBlk_not_live _ hli
    · rw [St.get_push_ne _ _ e] at hli
      exact h4 i hli

theorem calls_inp {callf : CallF} (hs : CallSound P callf) {f : FuncId} {ts : List T} {vs : List Value} {σ τ : St} {W : World} {b : Bool} (hi : Inp W σ vs ts)
    (h : callf f ts σ = some (B b, τ)) : Calls P f vs.toArray W fun e u => e = .returned (.bool b) ∧ Kept W u := by
  obtain ⟨ι, h1, h2, h3, h4, h5⟩ := hi
  exact calls_of_run hs h h2 h1 (fun i hi _ => h3 i hi) h5 fun i L _ _ => h4 i

theorem kept_same {W u : World} (h : Kept W u) {p : MemPlace} (hp : p.block < W.heap.size) : W.sameAt u p := by
  cases p with
  | cell b o => exact World.cell?_of_block (w := W) (h.2.2.2 b hp)
  | map b => exact h.2.2.2 b hp

theorem trodAll_stays {W u : World} (hl : laidOutB P = true) (hk : Kept W u) :
    ∀ {ts : List TypeId} {vs : List Value} {ds : List (DataW H)} {p : List MemPlace} {sp : Nat → Bool}, DataW.TrodAll enc P W 0 (fun _ => true) true ts vs ds p → (ts.all fun t => P.readableRec t && decide (t < P.types.size)) = true →
      (∀ x ∈ p, x.block < W.heap.size) → (∀ x ∈ p, sp x.block = true) → DataW.TrodAll enc P u 0 sp true ts vs ds p := by
  intro ts
  induction ts with
  | nil =>
    intro vs ds p sp h _ _ _
    cases vs <;> cases ds <;> first | exact h | exact h.elim
  | cons t ts ih =>
    intro vs ds p sp h hr hlt hsp
    cases vs with
    | nil => exact h.elim
    | cons v vs => cases ds with
      | nil => exact h.elim
      | cons d ds =>
        obtain ⟨q, r, h1, h2, rfl⟩ := h
        simp only [List.all_cons, Bool.and_eq_true, decide_eq_true_eq] at hr
        refine ⟨q, r, WideElems.Trod_stays hl hr.1.1 hr.1.2 h1 (fun x hx => ?_) fun x hx => hsp x (List.mem_append_left _ hx), ih h2 hr.2 (fun x hx => hlt x (List.mem_append_right _ hx)) fun x hx => hsp x (List.mem_append_right _ hx), rfl⟩
        have hx' := hlt x (List.mem_append_left _ hx)
        exact kept_same hk hx'
end
end Go.Abs


/-
  Loops by an invariant; rules for slices and their elements.
-/
namespace Go.Abs.F
open Go Go.Abs

theorem loops_inv {f : List T → St → Option (JO × St)} (In : Nat → List T → St → Prop) (Q : JO → St → Prop)
    (step : ∀ k v s, In k v s → (∃ v' s' k', f v s = some (.normal v', s') ∧ k = k' + 1 ∧ In k' v' s') ∨ ∃ j s', f v s = some (j, s') ∧ (∀ v, j ≠ .normal v) ∧ Q j s') :
    ∀ N k v s, In k v s → k < N → ∃ j τ, loops f N v s = some (j, τ) ∧ Q j τ := by
  intro N
  induction N with
  | zero => intro k v s _ h; omega
  | succ N ih =>
    intro k v s hi hk
    rcases step k v s hi with ⟨v', s', k', hf, hk', hi'⟩ | ⟨j, s', hf, hj, hq⟩
    · obtain ⟨j, τ, h, hq⟩ := ih k' v' s' hi' (by omega)
      exact ⟨j, τ, by simp only [loops, hf]; exact h, hq⟩
    · refine ⟨j, s', ?_, hq⟩
      cases j with
      | normal v => exact absurd rfl (hj v)
      | exit i v => simp only [loops, hf]
      | ret r => simp only [loops, hf]

@[simp] theorem aLenSl_sl (b o len : Nat) (c : Cap) : aLenSl (Z (.sl b o len c)) = some (I .i64 len) := nz rfl
@[simp] theorem aLenSl_nils : aLenSl (Z .nils) = some (I .i64 0) := nz rfl
@[simp] theorem aLenSl_emp (i e : Nat) : aLenSl (Z (.emp i e)) = some (I .i64 0) := nz rfl

theorem aIndexSl_int {e b o len : Nat} {c : Cap} {k : IntKind} {n : Int} {j : Nat} (hn : n = j) (h : j < len) : aIndexSl e (Z (.sl b o len c)) (I k n) = some (Z (.ptr b (o + j * e))) := by
  subst hn
  simp [aIndexSl, aIdx, h]

end Go.Abs.F
namespace Go.Abs
open Go Go.Abs.F

def SlOf (a : T) (c : Nat) (rows : List (List S)) : Prop := (a = Z .nils ∧ rows = []) ∨ ∃ cap, rows.length ≤ cap ∧ a = Z (.sl c 0 rows.length (.known cap))

theorem SlOf.len {a : T} {c : Nat} {rows : List (List S)} (h : SlOf a c rows) : aLenSl a = some (I .i64 rows.length) := by
  rcases h with ⟨rfl, rfl⟩ | ⟨cap, _, rfl⟩ <;> rfl

theorem SlOf.index {a : T} {c : Nat} {rows : List (List S)} (h : SlOf a c rows) {k : IntKind} {e j : Nat} {n : Int} (hn : n = j) (hj : j < rows.length) : aIndexSl e a (I k n) = some (Z (.ptr c (j * e))) := by
  rcases h with ⟨rfl, rfl⟩ | ⟨cap, _, rfl⟩
  · simp at hj
  · rw [aIndexSl_int hn hj, Nat.zero_add]

theorem Inp.dead {W : World} {σ : St} {vs : List Value} {ts : List T} (h : Inp W σ vs ts) : Inp W (σ.push .dead) vs ts := by
  obtain ⟨ι, h1, h2, h3, h4, h5⟩ := h
  have ne : ∀ i L, ι i = some L → i ≠ σ.size := by
    intro i L hi e
    rw [h3 i (by omega)] at hi
    cases hi
  refine ⟨ι, ⟨fun i L b hi hb => ?_, fun i j L M hi hj hl hh => ?_, fun i n vs hg => ?_⟩, St.wf_push h2 _, fun i hi => h3 i (by rw [St.size_push] at hi; omega), fun i hl => ?_, h5⟩
  · rw [St.get_push_ne _ _ (ne i L hi)] at hb
    exact h1.blk i L b hi hb
  · rw [St.get_push_ne _ _ (ne i L hi)] at hl
    exact absurd hl (h4 i)
  · by_cases e : i = σ.size
    · subst e; rw [St.get_push_same] at hg; cases hg
    · rw [St.get_push_ne _ _ e] at hg; exact h1.glob i n vs hg
  · by_cases e : i = σ.size
    · subst e
      rw [St.get_push_same] at hl
      exact hl
    · rw [St.get_push_ne _ _ e] at hl
      exact h4 i hl

theorem KS.int {k : IntKind} {x : S} (h : KS (.int k) x) : ∃ n, x = .int k n ∧ (Lit.int k n).wf = true := by
  cases x <;> first | exact h.elim | (obtain ⟨rfl, hw⟩ := h; exact ⟨_, rfl, hw⟩)

theorem ints_of {ks : List IntKind} {r : List S} (h : All2 KS (ks.map .int) r) : ∃ ns : List Int, r = List.zipWith S.int ks ns ∧ ns.length = ks.length ∧ ∀ (j : Nat) (k : IntKind) (n : Int), ks[j]? = some k → ns[j]? = some n → (Lit.int k n).wf = true := by
  induction ks generalizing r with
  | nil => cases h; exact ⟨[], rfl, rfl, fun j k n h => by simp at h⟩
  | cons k ks ih =>
    cases h with
    | cons a b =>
      obtain ⟨n, rfl, hw⟩ := KS.int a
      obtain ⟨ns, rfl, hl, hh⟩ := ih b
      refine ⟨n :: ns, rfl, by simp [hl], fun j k' n' h1 h2 => ?_⟩
      cases j with
      | zero => simp at h1 h2; subst h1; subst h2; exact hw
      | succ j => exact hh j k' n' (by simpa using h1) (by simpa using h2)
end Go.Abs


/-
  Two runs of one text that differ in their first temporary alone.
-/
namespace Go.Abs.F
open Go Go.Abs

section
variable {X Y : T}

inductive Tw (X Y : T) : Option (JO × St) → Option (JO × St) → Prop
  | norm (l : List T) (s : St) : Tw X Y (some (.normal (X :: l), s)) (some (.normal (Y :: l), s))
  | exit (i : Nat) (l : List T) (s : St) : Tw X Y (some (.exit i (X :: l), s)) (some (.exit i (Y :: l), s))
  | same (x : Option (JO × St)) : Tw X Y x x

end
end Go.Abs.F
namespace Go.Abs.F
open Go Go.Abs

end Go.Abs.F
namespace Go.Abs.F
open Go Go.Abs

theorem wrap_in (y : Int) (h0 : -2 ^ 63 ≤ y) (h1 : y < 2 ^ 63) : IntKind.i64.wrap y = y := by
  unfold IntKind.wrap
  simp [IntKind.signed, IntKind.bits]
  omega

theorem wrap_u64 (x : Int) : 0 ≤ IntKind.u64.wrap x := by
  unfold IntKind.wrap
  simp [IntKind.signed, IntKind.bits]
  omega

theorem wrap_u64_in (x : Int) (h0 : 0 ≤ x) (h1 : x < 2 ^ 64) : IntKind.u64.wrap x = x := by
  unfold IntKind.wrap
  simp [IntKind.signed, IntKind.bits]
  omega

theorem mod_u (x m : Int) (hm : 0 < m) (hm' : m ≤ 2 ^ 63) : ∃ y, 0 ≤ y ∧ y < m ∧ aBin .rem (I .u64 (IntKind.u64.wrap x)) (I .u64 m) = some (I .u64 y) ∧ IntKind.i64.wrap y = y ∧ aBin .rem (I .u64 (IntKind.u64.wrap y)) (I .u64 m) = some (I .u64 y) := by
  have hw := wrap_u64 x
  have a := Int.tmod_nonneg m hw
  have b := Int.tmod_lt_of_pos (IntKind.u64.wrap x) hm
  refine ⟨(IntKind.u64.wrap x).tmod m, a, b, rem_int _ _ _ (by omega), wrap_in _ (by omega) (by omega), ?_⟩
  rw [wrap_u64_in _ a (by omega), rem_int _ _ _ (by omega), Int.tmod_eq_of_lt a b]

end Go.Abs.F
namespace Go.Abs.F
open Go Go.Abs
section
variable {Q Q' : List T → Prop} {X Y : T}

inductive TwQ (Q : List T → Prop) (X Y : T) : Option (JO × St) → Option (JO × St) → Prop
  | norm (l : List T) (s : St) (h : Q l) : TwQ Q X Y (some (.normal (X :: l), s)) (some (.normal (Y :: l), s))
  | same (x : Option (JO × St)) : TwQ Q X Y x x

end

end Go.Abs.F


/-
  A package-level table beside the store, as a block that is read alone; calls that tell plain values.
-/
namespace Go.Abs
open Go Go.Abs.F Go.RowKit

structure Still (w u : World) : Prop where
  os : u.os = w.os
  output : u.output = w.output
  size : w.heap.size ≤ u.heap.size
  block : ∀ k, k < w.heap.size → u.heap[k]? = w.heap[k]?

theorem Still.refl (w : World) : Still w w := ⟨rfl, rfl, Nat.le_refl _, fun _ _ => rfl⟩
theorem Still.of {w u : World} (h : Below w.heap.size w u) : Still w u := ⟨h.os, h.output, h.size, h.block⟩

theorem Rel.below {ι : Inj} {g : Mem} {w u : World} (hR : Rel ι g w) (hb : Still w u) : Rel ι g u := by
  refine ⟨fun i L b hi hb' => ?_, hR.sep, hR.glob⟩
  have hB := hR.blk i L b hi hb'
  cases b with
  | dead => trivial
  | cells own vs => exact hB.congr (hb.block _ (hB.lt trivial))
  | map es => exact hB.congr (hb.block _ (hB.lt trivial))
  | glob g vs => exact hB.congr (hb.block _ (hB.lt trivial))

theorem Ext.below {ι : Inj} {σ : St} {w u : World} (hb : Still w u) : Ext ι σ w ι σ u :=
  ⟨Nat.le_refl _, fun _ _ => rfl, fun _ _ h => h, fun _ _ h => h, fun _ _ _ => rfl, fun i L h1 h2 => by omega, hb.os, hb.output, hb.size, fun k hk _ => hb.block k hk⟩

theorem sound_of_plain {P : Program} {c : CallF} (h : ∀ f ts σ t τ, c f ts σ = some (t, τ) → τ = σ ∧ ∀ ι w vs, Rel ι σ.get w → All2 (TRel ι) ts vs →
    Calls P f vs.toArray w fun e u => ∃ v, e = .returned v ∧ Still w u ∧ TRel ι t v) : CallSound P c := by
  constructor
  · intro f ts σ t τ hc wf
    obtain ⟨rfl, _⟩ := h f ts σ t τ hc
    exact ⟨wf, Nat.le_refl _⟩
  · intro f ts σ t τ hc wf ι w vs hR hF hA
    obtain ⟨rfl, hk⟩ := h f ts σ t τ hc
    refine (hk ι w vs hR hA).mono ?_
    rintro e u ⟨v, rfl, hb, hT⟩
    exact ⟨ι, v, rfl, Ext.below hb, hR.below hb, hT⟩

theorem tab_of {P : Program} {ι : Inj} {m : Mem} {w : World} {name : String} {k : IntKind} {zs : List Int} {g i : Nat} (hR : Rel ι m w) (hm : m i = some (.glob g (zs.map (S.int k)))) (hg : P.globalNamed name = some g) :
    Lib.TabIs P w name k zs := by
  obtain ⟨L, hL⟩ := hR.glob i _ _ hm
  obtain ⟨hb, c, e, fz, h1, h2, h3⟩ := hR.blk i L _ hL hm
  unfold Lib.TabIs World.var?
  rw [hg]
  rw [hb] at h1
  simp only [Option.bind_some, h1]
  congr 1
  apply Array.ext'
  apply List.ext_getElem?
  intro j
  by_cases hj : j < zs.length
  · obtain ⟨v, hv, hr⟩ := h3 j (S.int k zs[j]) (by simp [hj])
    have hr' : v = .int k zs[j] := hr
    subst hr'
    simpa [hj] using hv
  · have h4 : c.size = zs.length := by simpa using h2
    rw [List.getElem?_eq_none (by simpa [h4] using hj), List.getElem?_eq_none (by simpa using hj)]

def tabSt (g : Nat) (vs : List S) : St := St.empty.push (.glob g vs)

theorem Inp.glob {P : Program} {W : World} {name : String} {k : IntKind} {zs : List Int} {g : Nat} (hg : P.globalNamed name = some g) (h : Lib.TabIs P W name k zs) :
    Inp W (tabSt g (zs.map (S.int k))) [] [] := by
  unfold Lib.TabIs World.var? at h
  rw [hg] at h
  simp only [Option.bind_some] at h
  split at h
  · rename_i cs e fz hb
    cases h
    have get0 : ∀ i b, (tabSt g (zs.map (S.int k))).get i = some b → i = 0 ∧ b = .glob g (zs.map (S.int k)) := by
      intro i b hi
      unfold tabSt at hi
      by_cases e : i = 0
      · subst e
        have := St.get_push_same St.empty (.glob g (zs.map (S.int k)))
        rw [show St.empty.size = 0 from rfl] at this
        rw [this] at hi
        cases hi
        exact ⟨rfl, rfl⟩
      · rw [St.get_push_ne _ _ (by simpa using e)] at hi
        cases hi
    refine ⟨fun i => if i = 0 then some ⟨g, 0, 0, 0⟩ else none, ⟨fun i L b hi hb' => ?_, fun i j L M hi hj hl => ?_, fun i n vs hi => ?_⟩, St.wf_push St.wf_empty _, fun i hi => ?_, fun i hi => ?_, .nil⟩
    · obtain ⟨rfl, rfl⟩ := get0 i b hb'
      simp only [if_true, Option.some.injEq] at hi
      subst hi
      refine ⟨rfl, _, _, _, hb, by simp, fun j x hx => ?_⟩
      rw [List.getElem?_map, Option.map_eq_some_iff] at hx
      obtain ⟨n, hn, rfl⟩ := hx
      exact ⟨.int k n, by simp [hn], rfl⟩
    · exfalso
      cases hb2 : (tabSt g (zs.map (S.int k))).get i with
      | none => rw [hb2] at hl; exact hl
      | some b => obtain ⟨_, rfl⟩ := get0 i b hb2; rw [hb2] at hl; exact hl
    · obtain ⟨rfl, _⟩ := get0 i _ hi
      exact ⟨_, rfl⟩
    · have : i ≠ 0 := by
        have : (tabSt g (zs.map (S.int k))).size = 1 := rfl
        omega
      simp [this]
    · cases hb2 : (tabSt g (zs.map (S.int k))).get i with
      | none => rw [hb2] at hi; exact hi
      | some b => obtain ⟨_, rfl⟩ := get0 i b hb2; rw [hb2] at hi; exact hi
  · cases h
end Go.Abs
namespace Go.Abs.F
open Go Go.Abs

def tabZ (g : Nat) (k : IntKind) (zs : List Int) : St := tabSt g (zs.map (S.int k))
def hasTab (g : Nat) (k : IntKind) (zs : List Int) (σ : St) : Bool := decide (σ.get 0 = some (.glob g (zs.map (S.int k))))

def pureG (g : Nat) (k : IntKind) (zs : List Int) (callf : CallF) (fs : List Nat) : CallF := fun f ts σ =>
  match fs.contains f && ts.all plainT && hasTab g k zs σ with
  | false => none
  | true => match callf f ts (tabZ g k zs) with
    | none => none
    | some (r, _) => match plainT r with
      | true => some (r, σ)
      | false => none

theorem pureG_some {g : Nat} {k : IntKind} {zs : List Int} {callf : CallF} {fs : List Nat} {f : FuncId} {ts : List T} {σ τ : St} {r : T} (h : pureG g k zs callf fs f ts σ = some (r, τ)) :
    τ = σ ∧ ts.all plainT = true ∧ plainT r = true ∧ σ.get 0 = some (.glob g (zs.map (S.int k))) ∧ ∃ τ0, callf f ts (tabZ g k zs) = some (r, τ0) := by
  unfold pureG at h
  split at h
  · cases h
  · rename_i hb
    rw [Bool.and_eq_true, Bool.and_eq_true, hasTab, decide_eq_true_eq] at hb
    split at h
    · cases h
    · rename_i q τ0 hq
      split at h
      · rename_i hp
        cases h
        exact ⟨rfl, hb.1.2, hp, hb.2, τ0, hq⟩
      · cases h

theorem tabZ_get {g : Nat} {k : IntKind} {zs : List Int} {i : Nat} {b : Blk} (h : (tabZ g k zs).get i = some b) : i = 0 ∧ b = .glob g (zs.map (S.int k)) := by
  unfold tabZ tabSt at h
  by_cases e : i = 0
  · subst e
    have := St.get_push_same St.empty (.glob g (zs.map (S.int k)))
    rw [show St.empty.size = 0 from rfl] at this
    rw [this] at h
    cases h
    exact ⟨rfl, rfl⟩
  · rw [St.get_push_ne _ _ (by simpa using e)] at h
    cases h
theorem tabZ_get0 (g : Nat) (k : IntKind) (zs : List Int) : (tabZ g k zs).get 0 = some (.glob g (zs.map (S.int k))) := St.get_push_same St.empty _
theorem pureG_sound {P : Program} {callf : CallF} (hs : CallSound P callf) (g : Nat) (k : IntKind) (zs : List Int) (fs : List Nat) : CallSound P (pureG g k zs callf fs) := by
  refine sound_of_plain fun f ts σ t τ h => ?_
  obtain ⟨rfl, hp, hr, hg, τ0, h0⟩ := pureG_some h
  refine ⟨rfl, fun ι w vs hR hA => ?_⟩
  obtain ⟨L0, hL0⟩ := hR.glob 0 _ _ hg
  have hrel : Rel (fun i => if i = 0 then some L0 else none) (tabZ g k zs).get w := by
    refine ⟨fun i L b hi hb => ?_, fun i j L M hi hj hl => ?_, fun i n xs hi => ?_⟩
    · obtain ⟨rfl, rfl⟩ := tabZ_get hb
      simp only [if_true, Option.some.injEq] at hi
      subst hi
      obtain ⟨k0, c, e, fz, k1, k2, k3⟩ := hR.blk 0 L0 _ hL0 hg
      refine ⟨k0, c, e, fz, k1, k2, fun j x hx => ?_⟩
      obtain ⟨v, hv, hrel⟩ := k3 j x hx
      rw [List.getElem?_map, Option.map_eq_some_iff] at hx
      obtain ⟨n, _, rfl⟩ := hx
      exact ⟨v, hv, hrel⟩
    · exfalso
      cases hb2 : (tabZ g k zs).get i with
      | none => rw [hb2] at hl; exact hl
      | some b => obtain ⟨_, rfl⟩ := tabZ_get hb2; rw [hb2] at hl; exact hl
    · obtain ⟨rfl, _⟩ := tabZ_get hi
      exact ⟨_, rfl⟩
  have nl : ∀ i, ¬ live ((tabZ g k zs).get i) := fun i hl => by
    cases hb2 : (tabZ g k zs).get i with
    | none => rw [hb2] at hl; exact hl
    | some b => obtain ⟨_, rfl⟩ := tabZ_get hb2; rw [hb2] at hl; exact hl
  refine (hs.calls f ts (tabZ g k zs) t τ0 h0 (St.wf_push St.wf_empty _) _ w vs hrel (fun i hi _ => ?_) (plains_rel hp hA)).mono ?_
  · have : i ≠ 0 := by
      have : (tabZ g k zs).size = 1 := rfl
      omega
    simp [this]
  · intro e u ⟨κ, v, he, hX, _, hT⟩
    exact ⟨v, he, ⟨hX.os, hX.output, hX.hsize, fun b hb => hX.keep b hb fun i L _ _ hl => absurd hl (nl i)⟩, plainT_rel hr hT⟩

def toldG (g : Nat) (k : IntKind) (zs : List Int) (f : Nat) (b : Bool) : CallF := fun h ts σ => match Nat.beq h f && ts.isEmpty && hasTab g k zs σ with
  | true => some (B b, σ)
  | false => none

theorem toldG_sound {P : Program} {callf : CallF} (hs : CallSound P callf) {g : Nat} {k : IntKind} {zs : List Int} {f : Nat} {b : Bool} (h : gave b (callf f [] (tabZ g k zs)) = true) : CallSound P (toldG g k zs f b) := by
  refine sound_mono ?_ (pureG_sound hs g k zs [f])
  intro h' ts σ r e
  unfold toldG at e
  split at e
  · rename_i hb
    rw [Bool.and_eq_true, Bool.and_eq_true] at hb
    have h1 := Nat.eq_of_beq_eq_true hb.1.1
    have h2 : ts = [] := by simpa using hb.1.2
    subst h1; subst h2
    cases e
    unfold gave at h
    split at h
    · rename_i c τ hc
      have : c = b := by simpa using h
      subst this
      simp only [pureG, hc, hb.2, List.contains_cons, beq_self_eq_true, Bool.true_or, List.all_nil, Bool.and_self]
      rfl
    · cases h
  · cases e

theorem toldG_of {g : Nat} {k : IntKind} {zs : List Int} {f : Nat} {b : Bool} {σ : St} (hg : σ.get 0 = some (.glob g (zs.map (S.int k)))) : toldG g k zs f b f [] σ = some (B b, σ) := by
  have ht : hasTab g k zs σ = true := decide_eq_true hg
  simp [toldG, ht]
end Go.Abs.F


/-
  Slices in any store, whatever their elements: how they read, how they grow; stores that only grow.
-/
namespace Go.Abs
open Go Go.Abs.F
set_option linter.unusedVariables false

def Gr (s t : St) : Prop := t.wf ∧ s.size ≤ t.size ∧ ∀ b, b < s.size → t.get b = s.get b
theorem Gr.refl {s : St} (wf : s.wf) : Gr s s := ⟨wf, Nat.le_refl _, fun _ _ => rfl⟩
theorem Gr.push {s : St} (wf : s.wf) (b : Blk) : Gr s (s.push b) := ⟨St.wf_push wf _, by simp, fun c hc => St.get_push_ne _ _ (by omega)⟩
theorem Gr.trans {a b c : St} (h : Gr a b) (k : Gr b c) : Gr a c := ⟨k.1, Nat.le_trans h.2.1 k.2.1, fun x hx => by rw [k.2.2 x (Nat.lt_of_lt_of_le hx h.2.1), h.2.2 x hx]⟩
theorem Gr.wf {s t : St} (h : Gr s t) : t.wf := h.1
theorem Gr.le {s t : St} (h : Gr s t) : s.size ≤ t.size := h.2.1
theorem Gr.get {s t : St} (h : Gr s t) {b : Nat} {x : Blk} (hb : s.get b = some x) (wf : s.wf) : t.get b = some x := by rw [h.2.2 b (wf.lt hb), hb]

def own : S → Option Nat
  | .emp c _ => some c
  | .sl c _ _ _ => some c
  | _ => none

def okCap (e : Nat) : S → Prop
  | .sl _ _ n (.known c) => n ≤ c
  | .sl _ _ _ (.grown g) => g = e
  | .emp _ g => g = e
  | _ => True

structure Rd (e : Nat) (s : St) (x : S) (n : Nat) (vs : List S) : Prop where
  len : vs.length = n * e
  rd : (n = 0 ∧ (x = .nils ∨ (∃ c g, x = .emp c g) ∨ ∃ c o cap, x = .sl c o 0 cap)) ∨ ∃ c o cap w rows, x = .sl c o n cap ∧ s.get c = some (.cells w rows) ∧ o + n * e ≤ rows.length ∧ (rows.drop o).take (n * e) = vs
  cap : okCap e x

structure Ow (e : Nat) (s : St) (x : S) (n : Nat) (vs : List S) : Prop where
  len : vs.length = n * e
  ow : (x = .nils ∧ n = 0) ∨ (∃ c rows, x = .emp c e ∧ n = 0 ∧ s.get c = some (.cells true rows)) ∨ ∃ c rows cap, x = .sl c 0 n cap ∧ (cap = .grown e ∨ cap = .known n) ∧ s.get c = some (.cells true rows) ∧ n * e ≤ rows.length ∧ rows.take (n * e) = vs

section
variable {e n m : Nat} {s t : St} {x y : S} {vs ws : List S}

theorem Rd.nil (e : Nat) (s : St) : Rd e s .nils 0 [] := ⟨by simp, .inl ⟨rfl, .inl rfl⟩, trivial⟩
theorem Ow.nil (e : Nat) (s : St) : Ow e s .nils 0 [] := ⟨by simp, .inl ⟨rfl, rfl⟩⟩

theorem Ow.rd (h : Ow e s x n vs) : Rd e s x n vs := by
  refine ⟨h.len, ?_, ?_⟩
  · rcases h.ow with ⟨rfl, rfl⟩ | ⟨c, rows, rfl, rfl, _⟩ | ⟨c, rows, cap, rfl, hc, h1, h2, h3⟩
    · exact .inl ⟨rfl, .inl rfl⟩
    · exact .inl ⟨rfl, .inr (.inl ⟨c, e, rfl⟩)⟩
    · exact .inr ⟨c, 0, _, true, rows, rfl, h1, by omega, by simpa using h3⟩
  · rcases h.ow with ⟨rfl, rfl⟩ | ⟨c, rows, rfl, rfl, _⟩ | ⟨c, rows, cap, rfl, hc, h1, h2, h3⟩
    · trivial
    · exact rfl
    · rcases hc with rfl | rfl
      · exact rfl
      · exact Nat.le_refl _

theorem Rd.lens (h : Rd e s x n vs) : aLenSl (Z x) = some (I .i64 n) := by
  rcases h.rd with ⟨rfl, rfl | ⟨c, g, rfl⟩ | ⟨c, o, cap, rfl⟩⟩ | ⟨c, o, cap, w, rows, rfl, _⟩ <;> rfl

theorem Rd.src (h : Rd e s x n vs) : aSrc e (Z x) s.get = some (n, vs) := by
  have hl := h.len
  rcases h.rd with ⟨rfl, rfl | ⟨c, g, rfl⟩ | ⟨c, o, cap, rfl⟩⟩ | ⟨c, o, cap, w, rows, rfl, h1, h2, h3⟩
  · have : vs = [] := List.eq_nil_of_length_eq_zero (by simpa using hl)
    subst this; rfl
  · have : vs = [] := List.eq_nil_of_length_eq_zero (by simpa using hl)
    subst this; rfl
  · have : vs = [] := List.eq_nil_of_length_eq_zero (by simpa using hl)
    subst this; simp [aSrc]
  · by_cases hz : n = 0
    · subst hz
      have : vs = [] := List.eq_nil_of_length_eq_zero (by simpa using hl)
      subst this; simp [aSrc]
    · simp only [aSrc, if_neg hz, h1, if_pos h2, h3]

theorem Rd.keep (h : Rd e s x n vs) (hk : ∀ c, own x = some c → t.get c = s.get c) : Rd e t x n vs := by
  refine ⟨h.len, ?_, h.cap⟩
  rcases h.rd with h | ⟨c, o, cap, w, rows, rfl, h1, h2, h3⟩
  · exact .inl h
  · exact .inr ⟨c, o, cap, w, rows, rfl, by rw [hk c rfl]; exact h1, h2, h3⟩

theorem Ow.keep (h : Ow e s x n vs) (hk : ∀ c, own x = some c → t.get c = s.get c) : Ow e t x n vs := by
  refine ⟨h.len, ?_⟩
  rcases h.ow with h | ⟨c, rows, rfl, rfl, h1⟩ | ⟨c, rows, cap, rfl, hc, h1, h2, h3⟩
  · exact .inl h
  · exact .inr (.inl ⟨c, rows, rfl, rfl, by rw [hk c rfl]; exact h1⟩)
  · exact .inr (.inr ⟨c, rows, cap, rfl, hc, by rw [hk c rfl]; exact h1, h2, h3⟩)

theorem Ow.lt (h : Ow e s x n vs) (wf : s.wf) {c : Nat} (hc : own x = some c) : c < s.size := by
  rcases h.ow with ⟨rfl, rfl⟩ | ⟨c', rows, rfl, rfl, h1⟩ | ⟨c', rows, cap, rfl, _, h1, h2, h3⟩
  · cases hc
  · cases hc; exact wf.lt h1
  · cases hc; exact wf.lt h1

theorem Rd.gr (h : Rd e s x n vs) (hx : ∀ c, own x = some c → c < s.size) (g : Gr s t) : Rd e t x n vs := h.keep fun c hc => g.2.2 c (hx c hc)
theorem Ow.gr (h : Ow e s x n vs) (wf : s.wf) (g : Gr s t) : Ow e t x n vs := h.keep fun c hc => g.2.2 c (h.lt wf hc)

theorem setRange_nil (rows : List S) (o : Nat) : setRange rows o [] = rows := rfl

theorem Ow.append {by_ : Nat} (h : Ow e s x n vs) (wf : s.wf) (he : 0 < e) (hs : aSrc e (Z y) s.get = some (m, ws)) (hws : ws.length = m * e) (hl : (n + m) * by_ ≤ 140737488355328) :
    ∃ x' t, aAppend e by_ (Z x) (Z y) s = some (Z x', t) ∧ t.wf ∧ s.size ≤ t.size ∧ Ow e t x' (n + m) (vs ++ ws) ∧ (∀ b, b < s.size → own x ≠ some b → t.get b = s.get b) ∧ (own x' = none ∨ own x' = own x ∨ ∃ c, own x' = some c ∧ s.size ≤ c) := by
  have hne : e ≠ 0 := by omega
  have hlv := h.len
  have hlen : (vs ++ ws).length = (n + m) * e := by rw [List.length_append, hlv, hws, Nat.add_mul]
  have hm : m * by_ ≤ 140737488355328 := Nat.le_trans (Nat.mul_le_mul_right _ (by omega)) hl
  rcases h.ow with ⟨rfl, rfl⟩ | ⟨c, rows, rfl, rfl, h1⟩ | ⟨c, rows, cap, rfl, hc, h1, h2, h3⟩
  · have hv : vs = [] := List.eq_nil_of_length_eq_zero (by simpa using hlv)
    subst hv
    by_cases hz : m = 0
    · subst hz
      have hw : ws = [] := List.eq_nil_of_length_eq_zero (by simpa using hws)
      subst hw
      refine ⟨.nils, s, ?_, wf, Nat.le_refl _, ⟨by simp, .inl ⟨rfl, rfl⟩⟩, fun _ _ _ => rfl, .inl rfl⟩
      unfold aAppend
      rw [hs]
      dsimp only
      rw [if_neg hne, if_pos rfl]
    · refine ⟨.sl s.size 0 m (.grown e), s.push (.cells true ws), ?_, St.wf_push wf _, by simp, ⟨hlen, .inr (.inr ⟨s.size, ws, _, by rw [Nat.zero_add], .inl rfl, St.get_push_same _ _, by rw [Nat.zero_add, hws]; exact Nat.le_refl _, by rw [Nat.zero_add, List.nil_append]; exact List.take_of_length_le (by omega)⟩)⟩, fun b hb _ => St.get_push_ne _ _ (by omega), .inr (.inr ⟨_, rfl, Nat.le_refl _⟩)⟩
      unfold aAppend
      rw [hs]
      dsimp only
      rw [if_neg hne, if_neg hz, if_pos hm]
  · have hcl := wf.lt h1
    have hv : vs = [] := List.eq_nil_of_length_eq_zero (by simpa using hlv)
    subst hv
    have hB : e = e ∧ m * by_ ≤ 140737488355328 := ⟨rfl, hm⟩
    by_cases hz : m = 0
    · subst hz
      have hw : ws = [] := List.eq_nil_of_length_eq_zero (by simpa using hws)
      subst hw
      refine ⟨.emp c e, s, ?_, wf, Nat.le_refl _, ⟨by simp, .inr (.inl ⟨c, rows, rfl, rfl, h1⟩)⟩, fun _ _ _ => rfl, .inr (.inl rfl)⟩
      unfold aAppend
      rw [hs]
      dsimp only
      rw [if_neg hne, if_pos hB, if_pos rfl]
    · have hg : ((s.set c .dead).push (.cells true ws)).get s.size = some (.cells true ws) := by
        have := St.get_push_same (s.set c .dead) (.cells true ws)
        rwa [St.size_set] at this
      refine ⟨.sl s.size 0 m (.grown e), (s.set c .dead).push (.cells true ws), ?_, St.wf_push (St.wf_set wf hcl _) _, by simp, ⟨hlen, .inr (.inr ⟨s.size, ws, _, by rw [Nat.zero_add], .inl rfl, hg, by rw [Nat.zero_add, hws]; exact Nat.le_refl _, by rw [Nat.zero_add, List.nil_append]; exact List.take_of_length_le (by omega)⟩)⟩, fun b hb hbc => ?_, .inr (.inr ⟨_, rfl, Nat.le_refl _⟩)⟩
      · unfold aAppend
        rw [hs]
        dsimp only
        rw [if_neg hne, if_pos hB, if_neg hz, h1]
      · have : b ≠ c := fun e => hbc (by rw [e]; rfl)
        rw [St.get_push_ne _ _ (by rw [St.size_set]; omega), St.get_set_ne _ _ this]
  · have hcl := wf.lt h1
    have big : ∀ q : St, q.size = s.size → (q.push (.cells true (vs ++ ws))).get s.size = some (.cells true (vs ++ ws)) := fun q hq => by
      have := St.get_push_same q (.cells true (vs ++ ws))
      rwa [hq] at this
    have ownNew : ∀ q : St, q.size = s.size → Ow e (q.push (.cells true (vs ++ ws))) (.sl s.size 0 (n + m) (.grown e)) (n + m) (vs ++ ws) := fun q hq =>
      ⟨hlen, .inr (.inr ⟨s.size, vs ++ ws, _, rfl, .inl rfl, big q hq, by omega, List.take_of_length_le (by omega)⟩)⟩
    have h2' : 0 + n * e ≤ rows.length := by omega
    rcases hc with rfl | rfl
    · have hB : e = e ∧ (n + m) * by_ ≤ 140737488355328 := ⟨rfl, hl⟩
      by_cases hz : m = 0
      · subst hz
        have hw : ws = [] := List.eq_nil_of_length_eq_zero (by simpa using hws)
        subst hw
        refine ⟨.sl c 0 n (.grown e), s, ?_, wf, Nat.le_refl _, ⟨by simpa using hlv, .inr (.inr ⟨c, rows, _, rfl, .inl rfl, h1, h2, by simpa using h3⟩)⟩, fun _ _ _ => rfl, .inr (.inl rfl)⟩
        unfold aAppend
        rw [hs]
        dsimp only
        rw [if_neg hne, if_pos hB, if_pos rfl]
      · by_cases hf : 0 + (n + m) * e ≤ rows.length
        · have hadd : (n + m) * e = n * e + m * e := Nat.add_mul _ _ _
          refine ⟨.sl c 0 (n + m) (.grown e), s.set c (.cells true (setRange rows (0 + n * e) ws)), ?_, St.wf_set wf hcl _, by simp, ⟨hlen, .inr (.inr ⟨c, _, _, rfl, .inl rfl, St.get_set_same _ _ _, ?_, ?_⟩)⟩, fun b hb hbc => ?_, .inr (.inl rfl)⟩
          · unfold aAppend
            rw [hs]
            dsimp only
            rw [if_neg hne, if_pos hB, if_neg hz, h1]
            dsimp only
            rw [if_pos hf]
          · rw [setRange_eq _ _ _ (by omega)]
            simp
            omega
          · rw [setRange_eq _ _ _ (by omega), show 0 + n * e = n * e by omega, h3]
            rw [List.take_append_of_le_length (by omega)]
            exact List.take_of_length_le (by omega)
          · have : b ≠ c := fun e => hbc (by rw [e]; rfl)
            exact St.get_set_ne _ _ this
        · refine ⟨.sl s.size 0 (n + m) (.grown e), (s.set c .dead).push (.cells true (vs ++ ws)), ?_, St.wf_push (St.wf_set wf hcl _) _, by simp, ownNew _ (by simp), fun b hb hbc => ?_, .inr (.inr ⟨_, rfl, Nat.le_refl _⟩)⟩
          · unfold aAppend
            rw [hs]
            dsimp only
            rw [if_neg hne, if_pos hB, if_neg hz, h1]
            dsimp only
            rw [if_neg hf, if_pos h2', List.drop_zero, h3]
          · have : b ≠ c := fun e => hbc (by rw [e]; rfl)
            rw [St.get_push_ne _ _ (by rw [St.size_set]; omega), St.get_set_ne _ _ this]
    · by_cases hz : m = 0
      · subst hz
        have hw : ws = [] := List.eq_nil_of_length_eq_zero (by simpa using hws)
        subst hw
        have hq : true = true ∧ 0 + n * e + 0 * e ≤ rows.length := ⟨rfl, by omega⟩
        refine ⟨.sl c 0 n (.known n), s.set c (.cells true rows), ?_, St.wf_set wf hcl _, by simp, ⟨by simpa using hlv, .inr (.inr ⟨c, rows, _, rfl, .inr rfl, St.get_set_same _ _ _, h2, by simpa using h3⟩)⟩, fun b hb hbc => ?_, .inr (.inl rfl)⟩
        · unfold aAppend
          rw [hs]
          dsimp only
          rw [if_neg hne, if_pos hl, h1]
          dsimp only
          rw [if_pos (by omega), if_pos hq, setRange_nil]
          rfl
        · have : b ≠ c := fun e => hbc (by rw [e]; rfl)
          exact St.get_set_ne _ _ this
      · refine ⟨.sl s.size 0 (n + m) (.grown e), s.push (.cells true (vs ++ ws)), ?_, St.wf_push wf _, by simp, ownNew _ rfl, fun b hb hbc => St.get_push_ne _ _ (by omega), .inr (.inr ⟨_, rfl, Nat.le_refl _⟩)⟩
        unfold aAppend
        rw [hs]
        dsimp only
        rw [if_neg hne, if_pos hl, h1]
        dsimp only
        rw [if_neg (by omega), if_pos h2', List.drop_zero, h3]

structure Fr (e : Nat) (s0 s : St) (x : S) (n : Nat) (vs : List S) : Prop where
  gr : Gr s0 s
  ow : Ow e s x n vs
  new : ∀ c, own x = some c → s0.size ≤ c ∧ c < s.size

theorem Fr.nil (e : Nat) {s : St} (wf : s.wf) : Fr e s s .nils 0 [] := ⟨Gr.refl wf, Ow.nil e s, fun c hc => by cases hc⟩
theorem Fr.rd {s0 : St} (h : Fr e s0 s x n vs) : Rd e s x n vs := h.ow.rd
theorem Fr.gr' {s0 t : St} (h : Fr e s0 s x n vs) (g : Gr s t) : Fr e s0 t x n vs :=
  ⟨h.gr.trans g, h.ow.gr h.gr.1 g, fun c hc => ⟨(h.new c hc).1, Nat.lt_of_lt_of_le (h.new c hc).2 g.2.1⟩⟩
theorem Fr.from {s0 s1 : St} (g : Gr s0 s1) (h : Fr e s1 s x n vs) : Fr e s0 s x n vs :=
  ⟨g.trans h.gr, h.ow, fun c hc => ⟨Nat.le_trans g.2.1 (h.new c hc).1, (h.new c hc).2⟩⟩

theorem Fr.append' {s0 : St} {by_ : Nat} (h : Fr e s0 s x n vs) (he : 0 < e) (hs : aSrc e (Z y) s.get = some (m, ws)) (hws : ws.length = m * e) (hl : (n + m) * by_ ≤ 140737488355328) :
    ∃ x' t, aAppend e by_ (Z x) (Z y) s = some (Z x', t) ∧ Fr e s0 t x' (n + m) (vs ++ ws) ∧ s.size ≤ t.size ∧ (∀ b, b < s.size → own x ≠ some b → t.get b = s.get b) ∧ (own x' = none ∨ own x' = own x ∨ ∃ c, own x' = some c ∧ s.size ≤ c) := by
  obtain ⟨⟨wf, hz, hk⟩, hb, ho⟩ := h
  obtain ⟨x', t, e1, q1, q2, q3, q4, q5⟩ := hb.append wf he hs hws hl
  refine ⟨x', t, e1, ⟨⟨q1, by omega, fun b hb' => ?_⟩, q3, fun c hc => ?_⟩, q2, q4, q5⟩
  · rw [q4 b (by omega) (fun e => by have := ho b e; omega)]
    exact hk b hb'
  · have hlt := q3.lt q1 hc
    rcases q5 with e | e | ⟨c', e, hc'⟩
    · rw [e] at hc; cases hc
    · rw [e] at hc
      exact ⟨(ho c hc).1, hlt⟩
    · rw [e] at hc; cases hc; exact ⟨by omega, hlt⟩

theorem Fr.append {s0 : St} {by_ : Nat} (h : Fr e s0 s x n vs) (he : 0 < e) (hs : aSrc e (Z y) s.get = some (m, ws)) (hws : ws.length = m * e) (hl : (n + m) * by_ ≤ 140737488355328) :
    ∃ x' t, aAppend e by_ (Z x) (Z y) s = some (Z x', t) ∧ Fr e s0 t x' (n + m) (vs ++ ws) ∧ s.size ≤ t.size ∧ ∀ b, b < s.size → own x ≠ some b → t.get b = s.get b := by
  obtain ⟨x', t, a, b, c, d, _⟩ := h.append' he hs hws hl
  exact ⟨x', t, a, b, c, d⟩

theorem Fr.lit (e : Nat) {s : St} (wf : s.wf) {n : Nat} {vs : List S} (hv : vs.length = n * e) : Fr e s (s.push (.cells true vs)) (.sl s.size 0 n (.known n)) n vs :=
  ⟨Gr.push wf _, ⟨hv, .inr (.inr ⟨s.size, vs, _, rfl, .inr rfl, St.get_push_same _ _, by omega, List.take_of_length_le (by omega)⟩)⟩, fun c hc => by cases hc; exact ⟨Nat.le_refl _, by simp⟩⟩

theorem Rd.at (h : Rd e s x n vs) {j : Nat} {i : Int} (hi : i = j) (hj : j < n) : ∃ c p, aIndexSl e (Z x) (I .i64 i) = some (Z (.ptr c p)) ∧ (∀ f v, f < e → vs[j * e + f]? = some v → aLoad1 (Z (.ptr c (p + f))) s.get = some (Z v)) ∧
    aLoadN e (Z (.ptr c p)) s.get = some (.v (.agg ((vs.drop (j * e)).take e))) := by
  rcases h.rd with ⟨rfl, _⟩ | ⟨b, o, cap, w, rows, rfl, h1, h2, h3⟩
  · omega
  · have hje : j * e + e ≤ n * e := by
      have : (j + 1) * e ≤ n * e := Nat.mul_le_mul_right _ hj
      rwa [Nat.add_mul, Nat.one_mul] at this
    refine ⟨b, o + j * e, aIndexSl_int hi hj, fun f v hf hv => aLoad1_of h1 ?_, ?_⟩
    · rw [← h3, List.getElem?_take_of_lt (by omega), List.getElem?_drop] at hv
      rw [Nat.add_assoc]
      exact hv
    · have h4 : o + j * e + e ≤ rows.length := by omega
      have h5 : (vs.drop (j * e)).take e = (rows.drop (o + j * e)).take e := by
        rw [← h3, List.drop_take, List.take_take, List.drop_drop, Nat.min_eq_left (by omega)]
      simp only [aLoadN, h1, if_pos h4, h5]

theorem Rd.at1 (h : Rd 1 s x n vs) {j : Nat} {i : Int} {v : S} (hi : i = j) (hv : vs[j]? = some v) : ∃ p, aIndexSl 1 (Z x) (I .i64 i) = some p ∧ aLoad1 p s.get = some (Z v) := by
  have hj : j < n := by
    have := (List.getElem?_eq_some_iff.1 hv).1
    have := h.len
    omega
  obtain ⟨c, p, h1, h2, _⟩ := h.at hi hj
  exact ⟨_, h1, by have := h2 0 v (by omega) (by simpa using hv); simpa using this⟩

theorem aBounds_hi {len cap k : Nat} (h : k ≤ cap) : aBounds len cap none (some (I .i64 k)) none = some (0, k, cap) := by
  have e : aBnd (I .i64 k) cap = some k := by
    have h0 : (0 : Int) ≤ (k : Int) := by omega
    have h1 : (k : Int) ≤ (cap : Int) := by omega
    simp [aBnd, h]
  delta aBounds
  dsimp only
  rw [e]

theorem aBounds_lh {len cap lo hi : Nat} (h : lo ≤ hi) (k : hi ≤ cap) : aBounds len cap (some (I .i64 lo)) (some (I .i64 hi)) none = some (lo, hi, cap) := by
  have e : aBnd (I .i64 hi) cap = some hi := by
    have h0 : (0 : Int) ≤ (hi : Int) := by omega
    have h1 : (hi : Int) ≤ (cap : Int) := by omega
    simp [aBnd, k]
  have e2 : aBnd (I .i64 lo) hi = some lo := by
    have h1 : (lo : Int) ≤ (hi : Int) := by omega
    simp [aBnd, h]
  delta aBounds
  dsimp only
  rw [e]
  dsimp only
  rw [e2]

theorem aBounds_lo {len cap lo : Nat} (h : lo ≤ len) (k : len ≤ cap) : aBounds len cap (some (I .i64 lo)) none none = some (lo, len, cap) := by
  have e2 : aBnd (I .i64 lo) len = some lo := by
    have h1 : (lo : Int) ≤ (len : Int) := by omega
    simp [aBnd, h]
  delta aBounds
  dsimp only
  rw [e2]

theorem Rd.piece' (h : Rd e s x n vs) {lo hi : Nat} {l r : Option T} (hb : ∀ len cap, n ≤ cap → len = n → aBounds len cap l r none = some (lo, hi, cap)) (h1 : lo ≤ hi) (h2 : hi ≤ n) :
    ∃ y, aPieceSl e (Z x) l r none = some (Z y) ∧ Rd e s y (hi - lo) ((vs.drop (lo * e)).take ((hi - lo) * e)) ∧ (own y = none ∨ own y = own x) := by
  have hlv := h.len
  have hmul : lo * e + (hi - lo) * e ≤ n * e := by
    rw [← Nat.add_mul]
    exact Nat.mul_le_mul_right _ (by omega)
  have hl2 : ((vs.drop (lo * e)).take ((hi - lo) * e)).length = (hi - lo) * e := by rw [List.length_take, List.length_drop]; omega
  have hcap := h.cap
  rcases h.rd with ⟨rfl, rfl | ⟨c, g, rfl⟩ | ⟨c, o, cap, rfl⟩⟩ | ⟨c, o, cap, w, rows, rfl, a1, a2, a3⟩
  · obtain rfl : hi = 0 := by omega
    obtain rfl : lo = 0 := by omega
    refine ⟨.nils, ?_, ⟨hl2, .inl ⟨rfl, .inl rfl⟩, trivial⟩, .inl rfl⟩
    have := hb 0 0 (Nat.le_refl _) rfl
    simp only [aPieceSl, this]
  · obtain rfl : hi = 0 := by omega
    obtain rfl : lo = 0 := by omega
    have hg : g = e := hcap
    refine ⟨.emp c e, ?_, ⟨hl2, .inl ⟨rfl, .inr (.inl ⟨c, e, rfl⟩)⟩, rfl⟩, .inr rfl⟩
    have := hb 0 0 (Nat.le_refl _) rfl
    simp only [aPieceSl, this, if_pos hg]
  · obtain rfl : hi = 0 := by omega
    obtain rfl : lo = 0 := by omega
    cases cap with
    | known k =>
      refine ⟨.sl c (if k = 0 then o else o + 0 * e) 0 (.known (k - 0)), ?_, ⟨hl2, .inl ⟨rfl, .inr (.inr ⟨_, _, _, rfl⟩)⟩, Nat.zero_le _⟩, .inr rfl⟩
      have := hb 0 k (Nat.zero_le _) rfl
      simp only [aPieceSl, this]
    | grown g =>
      have hg : g = e := hcap
      refine ⟨.emp c e, ?_, ⟨hl2, .inl ⟨rfl, .inr (.inl ⟨c, e, rfl⟩)⟩, rfl⟩, .inr rfl⟩
      have := hb 0 0 (Nat.le_refl _) rfl
      simp only [aPieceSl, this, if_pos hg]
      rfl
  · have htk : ∀ o', o' = o + lo * e → (rows.drop o').take ((hi - lo) * e) = (vs.drop (lo * e)).take ((hi - lo) * e) := fun o' e' => by
      rw [e', ← a3, List.drop_take, List.take_take, List.drop_drop, Nat.min_eq_left (by omega)]
    cases cap with
    | known k =>
      have hk : n ≤ k := hcap
      have hbb := hb n k hk rfl
      by_cases hkl : k = lo
      · have hz : hi - lo = 0 := by omega
        refine ⟨.sl c o (hi - lo) (.known (k - lo)), ?_, ⟨hl2, .inl ⟨hz, .inr (.inr ⟨c, o, _, by rw [hz]⟩)⟩, by show hi - lo ≤ k - lo; omega⟩, .inr rfl⟩
        simp only [aPieceSl, hbb, if_pos hkl]
      · refine ⟨.sl c (o + lo * e) (hi - lo) (.known (k - lo)), ?_, ⟨hl2, .inr ⟨c, _, _, w, rows, rfl, a1, by omega, htk _ rfl⟩, by show hi - lo ≤ k - lo; omega⟩, .inr rfl⟩
        simp only [aPieceSl, hbb, if_neg hkl]
    | grown g =>
      have hg : g = e := hcap
      have hbb := hb n n (Nat.le_refl _) rfl
      by_cases hl : lo < n
      · refine ⟨.sl c (o + lo * e) (hi - lo) (.grown e), ?_, ⟨hl2, .inr ⟨c, _, _, w, rows, rfl, a1, by omega, htk _ rfl⟩, rfl⟩, .inr rfl⟩
        simp only [aPieceSl, hbb, if_pos hg, if_pos hl]
      · have hz : hi - lo = 0 := by omega
        refine ⟨.emp c e, ?_, ⟨hl2, .inl ⟨hz, .inr (.inl ⟨c, e, rfl⟩)⟩, rfl⟩, .inr rfl⟩
        simp only [aPieceSl, hbb, if_pos hg, if_neg hl]

theorem Rd.piece (h : Rd e s x n vs) {lo hi : Nat} (h1 : lo ≤ hi) (h2 : hi ≤ n) :
    ∃ y, aPieceSl e (Z x) (some (I .i64 lo)) (some (I .i64 hi)) none = some (Z y) ∧ Rd e s y (hi - lo) ((vs.drop (lo * e)).take ((hi - lo) * e)) ∧ (own y = none ∨ own y = own x) :=
  h.piece' (fun len cap hc hl => aBounds_lh h1 (by omega)) h1 h2
theorem Rd.upto (h : Rd e s x n vs) {hi : Nat} (h2 : hi ≤ n) :
    ∃ y, aPieceSl e (Z x) none (some (I .i64 hi)) none = some (Z y) ∧ Rd e s y hi (vs.take (hi * e)) ∧ (own y = none ∨ own y = own x) := by
  obtain ⟨y, a, b, c⟩ := h.piece' (lo := 0) (hi := hi) (l := none) (r := some (I .i64 hi)) (fun len cap hc hl => aBounds_hi (by omega)) (Nat.zero_le _) h2
  exact ⟨y, a, by simpa using b, c⟩
end

/-! ### Elements by what they stand for -/
section
variable {α : Type} {enc : α → List S} {e : Nat}

def cells (enc : α → List S) (l : List α) : List S := (l.map enc).flatten
@[simp] theorem cells_nil : cells enc [] = [] := rfl
@[simp] theorem cells_cons (a : α) (l : List α) : cells enc (a :: l) = enc a ++ cells enc l := by simp [cells]
end
end Go.Abs


/-
  Bytes in any store: numbers' bytes, sums, texts. No conditions but those named in each line.
-/
namespace Go.Abs
open Go Go.Abs.F
set_option linter.unusedVariables false

def U (bs : List UInt8) : List S := bs.map fun b => .int .u8 b.toNat

@[simp] theorem U_len (bs : List UInt8) : (U bs).length = bs.length := by simp [U]
theorem U_append (a b : List UInt8) : U (a ++ b) = U a ++ U b := by simp [U]
theorem U_get (bs : List UInt8) (j : Nat) : (U bs)[j]? = (bs[j]?).map fun b => S.int .u8 b.toNat := by simp [U]
abbrev RB (s : St) (x : S) (bs : List UInt8) : Prop := Rd 1 s x bs.length (U bs)
abbrev FB (s0 s : St) (x : S) (bs : List UInt8) : Prop := Fr 1 s0 s x bs.length (U bs)

theorem wrap8 (x : Nat) : IntKind.u8.wrap x = ((x % 256 : Nat) : Int) := by
  unfold IntKind.wrap
  simp [IntKind.signed, IntKind.bits]
theorem wrap64 (x : Nat) (h : x < 2 ^ 64) : IntKind.u64.wrap x = (x : Int) := wrap_u64_in _ (by omega) (by omega)
theorem More.step (n c : Nat) (hn : n < 4294967291) (hc : c < 256) (u : St) : (aBin .mul (I .u64 n) (I .u64 257) = some (I .u64 ((n * 257 : Nat)))) ∧ aBin .add (I .u64 ((n * 257 : Nat))) (I .u64 c) = some (I .u64 ((n * 257 + c : Nat))) ∧
    aBin .add (I .u64 ((n * 257 + c : Nat))) (I .u64 1) = some (I .u64 ((n * 257 + c + 1 : Nat))) ∧ aBin .rem (I .u64 ((n * 257 + c + 1 : Nat))) (I .u64 4294967291) = some (I .u64 (((n * 257 + c + 1) % 4294967291 : Nat))) := by
  refine ⟨?_, ?_, ?_, ?_⟩
  · rw [mul_int, show ((n : Int) * 257) = ((n * 257 : Nat) : Int) by omega, wrap64 _ (by omega)]
  · rw [add_int, show (((n * 257 : Nat) : Int) + c) = ((n * 257 + c : Nat) : Int) by omega, wrap64 _ (by omega)]
  · rw [add_int, show (((n * 257 + c : Nat) : Int) + 1) = ((n * 257 + c + 1 : Nat) : Int) by omega, wrap64 _ (by omega)]
  · have e : ((n * 257 + c + 1 : Nat) : Int).tmod 4294967291 = (((n * 257 + c + 1) % 4294967291 : Nat) : Int) := by
      rw [Int.tmod_eq_emod_of_nonneg (by omega)]
      omega
    have hP : (4294967291 : Int) ≠ 0 := by decide
    simp only [rem_int _ _ _ hP, e]

section
variable {s t : St} {x y : S} {bs cs : List UInt8}

theorem RB.atB (h : RB s x bs) {j : Nat} {n : Int} {c : UInt8} (hn : n = j) (hc : bs[j]? = some c) : ∃ p, aIndexSl 1 (Z x) (I .i64 n) = some p ∧ aLoad1 p s.get = some (I .u8 c.toNat) :=
  Rd.at1 h hn (by rw [U_get, hc]; rfl)

theorem toBytes_U : ∀ bs : List UInt8, toBytes (U bs) = some bs
  | [] => rfl
  | b :: r => by
    have ih := toBytes_U r
    show toBytes (.int .u8 b.toNat :: U r) = _
    simp [toBytes, ih]

theorem RB.str (h : RB s x bs) : aBytesStr (Z x) s.get = some (Z (.str bs)) := by
  have nil0 : bs.length = 0 → bs = [] := fun e => List.eq_nil_of_length_eq_zero e
  rcases h.rd with ⟨h0, rfl | ⟨c, g, rfl⟩ | ⟨c, o, cap, rfl⟩⟩ | ⟨c, o, cap, w, vs, rfl, h1, h2, h3⟩
  · rw [nil0 h0]; rfl
  · rw [nil0 h0]; rfl
  · rw [nil0 h0]; simp [aBytesStr]
  · by_cases hz : bs.length = 0
    · rw [nil0 hz]; simp [aBytesStr]
    · rw [Nat.mul_one] at h2 h3
      simp only [aBytesStr, if_neg hz, h1, if_pos h2, h3, toBytes_U]

theorem FB.app {s0 : St} (h : FB s0 s x bs) (hy : RB s y cs) (hl : bs.length + cs.length ≤ 1000000) :
    ∃ x' t, aAppend 1 1 (Z x) (Z y) s = some (Z x', t) ∧ FB s0 t x' (bs ++ cs) ∧ s.size ≤ t.size ∧ ∀ b, b < s.size → own x ≠ some b → t.get b = s.get b := by
  obtain ⟨x', t, e, f, g, k⟩ := h.append (by_ := 1) (by omega) hy.src hy.len (by omega)
  exact ⟨x', t, e, by unfold FB; rw [U_append, List.length_append]; exact f, g, k⟩

theorem FB.lit {s0 : St} (h : FB s0 s x bs) (hl : bs.length + cs.length ≤ 1000000) :
    ∃ x' t, aAppend 1 1 (Z x) (Z (.sl s.size 0 cs.length (.known cs.length))) (s.push (.cells true (U cs))) = some (Z x', t) ∧ FB s0 t x' (bs ++ cs) ∧ s.size ≤ t.size ∧ ∀ b, b < s.size → own x ≠ some b → t.get b = s.get b := by
  have l := Fr.lit 1 h.gr.1 (n := cs.length) (vs := U cs) (by simp)
  obtain ⟨x', t, e, f, hz, k⟩ := FB.app (Fr.gr' h l.gr) (cs := cs) l.rd hl
  exact ⟨x', t, e, f, Nat.le_trans l.gr.2.1 hz, fun b hb hb1 => by rw [k b (Nat.lt_of_lt_of_le hb l.gr.2.1) hb1]; exact l.gr.2.2 b hb⟩
end

theorem at_str {bs : List UInt8} {j : Nat} {n : Int} {c : UInt8} (hn : n = j) (hc : bs[j]? = some c) : aAtStr (Z (.str bs)) (I .i64 n) = some (I .u8 c.toNat) := by
  subst hn
  have hj := (List.getElem?_eq_some_iff.1 hc).1
  have e : aIdx (I .i64 (j : Int)) bs.length = some j := by
    simp [aIdx, hj]
  show (match aIdx (I .i64 (j : Int)) bs.length with
    | some j => match bs[j]? with
      | some b => some (I .u8 b.toNat)
      | none => none
    | none => none) = _
  rw [e]
  dsimp only
  rw [hc]

theorem str_add (a b : List UInt8) (h : a.length + b.length ≤ 100000) : aBin .add (Z (.str a)) (Z (.str b)) = some (Z (.str (a ++ b))) := by
  have : ¬ ((a.length + b.length : Nat) : Int) > IntKind.i64.max := by
    show ¬ _ > (9223372036854775807 : Int)
    omega
  simp only [aBin, aStr, if_neg this]

end Go.Abs


/-
  What a statement's arguments give: slices of numbers, of bytes, of rows, as they read in a store. No conditions but those named in each line.
-/
namespace Go.Abs.F
open Go Go.Abs
set_option linter.unusedVariables false
section
variable {s : St} {a : T} {c e : Nat} {rows : List (List S)}

end

theorem open_agg {H : Type} {enc : TypeId × Value → H} {P : Program} {w : World} {base : Nat} {spare : Nat → Bool} {held : Bool} {r : Reach} {b0 : Nat} {t : TypeId} {fs : Array Field} {ks : List AK} {n : Nat} {v : Value} {d : DataW H} {ps : List MemPlace} (ht : P.underlying t = some (.struct fs)) (hk : flatK P n t = some ks)
    (hval : Value.okWide P w r b0 t v) (hd : DataW.Trod enc P w base spare held t v d ps) : ∃ (xs : List S) (cs : List Value), v = .agg cs.toArray ∧ All2 KS ks xs ∧ ∀ ι, All2 (SRel ι) xs cs := by
  unfold Value.okWide at hval
  rw [ht] at hval
  obtain ⟨cs, rfl, _⟩ := hval
  obtain ⟨m, hm⟩ := hd
  obtain ⟨xs, h1, h2⟩ := flat_trod n m t _ _ ks hm hk
  exact ⟨xs, cs.toList, rfl, h1, h2⟩
end Go.Abs.F


/-
  Texts: places of a byte, pieces, joining; calls of the library that tell them. No conditions but those named in each line.
-/
namespace Go.Abs
open Go Go.Abs.F
set_option linter.unusedVariables false

abbrev Bs := List UInt8

def ixB (c : UInt8) : Bs → Nat → Int
  | [], _ => -1
  | b :: r, k => match Nat.beq b.toNat c.toNat with
    | true => (k : Int)
    | false => ixB c r (k + 1)

def cntB (c : UInt8) : Bs → Nat
  | [] => 0
  | b :: r => match Nat.beq b.toNat c.toNat with
    | true => cntB c r + 1
    | false => cntB c r

def consHd (b : UInt8) : List Bs → List Bs
  | [] => [[b]]
  | h :: t => (b :: h) :: t

def splitB (c : UInt8) : Bs → List Bs
  | [] => [[]]
  | b :: r => match Nat.beq b.toNat c.toNat with
    | true => [] :: splitB c r
    | false => consHd b (splitB c r)

def joinB (sep : Bs) : List Bs → Bs
  | [] => []
  | [x] => x
  | x :: y :: r => x ++ sep ++ joinB sep (y :: r)

theorem ixB_cons (c b : UInt8) (r : Bs) (k : Nat) : ixB c (b :: r) k = match Nat.beq b.toNat c.toNat with
    | true => (k : Int)
    | false => ixB c r (k + 1) := rfl
theorem cntB_cons (c b : UInt8) (r : Bs) : cntB c (b :: r) = match Nat.beq b.toNat c.toNat with
    | true => cntB c r + 1
    | false => cntB c r := rfl
theorem splitB_cons (c b : UInt8) (r : Bs) : splitB c (b :: r) = match Nat.beq b.toNat c.toNat with
    | true => [] :: splitB c r
    | false => consHd b (splitB c r) := rfl

theorem beq_byte {b c : UInt8} : Nat.beq b.toNat c.toNat = true ↔ b = c := by
  constructor
  · intro h; exact UInt8.toNat.inj (Nat.eq_of_beq_eq_true h)
  · rintro rfl; exact Nat.beq_refl _
theorem beq_byte_ne {b c : UInt8} : Nat.beq b.toNat c.toNat = false ↔ b ≠ c := by
  constructor
  · intro h e; rw [beq_byte.2 e] at h; cases h
  · intro h; cases hb : Nat.beq b.toNat c.toNat with
    | true => exact absurd (beq_byte.1 hb) h
    | false => rfl

theorem ixB_ge (c : UInt8) : ∀ (l : Bs) (k : Nat), ixB c l k = -1 ∨ (k : Int) ≤ ixB c l k
  | [], _ => .inl rfl
  | b :: r, k => by
    unfold ixB
    cases Nat.beq b.toNat c.toNat with
    | true => exact .inr (Int.le_refl _)
    | false => rcases ixB_ge c r (k + 1) with h | h
               · exact .inl h
               · exact .inr (by show (k : Int) ≤ ixB c r (k + 1); omega)

theorem ixB_shift (c : UInt8) : ∀ (l : Bs) (k : Nat), ixB c l k = if ixB c l 0 = -1 then -1 else ixB c l 0 + k
  | [], k => rfl
  | b :: r, k => by
    unfold ixB
    cases hb : Nat.beq b.toNat c.toNat with
    | true => simp
    | false =>
      dsimp only
      rw [ixB_shift c r (k + 1), ixB_shift c r (0 + 1)]
      split
      · simp
      · rename_i h
        have := (ixB_ge c r 0).resolve_left h
        rw [if_neg (by omega)]
        omega

theorem ixB_lib (c : UInt8) : ∀ l : Bs, Lib.indexByte l c = ixB c l 0
  | [] => rfl
  | b :: r => by
    unfold Lib.indexByte ixB
    rw [ixB_lib c r]
    by_cases h : b = c
    · subst h; simp
    · have hb := beq_byte_ne.2 h
      have hb2 : (b == c) = false := by simpa using h
      rw [hb2, hb]
      dsimp only
      rw [ixB_shift c r (0 + 1)]
      by_cases h1 : ixB c r 0 = -1
      · simp [h1]
      · have : (ixB c r 0 == -1) = false := by simpa using h1
        simp [this, h1]

theorem cntB_lib (c : UInt8) : ∀ l : Bs, Lib.countByte l c = cntB c l
  | [] => rfl
  | b :: r => by
    have ih := cntB_lib c r
    unfold Lib.countByte at ih ⊢
    unfold cntB
    by_cases h : b = c
    · subst h; rw [beq_byte.2 rfl, List.count_cons_self, ih]
    · rw [beq_byte_ne.2 h, List.count_cons_of_ne (by simpa using h), ih]

theorem cntB_le (c : UInt8) : ∀ l : Bs, cntB c l ≤ l.length
  | [] => Nat.le_refl _
  | b :: r => by
    have := cntB_le c r
    unfold cntB
    cases Nat.beq b.toNat c.toNat <;> simp <;> omega

theorem splitB_len (c : UInt8) : ∀ l : Bs, (splitB c l).length = cntB c l + 1
  | [] => rfl
  | b :: r => by
    have ih := splitB_len c r
    unfold splitB cntB
    cases Nat.beq b.toNat c.toNat with
    | true => simp [ih]
    | false =>
      dsimp only
      cases hs : splitB c r with
      | nil => rw [hs] at ih; simp at ih
      | cons h t => rw [hs] at ih; simpa [consHd] using ih

theorem split_first (c : UInt8) : ∀ l : Bs, (ixB c l 0 = -1 ∧ cntB c l = 0 ∧ splitB c l = [l]) ∨
    ∃ m, m < l.length ∧ ixB c l 0 = m ∧ splitB c l = l.take m :: splitB c (l.drop (m + 1)) ∧ cntB c l = cntB c (l.drop (m + 1)) + 1
  | [] => .inl ⟨rfl, rfl, rfl⟩
  | b :: r => by
    rw [ixB_cons, cntB_cons, splitB_cons]
    cases hb : Nat.beq b.toNat c.toNat with
    | true => exact .inr ⟨0, by simp, rfl, by simp, by simp⟩
    | false =>
      dsimp only
      rcases split_first c r with ⟨h1, h2, h3⟩ | ⟨m, h0, h1, h2, h3⟩
      · exact .inl ⟨by rw [ixB_shift c r (0 + 1), h1]; rfl, h2, by rw [h3]; rfl⟩
      · refine .inr ⟨m + 1, by simp; omega, ?_, ?_, h3⟩
        · rw [ixB_shift c r (0 + 1), h1, if_neg (by omega)]
          omega
        · rw [h2]; rfl

theorem cut_first (c : UInt8) (l : Bs) : (ixB c l 0 = -1 ∧ l.takeWhile (fun b => !Nat.beq b.toNat c.toNat) = l) ∨ ∃ m, m < l.length ∧ ixB c l 0 = m ∧ l.takeWhile (fun b => !Nat.beq b.toNat c.toNat) = l.take m := by
  induction l with
  | nil => exact .inl ⟨rfl, rfl⟩
  | cons b r ih =>
    unfold ixB
    cases hb : Nat.beq b.toNat c.toNat with
    | true => exact .inr ⟨0, by simp, rfl, by simp [hb]⟩
    | false =>
      dsimp only
      rcases ih with ⟨h1, h2⟩ | ⟨m, h0, h1, h2⟩
      · exact .inl ⟨by rw [ixB_shift c r (0 + 1), h1]; rfl, by rw [List.takeWhile_cons]; simp [hb, h2]⟩
      · refine .inr ⟨m + 1, by simp; omega, ?_, by rw [List.takeWhile_cons]; simp [hb, h2]⟩
        rw [ixB_shift c r (0 + 1), h1, if_neg (by omega)]
        omega

theorem splitB_sum (c : UInt8) : ∀ l : Bs, ((splitB c l).map List.length).sum ≤ l.length
  | [] => by simp [splitB]
  | b :: r => by
    have ih := splitB_sum c r
    unfold splitB
    cases Nat.beq b.toNat c.toNat with
    | true => simp; omega
    | false =>
      dsimp only
      cases hs : splitB c r with
      | nil => simp [consHd]
      | cons h t => rw [hs] at ih; simp [consHd] at ih ⊢; omega

theorem len_le_sum : ∀ (L : List Bs) (x : Bs), x ∈ L → x.length ≤ (L.map List.length).sum
  | [], x, h => by cases h
  | y :: r, x, h => by
    rcases List.mem_cons.1 h with rfl | h
    · simp
    · have := len_le_sum r x h
      simp
      omega

theorem splitB_mem (c : UInt8) (l x : Bs) (h : x ∈ splitB c l) : x.length ≤ l.length := by
  have h1 := splitB_sum c l
  have h2 : x.length ≤ ((splitB c l).map List.length).sum := len_le_sum _ _ h
  omega

theorem joinB_lib (sep : Bs) : ∀ l : List Bs, Lib.join l sep = joinB sep l
  | [] => rfl
  | [x] => by rw [Lib.join_one]; rfl
  | x :: y :: r => by
    rw [show joinB sep (x :: y :: r) = x ++ sep ++ joinB sep (y :: r) from rfl, ← joinB_lib sep (y :: r)]
    simp [Lib.join, List.intercalate, List.intersperse]

def totalLen : List Bs → Nat
  | [] => 0
  | x :: r => x.length + totalLen r

theorem joinB_len (sep : Bs) : ∀ l : List Bs, (joinB sep l).length ≤ totalLen l + l.length * sep.length
  | [] => by simp [joinB, totalLen]
  | [x] => by simp [joinB, totalLen]
  | x :: y :: r => by
    have := joinB_len sep (y :: r)
    simp only [joinB, totalLen, List.length_append, List.length_cons] at this ⊢
    rw [Nat.add_mul]
    omega

theorem totalLen_sum : ∀ l : List Bs, totalLen l = (l.map List.length).sum
  | [] => rfl
  | x :: r => by simp [totalLen, totalLen_sum r]

def strS (l : List Bs) : List S := l.map S.str
@[simp] theorem strS_len (l : List Bs) : (strS l).length = l.length := by simp [strS]
theorem strS_append (a b : List Bs) : strS (a ++ b) = strS a ++ strS b := by simp [strS]
theorem strS_take (l : List Bs) (n : Nat) : (strS l).take n = strS (l.take n) := by simp [strS, List.map_take]
theorem strS_get (l : List Bs) (j : Nat) : (strS l)[j]? = (l[j]?).map S.str := by simp [strS]

abbrev RT (s : St) (x : S) (l : List Bs) : Prop := Rd 1 s x l.length (strS l)
abbrev FT (s0 s : St) (x : S) (l : List Bs) : Prop := Fr 1 s0 s x l.length (strS l)

theorem RT.atT {s : St} {x : S} {l : List Bs} (h : RT s x l) {j : Nat} {n : Int} {c : Bs} (hn : n = j) (hc : l[j]? = some c) : ∃ p, aIndexSl 1 (Z x) (I .i64 n) = some p ∧ aLoad1 p s.get = some (Z (.str c)) :=
  Rd.at1 h hn (by rw [strS_get, hc]; rfl)

theorem FT.lit {s0 s : St} {x : S} {l : List Bs} {c : Bs} (h : FT s0 s x l) (hl : l.length ≤ 1000000) :
    ∃ x' t, (∃ s', aNew s (nSlice 1 (aFill [.str []] [(0, 1, Z (.str c))])) = some (Z (.sl s.size 0 1 (.known 1)), s') ∧ aAppend 1 16 (Z x) (Z (.sl s.size 0 1 (.known 1))) s' = some (Z x', t)) ∧ FT s0 t x' (l ++ [c]) ∧ s.size ≤ t.size ∧ ∀ b, b < s.size → own x ≠ some b → t.get b = s.get b := by
  have L := Fr.lit 1 h.gr.1 (n := 1) (vs := strS [c]) (by simp)
  obtain ⟨x', t, e, f, hz, k⟩ := (h.gr' L.gr).append (by_ := 16) (by omega) L.rd.src (by simp) (by omega)
  refine ⟨x', t, ⟨s.push (.cells true (strS [c])), by simp [aNew, nSlice, aFill, V.cells, setRange, strS], e⟩, ?_, Nat.le_trans L.gr.2.1 hz, fun b hb hb1 => by rw [k b (Nat.lt_of_lt_of_le hb L.gr.2.1) hb1]; exact L.gr.2.2 b hb⟩
  unfold FT
  rw [strS_append, List.length_append]
  exact f

@[simp] theorem eql_str (a b : Bs) : aBin .eql (Z (.str a)) (Z (.str b)) = some (B (decide (a = b))) := by simp [aBin, aStr]
@[simp] theorem neq_str (a b : Bs) : aBin .neq (Z (.str a)) (Z (.str b)) = some (B (!decide (a = b))) := by simp [aBin, aStr]
@[simp] theorem aLenStr_str (a : Bs) : aLenStr (Z (.str a)) = some (I .i64 a.length) := nz rfl

/-! ### Pieces of texts -/

theorem aPieceStr_hi {l : Bs} {m : Nat} {n : Int} (hn : n = m) (h : m ≤ l.length) : aPieceStr (Z (.str l)) none (some (I .i64 n)) none = some (Z (.str (l.take m))) := by
  subst hn
  simp only [aPieceStr]
  rw [aBounds_hi h]
  simp
theorem aPieceStr_lo {l : Bs} {m : Nat} {n : Int} (hn : n = m) (h : m ≤ l.length) : aPieceStr (Z (.str l)) (some (I .i64 n)) none none = some (Z (.str (l.drop m))) := by
  subst hn
  simp only [aPieceStr]
  rw [aBounds_lo h (Nat.le_refl _)]
  have : l.drop m = (l.drop m).take (l.length - m) := (List.take_of_length_le (by simp)).symm
  simp
end Go.Abs

namespace Go.Abs.F
open Go Go.Abs

def ixP (fs : List Nat) (g : Nat) : CallF := fun f ts σ => match fs.contains f with
  | true => match ts with
    | [.v (.s (.str l)), .v (.s (.str [c]))] => some (I .i64 (ixB c l 0), σ)
    | _ => none
  | false => match Nat.beq f g with
    | true => match ts with
      | [.v (.s (.str l)), .v (.s (.str [c]))] => some (I .i64 (cntB c l : Nat), σ)
      | _ => none
    | false => none

theorem ixP_sound {P : Program} {fs : List Nat} {g : Nat}
    (hf : ∀ f ∈ fs, ∀ (s : ByteArray) (c : UInt8) (w : World), Calls P f #[.string s, .string ⟨#[c]⟩] w fun e w' => e = .returned (.int .i64 (Lib.indexByte s.data.toList c)) ∧ w' = w)
    (hg : ∀ (s : ByteArray) (c : UInt8) (w : World), Calls P g #[.string s, .string ⟨#[c]⟩] w fun e w' => e = .returned (.int .i64 (Lib.countByte s.data.toList c)) ∧ w' = w) : CallSound P (ixP fs g) := by
  refine sound_of_plain fun f ts σ t τ h => ?_
  have key : ∀ {ι : Inj} {vs : List Value} {l : Bs} {c : UInt8}, All2 (TRel ι) [.v (.s (.str l)), .v (.s (.str [c]))] vs → ∃ s : ByteArray, s.data.toList = l ∧ vs = [.string s, .string ⟨#[c]⟩] := by
    intro ι vs l c hA
    cases hA with
    | cons a b => cases b with
      | cons a' b' =>
        cases b'
        obtain ⟨s, rfl, hs⟩ := a
        obtain ⟨s', rfl, hs'⟩ := a'
        refine ⟨s, hs, ?_⟩
        obtain ⟨⟨q⟩⟩ := s'
        simp at hs'
        subst hs'
        rfl
  unfold ixP at h
  split at h
  · rename_i hc
    split at h
    · rename_i l c
      cases h
      refine ⟨rfl, fun ι w vs hR hA => ?_⟩
      obtain ⟨s, rfl, rfl⟩ := key hA
      refine (hf f (by simpa using hc) s c w).mono ?_
      rintro e u ⟨rfl, rfl⟩
      exact ⟨_, rfl, Still.refl _, by rw [ixB_lib]; rfl⟩
    · cases h
  · split at h
    · rename_i hb
      split at h
      · rename_i l c
        cases h
        have := Nat.eq_of_beq_eq_true hb
        subst this
        refine ⟨rfl, fun ι w vs hR hA => ?_⟩
        obtain ⟨s, rfl, rfl⟩ := key hA
        refine (hg s c w).mono ?_
        rintro e u ⟨rfl, rfl⟩
        exact ⟨_, rfl, Still.refl _, by rw [cntB_lib]; rfl⟩
      · cases h
    · cases h

theorem ixP_at {fs : List Nat} {g f : Nat} {l : Bs} {c : UInt8} {σ : St} (h : fs.contains f = true) : ixP fs g f [Z (.str l), Z (.str [c])] σ = some (I .i64 (ixB c l 0), σ) := by
  simp only [ixP, h]
theorem ixP_cnt {fs : List Nat} {g : Nat} {l : Bs} {c : UInt8} {σ : St} (h : fs.contains g = false) : ixP fs g g [Z (.str l), Z (.str [c])] σ = some (I .i64 (cntB c l : Nat), σ) := by
  simp only [ixP, h, Nat.beq_refl]

def strsOf : List S → Option (List Bs)
  | [] => some []
  | .str l :: r => match strsOf r with
    | some k => some (l :: k)
    | none => none
  | _ :: _ => none

theorem strsOf_strS : ∀ l : List Bs, strsOf (strS l) = some l
  | [] => rfl
  | x :: r => by
    have ih := strsOf_strS r
    show strsOf (.str x :: strS r) = _
    simp only [strsOf, ih]
theorem strsOf_eq : ∀ {vs : List S} {l : List Bs}, strsOf vs = some l → vs = strS l
  | [], l, h => by cases h; rfl
  | v :: r, l, h => by
    cases v with
    | str x =>
      unfold strsOf at h
      split at h
      · rename_i k hk
        cases h
        rw [strsOf_eq hk]
        rfl
      · cases h
    | _ => simp [strsOf] at h

theorem list_choose {α : Type} {P : Nat → α → Prop} : ∀ n : Nat, (∀ j, j < n → ∃ x, P j x) → ∃ xs : List α, xs.length = n ∧ ∀ (j : Nat) x, xs[j]? = some x → P j x
  | 0, _ => ⟨[], rfl, fun j x h => by simp at h⟩
  | n + 1, h => by
    obtain ⟨xs, h1, h2⟩ := list_choose n fun j hj => h j (by omega)
    obtain ⟨y, hy⟩ := h n (by omega)
    refine ⟨xs ++ [y], by simp [h1], fun j x hj => ?_⟩
    by_cases hjn : j < n
    · exact h2 j x (by rwa [List.getElem?_append_left (by omega)] at hj)
    · rw [List.getElem?_append_right (by omega)] at hj
      have : j = n := by
        have := (List.getElem?_eq_some_iff.1 hj).1
        simp at this
        omega
      subst this
      rw [h1, Nat.sub_self] at hj
      simp at hj
      subst hj
      exact hy

theorem all2_two {α β : Type} {R : α → β → Prop} {a b : α} {us : List β} (h : All2 R [a, b] us) : ∃ x y, us = [x, y] ∧ R a x ∧ R b y := by
  cases h with
  | cons p q => cases q with
    | cons p' q' => cases q'; exact ⟨_, _, rfl, p, p'⟩

def joinP (g : Nat) : CallF := fun f ts σ => match Nat.beq f g with
  | false => none
  | true => match ts with
    | [x, .v (.s (.str sep))] => match aSrc 1 x σ.get with
      | some (n, vs) => match strsOf vs with
        | some l => match x with
          | .v (.s (.str _)) => none
          | _ => match Nat.ble (totalLen l + l.length * sep.length) 1000000 && Nat.ble l.length 1000000 with
            | true => some (Z (.str (joinB sep l)), σ)
            | false => none
        | none => none
      | none => none
    | _ => none

theorem joinP_sound {P : Program} {g : Nat}
    (h0 : ∀ (a : Option Addr) (c : Nat) (sep : ByteArray) (w : World), Calls P g #[.slice a 0 c, .string sep] w fun e w' => e = .returned (.string ⟨#[]⟩) ∧ w' = w)
    (h1 : ∀ (bk o c : Nat) (xs : List ByteArray) (sep : ByteArray) (w : World), (∀ (j : Nat) x, xs[j]? = some x → w.cell? ⟨bk, o + j, none⟩ = some (.string x)) → bk < w.heap.size → xs.length ≤ 140737488355328 → xs.length ≤ c →
      (Lib.join (xs.map (·.data.toList)) sep.data.toList).length ≤ 140737488355328 →
      Calls P g #[.slice (some ⟨bk, o, none⟩) xs.length c, .string sep] w fun e w' => e = .returned (.string ⟨(Lib.join (xs.map (·.data.toList)) sep.data.toList).toArray⟩) ∧ Go.RowKit.Below w.heap.size w w') : CallSound P (joinP g) := by
  refine sound_of_plain fun f ts σ t τ h => ?_
  unfold joinP at h
  split at h
  · cases h
  · rename_i hb
    have := Nat.eq_of_beq_eq_true hb
    subst this
    split at h
    · rename_i x sep
      split at h
      · rename_i n vs hsrc
        split at h
        · rename_i l hl
          have hvs := strsOf_eq hl
          subst hvs
          split at h
          · cases h
          · rename_i hnstr
            split at h
            · rename_i hle
              cases h
              rw [Bool.and_eq_true] at hle
              have hle1 := Nat.le_of_ble_eq_true hle.1
              have hle2 := Nat.le_of_ble_eq_true hle.2
              refine ⟨rfl, fun ι w us hR hA => ?_⟩
              obtain ⟨u0, u1, rfl, a, a'⟩ := all2_two hA
              · · obtain ⟨sp, rfl, rfl⟩ := a'
                  have none0 : ∀ (ad : Option Addr) (c : Nat), l = [] → Calls P f #[.slice ad 0 c, .string sp] w fun e u => ∃ v, e = .returned v ∧ Still w u ∧ TRel ι (Z (.str (joinB sp.data.toList l))) v := by
                    intro ad c e
                    subst e
                    refine (h0 ad c sp w).mono ?_
                    rintro e u ⟨rfl, rfl⟩
                    exact ⟨_, rfl, Still.refl _, ⟨_, rfl, rfl⟩⟩
                  cases x with
                  | any => cases hsrc
                  | tup _ => cases hsrc
                  | v y => cases y with
                    | agg _ => cases hsrc
                    | s y => cases y with
                      | nils =>
                        simp only [aSrc, Option.some.injEq, Prod.mk.injEq] at hsrc
                        have hl0 : l = [] := by
                          cases l with
                          | nil => rfl
                          | cons _ _ => simp [strS] at hsrc
                        have ha : u0 = Value.slice none 0 0 := a
                        subst ha
                        exact none0 _ _ hl0
                      | emp i e =>
                        simp only [aSrc, Option.some.injEq, Prod.mk.injEq] at hsrc
                        have hl0 : l = [] := by
                          cases l with
                          | nil => rfl
                          | cons _ _ => simp [strS] at hsrc
                        obtain ⟨L, o, c, _, rfl, _⟩ := a
                        exact none0 _ _ hl0
                      | str q => exact absurd rfl (hnstr q)
                      | sl i o m cap =>
                        have hv : ∃ (L : Loc) (c : Nat), ι i = some L ∧ m ≤ c ∧ All2 (TRel ι) [.v (.s (.sl i o m cap))] [Value.slice (some ⟨L.b, L.base + o, none⟩) m c] ∧ ∃ v, v = Value.slice (some ⟨L.b, L.base + o, none⟩) m c ∧ v = u0 := by
                          cases cap with
                          | known c => obtain ⟨L, e1, e2, e3⟩ := a; exact ⟨L, c, e1, e3, .cons ⟨L, e1, rfl, e3⟩ .nil, _, rfl, e2.symm⟩
                          | grown q => obtain ⟨L, c, e1, e2, e3, e4⟩ := a; exact ⟨L, c, e1, e3, .cons ⟨L, c, e1, rfl, e3, e4⟩ .nil, _, rfl, e2.symm⟩
                        obtain ⟨L, c, hL, hmc, _, v, rfl, hvv⟩ := hv
                        subst hvv
                        by_cases hz : m = 0
                        · subst hz
                          simp only [aSrc, if_true, Option.some.injEq, Prod.mk.injEq] at hsrc
                          have hl0 : l = [] := by
                            cases l with
                            | nil => rfl
                            | cons _ _ => simp [strS] at hsrc
                          exact none0 _ _ hl0
                        · simp only [aSrc, if_neg hz] at hsrc
                          split at hsrc
                          · rename_i own rows hrows
                            split at hsrc
                            · rename_i hbnd
                              simp only [Option.some.injEq, Prod.mk.injEq] at hsrc
                              obtain ⟨rfl, hst⟩ := hsrc
                              obtain ⟨cs, e, fz, k1, k2, k3, k4, k5⟩ := hR.blk i L _ hL hrows
                              have hml : m = l.length := by
                                have := congrArg List.length hst
                                rw [List.length_take, List.length_drop, strS_len] at this
                                omega
                              have hx : ∃ xs : List ByteArray, xs.map (·.data.toList) = l ∧ ∀ (j : Nat) x, xs[j]? = some x → w.cell? ⟨L.b, L.base + o + j, none⟩ = some (.string x) := by
                                have hone : ∀ j, j < l.length → ∃ x : ByteArray, x.data.toList = l.getD j [] ∧ w.cell? ⟨L.b, L.base + o + j, none⟩ = some (.string x) := by
                                  intro j hj
                                  have h2 : rows[o + j]? = some (.str (l.getD j [])) := by
                                    have : ((rows.drop o).take (m * 1))[j]? = (strS l)[j]? := by rw [hst]
                                    rw [List.getElem?_take_of_lt (by omega), List.getElem?_drop, strS_get, List.getElem?_eq_getElem hj] at this
                                    rw [this]
                                    simp [List.getD, hj]
                                  obtain ⟨v, hv, x, rfl, hx⟩ := k4 _ _ h2
                                  refine ⟨x, hx, ?_⟩
                                  unfold World.cell?
                                  simp only [k1]
                                  rw [Nat.add_assoc]
                                  simpa using hv
                                obtain ⟨xs, x1, x2⟩ := list_choose l.length hone
                                refine ⟨xs, ?_, fun j x hj => (x2 j x hj).2⟩
                                apply List.ext_getElem?
                                intro j
                                by_cases hj : j < l.length
                                · have h3 : xs[j]? = some xs[j] := List.getElem?_eq_getElem (by omega)
                                  rw [List.getElem?_map, h3, List.getElem?_eq_getElem hj, Option.map_some, (x2 j _ h3).1]
                                  simp [List.getD, hj]
                                · rw [List.getElem?_eq_none (by simp; omega), List.getElem?_eq_none (by omega)]
                              obtain ⟨xs, hxs, hcell⟩ := hx
                              have hxl : xs.length = m := by
                                have := congrArg List.length hxs
                                simpa [← hml] using this
                              have hlt : L.b < w.heap.size := (Array.getElem?_eq_some_iff.1 k1).1
                              have hjl := joinB_len sp.data.toList l
                              have hb2 : (Lib.join (xs.map (·.data.toList)) sp.data.toList).length ≤ 140737488355328 := by
                                rw [hxs, joinB_lib]
                                omega
                              have hcall := h1 L.b (L.base + o) c xs sp w hcell hlt (by omega) (by omega) hb2
                              rw [hxl] at hcall
                              refine hcall.mono ?_
                              rintro e u ⟨rfl, hbel⟩
                              refine ⟨_, rfl, Still.of hbel, ⟨_, rfl, ?_⟩⟩
                              rw [hxs, joinB_lib]
                            · cases hsrc
                          · cases hsrc
                      | _ => cases hsrc
            · cases h
        · cases h
      · cases h
    · cases h

theorem joinP_at {g : Nat} {x : S} {l : List Bs} {sep : Bs} {σ : St} (h : RT σ x l) (hb : totalLen l + l.length * sep.length ≤ 1000000) (hl : l.length ≤ 1000000) : joinP g g [Z x, Z (.str sep)] σ = some (Z (.str (joinB sep l)), σ) := by
  have hns : ∀ q, (Z x : T) ≠ .v (.s (.str q)) := by
    intro q e
    rcases h.rd with ⟨_, rfl | ⟨c, g, rfl⟩ | ⟨c, o, cap, rfl⟩⟩ | ⟨c, o, cap, w, vs, rfl, _⟩ <;> cases e
  have e1 := Nat.ble_eq_true_of_le hb
  have e2 := Nat.ble_eq_true_of_le hl
  unfold joinP
  rw [Nat.beq_refl]
  dsimp only
  rw [h.src]
  dsimp only
  rw [strsOf_strS]
  dsimp only
  rw [e1, e2]
  rcases h.rd with ⟨_, rfl | ⟨c, g, rfl⟩ | ⟨c, o, cap, rfl⟩⟩ | ⟨c, o, cap, w, vs, rfl, _⟩ <;> rfl
end Go.Abs.F


/-
  strings.Builder in an abstract store: what WriteString and String do to the builder's block and to the block of its bytes. Nothing here speaks of any program; L and X say that the program bears the library's functions.
-/
set_option linter.unusedVariables false
namespace Go.Abs
open Go Go.Shelf Go.RowKit Go.Proofs
variable {P : Program} {ρ ρ' : Ren}

theorem hidU {p : Prop} (h : p) : Hid p := h

def RowOne (w : World) (v : Value) : Prop := ∀ (g : Nat) (cur : Array Value) (q : TypeId) (fz : Nat × Nat), v.ownBlock = some g → w.heap[g]? = some (.cells cur q fz) → ∀ (j : Nat) (x : Value), cur[j]? = some x → oneCell x = true

theorem zcells_one (k : IntKind) (z : Int) (n j : Nat) (x : Value) (h : (Builtin.zeroCells (Value.int k z).cells n)[j]? = some x) : oneCell x = true := by
  simp only [Builtin.zeroCells, Array.getElem?_map, Option.map_eq_some_iff] at h
  obtain ⟨q, _, h2⟩ := h
  have h3 : (Value.int k z).cells = #[.int k z] := rfl
  rw [h3] at h2
  have h4 : q % (#[Value.int k z] : Array Value).size = 0 := by simp [Nat.mod_one]
  rw [h4] at h2
  rw [← h2]
  rfl

theorem grown_one {cs : List Value} (hc : ∀ x ∈ cs, oneCell x = true) (k : IntKind) (z : Int) (n : Nat) (j : Nat) (x : Value) (h : (cs.toArray ++ Builtin.zeroCells (Value.int k z).cells n)[j]? = some x) : oneCell x = true := by
  rcases Nat.lt_or_ge j cs.length with hj | hj
  · rw [Array.getElem?_append_left (by simpa using hj)] at h
    exact hc x (by simpa using List.mem_of_getElem? (by simpa using h))
  · rw [Array.getElem?_append_right (by simpa using hj)] at h
    exact zcells_one k z n _ x h

theorem strCells_one (s : ByteArray) : ∀ x ∈ Lib.strCells s, oneCell x = true := by
  intro x hx
  simp only [Lib.strCells, List.mem_map] at hx
  obtain ⟨b, _, rfl⟩ := hx
  rfl

def RowAt (w w' : World) (v v' : Value) : Prop := (v'.ownBlock = v.ownBlock ∨ ∀ g, v'.ownBlock = some g → w.heap.size ≤ g) ∧ RowOne w' v'

theorem append_str_at {w : World} (t u ty e : TypeId) (i : TypeInfo) (ht : P.underlying t = some (.slice e)) (hu : P.underlying u = some .string) (hi : P.info? e = some i) (hz : i.zero = some (.int .u8 0))
    (hsize : i.size = 1) (hby : i.bytes = 1) (v : Value) (n : Nat) (xs : List Value) (hown : w.ownsRow 0 e 1 v n xs) (h1c : RowOne w v) (s : ByteArray) (hb : n + s.size ≤ 140737488355328) :
    ∃ v' w', (Builtin.append_ #[t, u] ty #[v, .string s]).run P w = .ok v' w' ∧ w'.ownsRow 0 e 1 v' (n + s.size) (xs ++ Lib.strCells s) ∧ w.grownBy w' v.ownBlock ∧
      (v'.ownBlock = v.ownBlock ∨ ∀ g, v'.ownBlock = some g → w.heap.size ≤ g) ∧ RowOne w' v' := by
  have hmax : n + s.size ≤ maxLen := by unfold maxLen; omega
  obtain ⟨v', w', h1, h2, h3, _⟩ := Lib.run_append_own_string (P := P) w 0 t u ty e i ht hu hi hz hsize hby v n xs hown s hmax hb (Nat.zero_le _)
  refine ⟨v', w', h1, h2, h3, ?_⟩
  have fresh : ∀ (c : Array Value), (∀ (j : Nat) (x : Value), c[j]? = some x → oneCell x = true) → ∀ a n c', RowOne (w.drew.alloc (.cells c e)) (.slice (some ⟨w.heap.size, 0, a⟩) n c') := by
    intro c hc a n c' g cur q fz hg hcur
    simp only [Value.ownBlock, Option.some.injEq] at hg
    subst hg
    have h := heap_alloc_new w.drew (.cells c e)
    have h' : (w.drew.alloc (.cells c e)).heap[w.heap.size]? = some (.cells c e) := h
    rw [h'] at hcur
    cases hcur
    exact hc
  rcases hown.2 with ⟨hv, hn⟩ | ⟨g, cap, cur, hv, hbg, hg, hnc, hcm, hcs, htake⟩
  · subst hv; subst hn
    by_cases hs : s.size = 0
    · have hf := Lib.run_firstCells_string (P := P) w 1 s
      rw [hs] at hf
      have hr : (Builtin.append_ #[t, u] ty #[.slice none 0 0, .string s]).run P w = .ok (.slice none 0 0) w := by
        simp [Builtin.append_, run_underlying ht, run_underlying hu, sizeOf, typeInfo, hi, hsize, Builtin.lenOf, hs, hf]
      rw [h1] at hr
      cases hr
      exact ⟨.inl rfl, h1c⟩
    · have hr := run_append_nil_string (P := P) w t u ty e i (.int .u8 0) ht hu hi hz s (by omega) (by omega) (by rw [hby]; omega)
      rw [h1] at hr
      cases hr
      refine ⟨.inr fun k hk => ?_, fresh _ (fun j x hj => ?_) _ _ _⟩
      · simp only [Value.ownBlock, Option.some.injEq] at hk
        omega
      · have e1 : (s.data.map fun b => Value.int .u8 b.toNat) = (Lib.strCells s).toArray := by
          apply Array.ext'
          simp [Lib.strCells]
        rw [e1] at hj
        exact grown_one (strCells_one s) _ _ _ j x hj
  · subst hv
    have hxs : ∀ x ∈ xs, oneCell x = true := by
      intro x hx
      rw [← htake] at hx
      obtain ⟨j, hj⟩ := List.getElem?_of_mem (List.mem_of_mem_take hx)
      exact h1c g cur e (0, 0) rfl hg j x (by simpa using hj)
    by_cases hroom : n + s.size ≤ cap
    · have hr := Lib.run_append_room_string (P := P) w t u ty e i ht hu hi hsize g n cap cur hg s hroom (by omega)
      rw [h1] at hr
      cases hr
      refine ⟨.inl rfl, fun k cur' q fz hk hcur => ?_⟩
      simp only [Value.ownBlock, Option.some.injEq] at hk
      subst hk
      rw [setRow_heap w g cur _ e _ hg] at hcur
      cases hcur
      intro j x hj
      have hm : x ∈ cur.toList.take n ++ Lib.strCells s ++ cur.toList.drop (n + s.size) := List.mem_of_getElem? (by simpa using hj)
      rcases List.mem_append.1 hm with hm | hm
      · rcases List.mem_append.1 hm with hm | hm
        · obtain ⟨j', hj'⟩ := List.getElem?_of_mem (List.mem_of_mem_take hm)
          exact h1c g cur e (0, 0) rfl hg j' x (by simpa using hj')
        · exact strCells_one s x hm
      · obtain ⟨j', hj'⟩ := List.getElem?_of_mem (List.mem_of_mem_drop hm)
        exact h1c g cur e (0, 0) rfl hg j' x (by simpa using hj')
    · have holds : ∀ j u, xs[j]? = some u → w.cell? ((⟨g, 0, none⟩ : Addr).add j) = some u := hown.cells (g := g) rfl
      have hxl : xs.length = n := by simpa using hown.1
      have hr := Lib.run_append_grow_string (P := P) w t u ty e i (.int .u8 0) ht hu hi hz ⟨g, 0, none⟩ n cap xs (by rw [hsize]; simpa using hxl) holds s (by omega) (by omega) (by rw [hby]; exact growslice_fits (by omega) (by omega))
      rw [h1] at hr
      cases hr
      refine ⟨.inr fun k hk => ?_, fresh _ (fun j x hj => ?_) _ _ _⟩
      · simp only [Value.ownBlock, Option.some.injEq] at hk
        omega
      · have e1 : xs.toArray ++ (Lib.strCells s).toArray = (xs ++ Lib.strCells s).toArray := by simp
        rw [e1] at hj
        exact grown_one (fun x hx => by rcases List.mem_append.1 hx with h | h; exact hxs x h; exact strCells_one s x h) _ _ _ j x hj

theorem wp_append_str_at {w : World} {ops : Array Oper} {rest : List Oper} {o : Oper} {a : Act} {Q : Exit → Act → World → Prop} (hgd : o.guard = none) (sl x : Operand) (t u : TypeId)
    (ho : o.op = .call { callee := .builtin .append, args := #[sl, x], argTypes := #[t, u] }) (e : TypeId) (i : TypeInfo) (ht : P.underlying t = some (.slice e)) (hu : P.underlying u = some .string)
    (hi : P.info? e = some i) (hz : i.zero = some (.int .u8 0)) (hsize : i.size = 1) (hby : i.bytes = 1)
    (v : Value) (n : Nat) (xs : List Value) (hs : a.eval sl = v) (hown : w.ownsRow 0 e 1 v n xs) (h1c : RowOne w v) (s : ByteArray) (hx : a.eval x = .string s) (hb : n + s.size ≤ 140737488355328)
    (h : ∀ v' w', w'.ownsRow 0 e 1 v' (n + s.size) (xs ++ Lib.strCells s) → w.grownBy w' v.ownBlock → RowAt w w' v v' → wpList P ops Q rest (a.put o.dst v') w') :
    wpList P ops Q (o :: rest) a w := by
  refine wpList_plain hgd fun K hK => ?_
  obtain ⟨v', w', hr, h2, h3, h4⟩ := append_str_at t u o.type e i ht hu hi hz hsize hby v n xs hown h1c s hb
  unfold Oper.wp execOp
  simp only [ho, resolve, invoke, builtin, Sem.run_bind, Sem.run_pure, Result.andThen_ok, List.map_toArray, List.map_cons, List.map_nil, hs, hx, hr]
  exact hK _ _ (h v' w' h2 h3 h4)

theorem check_at (L : Lays.n240 P ρ) (X : Builder.X72 P ρ) (b : Nat) (p v : Value) (w : World) (hp : p = .pointer none ∨ p = .pointer (some ⟨b, 0, none⟩)) (hbk : w.heap[b]? = some (.cells #[p, v] (ρ.t 72) (0, 0))) :
    Calls P (ρ.f 240) #[.pointer (some ⟨b, 0, none⟩)] w fun e u => e = .returned (.tuple #[]) ∧ u.heap[b]? = some (.cells #[.pointer (some ⟨b, 0, none⟩), v] (ρ.t 72) (0, 0)) ∧ u.os = w.os ∧ u.output = w.output ∧
      u.heap.size = w.heap.size ∧ ∀ k, k ≠ b → u.heap[k]? = w.heap[k]? := by
  rcases hp with rfl | rfl
  · refine (Any.Builder_copyCheck_fresh L X b w (by rw [Lib.cell_of_heap hbk]; rfl) (by simp [World.shape?, hbk]) (Lib.frozen_of_heap hbk 0)).mono ?_
    rintro e u ⟨rfl, rfl⟩
    refine ⟨rfl, ?_, rfl, rfl, by simp [World.setCell], fun k hk => heap_setCell_other w _ k _ hk⟩
    rw [heap_setCell_same w b 0 _ _ _ hbk]
    rfl
  · refine (Any.Builder_copyCheck_used L X b w (by rw [Lib.cell_of_heap hbk]; rfl)).mono ?_
    rintro e u ⟨rfl, rfl⟩
    exact ⟨rfl, hbk, rfl, rfl, rfl, fun _ _ => rfl⟩

set_option maxHeartbeats 2000000 in
set_option maxRecDepth 100000 in
theorem write_at (L : Lays.n166 P ρ) (X : Builder.Extra P ρ) (b : Nat) (p v : Value) (bs : List Value) (s : ByteArray) (w : World) (hp : p = .pointer none ∨ p = .pointer (some ⟨b, 0, none⟩))
    (hbk : w.heap[b]? = some (.cells #[p, v] (ρ.t 72) (0, 0))) (hown : w.ownsRow 0 (ρ.t 5) 1 v bs.length bs) (h1c : RowOne w v) (hne : v.ownBlock ≠ some b) (hlen : bs.length + s.size ≤ 140737488355328) :
    Calls P (ρ.f 166) #[.pointer (some ⟨b, 0, none⟩), .string s] w fun e u => e = .returned (.tuple #[.int .i64 s.size, .nilIface]) ∧ ∃ v', u.heap[b]? = some (.cells #[.pointer (some ⟨b, 0, none⟩), v'] (ρ.t 72) (0, 0)) ∧
      u.ownsRow 0 (ρ.t 5) 1 v' (bs.length + s.size) (bs ++ Lib.strCells s) ∧ RowOne u v' ∧ v'.ownBlock ≠ some b ∧ (v'.ownBlock = v.ownBlock ∨ ∀ g, v'.ownBlock = some g → w.heap.size ≤ g) ∧ u.os = w.os ∧ u.output = w.output ∧
      w.heap.size ≤ u.heap.size ∧ ∀ k, k < w.heap.size → k ≠ b → v.ownBlock ≠ some k → u.heap[k]? = w.heap[k]? := by
  obtain ⟨i0, hi, hz0, hz1, hz2⟩ := info_parts X.infoByte
  have mixed := L.mixed
  have t72 := L.t72; have a72 := L.a72; have z72 := L.z72; have v72 := L.v72; have u72 := run_underlying L.t72
  have t70 := L.t70; have a70 := L.a70; have z70 := L.z70; have v70 := L.v70; have u70 := run_underlying L.t70
  have t37 := L.t37; have a37 := L.a37; have z37 := L.z37; have v37 := L.v37; have u37 := run_underlying L.t37
  have t3 := L.t3; have a3 := L.a3; have z3 := L.z3; have v3 := L.v3; have u3 := run_underlying L.t3
  have t9 := L.t9; have a9 := L.a9; have z9 := L.z9; have v9 := L.v9; have u9 := run_underlying L.t9
  have t4 := L.t4; have a4 := L.a4; have z4 := L.z4; have v4 := L.v4; have u4 := run_underlying L.t4
  have t164 := L.t164; have a164 := L.a164; have z164 := L.z164; have v164 := L.v164; have u164 := run_underlying L.t164
  have t5 := X.t5; have a5 := X.a5; have z5 := X.z5; have v5 := X.v5; have u5 := run_underlying X.t5
  have e240 : ∀ args w, (callFunc (ρ.f 240) args).run P w = .ok (.enter (ρ.f 240) args) w := enters_of L.f240 (by kernel_rfl) rfl
  have hlt : b < w.heap.size := (Array.getElem?_eq_some_iff.1 hbk).1
  go_enter L.f166, Body.n166_ntmps ρ
  go_wp2_with (go_at_fn (ρ.f 240); refine (check_at { L with } X.toX72 b p v _ hp hbk).mono ?_)
  rintro e w1 ⟨rfl, hbk1, ho1, hp1, hs1, hk1⟩
  have hown1 : w1.ownsRow 0 (ρ.t 5) 1 v bs.length bs := by
    refine ⟨hown.1, ?_⟩
    rcases hown.2 with h | ⟨g, cap, cur, hv, hbg, hg, rest⟩
    · exact .inl h
    · refine .inr ⟨g, cap, cur, hv, hbg, ?_, rest⟩
      rw [hk1 g (fun e => hne (by rw [hv, ← e]; rfl))]
      exact hg
  have h1c1 : RowOne w1 v := fun g cur q fz hv hg => h1c g cur q fz hv (by rw [← hk1 g (fun e => hne (by rw [hv, e]))]; exact hg)
  have HK1 := hidU hk1
  have H1C := hidU h1c1
  clear hk1 h1c1 h1c
  have c1 : w1.cell? ⟨b, 1, none⟩ = some v := by rw [Lib.cell_of_heap hbk1]; rfl
  go_wp2_with (at_builtin; refine wp_append_str_at rfl _ _ (ρ.t 37) (ρ.t 9) rfl (ρ.t 5) i0 L.t37 L.t9 hi hz0 hz1 hz2 _ _ _ rfl hown1 H1C.out s rfl hlen ?_)
  intro v' w2 hown' hgrow hat
  obtain ⟨hnew, hone'⟩ := hat
  have hlt1 : b < w1.heap.size := by omega
  have hb2 : w2.heap[b]? = some (.cells #[.pointer (some ⟨b, 0, none⟩), v] (ρ.t 72) (0, 0)) := by
    rw [hgrow.block b hlt1 (fun e => hne e.symm)]
    exact hbk1
  have d1 : w2.cell? ⟨b, 1, none⟩ = some v := by rw [Lib.cell_of_heap hb2]; rfl
  have f1 : w2.frozen? ⟨b, 1, none⟩ = false := Lib.frozen_of_heap hb2 1
  have hne' : v'.ownBlock ≠ some b := by
    rcases hnew with h | h
    · rw [h]; exact hne
    · intro e
      have := h b e
      omega
  obtain ⟨ao, n', cap, rfl⟩ : ∃ ao n' cap, v' = .slice ao n' cap := by
    rcases hown'.2 with ⟨hv, _⟩ | ⟨g, cap, cur, hv, _⟩
    · exact ⟨_, _, _, hv⟩
    · exact ⟨_, _, _, hv⟩
  have HG := hidU hgrow
  have HN := hidU hnew
  have HO := hidU hown'
  have HE := hidU hne'
  have H1 := hidU hone'
  clear hgrow hnew hown' hne' hone'
  go_wp2
  go_ret2
  refine ⟨rfl, _, heap_setCell_same w2 b 1 _ _ _ hb2, ?_, fun g cur q fz hv hg => H1.out g cur q fz hv (by rw [← heap_setCell_other w2 ⟨b, 1, none⟩ g _ (fun e => HE.out (by rw [hv]; exact congrArg some e))]; exact hg), HE.out, ?_, ?_, ?_, ?_, ?_⟩
  · refine ⟨HO.out.1, ?_⟩
    rcases HO.out.2 with h | ⟨g, cap, cur, hv, hbg, hg, rest⟩
    · exact .inl h
    · refine .inr ⟨g, cap, cur, hv, hbg, ?_, rest⟩
      rw [heap_setCell_other _ _ _ _ (fun e => HE.out (by rw [hv]; exact congrArg some e))]
      exact hg
  · rw [← hs1]; exact HN.out
  · exact HG.out.os.trans ho1
  · exact HG.out.output.trans hp1
  · have := HG.out.size
    simp [World.setCell]
    omega
  · intro k hk hkb hkv
    rw [heap_setCell_other _ _ _ _ hkb, HG.out.block k (by omega) (fun e => hkv e.symm), HK1.out k hkb]

set_option maxHeartbeats 1000000 in
set_option maxRecDepth 100000 in
theorem string_at (L : Lays.n169 P ρ) (X : Builder.Extra P ρ) (b g cap : Nat) (p : Value) (cur : Array Value) (l : List UInt8) (w : World) (h0 : l ≠ [])
    (hbk : w.heap[b]? = some (.cells #[p, .slice (some ⟨g, 0, none⟩) l.length cap] (ρ.t 72) (0, 0))) (hg : w.heap[g]? = some (.cells cur (ρ.t 5) (0, 0))) (hnc : l.length ≤ cap) (hcm : cap ≤ maxLen) (hcs : cur.size = cap)
    (hx : ∀ (j : Nat) x, l[j]? = some x → cur[j]? = some (.int .u8 x.toNat)) :
    Calls P (ρ.f 169) #[.pointer (some ⟨b, 0, none⟩)] w fun e u => e = .returned (.string ⟨l.toArray⟩) ∧ (∃ fz, u.heap[g]? = some (.cells cur (ρ.t 5) fz)) ∧ u.os = w.os ∧ u.output = w.output ∧ u.heap.size = w.heap.size ∧
      ∀ k, k ≠ g → u.heap[k]? = w.heap[k]? := by
  have hl0 : l.length ≠ 0 := by simpa using h0
  have c1 : w.drew.cell? ⟨b, 1, none⟩ = some (.slice (some ⟨g, 0, none⟩) l.length cap) := by
    have : w.drew.heap[b]? = some (.cells #[p, .slice (some ⟨g, 0, none⟩) l.length cap] (ρ.t 72) (0, 0)) := hbk
    rw [Lib.cell_of_heap this]; rfl
  have hSD : (Builtin.unsafeSliceData_ #[(ρ.t 37)] (ρ.t 127) #[.slice (some ⟨g, 0, none⟩) l.length cap]).run P w.drew = .ok (.pointer (some ⟨g, 0, none⟩)) w.drew :=
    Lib.run_unsafeSliceData_row _ _ _ _ _ _ (by omega)
  have hg' : w.drew.heap[g]? = some (.cells cur (ρ.t 5) (0, 0)) := hg
  have hUS : (Builtin.unsafeString_ #[(ρ.t 127), (ρ.t 3)] (ρ.t 9) #[.pointer (some ⟨g, 0, none⟩), .int .i64 l.length]).run P w.drew = .ok (.string ⟨l.toArray⟩) (w.drew.freeze ⟨g, 0, none⟩ l.length) := by
    refine Lib.run_unsafeString_row w.drew (ρ.t 127) (ρ.t 3) (ρ.t 9) (ρ.t 5) L.t127 X.cellsByte g cur.size (by simp [World.shape?, hg']) l h0 (by omega) (by unfold maxLen at hcm; omega) ?_
    intro j x hj
    have hadd : (⟨g, 0, none⟩ : Addr).add j = ⟨g, j, none⟩ := by unfold Addr.add; split <;> simp_all
    rw [hadd, Lib.cell_of_heap hg']
    exact hx j x hj
  have mixed := L.mixed
  have t72 := L.t72; have a72 := L.a72; have z72 := L.z72; have v72 := L.v72; have u72 := run_underlying L.t72
  have t70 := L.t70; have a70 := L.a70; have z70 := L.z70; have v70 := L.v70; have u70 := run_underlying L.t70
  have t37 := L.t37; have a37 := L.a37; have z37 := L.z37; have v37 := L.v37; have u37 := run_underlying L.t37
  have t127 := L.t127; have a127 := L.a127; have z127 := L.z127; have v127 := L.v127; have u127 := run_underlying L.t127
  have t3 := L.t3; have a3 := L.a3; have z3 := L.z3; have v3 := L.v3; have u3 := run_underlying L.t3
  have t9 := L.t9; have a9 := L.a9; have z9 := L.z9; have v9 := L.v9; have u9 := run_underlying L.t9
  have t5 := X.t5; have a5 := X.a5; have z5 := X.z5; have v5 := X.v5; have u5 := run_underlying X.t5
  have HX := hidU hx
  have HF : Hid (∀ u, u = w.drew.freeze ⟨g, 0, none⟩ l.length → (∃ fz, u.heap[g]? = some (.cells cur (ρ.t 5) fz)) ∧ u.os = w.os ∧ u.output = w.output ∧ u.heap.size = w.heap.size ∧ ∀ k, k ≠ g → u.heap[k]? = w.heap[k]?) := by
    rintro u rfl
    refine ⟨?_, ?_, ?_, ?_, ?_⟩
    · unfold World.freeze
      split
      · exact ⟨_, hg'⟩
      · exact ⟨_, by simp [Array.getElem?_modify]; exact ⟨_, hg', rfl⟩⟩
    · unfold World.freeze; split <;> rfl
    · unfold World.freeze; split <;> rfl
    · unfold World.freeze; split <;> simp
    · intro k hk
      unfold World.freeze
      split
      · rfl
      · simp [Array.getElem?_modify, Ne.symm hk]
        rfl
  clear hx
  go_enter L.f169, Body.n169_ntmps ρ
  go_wp2
  go_region_o
  all_goals (go_wp2; go_ret; exact ⟨rfl, HF.out _ rfl⟩)

/-! ### In the store -/

variable {ι : Inj} {σ τ : St} {w u : World}

theorem rel_two (hR : Rel ι σ.get w) (wf : σ.wf) (hf : ι σ.size = none) {i : Nat} {L M : Loc} {vs B C : List S} (hL : ι i = some L) (hb : σ.get i = some (.cells true vs)) (J : Option Nat)
    (hJ : ∀ j, J = some j → j ≠ i ∧ ∃ N bs, ι j = some N ∧ σ.get j = some (.cells true bs))
    (hM : w.heap.size ≤ M.b ∨ ∃ j N, J = some j ∧ ι j = some N ∧ N.b = M.b)
    (hi : τ.get i = some (.cells true C)) (hn : τ.get σ.size = some (.cells true B)) (hj : ∀ j, J = some j → τ.get j = some .dead) (ho : ∀ k, k ≠ i → k ≠ σ.size → J ≠ some k → τ.get k = σ.get k) (hz : τ.size = σ.size + 1)
    (h1 : u.os = w.os) (h2 : u.output = w.output) (h3 : w.heap.size ≤ u.heap.size)
    (hk : ∀ k, k < w.heap.size → k ≠ L.b → (∀ j N, J = some j → ι j = some N → N.b ≠ k) → u.heap[k]? = w.heap[k]?)
    (hB : BlkRel (upd ι σ.size M) M u (.cells true B)) (hC : BlkRel (upd ι σ.size M) L u (.cells true C)) :
    Ext ι σ w (upd ι σ.size M) τ u ∧ Rel (upd ι σ.size M) τ.get u := by
  have hle := le_upd M hf
  have his := wf.lt hb
  have hLw : L.b < w.heap.size := (hR.blk i L _ hL hb).lt trivial
  have hJs : ∀ j, J = some j → j < σ.size := fun j e => by obtain ⟨_, N, bs, _, h⟩ := hJ j e; exact wf.lt h
  have stay : ∀ k N b, k ≠ i → k ≠ σ.size → J ≠ some k → ι k = some N → σ.get k = some b → held (some b) → u.heap[N.b]? = w.heap[N.b]? := by
    intro k N b e1 e2 e3 hN hc hh
    refine hk _ ((hR.blk k N b hN hc).lt hh) (fun e => hR.sep i k L N hL hN (by rw [hb]; trivial) (by rw [hc]; exact hh) (Ne.symm e1) e.symm) fun j N' ej hN' e => ?_
    obtain ⟨_, N2, bs, h4, h5⟩ := hJ j ej
    rw [hN'] at h4; cases h4
    exact hR.sep j k N' N hN' hN (by rw [h5]; trivial) (by rw [hc]; exact hh) (fun e' => e3 (by rw [ej, e'])) e
  have hML : M.b ≠ L.b := by
    rcases hM with h | ⟨j, N, ej, hN, e⟩
    · omega
    · obtain ⟨hji, N2, bs, h4, h5⟩ := hJ j ej
      rw [hN] at h4; cases h4
      rw [← e]
      exact hR.sep j i N L hN hL (by rw [h5]; trivial) (by rw [hb]; trivial) hji
  have hMk : ∀ k N, k ≠ i → k ≠ σ.size → J ≠ some k → ι k = some N → held (σ.get k) → M.b ≠ N.b := by
    intro k N e1 e2 e3 hN hh
    rcases hM with h | ⟨j, N', ej, hN', e⟩
    · cases hc : σ.get k with
      | none => rw [hc] at hh; exact hh.elim
      | some b =>
        rw [hc] at hh
        have := (hR.blk k N b hN hc).lt hh
        omega
    · obtain ⟨hji, N2, bs, h4, h5⟩ := hJ j ej
      rw [hN'] at h4; cases h4
      rw [← e]
      exact hR.sep j k N' N hN' hN (by rw [h5]; trivial) hh (fun e' => e3 (by rw [ej, e']))
  have cases4 : ∀ k, k = i ∨ k = σ.size ∨ J = some k ∨ (k ≠ i ∧ k ≠ σ.size ∧ J ≠ some k) := fun k => by
    by_cases e1 : k = i
    · exact .inl e1
    · by_cases e2 : k = σ.size
      · exact .inr (.inl e2)
      · by_cases e3 : J = some k
        · exact .inr (.inr (.inl e3))
        · exact .inr (.inr (.inr ⟨e1, e2, e3⟩))
  have upo : ∀ k, k ≠ σ.size → upd ι σ.size M k = ι k := fun k e => upd_ne _ _ e
  constructor
  · refine ⟨by omega, fun k hk' => upo k (by omega), ?_, ?_, ?_, ?_, h1, h2, h3, ?_⟩
    · intro k hks hl
      rcases cases4 k with rfl | rfl | e | ⟨e1, e2, e3⟩
      · rw [hb]; trivial
      · omega
      · rw [hj k e] at hl; exact hl.elim
      · rwa [ho k e1 e2 e3] at hl
    · intro k hks hl
      rcases cases4 k with rfl | rfl | e | ⟨e1, e2, e3⟩
      · rw [hb]; trivial
      · omega
      · rw [hj k e] at hl; exact hl.elim
      · rwa [ho k e1 e2 e3] at hl
    · intro k hks hn'
      rcases cases4 k with rfl | rfl | e | ⟨e1, e2, e3⟩
      · rw [hL] at hn'; cases hn'
      · omega
      · obtain ⟨_, N, bs, h4, _⟩ := hJ k e; rw [h4] at hn'; cases hn'
      · exact ho k e1 e2 e3
    · intro k N h4 h5 hN hh
      have : k = σ.size := by omega
      subst this
      rw [upd_same] at hN; cases hN
      rcases hM with h | ⟨j, N, ej, hN, e⟩
      · exact .inl h
      · obtain ⟨hji, N2, bs, h6, h7⟩ := hJ j ej
        exact .inr ⟨j, N, wf.lt h7, hN, e, by rw [h7]; trivial⟩
    · intro k hkw hn'
      refine hk k hkw (fun e => hn' i L his hL (by rw [hb]; trivial) e.symm) fun j N ej hN e => ?_
      obtain ⟨hji, N2, bs, h6, h7⟩ := hJ j ej
      exact hn' j N (wf.lt h7) hN (by rw [h7]; trivial) e
  · constructor
    · intro k N c hN hc
      rcases cases4 k with rfl | rfl | e | ⟨e1, e2, e3⟩
      · rw [upo _ (by omega), hL] at hN; cases hN
        rw [hi] at hc; cases hc
        exact hC
      · rw [upd_same] at hN; cases hN
        rw [hn] at hc; cases hc
        exact hB
      · rw [hj k e] at hc; cases hc; trivial
      · rw [upo _ e2] at hN
        rw [ho k e1 e2 e3] at hc
        have hr := hR.blk k N c hN hc
        cases c with
        | dead => trivial
        | cells own vs' => exact (hr.mono hle).congr (stay k N _ e1 e2 e3 hN hc trivial)
        | map es => exact (hr.mono hle).congr (stay k N _ e1 e2 e3 hN hc trivial)
        | glob g vs' => exact (hr.mono hle).congr (stay k N _ e1 e2 e3 hN hc trivial)
    · intro k j N N' hN hN' hl hh hne
      rcases cases4 k with ek | ek | e | ⟨e1, e2, e3⟩
      · rw [ek, upo _ (by omega), hL] at hN; cases hN
        rcases cases4 j with ej | ej | e' | ⟨f1, f2, f3⟩
        · omega
        · rw [ej, upd_same] at hN'; cases hN'
          exact Ne.symm hML
        · rw [hj j e'] at hh; exact hh.elim
        · rw [upo _ f2] at hN'
          rw [ho j f1 f2 f3] at hh
          exact hR.sep i j L N' hL hN' (by rw [hb]; trivial) hh (Ne.symm f1)
      · rw [ek, upd_same] at hN; cases hN
        rcases cases4 j with ej | ej | e' | ⟨f1, f2, f3⟩
        · rw [ej, upo _ (by omega), hL] at hN'; cases hN'
          exact hML
        · omega
        · rw [hj j e'] at hh; exact hh.elim
        · rw [upo _ f2] at hN'
          rw [ho j f1 f2 f3] at hh
          exact hMk j N' f1 f2 f3 hN' hh
      · rw [hj k e] at hl; exact hl.elim
      · rw [upo _ e2] at hN
        rw [ho k e1 e2 e3] at hl
        rcases cases4 j with ej | ej | e' | ⟨f1, f2, f3⟩
        · rw [ej, upo _ (by omega), hL] at hN'; cases hN'
          exact hR.sep k i N L hN hL hl (by rw [hb]; trivial) e1
        · rw [ej, upd_same] at hN'; cases hN'
          exact Ne.symm (hMk k N e1 e2 e3 hN hl.held)
        · rw [hj j e'] at hh; exact hh.elim
        · rw [upo _ f2] at hN'
          rw [ho j f1 f2 f3] at hh
          exact hR.sep k j N N' hN hN' hl hh hne
    · intro k n vs' hg
      rcases cases4 k with rfl | rfl | e | ⟨e1, e2, e3⟩
      · rw [hi] at hg; cases hg
      · rw [hn] at hg; cases hg
      · rw [hj k e] at hg; cases hg
      · rw [ho k e1 e2 e3] at hg
        obtain ⟨N, hN⟩ := hR.glob k n vs' hg
        exact ⟨N, by rw [upo _ e2]; exact hN⟩

def bsOf : List S → Option Bs
  | [] => some []
  | .int .u8 n :: r => match bsOf r with
    | some l => match decide (0 ≤ n ∧ n < 256) with
      | true => some (UInt8.ofNat n.toNat :: l)
      | false => none
    | none => none
  | _ :: _ => none

theorem bsOf_eq : ∀ {vs : List S} {l : Bs}, bsOf vs = some l → vs = strBytes l
  | [], l, h => by cases h; rfl
  | v :: r, l, h => by
    unfold bsOf at h
    split at h
    · cases h; rename_i h'; cases h'
    · rename_i n r' he
      cases he
      split at h
      · rename_i l' hl'
        split at h
        · rename_i hd
          cases h
          have hd := of_decide_eq_true hd
          rw [bsOf_eq hl']
          show _ = S.int .u8 ((UInt8.ofNat n.toNat).toNat : Int) :: strBytes l'
          have : ((UInt8.ofNat n.toNat).toNat : Int) = n := by
            rw [UInt8.toNat_ofNat']
            omega
          rw [this]
        · cases h
      · cases h
    · cases h

theorem bsOf_strBytes : ∀ l : Bs, bsOf (strBytes l) = some l
  | [] => rfl
  | b :: r => by
    have ih := bsOf_strBytes r
    have hb : (0 : Int) ≤ (b.toNat : Int) ∧ (b.toNat : Int) < 256 := by have := b.toNat_lt; omega
    show bsOf (S.int .u8 (b.toNat : Int) :: strBytes r) = _
    unfold bsOf
    rw [ih]
    dsimp only
    rw [decide_eq_true hb]
    simp

def notedB (tb i : Nat) : S → Bool
  | .nilp => true
  | .tptr t k n => Nat.beq t tb && Nat.beq k i && Nat.beq n 2
  | _ => false

def bldP (tb e fw fs : Nat) : CallF := fun f ts σ => match Nat.beq f fw with
  | true => match ts with
    | [.v (.s (.tptr t i n)), .v (.s (.str l))] => match decide (t = tb ∧ n = 2 ∧ l ≠ [] ∧ l.length ≤ 1000000) with
      | true => match σ.get i with
        | some (.cells true [x, y]) => match notedB tb i x with
          | true => match y with
            | .nils => some (.tup [.s (.int .i64 l.length), .s .nili], (σ.push (.cells true (strBytes l))).set i (.cells true [.tptr tb i 2, .buf e σ.size l.length]))
            | .buf q j m => match σ.get j with
              | some (.cells true vs) => match bsOf vs with
                | some k => match decide (q = e ∧ m = k.length ∧ m ≤ 1000000) with
                  | true => some (.tup [.s (.int .i64 l.length), .s .nili], ((σ.set j .dead).push (.cells true (strBytes (k ++ l)))).set i (.cells true [.tptr tb i 2, .buf e σ.size (k ++ l).length]))
                  | false => none
                | none => none
              | _ => none
            | _ => none
          | false => none
        | _ => none
      | false => none
    | _ => none
  | false => match Nat.beq f fs with
    | true => match ts with
      | [.v (.s (.tptr t i n))] => match decide (t = tb ∧ n = 2) with
        | true => match σ.get i with
          | some (.cells true [x, .buf q j m]) => match σ.get j with
            | some (.cells true vs) => match bsOf vs with
              | some k => match decide (q = e ∧ m = k.length ∧ k ≠ []) with
                | true => some (.v (.s (.str k)), σ.set j (.cells false vs))
                | false => none
              | none => none
            | _ => none
          | _ => none
        | false => none
      | _ => none
    | false => none

theorem strBytes_len (l : Bs) : (strBytes l).length = l.length := by simp [strBytes]
theorem strBytes_get (l : Bs) (j : Nat) : (strBytes l)[j]? = (l[j]?).map fun b => S.int .u8 b.toNat := by simp [strBytes]

theorem strCells_get (s : ByteArray) (j : Nat) : (Lib.strCells s)[j]? = (s.data.toList[j]?).map fun b => Value.int .u8 b.toNat := by simp [Lib.strCells]

theorem bytes_blk {κ : Inj} {e : Nat} {u : World} {v : Value} {xs : List Value} {l : Bs} (hx : xs = l.map fun b => Value.int .u8 b.toNat) (hl : l ≠ []) (hown : u.ownsRow 0 e 1 v l.length xs)
    (hone : ∀ (g : Nat) (cur : Array Value) (q : TypeId) (fz : Nat × Nat), v.ownBlock = some g → u.heap[g]? = some (.cells cur q fz) → ∀ (j : Nat) (x : Value), cur[j]? = some x → oneCell x = true) :
    ∃ g cap, v = .slice (some ⟨g, 0, none⟩) l.length cap ∧ l.length ≤ cap ∧ cap ≤ maxLen ∧ BlkRel κ ⟨g, 0, cap, e⟩ u (.cells true (strBytes l)) := by
  rcases hown.2 with ⟨_, h⟩ | ⟨g, cap, cur, hv, _, hg, hnc, hcm, hcs, htake⟩
  · cases l with
    | nil => exact absurd rfl hl
    | cons _ _ => simp at h
  · refine ⟨g, cap, hv, hnc, hcm, cur, e, (0, 0), hg, by show cur.size = cap; omega, by show 0 + (strBytes l).length ≤ cap; rw [strBytes_len]; omega, fun j x hj => ?_, fun _ => ⟨⟨rfl, rfl, rfl⟩, hone g cur e (0, 0) (by rw [hv]; rfl) hg⟩⟩
    rw [strBytes_get] at hj
    have hjl : j < l.length := by
      rcases Nat.lt_or_ge j l.length with h | h
      · exact h
      · rw [List.getElem?_eq_none h] at hj; cases hj
    refine ⟨.int .u8 (l[j]).toNat, ?_, ?_⟩
    · have h2 : xs[j]? = some (.int .u8 (l[j]).toNat) := by rw [hx, List.getElem?_map, List.getElem?_eq_getElem hjl]; rfl
      rw [← htake, List.getElem?_take, if_pos (by omega)] at h2
      simpa using h2
    · rw [List.getElem?_eq_getElem hjl] at hj
      cases hj
      rfl

theorem noted_rel {κ : Inj} {tb i : Nat} {x : S} {p : Value} {L : Loc} (h : notedB tb i x = true) (hL : κ i = some L) (hb : L.base = 0) (hr : SRel κ x p) : p = .pointer none ∨ p = .pointer (some ⟨L.b, 0, none⟩) := by
  cases x with
  | nilp => exact .inl hr
  | tptr t k n =>
    simp only [notedB, Bool.and_eq_true] at h
    have h1 := Nat.eq_of_beq_eq_true h.1.1
    have h2 := Nat.eq_of_beq_eq_true h.1.2
    subst h2
    obtain ⟨M, hM, _, _, _, rfl⟩ := hr
    rw [hL] at hM
    cases hM
    exact .inr rfl
  | _ => cases h

theorem builder_at {tb i : Nat} {x y : S} {L : Loc} (hR : Rel ι σ.get w) (hL : ι i = some L) (h1 : L.ty = tb) (h2 : L.base = 0) (h3 : L.size = 2) (hb : σ.get i = some (.cells true [x, y])) :
    ∃ p v, w.heap[L.b]? = some (.cells #[p, v] tb (0, 0)) ∧ SRel ι x p ∧ SRel ι y v := by
  obtain ⟨c, e, fz, k1, k2, k3, k4, k5⟩ := hR.blk i L _ hL hb
  obtain ⟨p, hp, rp⟩ := k4 0 x rfl
  obtain ⟨v, hv, rv⟩ := k4 1 y rfl
  rw [h2] at hp hv
  have hc : c = #[p, v] := by
    apply Array.ext_getElem?
    intro j
    rcases j with _ | _ | j
    · simpa using hp
    · simpa using hv
    · rw [Array.getElem?_eq_none (by omega), Array.getElem?_eq_none (by simp)]
  obtain ⟨⟨f1, f2, f3⟩, _⟩ := k5 rfl
  have hfz : fz = (0, 0) := Prod.ext f1 f2
  exact ⟨p, v, by rw [k1, hc, hfz, f3, h1], rp, rv⟩

theorem bldP_sound (L6 : Lays.n166 P ρ) (L9 : Lays.n169 P ρ') (X : Builder.Extra P ρ) (X' : Builder.Extra P ρ') (h72 : ρ'.t 72 = ρ.t 72) (h5 : ρ'.t 5 = ρ.t 5) : CallSound P (bldP (ρ.t 72) (ρ.t 5) (ρ.f 166) (ρ'.f 169)) := by
  have inv : ∀ f ts σ t τ, bldP (ρ.t 72) (ρ.t 5) (ρ.f 166) (ρ'.f 169) f ts σ = some (t, τ) →
      (f = ρ.f 166 ∧ ∃ (i : Nat) (l k : Bs) (x y : S) (J : Option Nat), ts = [.v (.s (.tptr (ρ.t 72) i 2)), .v (.s (.str l))] ∧ l ≠ [] ∧ l.length ≤ 1000000 ∧ k.length ≤ 1000000 ∧ σ.get i = some (.cells true [x, y]) ∧ notedB (ρ.t 72) i x = true ∧
        t = .tup [.s (.int .i64 l.length), .s .nili] ∧
        ((J = none ∧ y = .nils ∧ k = [] ∧ τ = (σ.push (.cells true (strBytes l))).set i (.cells true [.tptr (ρ.t 72) i 2, .buf (ρ.t 5) σ.size l.length])) ∨
         ∃ j, J = some j ∧ y = .buf (ρ.t 5) j k.length ∧ σ.get j = some (.cells true (strBytes k)) ∧ τ = ((σ.set j .dead).push (.cells true (strBytes (k ++ l)))).set i (.cells true [.tptr (ρ.t 72) i 2, .buf (ρ.t 5) σ.size (k ++ l).length]))) ∨
      (f = ρ'.f 169 ∧ ∃ (i j : Nat) (k : Bs) (x : S), ts = [.v (.s (.tptr (ρ.t 72) i 2))] ∧ k ≠ [] ∧ σ.get i = some (.cells true [x, .buf (ρ.t 5) j k.length]) ∧ σ.get j = some (.cells true (strBytes k)) ∧ t = .v (.s (.str k)) ∧ τ = σ.set j (.cells false (strBytes k))) := by
    intro f ts σ t τ h
    unfold bldP at h
    split at h
    · rename_i hf
      left
      refine ⟨Nat.eq_of_beq_eq_true hf, ?_⟩
      split at h
      · rename_i t0 i n l
        split at h
        · rename_i hd
          obtain ⟨rfl, rfl, hl0, hl⟩ := of_decide_eq_true hd
          split at h
          · rename_i x y hi
            split at h
            · rename_i hn
              split at h
              · cases h
                exact ⟨i, l, [], x, .nils, none, rfl, hl0, hl, by simp, hi, hn, rfl, .inl ⟨rfl, rfl, rfl, rfl⟩⟩
              · rename_i q j m
                split at h
                · rename_i vs hj
                  split at h
                  · rename_i k hk
                    split at h
                    · rename_i hd2
                      obtain ⟨rfl, rfl, hm⟩ := of_decide_eq_true hd2
                      cases h
                      have := bsOf_eq hk
                      subst this
                      exact ⟨i, l, k, x, _, some j, rfl, hl0, hl, hm, hi, hn, rfl, .inr ⟨j, rfl, rfl, hj, rfl⟩⟩
                    · cases h
                  · cases h
                · cases h
              · cases h
            · cases h
          · cases h
        · cases h
      · cases h
    · split at h
      · rename_i hf
        right
        refine ⟨Nat.eq_of_beq_eq_true hf, ?_⟩
        split at h
        · rename_i t0 i n
          split at h
          · rename_i hd
            obtain ⟨rfl, rfl⟩ := of_decide_eq_true hd
            split at h
            · rename_i x q j m hi
              split at h
              · rename_i vs hj
                split at h
                · rename_i k hk
                  split at h
                  · rename_i hd2
                    obtain ⟨rfl, rfl, hk0⟩ := of_decide_eq_true hd2
                    cases h
                    have := bsOf_eq hk
                    subst this
                    exact ⟨i, j, k, x, rfl, hk0, hi, hj, rfl, rfl⟩
                  · cases h
                · cases h
              · cases h
            · cases h
          · cases h
        · cases h
      · cases h
  constructor
  · intro f ts σ t τ h wf
    rcases inv f ts σ t τ h with ⟨_, i, l, k, x, y, J, _, _, _, _, hi, _, _, ⟨_, _, _, rfl⟩ | ⟨j, _, _, hj, rfl⟩⟩ | ⟨_, i, j, k, x, _, _, hi, hj, _, rfl⟩
    · exact ⟨St.wf_set (St.wf_push wf _) (by have := wf.lt hi; simp; omega) _, by simp⟩
    · exact ⟨St.wf_set (St.wf_push (St.wf_set wf (wf.lt hj) _) _) (by have := wf.lt hi; simp; omega) _, by simp⟩
    · exact ⟨St.wf_set wf (wf.lt hj) _, by simp⟩
  · intro f ts σ t τ h wf ι w vs hR hF hA
    rcases inv f ts σ t τ h with ⟨rfl, i, l, k, x, y, J, rfl, hl0, hl, hk, hi, hn, rfl, hcase⟩ | ⟨rfl, i, j, k, x, rfl, hk0, hi, hj, rfl, rfl⟩
    · -- WriteString
      obtain ⟨u0, u1, rfl, a, a'⟩ := F.all2_two hA
      obtain ⟨L, hL, hty, hbase, hsize, rfl⟩ := a
      obtain ⟨s, rfl, hs⟩ := a'
      obtain ⟨p, v, hbk, rp, rv⟩ := builder_at hR hL hty hbase hsize hi
      have hp := noted_rel hn hL hbase rp
      have hfree : ι σ.size = none := by
        refine hF σ.size (Nat.le_refl _) ?_
        rcases hcase with ⟨_, _, _, rfl⟩ | ⟨j, _, _, hj, rfl⟩ <;> simp
      have hrow : w.ownsRow 0 (ρ.t 5) 1 v (k.map fun b => Value.int .u8 b.toNat).length (k.map fun b => Value.int .u8 b.toNat) ∧ RowOne w v ∧ v.ownBlock ≠ some L.b ∧
          (∀ j, J = some j → j ≠ i ∧ ∃ N bs, ι j = some N ∧ σ.get j = some (.cells true bs)) ∧ (∀ g, v.ownBlock = some g → ∃ j N, J = some j ∧ ι j = some N ∧ N.b = g) ∧ (∀ j N, J = some j → ι j = some N → v.ownBlock = some N.b) := by
        rcases hcase with ⟨rfl, rfl, rfl, _⟩ | ⟨j, rfl, rfl, hj, _⟩
        · have hv : v = Value.slice none 0 0 := rv
          subst hv
          exact ⟨World.ownsRow_nil w 0 _ 1, (fun g cur q fz hg => by cases hg), (by simp [Value.ownBlock]), (fun j e => by cases e), (fun g hg => by cases hg), (fun j N e => by cases e)⟩
        · obtain ⟨N, c, hN, hNt, hNb, hNs, hnc, hcm, rfl⟩ := rv
          have hji : j ≠ i := by
            intro e
            rw [e, hi] at hj
            have h0 := congrArg (fun b => match b with | some (Blk.cells _ vs) => vs.length | _ => 0) hj
            simp [strBytes_len] at h0
            cases k with
            | nil => simp at h0
            | cons b r =>
              simp [strBytes] at hj
              obtain ⟨_, h3⟩ := hj
              cases r with
              | nil => simp at h3
              | cons b' r' => simp at h3
          obtain ⟨cur, e, fz, k1, k2, k3, k4, k5⟩ := hR.blk j N _ hN hj
          obtain ⟨⟨f1, f2, f3⟩, f4⟩ := k5 rfl
          have hfz : fz = (0, 0) := Prod.ext f1 f2
          rw [hfz, f3, hNt] at k1
          have hkl : k.length ≤ c := hnc
          refine ⟨⟨by simp, .inr ⟨N.b, c, cur, by simp, Nat.zero_le _, k1, by simpa using hnc, by unfold maxLen; omega, by omega, ?_⟩⟩, ?_, ?_, ?_, ?_, ?_⟩
          · apply List.ext_getElem?
            intro q
            rw [List.getElem?_take, List.length_map, Nat.mul_one, List.getElem?_map]
            by_cases hq : q < k.length
            · rw [if_pos hq, List.getElem?_eq_getElem hq]
              obtain ⟨x', hx', r⟩ := k4 q (.int .u8 (k[q]).toNat) (by rw [strBytes_get, List.getElem?_eq_getElem hq]; rfl)
              rw [hNb, Nat.zero_add] at hx'
              rw [Array.getElem?_toList, hx']
              exact congrArg some r
            · rw [if_neg hq, List.getElem?_eq_none (by omega)]
              rfl
          · intro g cur' q fz' hg hcur
            simp only [Value.ownBlock, Option.some.injEq] at hg
            subst hg
            rw [k1] at hcur
            cases hcur
            exact f4
          · simp only [Value.ownBlock, ne_eq, Option.some.injEq]
            exact hR.sep j i N L hN hL (by rw [hj]; trivial) (by rw [hi]; trivial) hji
          · intro q e
            cases e
            exact ⟨hji, N, _, hN, hj⟩
          · intro g hg
            simp only [Value.ownBlock, Option.some.injEq] at hg
            exact ⟨j, N, rfl, hN, hg⟩
          · intro q N' e hN'
            cases e
            rw [hN] at hN'
            cases hN'
            rfl
      obtain ⟨hown, hone, hne, hJ, hJ2, hJ3⟩ := hrow
      refine (write_at L6 X L.b p v _ s w hp hbk hown hone hne (by rw [List.length_map]; have : s.size = l.length := by rw [← hs]; simp
                                                                   omega)).mono ?_
      rintro e u ⟨rfl, v', hub, hown', hone', hne', hat, ho, hpu, hsz, hkeep⟩
      have hsl : s.size = l.length := by rw [← hs]; simp
      have hxs : (k.map fun b => Value.int .u8 b.toNat) ++ Lib.strCells s = (k ++ l).map fun b => Value.int .u8 b.toNat := by
        rw [List.map_append]
        congr 1
        apply List.ext_getElem?
        intro q
        rw [strCells_get, hs, List.getElem?_map]
      rw [hxs] at hown'
      have hlen : (k.map fun b => Value.int .u8 b.toNat).length + s.size = (k ++ l).length := by simp [hsl]
      rw [hlen] at hown'
      obtain ⟨g, cap, hv', hnc, hcm, hbr⟩ := bytes_blk (κ := upd ι σ.size ⟨(match v' with | .slice (some a) _ _ => a.block | _ => 0), 0, (match v' with | .slice (some a) _ c => c | _ => 0), ρ.t 5⟩) rfl (by simp [hl0]) hown' hone'
      subst hv'
      dsimp only at hbr
      have hMg : (w.heap.size ≤ g ∨ ∃ j N, J = some j ∧ ι j = some N ∧ N.b = g) := by
        rcases hat with h | h
        · exact .inr (hJ2 g (by rw [← h]; rfl))
        · exact .inl (h g rfl)
      have his := wf.lt hi
      have hτ : τ.get i = some (.cells true [.tptr (ρ.t 72) i 2, .buf (ρ.t 5) σ.size (k ++ l).length]) ∧ τ.get σ.size = some (.cells true (strBytes (k ++ l))) ∧ (∀ j, J = some j → τ.get j = some .dead) ∧
          (∀ q, q ≠ i → q ≠ σ.size → J ≠ some q → τ.get q = σ.get q) ∧ τ.size = σ.size + 1 := by
        rcases hcase with ⟨rfl, rfl, rfl, rfl⟩ | ⟨j, rfl, rfl, hj, rfl⟩
        · refine ⟨St.get_set_same _ _ _, ?_, (fun j e => by cases e), fun q h1 h2 _ => ?_, by simp⟩
          · rw [St.get_set_ne _ _ (by omega), St.get_push_same]; rfl
          · rw [St.get_set_ne _ _ h1, St.get_push_ne _ _ h2]
        · have hjs := wf.lt hj
          have hji := (hJ j rfl).1
          refine ⟨St.get_set_same _ _ _, ?_, fun q e => ?_, fun q h1 h2 h3 => ?_, by simp⟩
          · rw [St.get_set_ne _ _ (by omega)]
            exact St.get_push_same (σ.set j .dead) _
          · cases e
            rw [St.get_set_ne _ _ hji, St.get_push_ne _ _ (by simp; omega), St.get_set_same]
          · rw [St.get_set_ne _ _ h1, St.get_push_ne _ _ (by simpa using h2), St.get_set_ne _ _ (fun e => h3 (by rw [e]))]
      obtain ⟨t1, t2, t3, t4, t5⟩ := hτ
      have hup : upd ι σ.size ⟨g, 0, cap, ρ.t 5⟩ σ.size = some ⟨g, 0, cap, ρ.t 5⟩ := upd_same _ _ _
      have hLi : upd ι σ.size ⟨g, 0, cap, ρ.t 5⟩ i = some L := by rw [upd_ne _ _ (by omega)]; exact hL
      have hC : BlkRel (upd ι σ.size ⟨g, 0, cap, ρ.t 5⟩) L u (.cells true [.tptr (ρ.t 72) i 2, .buf (ρ.t 5) σ.size (k ++ l).length]) := by
        refine ⟨_, _, _, hub, by rw [hsize]; rfl, by rw [hbase, hsize]; simp, fun q x' hq => ?_, fun _ => ⟨⟨rfl, rfl, hty.symm⟩, fun q x' hq => ?_⟩⟩
        · rw [hbase, Nat.zero_add]
          rcases q with _ | _ | q
          · simp at hq
            subst hq
            exact ⟨_, rfl, L, hLi, hty, hbase, hsize, rfl⟩
          · simp at hq
            subst hq
            exact ⟨_, rfl, _, cap, hup, rfl, rfl, rfl, by simpa using hnc, by unfold maxLen at hcm; omega, by simp⟩
          · simp at hq
        · rcases q with _ | _ | q
          · simp at hq; subst hq; rfl
          · simp at hq; subst hq; rfl
          · simp at hq
      obtain ⟨hE, hRu⟩ := rel_two (M := ⟨g, 0, cap, ρ.t 5⟩) hR wf hfree hL hi J hJ hMg t1 t2 t3 t4 t5 ho hpu hsz (fun q h1 h2 h3 => hkeep q h1 h2 (fun e => by
        obtain ⟨j, N, e1, e2, e3⟩ := hJ2 q e
        exact h3 j N e1 e2 e3)) hbr hC
      refine ⟨_, _, rfl, hE, hRu, _, rfl, .cons ?_ (.cons rfl .nil)⟩
      show Value.int .i64 (s.size : Int) = _
      rw [hsl]
    · -- String
      cases hA with
      | cons a b =>
        cases b
        obtain ⟨L, hL, hty, hbase, hsize, rfl⟩ := a
        obtain ⟨p, v, hbk, rp, rv⟩ := builder_at hR hL hty hbase hsize hi
        obtain ⟨N, c, hN, hNt, hNb, hNs, hnc, hcm, rfl⟩ := rv
        obtain ⟨cur, e, fz, k1, k2, k3, k4, k5⟩ := hR.blk j N _ hN hj
        obtain ⟨⟨f1, f2, f3⟩, f4⟩ := k5 rfl
        have hfz : fz = (0, 0) := Prod.ext f1 f2
        rw [hfz, f3, hNt] at k1
        have hx : ∀ (q : Nat) x, k[q]? = some x → cur[q]? = some (.int .u8 x.toNat) := by
          intro q x' hq
          obtain ⟨y', hy', r⟩ := k4 q (.int .u8 x'.toNat) (by rw [strBytes_get, hq]; rfl)
          rw [hNb, Nat.zero_add] at hy'
          rw [hy']
          exact congrArg some r
        rw [← h72] at hbk
        rw [← h5] at k1
        refine (string_at L9 X' L.b N.b c p cur k w hk0 hbk k1 hnc (by unfold maxLen; omega) (by omega) hx).mono ?_
        rintro e' u ⟨rfl, ⟨fz', hg⟩, ho, hp, hsz, hkeep⟩
        have hlt : N.b < w.heap.size := (Array.getElem?_eq_some_iff.1 k1).1
        have hheap : u.heap = ({ w with heap := w.heap.setIfInBounds N.b (.cells cur (ρ'.t 5) fz') } : World).heap := by
          apply Array.ext_getElem?
          intro q
          by_cases hq : q = N.b
          · subst hq
            rw [hg]
            simp [hlt]
          · rw [hkeep q hq]
            exact (Array.getElem?_setIfInBounds_ne (fun e => hq e.symm)).symm
        obtain ⟨hE, hRu⟩ := rel_set hR wf hN hj trivial (.cells cur (ρ'.t 5) fz') (.cells false (strBytes k)) trivial
          ⟨cur, ρ'.t 5, fz', by simp [hlt], k2, k3, k4, fun e => by cases e⟩
        exact ⟨ι, _, rfl, hE.trans (Ext.heap hheap ho hp), hRu.heap hheap, _, rfl, rfl⟩
end Go.Abs


/-
  Numbers as texts: strconv.FormatInt at base 10 and strconv.Itoa, beside the table that they read. Nothing here speaks of any program.
-/
set_option linter.unusedVariables false
namespace Go.Abs.F
open Go Go.Abs Go.Sort

abbrev pow10 : List Int := Lib.pow10Tab
def i64B (n : Int) : Bool := decide (-9223372036854775808 ≤ n ∧ n ≤ 9223372036854775807)

def decF : Nat → Nat → Bs
  | 0, _ => []
  | f + 1, u => match Nat.ble 10 u with
    | true => decF f (u / 10) ++ [UInt8.ofNat (48 + u % 10)]
    | false => [UInt8.ofNat (48 + u)]
def itoaF : Int → Bs
  | .ofNat u => decF 20 u
  | .negSucc u => 45 :: decF 20 (u + 1)

theorem decF_eq : ∀ (f u : Nat), u < 10 ^ f → 0 < f → decF f u = Lib.decDigits u
  | 0, u, _, h => by omega
  | f + 1, u, h, _ => by
    rw [Lib.decDigits]
    unfold decF
    cases hb : Nat.ble 10 u with
    | true =>
      have h10 := Nat.le_of_ble_eq_true hb
      rw [dif_neg (by omega)]
      dsimp only
      have hf : 0 < f := by
        rcases Nat.eq_zero_or_pos f with h0 | h0
        · subst h0; simp at h; omega
        · exact h0
      rw [decF_eq f (u / 10) (by rw [Nat.pow_succ] at h; omega) hf]
    | false =>
      have h10 : ¬ 10 ≤ u := fun h' => by rw [Nat.ble_eq_true_of_le h'] at hb; cases hb
      rw [dif_pos (by omega)]

theorem itoaF_eq {n : Int} (h : i64B n = true) : itoaF n = Lib.itoa n := by
  have h := of_decide_eq_true h
  cases n with
  | ofNat u =>
    have hu : (Int.ofNat u) = (u : Int) := rfl
    rw [hu] at h ⊢
    show decF 20 u = _
    unfold Lib.itoa
    rw [if_neg (by omega), decF_eq 20 u (by omega) (by omega)]
    rfl
  | negSucc u =>
    show 45 :: decF 20 (u + 1) = _
    unfold Lib.itoa
    rw [if_pos (by omega), decF_eq 20 (u + 1) (by omega) (by omega)]
    rfl

def itoaP (g ff fi : Nat) : CallF := fun f ts σ => match Nat.beq f ff with
  | true => match ts with
    | [.v (.s (.int .i64 n)), .v (.s (.int .i64 b))] => match i64B n && decide (b = 10) && hasTab g .u64 pow10 σ with
      | true => some (Z (.str (itoaF n)), σ)
      | false => none
    | _ => none
  | false => match Nat.beq f fi with
    | true => match ts with
      | [.v (.s (.int .i64 n))] => match i64B n && hasTab g .u64 pow10 σ with
        | true => some (Z (.str (itoaF n)), σ)
        | false => none
      | _ => none
    | false => none

theorem Still.grown (w : World) (k : Nat) (os : Array Obj) : Still w (grow (w.drewN k) os) := by
  refine ⟨rfl, rfl, ?_, fun b hb => ?_⟩
  · show w.heap.size ≤ (w.heap ++ os).size
    simp
  · show (w.heap ++ os)[b]? = _
    rw [Array.getElem?_append_left hb]

theorem itoaP_sound {P : Program} {g ff fi : Nat} (hg : P.globalNamed "internal/strconv.uint64pow10" = some g)
    (hF : ∀ (n : Int), -9223372036854775808 ≤ n → n ≤ 9223372036854775807 → ∀ w : World, Lib.TabIs P w "internal/strconv.uint64pow10" .u64 Lib.pow10Tab →
      Calls P ff #[.int .i64 n, .int .i64 10] w fun e u => e = .returned (.string ⟨(Lib.itoa n).toArray⟩) ∧ ∃ k os, u = grow (w.drewN k) os)
    (hI : ∀ (n : Int), -9223372036854775808 ≤ n → n ≤ 9223372036854775807 → ∀ w : World, Lib.TabIs P w "internal/strconv.uint64pow10" .u64 Lib.pow10Tab →
      Calls P fi #[.int .i64 n] w fun e u => e = .returned (.string ⟨(Lib.itoa n).toArray⟩) ∧ ∃ k os, u = grow (w.drewN k) os) : CallSound P (itoaP g ff fi) := by
  refine sound_of_plain fun f ts σ t τ h => ?_
  unfold itoaP at h
  split at h
  · rename_i hf
    have := Nat.eq_of_beq_eq_true hf
    subst this
    split at h
    · rename_i n b
      split at h
      · rename_i hc
        rw [Bool.and_eq_true, Bool.and_eq_true] at hc
        have h1 := of_decide_eq_true hc.1.1
        have h2 := of_decide_eq_true hc.1.2
        have h3 := of_decide_eq_true hc.2
        subst h2
        cases h
        refine ⟨rfl, fun ι w vs hR hA => ?_⟩
        obtain ⟨u0, u1, rfl, a, a'⟩ := all2_two hA
        have a : u0 = .int .i64 n := a
        have a' : u1 = .int .i64 10 := a'
        subst a; subst a'
        refine (hF n h1.1 h1.2 w (tab_of hR h3 hg)).mono ?_
        rintro e u ⟨rfl, k, os, rfl⟩
        exact ⟨_, rfl, Still.grown w k os, _, rfl, (itoaF_eq hc.1.1).symm⟩
      · cases h
    · cases h
  · split at h
    · rename_i hf
      have := Nat.eq_of_beq_eq_true hf
      subst this
      split at h
      · rename_i n
        split at h
        · rename_i hc
          rw [Bool.and_eq_true] at hc
          have h1 := of_decide_eq_true hc.1
          have h3 := of_decide_eq_true hc.2
          cases h
          refine ⟨rfl, fun ι w vs hR hA => ?_⟩
          cases hA with
          | cons a b =>
            cases b
            have a : _ = Value.int .i64 n := a
            subst a
            refine (hI n h1.1 h1.2 w (tab_of hR h3 hg)).mono ?_
            rintro e u ⟨rfl, k, os, rfl⟩
            exact ⟨_, rfl, Still.grown w k os, _, rfl, (itoaF_eq hc.1).symm⟩
        · cases h
      · cases h
    · cases h

theorem itoaP_fmt {g ff fi : Nat} {n : Int} {σ : St} (h : i64B n = true) (ht : σ.get 0 = some (.glob g (pow10.map (S.int .u64)))) : itoaP g ff fi ff [I .i64 n, I .i64 10] σ = some (Z (.str (itoaF n)), σ) := by
  have h3 : hasTab g .u64 pow10 σ = true := decide_eq_true ht
  simp [itoaP, h, h3]
theorem itoaP_int {g ff fi : Nat} {n : Int} {σ : St} (hne : Nat.beq fi ff = false) (h : i64B n = true) (ht : σ.get 0 = some (.glob g (pow10.map (S.int .u64)))) : itoaP g ff fi fi [I .i64 n] σ = some (Z (.str (itoaF n)), σ) := by
  have h3 : hasTab g .u64 pow10 σ = true := decide_eq_true ht
  simp [itoaP, hne, h, h3]
end Go.Abs.F


/-
  A table that a row's list lays, wherever it stands on the list.
-/
namespace Go.Abs
open Go

theorem tabIs_of_vars {P : Program} {W : World} {name : String} {k : IntKind} {zs : List Int} {g : Nat} {t e : TypeId} {n : Nat}
    (hg : P.globalNamed name = some g) (hty : (P.globals[g]?).map (·.type) = some t) (ht : P.underlying t = some (.array n e)) (he : P.underlying e = some (.int k)) (hce : P.cellsOf e = 1) (hct : P.cellsOf t = n) :
    ∀ (l : List (String × DataW Unit)) (ps : List MemPlace), DataW.LaidVars P W l ps → (name, Lib.tabData k zs) ∈ l → Lib.TabIs P W name k zs
  | [], _, _, h => by cases h
  | (m, d) :: r, ps, hv, h => by
    obtain ⟨g', t', cs, fuel, p, q, hg', ht', hvar, hd, hr, _⟩ := hv
    rcases List.mem_cons.1 h with h | h
    · cases h
      obtain rfl := Option.some.inj (hg.symm.trans hg')
      obtain rfl := Option.some.inj (hty.symm.trans ht')
      unfold Lib.TabIs
      rw [hvar, ← Lib.cells_of_tab ht he hce hct hd]
    · exact tabIs_of_vars hg hty ht he hce hct r q hr h

theorem tabIs_of_laid {P : Program} {W : World} {name : String} {k : IntKind} {zs : List Int} {g : Nat} {t e : TypeId} {n j : Nat} {l : List (String × DataW Unit)}
    (hg : P.globalNamed name = some g) (hty : (P.globals[g]?).map (·.type) = some t) (ht : P.underlying t = some (.array n e)) (he : P.underlying e = some (.int k)) (hce : P.cellsOf e = 1) (hct : P.cellsOf t = n)
    (h : laidMet P l W) (hm : l[j]? = some (name, Lib.tabData k zs)) : Lib.TabIs P W name k zs := by
  obtain ⟨ps, hv, _⟩ := h
  exact tabIs_of_vars hg hty ht he hce hct l ps hv (List.mem_of_getElem? hm)
end Go.Abs

