/-
  New blocks and stores: what they do to the store and to the world.
-/
import Derived.Test.YtgecidicpdobfaaDoorAbsRel
namespace Go.Abs
open Go

/-- A run that ends well, in a world that the new store reads. -/
def Does (P : Program) (ι : Inj) (σ : St) (w : World) {α : Type} (m : Sem α) (τ : St) (R : Inj → α → Prop) : Prop :=
  ∃ κ u a, m.run P w = .ok a u ∧ Ext ι σ w κ τ u ∧ Rel κ τ.get u ∧ R κ a

def upd (ι : Inj) (n : Nat) (L : Loc) : Inj := fun i => if i = n then some L else ι i
theorem upd_same (ι : Inj) (n : Nat) (L : Loc) : upd ι n L n = some L := by simp [upd]
theorem upd_ne (ι : Inj) {n i : Nat} (L : Loc) (h : i ≠ n) : upd ι n L i = ι i := by simp [upd, h]
theorem le_upd {ι : Inj} {n : Nat} (L : Loc) (h : ι n = none) : ι.le (upd ι n L) := by
  intro i M hM
  by_cases e : i = n
  · subst e; rw [h] at hM; cases hM
  · rw [upd_ne _ _ e]; exact hM

def isCells : Obj → Prop
  | .cells .. => True
  | .map .. => True
  | _ => False

theorem push_get (w : World) (o : Obj) (k : Nat) (h : k < w.heap.size) : (w.heap.push o)[k]? = w.heap[k]? := by
  rw [Array.getElem?_push, if_neg (by omega)]
theorem push_last (w : World) (o : Obj) : (w.heap.push o)[w.heap.size]? = some o := by simp

theorem live_of_push {σ : St} {b : Blk} {i : Nat} (h : i ≠ σ.size) : (σ.push b).get i = σ.get i := St.get_push_ne _ _ h

/-- A new block in the world, a new number in the store. -/
theorem rel_push {ι : Inj} {σ : St} {w : World} (h : Rel ι σ.get w) (wf : σ.wf) (hf : ι σ.size = none) (o : Obj) (L : Loc) (b : Blk) (hL : L.b = w.heap.size)
    (hb : BlkRel (upd ι σ.size L) L { w with heap := w.heap.push o } b) :
    Ext ι σ w (upd ι σ.size L) (σ.push b) { w with heap := w.heap.push o } ∧ Rel (upd ι σ.size L) (σ.push b).get { w with heap := w.heap.push o } := by
  have hle := le_upd L hf
  constructor
  · refine ⟨by simp, ?_, ?_, ?_, ?_, ?_, rfl, rfl, by simp, ?_⟩
    · intro i hi
      simp only [St.size_push] at hi
      exact upd_ne _ _ (by omega)
    · intro i hi hl
      rwa [live_of_push (by omega)] at hl
    · intro i hi hl
      rwa [live_of_push (by omega)] at hl
    · intro i hi _
      exact live_of_push (by omega)
    · intro i M h1 h2 hM hl
      simp only [St.size_push] at h2
      have : i = σ.size := by omega
      subst this
      rw [upd_same] at hM
      cases hM
      exact .inl (by omega)
    · intro k hk _
      exact push_get w o k hk
  · constructor
    · intro i M c hM hc
      by_cases e : i = σ.size
      · subst e
        rw [upd_same] at hM; cases hM
        rw [St.get_push_same] at hc; cases hc
        exact hb
      · rw [upd_ne _ _ e] at hM
        rw [live_of_push e] at hc
        have hr := h.blk i M c hM hc
        cases c with
        | dead => trivial
        | cells own vs => exact (hr.mono hle).congr (push_get w o _ (hr.lt trivial))
        | map es => exact (hr.mono hle).congr (push_get w o _ (hr.lt trivial))
    · intro i j M N hM hN hl hh hne
      by_cases e : i = σ.size
      · subst e
        rw [upd_same] at hM; cases hM
        have ej : j ≠ σ.size := fun x => hne x.symm
        rw [upd_ne _ _ ej] at hN
        rw [live_of_push ej] at hh
        cases hg : σ.get j with
        | none => rw [hg] at hh; exact hh.elim
        | some c =>
          rw [hg] at hh
          have := (h.blk j N c hN hg).lt hh
          omega
      · rw [upd_ne _ _ e] at hM
        rw [live_of_push e] at hl
        by_cases ej : j = σ.size
        · subst ej
          rw [upd_same] at hN; cases hN
          cases hg : σ.get i with
          | none => rw [hg] at hl; exact hl.elim
          | some c =>
            rw [hg] at hl
            have := (h.blk i M c hM hg).lt hl.held
            omega
        · rw [upd_ne _ _ ej] at hN
          rw [live_of_push ej] at hh
          exact h.sep i j M N hM hN hl hh hne

/-- The cells of a row that is laid anew. -/
theorem does_newRow {P : Program} {ι : Inj} {σ : St} {w : World} (h : Rel ι σ.get w) (wf : σ.wf) (hf : ι σ.size = none) (e : TypeId) {own : Bool} {vs : List S} {cs : List Value}
    (more : Array Value) (hv : All2 (SRel ι) vs cs) :
    Does P ι σ w (newRow e (cs.toArray ++ more)) (σ.push (.cells own vs)) fun κ a =>
      κ = upd ι σ.size ⟨w.heap.size, 0, cs.length + more.size⟩ ∧ a = ⟨w.heap.size, 0, none⟩ := by
  have hlen := forall2_length hv
  let L : Loc := ⟨w.heap.size, 0, cs.length + more.size⟩
  obtain ⟨he, hr⟩ := rel_push h wf hf (.cells (cs.toArray ++ more) e (0, 0)) L (.cells own vs) rfl (by
    refine ⟨cs.toArray ++ more, e, (0, 0), push_last w _, by simp [L], by simp [L]; omega, ?_, fun _ => .inl rfl⟩
    intro j x hx
    obtain ⟨v, hv', r⟩ := forall2_get hv j x hx
    refine ⟨v, ?_, r.mono (le_upd L hf)⟩
    have hj : j < cs.length := (List.getElem?_eq_some_iff.1 hv').1
    simp only [L, Nat.zero_add]
    rw [Array.getElem?_append_left (by simpa using hj)]
    simpa using hv')
  exact ⟨_, _, _, rfl, he, hr, rfl, rfl⟩

theorem does_newMap {P : Program} {ι : Inj} {σ : St} {w : World} (h : Rel ι σ.get w) (wf : σ.wf) (hf : ι σ.size = none) :
    Does P ι σ w (newObj (.map #[] 0)) (σ.push (.map [])) fun κ a => κ = upd ι σ.size ⟨w.heap.size, 0, 0⟩ ∧ a = w.heap.size := by
  obtain ⟨he, hr⟩ := rel_push h wf hf (.map #[] 0) ⟨w.heap.size, 0, 0⟩ (.map []) rfl (by
    exact ⟨#[], 0, push_last w _, .nil, .nil, by simp⟩)
  exact ⟨_, _, _, rfl, he, hr, rfl, rfl⟩

/-- A block of the world turned, and the block of the store that it is. -/
theorem rel_set {ι : Inj} {σ : St} {w : World} (h : Rel ι σ.get w) (wf : σ.wf) {i : Nat} {L : Loc} {b : Blk} (hL : ι i = some L) (hb : σ.get i = some b) (hl : live (some b)) (o : Obj) (b' : Blk)
    (hh : held (some b')) (hb' : BlkRel ι L { w with heap := w.heap.setIfInBounds L.b o } b') :
    Ext ι σ w ι (σ.set i b') { w with heap := w.heap.setIfInBounds L.b o } ∧ Rel ι (σ.set i b').get { w with heap := w.heap.setIfInBounds L.b o } := by
  have hi := wf.lt hb
  have hold : ∀ k, k ≠ L.b → (w.heap.setIfInBounds L.b o)[k]? = w.heap[k]? := fun k hk => Array.getElem?_setIfInBounds_ne (fun e => hk e.symm)
  constructor
  · refine ⟨Nat.le_refl _, fun _ _ => rfl, ?_, ?_, ?_, fun k M h1 h2 => by simp at h2; omega, rfl, rfl, by simp, ?_⟩
    · intro k hk hlk
      by_cases e : k = i
      · subst e; rw [hb]; exact hl
      · rwa [St.get_set_ne _ _ e] at hlk
    · intro k hk hlk
      by_cases e : k = i
      · subst e; rw [hb]; exact hl.held
      · rwa [St.get_set_ne _ _ e] at hlk
    · intro k hk hnk
      by_cases e : k = i
      · subst e; rw [hL] at hnk; cases hnk
      · exact St.get_set_ne _ _ e
    · intro k hk hn
      refine hold k fun e => ?_
      exact hn i L hi hL (by rw [hb]; exact hl) e.symm
  · constructor
    · intro k M c hM hc
      by_cases e : k = i
      · subst e
        rw [hL] at hM; cases hM
        rw [St.get_set_same] at hc; cases hc
        exact hb'
      · rw [St.get_set_ne _ _ e] at hc
        have hr := h.blk k M c hM hc
        cases c with
        | dead => trivial
        | cells own vs => exact hr.congr (hold _ (Ne.symm (h.sep i k L M hL hM (by rw [hb]; exact hl) (by rw [hc]; trivial) (Ne.symm e))))
        | map es => exact hr.congr (hold _ (Ne.symm (h.sep i k L M hL hM (by rw [hb]; exact hl) (by rw [hc]; trivial) (Ne.symm e))))
    · intro k j M N hM hN hlk hhj hne
      by_cases e : k = i
      · subst e
        rw [hL] at hM; cases hM
        have ej : j ≠ k := Ne.symm hne
        rw [St.get_set_ne _ _ ej] at hhj
        exact h.sep k j L N hL hN (by rw [hb]; exact hl) hhj hne
      · rw [St.get_set_ne _ _ e] at hlk
        by_cases ej : j = i
        · subst ej
          rw [hL] at hN; cases hN
          exact h.sep k j M L hM hL hlk (by rw [hb]; exact hl.held) hne
        · rw [St.get_set_ne _ _ ej] at hhj
          exact h.sep k j M N hM hN hlk hhj hne

/-- Cells written from a place on. -/
def setRange (vs : List S) (o : Nat) : List S → List S
  | [] => vs
  | x :: xs => setRange (vs.set o x) (o + 1) xs

@[simp] theorem setRange_length (vs : List S) (o : Nat) (xs : List S) : (setRange vs o xs).length = vs.length := by
  induction xs generalizing vs o with
  | nil => rfl
  | cons x xs ih => simp [setRange, ih]

theorem setRange_get (xs : List S) : ∀ (vs : List S) (o j : Nat), o + xs.length ≤ vs.length →
    (setRange vs o xs)[j]? = if o ≤ j ∧ j < o + xs.length then xs[j - o]? else vs[j]? := by
  induction xs with
  | nil => intro vs o j h; simp only [setRange, List.length_nil]; rw [if_neg (by omega)]
  | cons x xs ih =>
    intro vs o j h
    simp only [List.length_cons] at h
    simp only [setRange]
    rw [ih _ _ _ (by simp; omega)]
    by_cases h1 : o + 1 ≤ j ∧ j < o + 1 + xs.length
    · rw [if_pos h1, if_pos (by simp; omega)]
      obtain ⟨k, rfl⟩ : ∃ k, j = o + 1 + k := ⟨j - (o + 1), by omega⟩
      have e1 : o + 1 + k - (o + 1) = k := by omega
      have e2 : o + 1 + k - o = k + 1 := by omega
      rw [e1, e2]; simp
    · rw [if_neg h1]
      by_cases h2 : j = o
      · subst h2
        rw [if_pos (by simp)]
        simp only [Nat.sub_self, List.getElem?_cons_zero]
        rw [List.getElem?_set_self (by omega)]
      · rw [if_neg (by simp; omega), List.getElem?_set_ne (Ne.symm h2)]

theorem setRange_eq (vs : List S) (o : Nat) (xs : List S) (h : o + xs.length ≤ vs.length) : setRange vs o xs = vs.take o ++ xs ++ vs.drop (o + xs.length) := by
  apply List.ext_getElem?
  intro j
  rw [setRange_get xs vs o j h]
  by_cases h1 : j < o
  · rw [if_neg (by omega), List.append_assoc, List.getElem?_append_left (by simp; omega)]
    simp [List.getElem?_take, h1]
  · by_cases h2 : j < o + xs.length
    · rw [if_pos (by omega), List.append_assoc, List.getElem?_append_right (by simp; omega), List.getElem?_append_left (by simp; omega)]
      have : min o vs.length = o := by omega
      simp [this]
    · rw [if_neg (by omega), List.getElem?_append_right (by simp; omega), List.getElem?_drop]
      simp only [List.length_append, List.length_take]
      have : min o vs.length = o := by omega
      rw [this]
      congr 1; omega

/-- What a run of stores leaves. -/
theorem run_storeCells (P : Program) (bk : Nat) (e : TypeId) (fz : Nat × Nat) : ∀ (cs : List Value) (off k : Nat) (w : World) (c : Array Value),
    w.heap[bk]? = some (.cells c e fz) → off + k + cs.length ≤ c.size → (∀ j, j < c.size → ¬ (fz.1 ≤ j ∧ j < fz.2)) → (∀ v ∈ cs, Abs.oneCell v = true) →
    ∃ c', (storeCells ⟨bk, off, none⟩ cs k).run P w = .ok () { w with heap := w.heap.setIfInBounds bk (.cells c' e fz) } ∧ c'.size = c.size ∧
      ∀ j : Nat, c'[j]? = if off + k ≤ j ∧ j < off + k + cs.length then cs[j - (off + k)]? else c[j]? := by
  intro cs
  induction cs with
  | nil =>
    intro off k w c hc _ _ _
    refine ⟨c, ?_, rfl, fun j => by rw [if_neg (by simp only [List.length_nil]; omega)]⟩
    have : w.heap.setIfInBounds bk (.cells c e fz) = w.heap := by
      apply Array.ext_getElem?
      intro j
      by_cases h : bk = j
      · subst h
        have hlt := (Array.getElem?_eq_some_iff.1 hc).1
        rw [hc, Array.getElem?_setIfInBounds_self_of_lt hlt]
      · rw [Array.getElem?_setIfInBounds_ne h]
    rw [this]
    rfl
  | cons v cs ih =>
    intro off k w c hc hle hfz hone
    simp only [List.length_cons] at hle
    have hlt := (Array.getElem?_eq_some_iff.1 hc).1
    have hcell : w.cell? ⟨bk, off + k, none⟩ = some c[off + k] := by
      simp [World.cell?, hc]
    have hnf : w.frozen? ⟨bk, off + k, none⟩ = false := by
      have := hfz (off + k) (by omega)
      simp only [World.frozen?, hc]
      simpa using this
    have hv := hone v (by simp)
    have hstore : (store ⟨bk, off + k, none⟩ v).run P w = .ok () (w.setCell ⟨bk, off + k, none⟩ v) := by
      cases v <;> simp [Abs.oneCell] at hv <;> simp [store, Sem.run, hcell, hnf]
    have hset : w.setCell ⟨bk, off + k, none⟩ v = { w with heap := w.heap.setIfInBounds bk (.cells (c.setIfInBounds (off + k) v) e fz) } := by
      unfold World.setCell
      congr 1
      apply Array.ext_getElem?
      intro j
      rw [Array.getElem?_modify]
      by_cases h : bk = j
      · subst h
        rw [if_pos rfl, hc, Array.getElem?_setIfInBounds_self_of_lt hlt]
        simp
      · rw [if_neg h, Array.getElem?_setIfInBounds_ne h]
    obtain ⟨c', hrun, hsz, hget⟩ := ih off (k + 1) (w.setCell ⟨bk, off + k, none⟩ v) (c.setIfInBounds (off + k) v)
      (by rw [hset]; simp [hlt]) (by simp; omega) (by simpa using hfz) (fun x hx => hone x (by simp [hx]))
    refine ⟨c', ?_, by simpa using hsz, ?_⟩
    · simp only [storeCells, run_bind, add_eq, hstore, hrun]
      rw [hset]
      simp
    · intro j
      rw [hget j]
      by_cases h1 : off + (k + 1) ≤ j ∧ j < off + (k + 1) + cs.length
      · rw [if_pos h1, if_pos (by simp; omega)]
        obtain ⟨m, rfl⟩ : ∃ m, j = off + (k + 1) + m := ⟨j - (off + (k + 1)), by omega⟩
        have e1 : off + (k + 1) + m - (off + (k + 1)) = m := by omega
        have e2 : off + (k + 1) + m - (off + k) = m + 1 := by omega
        rw [e1, e2]; simp
      · rw [if_neg h1]
        by_cases h2 : j = off + k
        · subst h2
          rw [if_pos (by simp)]
          rw [Array.getElem?_setIfInBounds_self_of_lt (by omega)]
          simp
        · rw [if_neg (by simp only [List.length_cons]; omega), Array.getElem?_setIfInBounds_ne (Ne.symm h2)]

theorem all2_oneCell {ι : Inj} {xs : List S} {cs : List Value} (h : All2 (SRel ι) xs cs) : ∀ v ∈ cs, Abs.oneCell v = true := by
  induction h with
  | nil => intro v hv; cases hv
  | cons a _ ih =>
    intro v hv
    cases hv with
    | head => exact (SRel.oneCell a).1
    | tail _ hv => exact ih v hv

theorem does_storeCells {P : Program} {ι : Inj} {σ : St} {w : World} (h : Rel ι σ.get w) (wf : σ.wf) {i o : Nat} {L : Loc} {vs xs : List S} {cs : List Value}
    (hL : ι i = some L) (hb : σ.get i = some (.cells true vs)) (hle : o + xs.length ≤ vs.length) (hx : All2 (SRel ι) xs cs) :
    Does P ι σ w (storeCells ⟨L.b, L.base + o, none⟩ cs) (σ.set i (.cells true (setRange vs o xs))) fun κ _ => κ = ι := by
  obtain ⟨c, e, fz, h1, h2, h3, h4, h5⟩ := h.blk i L _ hL hb
  have hlen := forall2_length hx
  obtain ⟨c', hrun, hsz, hget⟩ := run_storeCells P L.b e fz cs (L.base + o) 0 w c h1 (by omega) (fun j hj hh => by have := h5 rfl; omega) (all2_oneCell hx)
  simp only [Nat.add_zero] at hget
  have hlt := (Array.getElem?_eq_some_iff.1 h1).1
  obtain ⟨he, hr⟩ := rel_set h wf hL hb trivial (.cells c' e fz) (.cells true (setRange vs o xs)) trivial (by
    refine ⟨c', e, fz, by simp [hlt], by omega, by simpa using h3, ?_, fun _ => by have := h5 rfl; omega⟩
    intro j x hj
    rw [setRange_get xs vs o j hle] at hj
    rw [hget (L.base + j)]
    by_cases hin : o ≤ j ∧ j < o + xs.length
    · rw [if_pos hin] at hj
      obtain ⟨v, hv, r⟩ := forall2_get hx _ _ hj
      rw [if_pos (by omega)]
      have e1 : L.base + j - (L.base + o) = j - o := by omega
      rw [e1]
      exact ⟨v, hv, r⟩
    · rw [if_neg hin] at hj
      rw [if_neg (by omega)]
      exact h4 j x hj)
  exact ⟨_, _, _, hrun, he, hr, rfl⟩
end Go.Abs
