/-
  How an abstract store reads in a world; what a step may do to both; loads, stores, new blocks.
-/
import Derived.Test.YtgecidicpdobfaaDoorAbsCore
namespace Go.Abs
open Go

/-- A block that may be written. -/
def live : Option Blk → Prop
  | some (.cells true _) => True
  | some (.map _) => True
  | _ => False

/-- A block that is read. -/
def held : Option Blk → Prop
  | some (.cells _ _) => True
  | some (.map _) => True
  | _ => False

theorem live.held {b : Option Blk} (h : live b) : held b := by
  match b, h with
  | some (.cells true _), _ => trivial
  | some (.map _), _ => trivial

def EntRel (ι : Inj) (p : S × V) (e : MapEntry) : Prop := SRel ι p.1 e.key ∧ VRel ι p.2 e.val

theorem EntRel.mono {ι κ : Inj} (h : ι.le κ) (p : S × V) (e : MapEntry) (k : EntRel ι p e) : EntRel κ p e := ⟨k.1.mono h, k.2.mono h⟩

def BlkRel (ι : Inj) (L : Loc) (w : World) : Blk → Prop
  | .cells own vs => ∃ (c : Array Value) (e : TypeId) (fz : Nat × Nat), w.heap[L.b]? = some (.cells c e fz) ∧ c.size = L.size ∧ L.base + vs.length ≤ L.size ∧
      (∀ j x, vs[j]? = some x → ∃ v, c[L.base + j]? = some v ∧ SRel ι x v) ∧ (own = true → fz.1 = fz.2 ∨ c.size ≤ fz.1)
  | .map es => ∃ (mes : Array MapEntry) (clk : Nat), w.heap[L.b]? = some (.map mes clk) ∧ All2 (EntRel ι) es mes.toList ∧
      mes.toList.Pairwise (fun x y => x.born < y.born) ∧ ∀ e ∈ mes.toList, e.born < clk
  | .dead => True

theorem BlkRel.mono {ι κ : Inj} (h : ι.le κ) {L : Loc} {w : World} {b : Blk} (k : BlkRel ι L w b) : BlkRel κ L w b := by
  cases b with
  | cells own vs =>
    obtain ⟨c, e, fz, h1, h2, h3, h4, h5⟩ := k
    exact ⟨c, e, fz, h1, h2, h3, fun j x hx => let ⟨v, hv, r⟩ := h4 j x hx; ⟨v, hv, r.mono h⟩, h5⟩
  | map es =>
    obtain ⟨mes, clk, h1, h2, h3⟩ := k
    exact ⟨mes, clk, h1, forall2_mono (EntRel.mono h) h2, h3⟩
  | dead => trivial

theorem BlkRel.congr {ι : Inj} {L : Loc} {w u : World} {b : Blk} (h : u.heap[L.b]? = w.heap[L.b]?) (k : BlkRel ι L w b) : BlkRel ι L u b := by
  cases b with
  | cells own vs => obtain ⟨c, e, fz, h1, h2⟩ := k; exact ⟨c, e, fz, h.trans h1, h2⟩
  | map es => obtain ⟨mes, clk, h1, h2⟩ := k; exact ⟨mes, clk, h.trans h1, h2⟩
  | dead => trivial

theorem BlkRel.lt {ι : Inj} {L : Loc} {w : World} {b : Blk} (k : BlkRel ι L w b) (h : held (some b)) : L.b < w.heap.size := by
  cases b with
  | cells own vs => obtain ⟨c, e, fz, h1, h2⟩ := k; exact (Array.getElem?_eq_some_iff.1 h1).1
  | map es => obtain ⟨mes, clk, h1, h2⟩ := k; exact (Array.getElem?_eq_some_iff.1 h1).1
  | dead => exact h.elim

structure Rel (ι : Inj) (g : Nat → Option Blk) (w : World) : Prop where
  blk : ∀ i L b, ι i = some L → g i = some b → BlkRel ι L w b
  sep : ∀ i j L M, ι i = some L → ι j = some M → live (g i) → held (g j) → i ≠ j → L.b ≠ M.b

/-- A store whose blocks beyond its size are none. -/
def St.wf (σ : St) : Prop := ∀ i, σ.size ≤ i → σ.get i = none

theorem St.wf.lt {σ : St} (h : σ.wf) {i : Nat} {b : Blk} (k : σ.get i = some b) : i < σ.size := by
  rcases Nat.lt_or_ge i σ.size with h' | h'
  · exact h'
  · rw [h i h'] at k; cases k

theorem St.wf_push {σ : St} (h : σ.wf) (b : Blk) : (σ.push b).wf := by
  intro i hi
  simp only [St.size_push] at hi
  rw [St.get_push_ne _ _ (by omega)]
  exact h i (by omega)

theorem St.wf_set {σ : St} (h : σ.wf) {i : Nat} (hi : i < σ.size) (b : Blk) : (σ.set i b).wf := by
  intro k hk
  simp only [St.size_set] at hk
  rw [St.get_set_ne _ _ (by omega)]
  exact h k hk

theorem St.wf_empty : St.empty.wf := fun _ _ => rfl

structure Ext (ι : Inj) (σ : St) (w : World) (κ : Inj) (τ : St) (u : World) : Prop where
  size : σ.size ≤ τ.size
  agree : ∀ i, (i < σ.size ∨ τ.size ≤ i) → κ i = ι i
  own : ∀ i, i < σ.size → live (τ.get i) → live (σ.get i)
  hold : ∀ i, i < σ.size → held (τ.get i) → held (σ.get i)
  ghost : ∀ i, i < σ.size → ι i = none → τ.get i = σ.get i
  fresh : ∀ i L, σ.size ≤ i → i < τ.size → κ i = some L → held (τ.get i) → w.heap.size ≤ L.b ∨ ∃ j M, j < σ.size ∧ ι j = some M ∧ M.b = L.b ∧ live (σ.get j)
  os : u.os = w.os
  output : u.output = w.output
  hsize : w.heap.size ≤ u.heap.size
  keep : ∀ k, k < w.heap.size → (∀ i L, i < σ.size → ι i = some L → live (σ.get i) → L.b ≠ k) → u.heap[k]? = w.heap[k]?

theorem Ext.refl (ι : Inj) (σ : St) (w : World) : Ext ι σ w ι σ w :=
  ⟨Nat.le_refl _, fun _ _ => rfl, fun _ _ h => h, fun _ _ h => h, fun _ _ _ => rfl, fun i _ h1 h2 => by omega, rfl, rfl, Nat.le_refl _, fun _ _ _ => rfl⟩

theorem Ext.trans {ι κ l : Inj} {σ τ υ : St} {w u x : World} (h : Ext ι σ w κ τ u) (k : Ext κ τ u l υ x) : Ext ι σ w l υ x where
  size := Nat.le_trans h.size k.size
  agree := fun i hi => by
    rcases hi with hi | hi
    · rw [k.agree i (.inl (Nat.lt_of_lt_of_le hi h.size)), h.agree i (.inl hi)]
    · rw [k.agree i (.inr hi), h.agree i (.inr (Nat.le_trans k.size hi))]
  own := fun i hi hl => h.own i hi (k.own i (Nat.lt_of_lt_of_le hi h.size) hl)
  hold := fun i hi hl => h.hold i hi (k.hold i (Nat.lt_of_lt_of_le hi h.size) hl)
  ghost := fun i hi hn => by
    rw [k.ghost i (Nat.lt_of_lt_of_le hi h.size) (by rw [h.agree i (.inl hi)]; exact hn), h.ghost i hi hn]
  fresh := fun i L h1 h2 hL hl => by
    rcases Nat.lt_or_ge i τ.size with hi | hi
    · rw [k.agree i (.inl hi)] at hL
      exact h.fresh i L h1 hi hL (k.hold i hi hl)
    · rcases k.fresh i L hi h2 hL hl with f | ⟨j, M, hj, hM, e, hlj⟩
      · exact .inl (Nat.le_trans h.hsize f)
      · rcases Nat.lt_or_ge j σ.size with hj' | hj'
        · rw [h.agree j (.inl hj')] at hM
          exact .inr ⟨j, M, hj', hM, e, h.own j hj' hlj⟩
        · have := h.fresh j M hj' hj hM hlj.held
          rwa [e] at this
  os := k.os.trans h.os
  output := k.output.trans h.output
  hsize := Nat.le_trans h.hsize k.hsize
  keep := fun b hb hn => by
    rw [k.keep b (Nat.lt_of_lt_of_le hb h.hsize), h.keep b hb hn]
    intro i L hi hL hl e
    rcases Nat.lt_or_ge i σ.size with hi' | hi'
    · rw [h.agree i (.inl hi')] at hL
      exact hn i L hi' hL (h.own i hi' hl) e
    · rcases h.fresh i L hi' hi hL hl.held with f | ⟨j, M, hj, hM, e', hlj⟩
      · omega
      · exact hn j M hj hM hlj (e'.trans e)

/-- The new numbers are free: what was related stays so. -/
def Free (ι : Inj) (a b : Nat) : Prop := ∀ i, a ≤ i → i < b → ι i = none

theorem Ext.le {ι κ : Inj} {σ τ : St} {w u : World} (h : Ext ι σ w κ τ u) (hf : Free ι σ.size τ.size) : ι.le κ := by
  intro i L hL
  rcases Nat.lt_or_ge i σ.size with hi | hi
  · rw [h.agree i (.inl hi)]; exact hL
  · rcases Nat.lt_or_ge i τ.size with hi' | hi'
    · rw [hf i hi hi'] at hL; cases hL
    · rw [h.agree i (.inr hi')]; exact hL

theorem Free.sub {ι : Inj} {a b a' b' : Nat} (h : Free ι a b) (h1 : a ≤ a') (h2 : b' ≤ b) : Free ι a' b' := fun i k l => h i (Nat.le_trans h1 k) (Nat.lt_of_lt_of_le l h2)
theorem Free.next {ι κ : Inj} {σ τ : St} {w u : World} {n : Nat} (h : Free ι σ.size n) (e : Ext ι σ w κ τ u) : Free κ τ.size n := fun i k l => by
  rw [e.agree i (.inr k)]; exact h i (Nat.le_trans e.size k) l

/-- A world that differs by its draws alone. -/
theorem Rel.heap {ι : Inj} {g : Nat → Option Blk} {w u : World} (h : Rel ι g w) (e : u.heap = w.heap) : Rel ι g u :=
  ⟨fun i L b h1 h2 => (h.blk i L b h1 h2).congr (by rw [e]), h.sep⟩

theorem Ext.heap {ι : Inj} {σ : St} {w u : World} (e : u.heap = w.heap) (h1 : u.os = w.os) (h2 : u.output = w.output) : Ext ι σ w ι σ u :=
  ⟨Nat.le_refl _, fun _ _ => rfl, fun _ _ h => h, fun _ _ h => h, fun _ _ _ => rfl, fun i _ h1 h2 => by omega, h1, h2, by rw [e]; exact Nat.le_refl _, fun _ _ _ => by rw [e]⟩

section loads
variable {P : Program} {ι : Inj} {g : Nat → Option Blk} {w : World}

theorem cell_of {i o : Nat} {L : Loc} {own : Bool} {vs : List S} {x : S} (h : Rel ι g w) (hL : ι i = some L) (hb : g i = some (.cells own vs)) (hx : vs[o]? = some x) :
    ∃ v, w.cell? ⟨L.b, L.base + o, none⟩ = some v ∧ SRel ι x v := by
  obtain ⟨c, e, fz, h1, h2, h3, h4, h5⟩ := h.blk i L _ hL hb
  obtain ⟨v, hv, r⟩ := h4 o x hx
  exact ⟨v, by simp [World.cell?, h1, hv], r⟩

theorem run_load_of {i o : Nat} {L : Loc} {own : Bool} {vs : List S} {x : S} (h : Rel ι g w) (hL : ι i = some L) (hb : g i = some (.cells own vs)) (hx : vs[o]? = some x) :
    ∃ v, (load ⟨L.b, L.base + o, none⟩).run P w = .ok v w ∧ SRel ι x v := by
  obtain ⟨v, hv, r⟩ := cell_of h hL hb hx
  exact ⟨v, by simp [load, Sem.run, hv], r⟩

theorem run_bind {α β : Type} (m : Sem α) (f : α → Sem β) (w : World) : (m >>= f).run P w = match m.run P w with | .ok a u => (f a).run P u | .halt h u => .halt h u := by
  show (m.bind f).run P w = _
  induction m generalizing w with
  | pure a => rfl
  | load md a k ih =>
    simp only [Sem.bind, Sem.run]
    (repeat' split) <;> simp_all
  | store md a v k ih =>
    cases v <;> simp only [Sem.bind, Sem.run] <;> first | rfl | ((repeat' split) <;> simp_all)
  | new o k ih => simp only [Sem.bind, Sem.run, ih]
  | shape r k ih => simp only [Sem.bind, Sem.run, ih]
  | freeze a n k ih => simp only [Sem.bind, Sem.run, ih]
  | frozen a k ih => simp only [Sem.bind, Sem.run, ih]
  | getObj r k ih =>
    simp only [Sem.bind, Sem.run]
    (repeat' split) <;> simp_all
  | setObj r o k ih =>
    simp only [Sem.bind, Sem.run]
    (repeat' split) <;> simp_all
  | choose q k ih =>
    simp only [Sem.bind, Sem.run]
    (repeat' split) <;> simp_all
  | sys c k ih => simp only [Sem.bind, Sem.run, ih]
  | program k ih => simp only [Sem.bind, Sem.run, ih]
  | mark m k ih => simp only [Sem.bind, Sem.run, ih]
  | halt h => rfl

theorem run_pure {α : Type} (a : α) (w : World) : (pure a : Sem α).run P w = .ok a w := rfl

theorem add_eq (b o n : Nat) : (⟨b, o, none⟩ : Addr).add n = ⟨b, o + n, none⟩ := by
  unfold Addr.add
  by_cases h : n = 0
  · simp [h]
  · simp [h]

theorem run_loadFrom {i o : Nat} {L : Loc} {own : Bool} {vs : List S} (h : Rel ι g w) (hL : ι i = some L) (hb : g i = some (.cells own vs)) :
    ∀ (n k : Nat) (acc : Array Value) (xs : List S), (vs.drop (o + k)).take n = xs → xs.length = n →
      ∃ cs : List Value, (loadCellsFrom ⟨L.b, L.base + o, none⟩ k n acc).run P w = .ok (acc ++ cs.toArray) w ∧ All2 (SRel ι) xs cs := by
  intro n
  induction n with
  | zero =>
    intro k acc xs he hl
    have : xs = [] := List.eq_nil_of_length_eq_zero hl
    subst this
    exact ⟨[], by simp [loadCellsFrom, run_pure], .nil⟩
  | succ n ih =>
    intro k acc xs he hl
    cases xs with
    | nil => simp at hl
    | cons x xs =>
      have hx : vs[o + k]? = some x := by
        have := congrArg (·[0]?) he
        simpa [List.getElem?_take, List.getElem?_drop] using this
      have hr : (vs.drop (o + (k + 1))).take n = xs := by
        have := congrArg List.tail he
        rw [List.tail_cons] at this
        rw [← this]
        cases hd : vs.drop (o + k) with
        | nil => rw [hd] at he; simp at he
        | cons y ys =>
          have : vs.drop (o + (k + 1)) = ys := by
            rw [← Nat.add_assoc, ← List.drop_drop, hd]; rfl
          simp [this]
      obtain ⟨v, hv, r⟩ := run_load_of (P := P) h hL hb hx
      obtain ⟨cs, hcs, rs⟩ := ih (k + 1) (acc.push v) xs hr (by simpa using hl)
      refine ⟨v :: cs, ?_, .cons r rs⟩
      simp only [loadCellsFrom, run_bind, add_eq, Nat.add_assoc, hv, hcs]
      simp

theorem run_loadCells {i o n : Nat} {L : Loc} {own : Bool} {vs xs : List S} (h : Rel ι g w) (hL : ι i = some L) (hb : g i = some (.cells own vs))
    (he : (vs.drop o).take n = xs) (hl : xs.length = n) :
    ∃ cs : List Value, (loadCells ⟨L.b, L.base + o, none⟩ n).run P w = .ok cs.toArray w ∧ All2 (SRel ι) xs cs := by
  obtain ⟨cs, h1, h2⟩ := run_loadFrom (P := P) (o := o) h hL hb n 0 #[] xs (by simpa using he) hl
  exact ⟨cs, by simpa [loadCells] using h1, h2⟩
end loads
end Go.Abs
