/-
  Loops by an invariant; rules for slices and their elements.
-/
import Derived.Test.YtgecidicpdobfaaDoorAbsSimp
import Derived.Test.YtgecidicpdobfaaDoorAbsIn
namespace Go.Abs.F
open Go Go.Abs

theorem loops_inv {f : List T → St → Option (JO × St)} (In : Nat → List T → St → Prop) (Q : JO → St → Prop)
    (step : ∀ k v s, In k v s → (∃ v' s' k', f v s = some (.normal v', s') ∧ k = k' + 1 ∧ In k' v' s') ∨ ∃ j s', f v s = some (j, s') ∧ (∀ v, j ≠ .normal v) ∧ Q j s') :
    ∀ N k v s, In k v s → k < N → ∃ j τ, loops f N v s = some (j, τ) ∧ Q j τ := by
  intro N
  induction N with
  | zero => intro k v s _ h; omega
  | succ N ih =>
    intro k v s hi hk
    rcases step k v s hi with ⟨v', s', k', hf, hk', hi'⟩ | ⟨j, s', hf, hj, hq⟩
    · obtain ⟨j, τ, h, hq⟩ := ih k' v' s' hi' (by omega)
      exact ⟨j, τ, by simp only [loops, hf]; exact h, hq⟩
    · refine ⟨j, s', ?_, hq⟩
      cases j with
      | normal v => exact absurd rfl (hj v)
      | exit i v => simp only [loops, hf]
      | ret r => simp only [loops, hf]

@[simp] theorem aLenSl_sl (b o len : Nat) (c : Cap) : aLenSl (Z (.sl b o len c)) = some (I .i64 len) := nz rfl
@[simp] theorem aLenSl_nils : aLenSl (Z .nils) = some (I .i64 0) := nz rfl
@[simp] theorem aLenSl_emp (i e : Nat) : aLenSl (Z (.emp i e)) = some (I .i64 0) := nz rfl

theorem aIndexSl_int {e b o len : Nat} {c : Cap} {k : IntKind} {n : Int} {j : Nat} (hn : n = j) (h : j < len) : aIndexSl e (Z (.sl b o len c)) (I k n) = some (Z (.ptr b (o + j * e))) := by
  subst hn
  simp [aIndexSl, aIdx, h]

theorem argBlk_load {s : St} {i j : Nat} {vs : List S} {x : S} (h : s.get i = some (argBlk vs)) (hx : vs[j]? = some x) : aLoad1 (Z (.ptr i j)) s.get = some (Z x) := by
  rw [argBlk_get hx] at h
  exact aLoad1_of h hx
end Go.Abs.F
namespace Go.Abs
open Go Go.Abs.F

/-- A slice argument: nil, or its rows one behind the other in this block. -/
def SlOf (a : T) (c : Nat) (rows : List (List S)) : Prop := (a = Z .nils ∧ rows = []) ∨ ∃ cap, rows.length ≤ cap ∧ a = Z (.sl c 0 rows.length (.known cap))

theorem SlOf.len {a : T} {c : Nat} {rows : List (List S)} (h : SlOf a c rows) : aLenSl a = some (I .i64 rows.length) := by
  rcases h with ⟨rfl, rfl⟩ | ⟨cap, _, rfl⟩ <;> rfl

theorem SlOf.index {a : T} {c : Nat} {rows : List (List S)} (h : SlOf a c rows) {k : IntKind} {e j : Nat} {n : Int} (hn : n = j) (hj : j < rows.length) : aIndexSl e a (I k n) = some (Z (.ptr c (j * e))) := by
  rcases h with ⟨rfl, rfl⟩ | ⟨cap, _, rfl⟩
  · simp at hj
  · rw [aIndexSl_int hn hj, Nat.zero_add]

theorem rows_get {rows : List (List S)} {e : Nat} (he : ∀ r ∈ rows, r.length = e) : ∀ (j f : Nat) (r : List S), rows[j]? = some r → f < e → rows.flatten[j * e + f]? = r[f]? := by
  induction rows with
  | nil => intro j f r h; simp at h
  | cons a l ih =>
    intro j f r h hf
    have ha := he a List.mem_cons_self
    rw [List.flatten_cons]
    cases j with
    | zero =>
      simp at h
      subst h
      rw [Nat.zero_mul, Nat.zero_add, List.getElem?_append_left (by omega)]
    | succ j =>
      simp at h
      rw [Nat.add_mul, Nat.one_mul, List.getElem?_append_right (by omega), show j * e + e + f - a.length = j * e + f by omega]
      exact ih (fun r hr => he r (List.mem_cons_of_mem _ hr)) j f r h hf

theorem Inp.dead {W : World} {σ : St} {vs : List Value} {ts : List T} (h : Inp W σ vs ts) : Inp W (σ.push .dead) vs ts := by
  obtain ⟨ι, h1, h2, h3, h4, h5⟩ := h
  have ne : ∀ i L, ι i = some L → i ≠ σ.size := by
    intro i L hi e
    rw [h3 i (by omega)] at hi
    cases hi
  refine ⟨ι, ⟨fun i L b hi hb => ?_, fun i j L M hi hj hl hh => ?_⟩, St.wf_push h2 _, fun i hi => h3 i (by rw [St.size_push] at hi; omega), fun i hl => ?_, h5⟩
  · rw [St.get_push_ne _ _ (ne i L hi)] at hb
    exact h1.blk i L b hi hb
  · rw [St.get_push_ne _ _ (ne i L hi)] at hl
    exact absurd hl (h4 i)
  · by_cases e : i = σ.size
    · subst e
      rw [St.get_push_same] at hl
      exact hl
    · rw [St.get_push_ne _ _ e] at hl
      exact h4 i hl

theorem Inp.flats {H : Type} {enc : TypeId × Value → H} {P : Program} {base b0 : Nat} {spare : Nat → Bool} {hd : Bool} {W : World} {σ : St} {vs : List Value} {ts : List T} (h : Inp W σ vs ts)
    {r : Reach} {t e : TypeId} {ks : List AK} {n : Nat} {v : Value} {d : DataW H} {ps : List MemPlace} (ht : P.underlying t = some (.slice e)) (hk : flatK P n e = some ks) (hc : P.cellsOf e = ks.length)
    (hval : Value.okWide P W r b0 t v) (hdd : DataW.Trod enc P W base spare hd t v d ps) :
    ∃ rows : List (List S), (∀ x ∈ rows, All2 KS ks x) ∧ ∃ a, SlOf a σ.size rows ∧ Inp W (σ.push (argBlk rows.flatten)) (v :: vs) (a :: ts) := by
  rcases open_flats ht hk hc hval hdd with rfl | ⟨b, o, cap, rows, rfl, hl, hr, L, hb, ho, hx⟩
  · exact ⟨[], (fun x hx => by cases hx), Z .nils, .inl ⟨rfl, rfl⟩, h.dead.flat (x := .nils) fun _ => rfl⟩
  · exact ⟨rows, hr, _, .inr ⟨cap, hl, rfl⟩, h.slice hl L hb ho hx⟩

theorem KS.int {k : IntKind} {x : S} (h : KS (.int k) x) : ∃ n, x = .int k n ∧ (Lit.int k n).wf = true := by
  cases x <;> first | exact h.elim | (obtain ⟨rfl, hw⟩ := h; exact ⟨_, rfl, hw⟩)

theorem ints_of {ks : List IntKind} {r : List S} (h : All2 KS (ks.map .int) r) : ∃ ns : List Int, r = List.zipWith S.int ks ns ∧ ns.length = ks.length ∧ ∀ (j : Nat) (k : IntKind) (n : Int), ks[j]? = some k → ns[j]? = some n → (Lit.int k n).wf = true := by
  induction ks generalizing r with
  | nil => cases h; exact ⟨[], rfl, rfl, fun j k n h => by simp at h⟩
  | cons k ks ih =>
    cases h with
    | cons a b =>
      obtain ⟨n, rfl, hw⟩ := KS.int a
      obtain ⟨ns, rfl, hl, hh⟩ := ih b
      refine ⟨n :: ns, rfl, by simp [hl], fun j k' n' h1 h2 => ?_⟩
      cases j with
      | zero => simp at h1 h2; subst h1; subst h2; exact hw
      | succ j => exact hh j k' n' (by simpa using h1) (by simpa using h2)
end Go.Abs
