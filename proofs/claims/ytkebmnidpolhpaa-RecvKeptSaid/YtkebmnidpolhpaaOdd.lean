/-
  RecvKept returns true, whatever its mask. No conditions.
-/
import Derived.Test.YtkebmnidpolhpaaWalk
import Derived.Test.YtkebmnidpolhpaaAbsTwin
import Derived.KernelRfl
namespace Go.Proofs.Ytkebmnidpolhpaa
open Go Go.Abs Go.Abs.F
set_option linter.unusedVariables false

/-- The loop's other temporaries at number i. -/
def At (i : Int) (l : List T) : Prop := ∃ a b c, l = [a, b, c, I .i64 i]

theorem odd_step (r : CallF) (m q : Int) (i : Nat) (h2 : 2 ≤ i) (h8 : i ≤ 8) (he : (m.fdiv (2 ^ i)) % 2 = (q.fdiv (2 ^ i)) % 2) (l : List T) (s : St) (hl : At i l) :
    TwQ (At (i + 1)) (I .i64 m) (I .i64 q) (f5_l1 r 512 (I .i64 m :: l) s) (f5_l1 r 512 (I .i64 q :: l) s) := by
  obtain ⟨a, b, c, rfl⟩ := hl
  obtain ⟨x, y, t, e1, e2, e3, e4⟩ := bit_low m q i (by omega) he
  have hw : IntKind.u64.wrap i = i := wrap_u64_in _ (by omega) (by omega)
  have hw2 : IntKind.i64.wrap (i + 1) = i + 1 := wrap_in _ (by omega) (by omega)
  have hle : (i : Int) ≤ 8 := by omega
  unfold f5_l1
  simp only [getD0, getDs, leq_int, bd_some, decide_eq_true hle, br_true, aConv_int, hw, e1, e2, e3, e4]
  refine twq_jn (Q' := At i) (twq_bd fun t25 => twq_jn (Q' := At i) (twq_br ?_ ?_) ?_) ?_
  · repeat' (first
      | intro _
      | exact TwQ.same _
      | exact TwQ.norm _ _ ⟨_, _, _, rfl⟩
      | (rename_i h; obtain ⟨_, _, _, rfl⟩ := h; dsimp only [getD0, getDs])
      | with_reducible apply twq_bd
      | with_reducible apply twq_bd2
      | with_reducible apply twq_br
      | (with_reducible apply twq_jn (Q' := At i)))
  · exact TwQ.norm _ _ ⟨_, _, _, rfl⟩
  · rintro l s ⟨_, _, _, rfl⟩
    exact TwQ.norm _ _ ⟨_, _, _, rfl⟩
  · rintro l s ⟨_, _, _, rfl⟩
    dsimp only [getD0, getDs]
    rw [add_int, hw2]
    exact TwQ.norm _ _ ⟨_, _, _, rfl⟩

theorem odd_loop (r : CallF) (m q : Int) (he : ∀ i : Nat, 2 ≤ i → i ≤ 8 → (m.fdiv (2 ^ i)) % 2 = (q.fdiv (2 ^ i)) % 2) (N : Nat) (l : List T) (s : St) (hl : At 2 l) :
    loops (f5_l1 r 512) N (I .i64 m :: l) s = loops (f5_l1 r 512) N (I .i64 q :: l) s := by
  refine twq_loops (fun k l => At (k : Nat) l ∧ 2 ≤ k ∧ k ≤ 9) ?_ N 2 l s ⟨hl, by omega, by omega⟩
  rintro k l s ⟨hk, h2, h9⟩
  by_cases h8 : k ≤ 8
  · have h := odd_step r m q k h2 h8 (he k h2 h8) l s hk
    generalize f5_l1 r 512 (I .i64 m :: l) s = x at h
    generalize f5_l1 r 512 (I .i64 q :: l) s = y at h
    cases h with
    | norm l' s' hq => exact .inl ⟨l', s', k + 1, rfl, rfl, hq, by omega, by omega⟩
    | same => exact .inr rfl
  · right
    obtain ⟨a, b, c, rfl⟩ := hk
    have hle : ¬ (k : Int) ≤ 8 := by omega
    unfold f5_l1
    simp only [getD0, getDs, leq_int, bd_some, decide_eq_false hle, br_false]

theorem fdiv_low (m : Int) (i : Nat) (h2 : 2 ≤ i) (hi : i ≤ 8) : (m.fdiv (2 ^ i)) % 2 = ((m % 512 / 4 * 4).fdiv (2 ^ i)) % 2 := by
  match i, h2, hi with
  | 2, _, _ => rw [Int.fdiv_eq_ediv_of_nonneg _ (by decide), Int.fdiv_eq_ediv_of_nonneg _ (by decide)]; show m / 4 % 2 = m % 512 / 4 * 4 / 4 % 2; omega
  | 3, _, _ => rw [Int.fdiv_eq_ediv_of_nonneg _ (by decide), Int.fdiv_eq_ediv_of_nonneg _ (by decide)]; show m / 8 % 2 = m % 512 / 4 * 4 / 8 % 2; omega
  | 4, _, _ => rw [Int.fdiv_eq_ediv_of_nonneg _ (by decide), Int.fdiv_eq_ediv_of_nonneg _ (by decide)]; show m / 16 % 2 = m % 512 / 4 * 4 / 16 % 2; omega
  | 5, _, _ => rw [Int.fdiv_eq_ediv_of_nonneg _ (by decide), Int.fdiv_eq_ediv_of_nonneg _ (by decide)]; show m / 32 % 2 = m % 512 / 4 * 4 / 32 % 2; omega
  | 6, _, _ => rw [Int.fdiv_eq_ediv_of_nonneg _ (by decide), Int.fdiv_eq_ediv_of_nonneg _ (by decide)]; show m / 64 % 2 = m % 512 / 4 * 4 / 64 % 2; omega
  | 7, _, _ => rw [Int.fdiv_eq_ediv_of_nonneg _ (by decide), Int.fdiv_eq_ediv_of_nonneg _ (by decide)]; show m / 128 % 2 = m % 512 / 4 * 4 / 128 % 2; omega
  | 8, _, _ => rw [Int.fdiv_eq_ediv_of_nonneg _ (by decide), Int.fdiv_eq_ediv_of_nonneg _ (by decide)]; show m / 256 % 2 = m % 512 / 4 * 4 / 256 % 2; omega

theorem odd_low (m : Int) : R 8 5 [I .i64 m] St.empty = R 8 5 [I .i64 (m % 512 / 4 * 4)] St.empty := by
  rw [f5_run, f5_run]
  unfold f5
  have h := fun l s (hl : At 2 l) => odd_loop (R 7) m (m % 512 / 4 * 4) (fun i h2 h8 => fdiv_low m i h2 h8) 512 l s hl
  generalize R 7 = r at h ⊢
  refine eq_bd2 rfl fun t s => eq_bd rfl fun u => eq_br rfl ?_
  rw [h _ _ ⟨_, _, _, rfl⟩]

noncomputable def oddAll (a : Nat) : Bool := (List.range 32).all fun k => gave true (R 8 5 [I .i64 ((4 * (a + k) : Nat) : Int)] St.empty)
theorem odd_all0 : oddAll 0 = true := by kernel_rfl
theorem odd_all1 : oddAll 32 = true := by kernel_rfl
theorem odd_all2 : oddAll 64 = true := by kernel_rfl
theorem odd_all3 : oddAll 96 = true := by kernel_rfl

theorem odd_run (m : Int) : ∃ τ, R 8 5 [I .i64 m] St.empty = some (B true, τ) := by
  rw [odd_low]
  obtain ⟨k, hk, ek⟩ := nat_of (m := m % 512 / 4) (n := 128) (by omega) (by omega)
  have h : ∀ a, oddAll a = true → a ≤ k → k < a + 32 → ∃ τ, R 8 5 [I .i64 (m % 512 / 4 * 4)] St.empty = some (B true, τ) := by
    intro a h h1 h2
    unfold oddAll at h
    rw [List.all_eq_true] at h
    have := h (k - a) (List.mem_range.2 (by omega))
    rw [show ((4 * (a + (k - a)) : Nat) : Int) = m % 512 / 4 * 4 by omega] at this
    exact gave_some this
  by_cases h1 : k < 32
  · exact h 0 odd_all0 (by omega) (by omega)
  by_cases h2 : k < 64
  · exact h 32 odd_all1 (by omega) (by omega)
  by_cases h3 : k < 96
  · exact h 64 odd_all2 (by omega) (by omega)
  · exact h 96 odd_all3 (by omega) (by omega)
end Go.Proofs.Ytkebmnidpolhpaa
