/-
  RoundsNone looks at its first number up to 21 and at its second up to 2 alone. No conditions.
-/
import Derived.Test.YtcihabdmigpklaaGreatDoorTold
namespace Go.Proofs.YtcihabdmigpklaaGreatDoor
open Go Go.Abs Go.Abs.F
set_option linter.unusedVariables false
noncomputable section
theorem bd_K {α R : Type} {x : Option α} {K K' : α → Option R} (h : ∀ a, K a = K' a) : bd x K = bd x K' := by rw [funext h]
theorem bd2_K {R : Type} {x : Option (T × St)} {K K' : T → St → Option R} (h : ∀ a s, K a s = K' a s) : bd2 x K = bd2 x K' := by rw [show K = K' from funext fun a => funext fun s => h a s]
theorem br_K {R : Type} {c : T} {x y x' y' : Option R} (h : x = x') (k : y = y') : fast.br c x y = fast.br c x' y' := by rw [h, k]

theorem u64_nonneg (n : Int) : 0 ≤ IntKind.u64.wrap n ∧ IntKind.u64.wrap n < 18446744073709551616 := by
  simp only [IntKind.wrap, IntKind.bits, IntKind.signed]
  simp
  omega
theorem i64_small (n : Int) (h : 0 ≤ n) (k : n < 9223372036854775808) : IntKind.i64.wrap n = n := by
  simp only [IntKind.wrap, IntKind.bits, IntKind.signed]
  simp
  omega
theorem u64_small (n : Int) (h : 0 ≤ n) (k : n < 9223372036854775808) : IntKind.u64.wrap n = n := by
  simp only [IntKind.wrap, IntKind.bits, IntKind.signed]
  simp
  omega

theorem fast_cv : fast.cv = cvF := rfl
theorem fast_bin : fast.bin = binF := rfl
theorem mod_chain {R : Type} (q : Int) (h0 : 0 < q) (h1 : q < 1000) (n : Int) (K : T → Option R) :
    (bd (fast.cv .u64 (I .i64 n)) fun t => bd (fast.bin .rem t (I .u64 q)) fun t' => bd (fast.cv .i64 t') K) = K (I .i64 (IntKind.u64.wrap n % q)) := by
  have e1 : fast.cv .u64 (I .i64 n) = some (I .u64 (IntKind.u64.wrap n)) := by
    rw [fast_cv, cvF_eq]; rfl
  have hu := u64_nonneg n
  have e2 : fast.bin .rem (I .u64 (IntKind.u64.wrap n)) (I .u64 q) = some (I .u64 (IntKind.u64.wrap n % q)) := by
    rw [fast_bin, binF_eq]
    show (if IntKind.u64 = IntKind.u64 then aInt .rem .u64 (IntKind.u64.wrap n) q else none) = _
    rw [if_pos rfl]
    show (if q = 0 then none else some (I .u64 ((IntKind.u64.wrap n).tmod q))) = _
    rw [if_neg (by omega), Int.tmod_eq_emod_of_nonneg hu.1]
  have hm : 0 ≤ IntKind.u64.wrap n % q := Int.emod_nonneg _ (by omega)
  have hl : IntKind.u64.wrap n % q < q := Int.emod_lt_of_pos _ h0
  have e3 : fast.cv .i64 (I .u64 (IntKind.u64.wrap n % q)) = some (I .i64 (IntKind.u64.wrap n % q)) := by
    rw [fast_cv, cvF_eq]
    show some (I .i64 (IntKind.i64.wrap _)) = _
    rw [i64_small _ hm (by omega)]
  rw [e1, bd_some, e2, bd_some, e3, bd_some]

theorem mod_twice (q : Int) (h0 : 0 < q) (h1 : q < 1000) (n : Int) : IntKind.u64.wrap (IntKind.u64.wrap n % q) % q = IntKind.u64.wrap n % q := by
  have hm : 0 ≤ IntKind.u64.wrap n % q := Int.emod_nonneg _ (by omega)
  have hl : IntKind.u64.wrap n % q < q := Int.emod_lt_of_pos _ h0
  rw [u64_small _ hm (by omega), Int.emod_eq_of_lt hm hl]

theorem none_fst (c : CallF) (N : Nat) (n : Int) (a : T) (σ : St) : f3 fast c N (I .i64 n) a σ = f3 fast c N (I .i64 (IntKind.u64.wrap n % 21)) a σ := by
  unfold f3
  repeat (first | refine bd_K fun _ => ?_ | refine bd2_K fun _ _ => ?_ | refine br_K rfl ?_)
  rw [mod_chain 21 (by omega) (by omega), mod_chain 21 (by omega) (by omega), mod_twice 21 (by omega) (by omega)]
theorem none_snd (c : CallF) (N : Nat) (n : Int) (a : T) (σ : St) : f3 fast c N a (I .i64 n) σ = f3 fast c N a (I .i64 (IntKind.u64.wrap n % 2)) σ := by
  unfold f3
  repeat (first | refine bd_K fun _ => ?_ | refine bd2_K fun _ _ => ?_ | refine br_K rfl ?_)
  rw [mod_chain 2 (by omega) (by omega), mod_chain 2 (by omega) (by omega), mod_twice 2 (by omega) (by omega)]

/-- One case of RoundsNone, run. -/
def noneOk (k s : Nat) : Bool := gave true (f3 fast (E2 60) 8192 (I .i64 (Int.ofNat k)) (I .i64 (Int.ofNat s)) St.empty)
end
end Go.Proofs.YtcihabdmigpklaaGreatDoor
