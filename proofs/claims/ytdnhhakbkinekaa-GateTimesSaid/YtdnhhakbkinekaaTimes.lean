/-
  GateTimes returns true, whatever its three numbers. No conditions.
-/
import Derived.Test.YtdnhhakbkinekaaWalk
import Derived.Test.YtdnhhakbkinekaaAbsTwin
namespace Go.Proofs.Ytdnhhakbkinekaa
open Go Go.Abs Go.Abs.F
set_option linter.unusedVariables false

/-- The default policy, no policy, a segment. -/
abbrev defP : T := .v (.agg [.int .i64 60, .int .i64 600, .int .i64 6000, .int .i64 0, .int .i64 8, .int .i64 30])
abbrev zeroP : T := .v (.agg [.int .i64 0, .int .i64 0, .int .i64 0, .int .i64 0, .int .i64 0, .int .i64 0])
abbrev seg (t x : Int) : T := .v (.agg [.int .i64 1, .int .i64 t, .int .i64 0, .int .i64 x, .int .u32 0])

theorem default_prim (s : St) : prim1 6 [] s = some (defP, s) := (orP_right rfl).trans (pureP_val rfl (by kernel_rfl) rfl)
theorem may_prim (s : St) : prim1 15 [defP] s = some (B true, s) := (orP_right rfl).trans (pureP_val rfl (by kernel_rfl) rfl)
theorem zero_prim (s : St) : prim1 15 [zeroP] s = some (B false, s) := (orP_right rfl).trans (pureP_val rfl (by kernel_rfl) rfl)

theorem default_run (d : Nat) (s : St) : R (d + 1) 6 [] s = some (defP, s) := runQ_prim (orP_left (default_prim s))

theorem old_lift (d : Nat) (s : St) {p q n : T} {b : Bool} {τ : St} (hp : ([p, q, n].all plainT) = true) (h : f11 (runQ Try.prog 64 prim1 7) 64 p q n St.empty = some (B b, τ)) : R (d + 1) 11 [p, q, n] s = some (B b, s) := by
  refine runQ_prim ((orP_right rfl).trans (pureP_of (by rw [hp]; rfl) (τ0 := τ) ?_ rfl))
  exact ((runQ_body rfl Try.func11 (by kernel_rfl)).trans (f11_eq ..)).trans h

theorem old_run (d : Nat) (s : St) (t a x n : Int) (ht : (t = 0 ∧ a = 60) ∨ (t = 1 ∧ a = 600) ∨ (t = 2 ∧ a = 6000)) (hx0 : 0 ≤ x) (hx : x ≤ 2000000) (hn0 : -1000 ≤ n) (hn : n ≤ 2000000) :
    R (d + 1) 11 [seg t x, defP, I .i64 n] s = some (B (decide (x + a ≤ n)), s) := by
  have e1 := runQ_prim (d := 6) (P := Try.prog) (N := 64) (may_prim ((St.empty.push (.cells true [.int .i64 1, .int .i64 t, .int .i64 0, .int .i64 x, .int .u32 0])).push (.cells true [.int .i64 60, .int .i64 600, .int .i64 6000, .int .i64 0, .int .i64 8, .int .i64 30])))
  simp only [Nat.reduceAdd] at e1
  refine old_lift d s rfl (τ := (St.empty.push (.cells true [.int .i64 1, .int .i64 t, .int .i64 0, .int .i64 x, .int .u32 0])).push (.cells true [.int .i64 60, .int .i64 600, .int .i64 6000, .int .i64 0, .int .i64 8, .int .i64 30])) ?_
  unfold f11
  generalize runQ Try.prog 64 prim1 7 = r at e1 ⊢
  have w1 : IntKind.u64.wrap x = x := wrap_u64_in _ hx0 (by omega)
  by_cases h1 : n < x
  · have h2 : ¬ x + a ≤ n := by omega
    rcases ht with ⟨rfl, rfl⟩ | ⟨rfl, rfl⟩ | ⟨rfl, rfl⟩ <;>
      simp [aNew, nBox, V.cells, aLoadN, aLoad1, St.get_push, e1, aIndexArr, aIdx, h1, h2]
  · have w2 : IntKind.u64.wrap n = n := wrap_u64_in _ (by omega) (by omega)
    have w3 : IntKind.u64.wrap (n - x) = n - x := wrap_u64_in _ (by omega) (by omega)
    rcases ht with ⟨rfl, rfl⟩ | ⟨rfl, rfl⟩ | ⟨rfl, rfl⟩
    · have w4 : IntKind.u64.wrap 60 = 60 := rfl
      simp [aNew, nBox, V.cells, aLoadN, aLoad1, St.get_push, e1, aIndexArr, aIdx, h1, w1, w2, w3, w4]
      omega
    · have w4 : IntKind.u64.wrap 600 = 600 := rfl
      simp [aNew, nBox, V.cells, aLoadN, aLoad1, St.get_push, e1, aIndexArr, aIdx, h1, w1, w2, w3, w4]
      omega
    · have w4 : IntKind.u64.wrap 6000 = 6000 := rfl
      simp [aNew, nBox, V.cells, aLoadN, aLoad1, St.get_push, e1, aIndexArr, aIdx, h1, w1, w2, w3, w4]
      omega

theorem old_ever (d : Nat) (s : St) (x n : Int) : R (d + 1) 11 [seg 3 x, defP, I .i64 n] s = some (B false, s) := by
  have e1 := runQ_prim (d := 6) (P := Try.prog) (N := 64) (may_prim ((St.empty.push (.cells true [.int .i64 1, .int .i64 3, .int .i64 0, .int .i64 x, .int .u32 0])).push (.cells true [.int .i64 60, .int .i64 600, .int .i64 6000, .int .i64 0, .int .i64 8, .int .i64 30])))
  simp only [Nat.reduceAdd] at e1
  refine old_lift d s rfl (τ := (St.empty.push (.cells true [.int .i64 1, .int .i64 3, .int .i64 0, .int .i64 x, .int .u32 0])).push (.cells true [.int .i64 60, .int .i64 600, .int .i64 6000, .int .i64 0, .int .i64 8, .int .i64 30])) ?_
  unfold f11
  generalize runQ Try.prog 64 prim1 7 = r at e1 ⊢
  simp [aNew, nBox, V.cells, aLoadN, aLoad1, St.get_push, e1, aIndexArr, aIdx]

theorem old_zero (d : Nat) (s : St) (t x n : Int) : R (d + 1) 11 [seg t x, zeroP, I .i64 n] s = some (B false, s) := by
  have e1 := runQ_prim (d := 6) (P := Try.prog) (N := 64) (zero_prim ((St.empty.push (.cells true [.int .i64 1, .int .i64 t, .int .i64 0, .int .i64 x, .int .u32 0])).push (.cells true [.int .i64 0, .int .i64 0, .int .i64 0, .int .i64 0, .int .i64 0, .int .i64 0])))
  simp only [Nat.reduceAdd] at e1
  refine old_lift d s rfl (τ := (St.empty.push (.cells true [.int .i64 1, .int .i64 t, .int .i64 0, .int .i64 x, .int .u32 0])).push (.cells true [.int .i64 0, .int .i64 0, .int .i64 0, .int .i64 0, .int .i64 0, .int .i64 0])) ?_
  unfold f11
  generalize runQ Try.prog 64 prim1 7 = r at e1 ⊢
  simp [aNew, nBox, V.cells, aLoadN, aLoad1, St.get_push, e1, aIndexArr, aIdx]

theorem times_run (to k near : Int) : ∃ τ, R 7 5 [I .i64 to, I .i64 k, I .i64 near] St.empty = some (B true, τ) := by
  rw [f5_run]
  unfold f5
  obtain ⟨t, t0, t1, ht, ht', _⟩ := mod_u k 4 (by omega) (by omega)
  obtain ⟨X, X0, X1, hX, hX', _⟩ := mod_u to 1000000 (by omega) (by omega)
  obtain ⟨Y, Y0, Y1, hY, hY', _⟩ := mod_u near 5 (by omega) (by omega)
  have hd := default_run 5 St.empty
  have w1 : IntKind.i64.wrap (1 + X) = 1 + X := wrap_in _ (by omega) (by omega)
  rcases (show t = 0 ∨ t = 1 ∨ t = 2 ∨ t = 3 by omega) with rfl | rfl | rfl | rfl
  · have w2 : IntKind.i64.wrap (1 + X + 60) = 1 + X + 60 := wrap_in _ (by omega) (by omega)
    have w3 : IntKind.i64.wrap (1 + X + 60 - 2) = 1 + X + 60 - 2 := wrap_in _ (by omega) (by omega)
    have w4 : IntKind.i64.wrap (1 + X + 60 - 2 + Y) = 1 + X + 60 - 2 + Y := wrap_in _ (by omega) (by omega)
    have e1 := fun s => old_run 5 s 0 60 (1 + X) (1 + X + 60 - 2 + Y) (by omega) (by omega) (by omega) (by omega) (by omega)
    have e2 := fun s => old_zero 5 s 0 (1 + X) (1 + X + 60 - 2 + Y)
    have e3 := told_run 5
    simp only [Nat.reduceAdd] at hd e1 e2 e3
    generalize R 6 = r at hd e1 e2 e3 ⊢
    simp [hd, ht, ht', hX, hX', hY, hY', w1, w2, w3, w4, e1, e2, e3, aNew, nCells, aStore, V.cells, setRange, St.get_push, St.get_set, aFill, asAggT, aLoad1, aLoadN, aIndexArr, aIdx, wq]
  · have w2 : IntKind.i64.wrap (1 + X + 600) = 1 + X + 600 := wrap_in _ (by omega) (by omega)
    have w3 : IntKind.i64.wrap (1 + X + 600 - 2) = 1 + X + 600 - 2 := wrap_in _ (by omega) (by omega)
    have w4 : IntKind.i64.wrap (1 + X + 600 - 2 + Y) = 1 + X + 600 - 2 + Y := wrap_in _ (by omega) (by omega)
    have e1 := fun s => old_run 5 s 1 600 (1 + X) (1 + X + 600 - 2 + Y) (by omega) (by omega) (by omega) (by omega) (by omega)
    have e2 := fun s => old_zero 5 s 1 (1 + X) (1 + X + 600 - 2 + Y)
    have e3 := told_run 5
    simp only [Nat.reduceAdd] at hd e1 e2 e3
    generalize R 6 = r at hd e1 e2 e3 ⊢
    simp [hd, ht, ht', hX, hX', hY, hY', w1, w2, w3, w4, e1, e2, e3, aNew, nCells, aStore, V.cells, setRange, St.get_push, St.get_set, aFill, asAggT, aLoad1, aLoadN, aIndexArr, aIdx, wq]
  · have w2 : IntKind.i64.wrap (1 + X + 6000) = 1 + X + 6000 := wrap_in _ (by omega) (by omega)
    have w3 : IntKind.i64.wrap (1 + X + 6000 - 2) = 1 + X + 6000 - 2 := wrap_in _ (by omega) (by omega)
    have w4 : IntKind.i64.wrap (1 + X + 6000 - 2 + Y) = 1 + X + 6000 - 2 + Y := wrap_in _ (by omega) (by omega)
    have e1 := fun s => old_run 5 s 2 6000 (1 + X) (1 + X + 6000 - 2 + Y) (by omega) (by omega) (by omega) (by omega) (by omega)
    have e2 := fun s => old_zero 5 s 2 (1 + X) (1 + X + 6000 - 2 + Y)
    have e3 := told_run 5
    simp only [Nat.reduceAdd] at hd e1 e2 e3
    generalize R 6 = r at hd e1 e2 e3 ⊢
    simp [hd, ht, ht', hX, hX', hY, hY', w1, w2, w3, w4, e1, e2, e3, aNew, nCells, aStore, V.cells, setRange, St.get_push, St.get_set, aFill, asAggT, aLoad1, aLoadN, aIndexArr, aIdx, wq]
  · have w2 : IntKind.i64.wrap (1 + X + 0) = 1 + X := by rw [Int.add_zero]; exact w1
    have w3 : IntKind.i64.wrap (1 + X - 2) = 1 + X - 2 := wrap_in _ (by omega) (by omega)
    have w4 : IntKind.i64.wrap (1 + X - 2 + Y) = 1 + X - 2 + Y := wrap_in _ (by omega) (by omega)
    have e1 := fun n s => old_ever 5 s (1 + X) n
    have e3 := told_run 5
    simp only [Nat.reduceAdd] at hd e1 e3
    generalize R 6 = r at hd e1 e3 ⊢
    simp [hd, ht, ht', hX, hX', hY, hY', w1, w2, w3, w4, e1, e3, aNew, nCells, aStore, V.cells, setRange, St.get_push, St.get_set, aFill, asAggT, aLoad1, aLoadN, aIndexArr, aIdx, wq]
end Go.Proofs.Ytdnhhakbkinekaa
