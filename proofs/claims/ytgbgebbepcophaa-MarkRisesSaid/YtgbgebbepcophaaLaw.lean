/-
  What each function of package mark gives, in numbers, for any store; the law MarkBounds behind them. No conditions but those named in each line.
-/
import Derived.Test.YtgbgebbepcophaaWalk
namespace Go.Proofs.Ytgbgebbepcophaa
open Go Go.Abs Go.Abs.F
set_option linter.unusedVariables false

/-- A mark's block. -/
def mk (v o p b : Int) : Blk := .cells true [.int .i64 v, .int .i64 o, .int .i64 p, .int .i64 b]

section
variable {s : St} {i : Nat} {v o p b : Int}
theorem ld0 (h : s.get i = some (mk v o p b)) : aLoad1 (Z (.ptr i 0)) s.get = some (I .i64 v) := aLoad1_of h rfl
theorem ld1 (h : s.get i = some (mk v o p b)) : aLoad1 (Z (.ptr i 1)) s.get = some (I .i64 o) := aLoad1_of h rfl
theorem ld2 (h : s.get i = some (mk v o p b)) : aLoad1 (Z (.ptr i 2)) s.get = some (I .i64 p) := aLoad1_of h rfl
theorem ld3 (h : s.get i = some (mk v o p b)) : aLoad1 (Z (.ptr i 3)) s.get = some (I .i64 b) := aLoad1_of h rfl
theorem st0 (h : s.get i = some (mk v o p b)) (x : Int) : aStore 1 (Z (.ptr i 0)) (I .i64 x) s = some (tt, s.set i (mk x o p b)) := aStore1_of h (by simp)
theorem st1 (h : s.get i = some (mk v o p b)) (x : Int) : aStore 1 (Z (.ptr i 1)) (I .i64 x) s = some (tt, s.set i (mk v x p b)) := aStore1_of h (by simp)
theorem st2 (h : s.get i = some (mk v o p b)) (x : Int) : aStore 1 (Z (.ptr i 2)) (I .i64 x) s = some (tt, s.set i (mk v o x b)) := aStore1_of h (by simp)
theorem st3 (h : s.get i = some (mk v o p b)) (x : Int) : aStore 1 (Z (.ptr i 3)) (I .i64 x) s = some (tt, s.set i (mk v o p x)) := aStore1_of h (by simp)
theorem got (s : St) (i : Nat) (b : Blk) : (s.set i b).get i = some b := St.get_set_same s i b

theorem count_run (d : Nat) (n : Int) : R (d + 1) 13 [I .i64 n] s = some (B (decide (0 ≤ n ∧ n ≤ 2000)), s) := by
  rw [f13_run]
  unfold f13
  by_cases h : 0 ≤ n <;> by_cases h' : n ≤ 2000 <;> simp [h, h']

theorem new_bad (d : Nat) (h : ¬ (0 ≤ v ∧ v ≤ 1073741824 ∧ 0 ≤ o ∧ o ≤ 2000)) : R (d + 2) 6 [I .i64 v, I .i64 o] s = some (Z .nilp, s) := by
  rw [f6_run]
  unfold f6
  by_cases h1 : v < 0
  · simp [h1]
  · by_cases h2 : 1073741824 < v
    · simp [h1, h2]
    · have h3 : ¬ (0 ≤ o ∧ o ≤ 2000) := by omega
      simp [h1, h2, h3, count_run]

theorem new_good (d : Nat) (h : 0 ≤ v ∧ v ≤ 1073741824 ∧ 0 ≤ o ∧ o ≤ 2000) : R (d + 2) 6 [I .i64 v, I .i64 o] s = some (Z (.ptr s.size 0), s.push (mk v o 0 0)) := by
  rw [f6_run]
  unfold f6
  have h1 : ¬ v < 0 := by omega
  have h2 : ¬ 1073741824 < v := by omega
  have h3 : 0 ≤ o ∧ o ≤ 2000 := by omega
  simp [h1, h2, h3, count_run, aFill, V.cells, setRange, asAggT, nBox, aNew, mk]

theorem note_run (d : Nat) (h : s.get i = some (mk v o p b)) : R (d + 1) 14 [Z (.ptr i 0)] s = some (I .i64 0, s.set i (mk v o p (max b (min o p)))) := by
  rw [f14_run]
  unfold f14
  simp [ld1 h, ld2 h, ld3 h, st3 h]

theorem own_bad (d : Nat) {n : Int} (h : s.get i = some (mk v o p b)) (hn : n < b ∨ ¬ (0 ≤ n ∧ n ≤ 2000)) : R (d + 2) 8 [Z (.ptr i 0), I .i64 n] s = some (I .i64 5, s) := by
  rw [f8_run]
  unfold f8
  by_cases h1 : n < b
  · simp [ld3 h, h1]
  · have h2 : ¬ (0 ≤ n ∧ n ≤ 2000) := by omega
    simp [ld3 h, h1, h2, count_run]

theorem own_good (d : Nat) {n : Int} (h : s.get i = some (mk v o p b)) (hn : ¬ (n < b ∨ ¬ (0 ≤ n ∧ n ≤ 2000))) :
    R (d + 2) 8 [Z (.ptr i 0), I .i64 n] s = some (I .i64 0, (s.set i (mk v n p b)).set i (mk v n p (max b (min n p)))) := by
  rw [f8_run]
  unfold f8
  have h1 : ¬ n < b := by omega
  have h2 : 0 ≤ n ∧ n ≤ 2000 := by omega
  simp [count_run, ld3 h, h1, h2, st1 h, note_run (s := s.set i (mk v n p b)) d (got _ _ _)]

theorem peer_view (d : Nat) {w n : Int} (h : s.get i = some (mk v o p b)) (hw : w ≠ v) : R (d + 2) 7 [Z (.ptr i 0), I .i64 w, I .i64 n] s = some (I .i64 12, s) := by
  rw [f7_run]
  unfold f7
  simp [ld0 h, hw]

theorem peer_bad (d : Nat) {n : Int} (h : s.get i = some (mk v o p b)) (hn : ¬ (0 ≤ n ∧ n ≤ 2000)) : R (d + 2) 7 [Z (.ptr i 0), I .i64 v, I .i64 n] s = some (I .i64 5, s) := by
  rw [f7_run]
  unfold f7
  simp [ld0 h, count_run, hn]

theorem peer_good (d : Nat) {n : Int} (h : s.get i = some (mk v o p b)) (hn : 0 ≤ n ∧ n ≤ 2000) :
    R (d + 2) 7 [Z (.ptr i 0), I .i64 v, I .i64 n] s = some (I .i64 0, (s.set i (mk v o (max p n) b)).set i (mk v o (max p n) (max b (min o (max p n))))) := by
  rw [f7_run]
  unfold f7
  simp [ld0 h, ld2 h, st2 h, count_run, hn, note_run (s := s.set i (mk v o (max p n) b)) d (got _ _ _)]

theorem state_run (d : Nat) (h : s.get i = some (mk v o p b)) : R (d + 1) 9 [Z (.ptr i 0)] s = some (.tup [.s (.int .i64 v), .s (.int .i64 o), .s (.int .i64 p)], s) := by
  rw [f9_run]
  unfold f9
  simp [ld0 h, ld1 h, ld2 h, retT, allV]

theorem commit_run (d : Nat) (h : s.get i = some (mk v o p b)) : R (d + 1) 11 [Z (.ptr i 0)] s = some (I .i64 b, s) := by
  rw [f11_run]
  unfold f11
  simp [ld3 h]

theorem view_bad (d : Nat) {w : Int} (h : s.get i = some (mk v o p b)) (hw : w ≤ v ∨ 1073741824 < w) : R (d + 1) 12 [Z (.ptr i 0), I .i64 w] s = some (I .i64 12, s) := by
  rw [f12_run]
  unfold f12
  by_cases h1 : w ≤ v
  · simp [ld0 h, h1]
  · have h2 : 1073741824 < w := by omega
    simp [ld0 h, h1, h2]

theorem view_good (d : Nat) {w : Int} (h : s.get i = some (mk v o p b)) (hw : ¬ (w ≤ v ∨ 1073741824 < w)) :
    R (d + 1) 12 [Z (.ptr i 0), I .i64 w] s = some (I .i64 0, (s.set i (mk w o p b)).set i (mk w o 0 b)) := by
  rw [f12_run]
  unfold f12
  have h1 : ¬ w ≤ v := by omega
  have h2 : ¬ 1073741824 < w := by omega
  simp [ld0 h, h1, h2, st0 h, st2 (got s i (mk w o p b))]
end
end Go.Proofs.Ytgbgebbepcophaa
