/-
  MarkViews returns true, whatever the three numbers. No conditions.
-/
import Derived.Test.YtgbgebbepcophaaBounds
namespace Go.Proofs.Ytgbgebbepcophaa
open Go Go.Abs Go.Abs.F
set_option linter.unusedVariables false

theorem views_run (a b v : Int) : ∃ τ, R 6 5 [I .i64 a, I .i64 b, I .i64 v] St.empty = some (B true, τ) := by
  rw [f5_run]
  unfold f5
  obtain ⟨X, hX0, hX1, hX, hX'⟩ := mod_run a 101 (by omega) (by omega)
  obtain ⟨Y, hY0, hY1, hY, hY'⟩ := mod_run b 101 (by omega) (by omega)
  obtain ⟨V, hV0, hV1, hV, hV'⟩ := mod_run v 1000 (by omega) (by omega)
  have hw : IntKind.i64.wrap (V + 1) = V + 1 := wrap_in _ (by omega) (by omega)
  have e0 := new_good (v := V) (o := 100) (s := St.empty) 3 (by omega)
  have g0 : (St.empty.push (mk V 100 0 0)).get St.empty.size = some (mk V 100 0 0) := St.get_push_same _ _
  generalize St.empty.push (mk V 100 0 0) = s0 at e0 g0
  generalize St.empty.size = i at e0 g0
  have e1 := peer_good 3 g0 (n := X) (by omega)
  have g1 := got (s0.set i (mk V 100 (max 0 X) 0)) i (mk V 100 (max 0 X) (max 0 (min 100 (max 0 X))))
  generalize (s0.set i (mk V 100 (max 0 X) 0)).set i (mk V 100 (max 0 X) (max 0 (min 100 (max 0 X)))) = s1 at e1 g1
  have hz : max 0 (min 100 (max 0 X)) = X := by omega
  have hz2 : max 0 X = X := by omega
  rw [hz, hz2] at g1
  have e2 := commit_run 4 g1
  have e3 := view_good 4 g1 (w := V + 1) (by omega)
  have g3 := got (s1.set i (mk (V + 1) 100 X X)) i (mk (V + 1) 100 0 X)
  generalize (s1.set i (mk (V + 1) 100 X X)).set i (mk (V + 1) 100 0 X) = s3 at e3 g3
  have e4 := peer_view 3 (n := 100) (w := V) g3 (by omega)
  have e5 := commit_run 4 g3
  have e6 := peer_good 3 g3 (n := Y) (by omega)
  have g6 := got (s3.set i (mk (V + 1) 100 (max 0 Y) X)) i (mk (V + 1) 100 (max 0 Y) (max X (min 100 (max 0 Y))))
  generalize (s3.set i (mk (V + 1) 100 (max 0 Y) X)).set i (mk (V + 1) 100 (max 0 Y) (max X (min 100 (max 0 Y)))) = s6 at e6 g6
  have hz3 : max X (min 100 (max 0 Y)) = max X Y := by omega
  rw [hz3] at g6
  have e7 := told_run 4 s6
  have e8 := commit_run 4 g6
  simp only [Nat.reduceAdd] at e0 e1 e2 e3 e4 e5 e6 e7 e8
  generalize R 5 = r at e0 e1 e2 e3 e4 e5 e6 e7 e8 ⊢
  simp [hX, hX', hY, hY', hV, hV', hw, e0, e1, e2, e3, e4, e5, e6, e7, e8]
end Go.Proofs.Ytgbgebbepcophaa
