/-
  MarkBounds returns true, whatever the three numbers. No conditions.
-/
import Derived.Test.YtgbgebbepcophaaLaw
namespace Go.Proofs.Ytgbgebbepcophaa
open Go Go.Abs Go.Abs.F
set_option linter.unusedVariables false

theorem wrap_in (y : Int) (h0 : 0 ≤ y) (h1 : y < 2 ^ 62) : IntKind.i64.wrap y = y := by
  unfold IntKind.wrap
  simp [IntKind.signed, IntKind.bits]
  omega

theorem mod_run (x m : Int) (hm : 0 < m) (hm' : m ≤ 2 ^ 62) : ∃ y, 0 ≤ y ∧ y < m ∧ aBin .rem (I .u64 (IntKind.u64.wrap x)) (I .u64 m) = some (I .u64 y) ∧ IntKind.i64.wrap y = y := by
  have hw : 0 ≤ IntKind.u64.wrap x := by
    unfold IntKind.wrap
    simp [IntKind.signed, IntKind.bits]
    omega
  refine ⟨(IntKind.u64.wrap x).tmod m, ?_, ?_, rem_int _ _ _ (by omega), ?_⟩
  · exact Int.tmod_nonneg _ hw
  · exact Int.tmod_lt_of_pos _ hm
  · exact wrap_in _ (Int.tmod_nonneg _ hw) (Int.lt_of_lt_of_le (Int.tmod_lt_of_pos _ hm) hm')

theorem bounds_run (v o n : Int) : ∃ τ, R 6 3 [I .i64 v, I .i64 o, I .i64 n] St.empty = some (B true, τ) := by
  rw [f3_run]
  unfold f3
  obtain ⟨V, hV0, hV1, hV, hV'⟩ := mod_run v 1000 (by omega) (by omega)
  obtain ⟨O, hO0, hO1, hO, hO'⟩ := mod_run o 2001 (by omega) (by omega)
  have hn := new_good (v := V) (o := O) (s := St.empty) 3 (by omega)
  have g0 : (St.empty.push (mk V O 0 0)).get St.empty.size = some (mk V O 0 0) := St.get_push_same _ _
  generalize St.empty.push (mk V O 0 0) = s0 at hn g0
  generalize St.empty.size = i at hn g0
  by_cases hb : 0 ≤ n ∧ n ≤ 2000
  · have e1 := peer_good 3 g0 hb
    have g1 := got (s0.set i (mk V O (max 0 n) 0)) i (mk V O (max 0 n) (max 0 (min O (max 0 n))))
    generalize (s0.set i (mk V O (max 0 n) 0)).set i (mk V O (max 0 n) (max 0 (min O (max 0 n)))) = s1 at e1 g1
    have hz : max 0 n = n := by omega
    have hz2 : max 0 (min O (max 0 n)) = min O n := by omega
    rw [hz2, hz] at g1
    have e2 := own_good 3 g1 (n := n) (by omega)
    have g2 := got (s1.set i (mk V n n (min O n))) i (mk V n n (max (min O n) (min n n)))
    generalize (s1.set i (mk V n n (min O n))).set i (mk V n n (max (min O n) (min n n))) = s2 at e2 g2
    have hz3 : max (min O n) (min n n) = n := by omega
    rw [hz3] at g2
    have e3 := state_run 4 g2
    have e4 := commit_run 4 g2
    have h1 : ¬ n < 0 := by omega
    have h2 : ¬ 2000 < n := by omega
    have h3 : ¬ n < min O n := by omega
    have h4 : n ≤ min (max O n) n := by omega
    have e6 := told_run 4 s2
    simp only [Nat.reduceAdd] at e1 e2 e3 e4 e6 hn
    generalize R 5 = r at e1 e2 e3 e4 e6 hn ⊢
    simp [hV, hV', hO, hO', hn, e1, e2, e3, e4, aExtract, h1, h2, h3, h4, e6]
  · have e1 := peer_bad 3 g0 hb
    have e2 := own_bad 3 g0 (n := n) (.inr hb)
    have e3 := state_run 4 g0
    have e4 := commit_run 4 g0
    have e5 := new_bad (v := V) (o := n) (s := s0) 3 (by omega)
    have e6 := told_run 4 s0
    simp only [Nat.reduceAdd] at e1 e2 e3 e4 e5 e6 hn
    generalize R 5 = r at e1 e2 e3 e4 e5 e6 hn ⊢
    by_cases h1 : n < 0
    · simp [hV, hV', hO, hO', hn, e1, e2, e3, e4, e5, aExtract, h1, e6]
    · have h2 : 2000 < n := by omega
      simp [hV, hV', hO, hO', hn, e1, e2, e3, e4, e5, aExtract, h1, h2, e6]
end Go.Proofs.Ytgbgebbepcophaa
