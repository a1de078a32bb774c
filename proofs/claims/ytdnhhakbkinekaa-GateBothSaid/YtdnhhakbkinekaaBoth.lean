/-
  GateBoth returns true, whatever its two numbers. No conditions.
-/
import Derived.Test.YtdnhhakbkinekaaWalk
import Derived.Test.YtdnhhakbkinekaaAbsTwin
namespace Go.Proofs.Ytdnhhakbkinekaa
open Go Go.Abs Go.Abs.F
set_option linter.unusedVariables false

theorem both_low (mask : Int) (k : T) : R 7 3 [I .i64 mask, k] St.empty = R 7 3 [I .i64 (mask % 16), k] St.empty := by
  have h1 : aBin .and (I .i64 mask) (I .i64 1) = aBin .and (I .i64 (mask % 16)) (I .i64 1) := and_low mask 1 4 (by omega) rfl
  have h2 : aBin .and (I .i64 mask) (I .i64 2) = aBin .and (I .i64 (mask % 16)) (I .i64 2) := and_low mask 2 4 (by omega) rfl
  have h4 : aBin .and (I .i64 mask) (I .i64 4) = aBin .and (I .i64 (mask % 16)) (I .i64 4) := and_low mask 4 4 (by omega) rfl
  have h8 : aBin .and (I .i64 mask) (I .i64 8) = aBin .and (I .i64 (mask % 16)) (I .i64 8) := and_low mask 8 4 (by omega) rfl
  have h15 : aBin .and (I .i64 mask) (I .i64 15) = aBin .and (I .i64 (mask % 16)) (I .i64 15) := and_low mask 15 4 (by omega) rfl
  rw [f3_run, f3_run]
  unfold f3 f3_l1
  generalize R 6 = r
  generalize hX : I .i64 mask = X at h1 h2 h4 h8 h15 ⊢
  generalize hY : I .i64 (mask % 16) = Y at h1 h2 h4 h8 h15 ⊢
  clear hX hY
  repeat' (first
    | intro _
    | with_reducible rfl
    | with_reducible exact Tw.same _
    | with_reducible exact h1
    | with_reducible exact h2
    | with_reducible exact h4
    | with_reducible exact h8
    | with_reducible exact h15
    | with_reducible exact Tw.norm _ _
    | with_reducible exact Tw.exit _ _ _
    | dsimp only [getD0, getDs]
    | with_reducible apply eq_gT
    | with_reducible apply tw_gT
    | with_reducible apply eq_bd
    | with_reducible apply eq_bd2
    | with_reducible apply eq_jn (X := X) (Y := Y)
    | with_reducible apply eq_br
    | with_reducible apply eq_ite
    | with_reducible apply tw_bd
    | with_reducible apply tw_bd2
    | with_reducible apply tw_jn
    | with_reducible apply tw_br
    | with_reducible apply tw_ite
    | with_reducible apply tw_loops
    | with_reducible apply gT_eq)

theorem both_k (m k y : Int) (h1 : aBin .rem (I .u64 (IntKind.u64.wrap k)) (I .u64 3) = some (I .u64 y)) (h2 : aBin .rem (I .u64 (IntKind.u64.wrap y)) (I .u64 3) = some (I .u64 y)) :
    R 7 3 [I .i64 m, I .i64 k] St.empty = R 7 3 [I .i64 m, I .i64 y] St.empty := by
  rw [f3_run, f3_run]
  unfold f3
  generalize R 6 = r
  rw [aConv_int, aConv_int, bd_some, bd_some, h1, h2]

theorem both_all0 : ((List.range 16).all fun m => gave true (R 7 3 [I .i64 m, I .i64 0] St.empty)) = true := by kernel_rfl

theorem both_all1 : ((List.range 16).all fun m => gave true (R 7 3 [I .i64 m, I .i64 1] St.empty)) = true := by kernel_rfl

theorem both_all2 : ((List.range 16).all fun m => gave true (R 7 3 [I .i64 m, I .i64 2] St.empty)) = true := by kernel_rfl

theorem both_run (mask k : Int) : ∃ τ, R 7 3 [I .i64 mask, I .i64 k] St.empty = some (B true, τ) := by
  obtain ⟨y, y0, y1, h1, _, h2⟩ := mod_u k 3 (by omega) (by omega)
  rw [both_low, both_k _ k y h1 h2]
  obtain ⟨m, hm, em⟩ := nat_of (m := mask % 16) (n := 16) (by omega) (by omega)
  rw [em]
  have h : ((List.range 16).all fun m => gave true (R 7 3 [I .i64 m, I .i64 y] St.empty)) = true := by
    rcases (show y = 0 ∨ y = 1 ∨ y = 2 by omega) with rfl | rfl | rfl
    · exact both_all0
    · exact both_all1
    · exact both_all2
  rw [List.all_eq_true] at h
  exact gave_some (h m (List.mem_range.2 hm))
end Go.Proofs.Ytdnhhakbkinekaa
