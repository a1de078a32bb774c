/-
  RoundsNone gives true for every pair of numbers. No conditions.
-/
import Derived.Test.YtcihabdmigpklaaGreatDoorNone0
import Derived.Test.YtcihabdmigpklaaGreatDoorNone1
import Derived.Test.YtcihabdmigpklaaGreatDoorNone2
import Derived.Test.YtcihabdmigpklaaGreatDoorNone3
import Derived.Test.YtcihabdmigpklaaGreatDoorNone4
import Derived.Test.YtcihabdmigpklaaGreatDoorNone5
import Derived.Test.YtcihabdmigpklaaGreatDoorNone6
namespace Go.Proofs.YtcihabdmigpklaaGreatDoor
open Go Go.Abs Go.Abs.F
theorem none_all0 : ∀ k : Nat, k < 21 → noneOk k 0 = true := by
  intro k hk
  have h : k = 0 ∨ k = 1 ∨ k = 2 ∨ k = 3 ∨ k = 4 ∨ k = 5 ∨ k = 6 ∨ k = 7 ∨ k = 8 ∨ k = 9 ∨ k = 10 ∨ k = 11 ∨ k = 12 ∨ k = 13 ∨ k = 14 ∨ k = 15 ∨ k = 16 ∨ k = 17 ∨ k = 18 ∨ k = 19 ∨ k = 20 := by omega
  rcases h with rfl | rfl | rfl | rfl | rfl | rfl | rfl | rfl | rfl | rfl | rfl | rfl | rfl | rfl | rfl | rfl | rfl | rfl | rfl | rfl | rfl
  · exact none_0_0
  · exact none_1_0
  · exact none_2_0
  · exact none_3_0
  · exact none_4_0
  · exact none_5_0
  · exact none_6_0
  · exact none_7_0
  · exact none_8_0
  · exact none_9_0
  · exact none_10_0
  · exact none_11_0
  · exact none_12_0
  · exact none_13_0
  · exact none_14_0
  · exact none_15_0
  · exact none_16_0
  · exact none_17_0
  · exact none_18_0
  · exact none_19_0
  · exact none_20_0
theorem none_all1 : ∀ k : Nat, k < 21 → noneOk k 1 = true := by
  intro k hk
  have h : k = 0 ∨ k = 1 ∨ k = 2 ∨ k = 3 ∨ k = 4 ∨ k = 5 ∨ k = 6 ∨ k = 7 ∨ k = 8 ∨ k = 9 ∨ k = 10 ∨ k = 11 ∨ k = 12 ∨ k = 13 ∨ k = 14 ∨ k = 15 ∨ k = 16 ∨ k = 17 ∨ k = 18 ∨ k = 19 ∨ k = 20 := by omega
  rcases h with rfl | rfl | rfl | rfl | rfl | rfl | rfl | rfl | rfl | rfl | rfl | rfl | rfl | rfl | rfl | rfl | rfl | rfl | rfl | rfl | rfl
  · exact none_0_1
  · exact none_1_1
  · exact none_2_1
  · exact none_3_1
  · exact none_4_1
  · exact none_5_1
  · exact none_6_1
  · exact none_7_1
  · exact none_8_1
  · exact none_9_1
  · exact none_10_1
  · exact none_11_1
  · exact none_12_1
  · exact none_13_1
  · exact none_14_1
  · exact none_15_1
  · exact none_16_1
  · exact none_17_1
  · exact none_18_1
  · exact none_19_1
  · exact none_20_1
theorem none_run (n s : Int) : ∃ τ, E2 61 3 [I .i64 n, I .i64 s] St.empty = some (B true, τ) := by
  have e : E2 61 3 [I .i64 n, I .i64 s] St.empty = f3 fast (E2 60) 8192 (I .i64 n) (I .i64 s) St.empty := by kernel_rfl
  rw [e, none_fst, none_snd]
  have h1 : 0 ≤ IntKind.u64.wrap n % 21 := Int.emod_nonneg _ (by omega)
  have h2 : IntKind.u64.wrap n % 21 < 21 := Int.emod_lt_of_pos _ (by omega)
  have h3 : 0 ≤ IntKind.u64.wrap s % 2 := Int.emod_nonneg _ (by omega)
  have h4 : IntKind.u64.wrap s % 2 < 2 := Int.emod_lt_of_pos _ (by omega)
  obtain ⟨k, hk⟩ := Int.eq_ofNat_of_zero_le h1
  obtain ⟨j, hj⟩ := Int.eq_ofNat_of_zero_le h3
  rw [hk, hj]
  have hk' : k < 21 := by omega
  have hj' : j = 0 ∨ j = 1 := by omega
  rcases hj' with rfl | rfl
  · exact gave_some (none_all0 k hk')
  · exact gave_some (none_all1 k hk')
end Go.Proofs.YtcihabdmigpklaaGreatDoor
