/-
  The layouts of maps.Keys, slices.Sorted and slices.Sort in this program, as the kit lays them. No conditions.
-/
import Derived.Shelf.SlGeneric
import Derived.Shelf.SlIter.Nil
import Derived.Shelf.SortM.Plain
import Derived.Shelf.SortM.SortNone
import Derived.Ground.GgzProg
import Derived.Ground.SlgmProg
import Derived.Test.YtinmpngfehamcaaDoorProg
namespace Go.Proofs
open Go.Shelf
def Tryd.keysA_ren : Go.Shelf.Ren := ⟨fun | 7 => 22 | 10 => 26 | n => n, fun | 23 => 42 | 26 => 9 | 3 => 45 | 28 => 54 | 0 => 0 | 27 => 53 | 33 => 51 | 4 => 4 | n => n, fun | n => n⟩
theorem Tryd.keysA : Go.Proofs.SlLaysZ.n7 Tryd.prog Tryd.keysA_ren := {
  mixed := by kernel_rfl
  f7 := ⟨Tryd.f22.name, by decide, Tryd.func22.trans (congrArg some (by kernel_rfl))⟩
  f10 := ⟨Tryd.f26.name, by decide, Tryd.func26.trans (congrArg some (by kernel_rfl))⟩
  t0 := Tryd.underlying0
  a0 := Tryd.isAgg0
  z0 := Tryd.sizeOf0
  v0 := Tryd.zeroValue0
  t4 := Tryd.underlying4
  a4 := Tryd.isAgg4
  z4 := Tryd.sizeOf4
  v4 := Tryd.zeroValue4
  t23 := Tryd.underlying42
  a23 := Tryd.isAgg42
  z23 := Tryd.sizeOf42
  v23 := Tryd.zeroValue42
  t26 := Tryd.underlying9
  a26 := Tryd.isAgg9
  z26 := Tryd.sizeOf9
  v26 := Tryd.zeroValue9
  t27 := Tryd.underlying53
  a27 := Tryd.isAgg53
  z27 := Tryd.sizeOf53
  v27 := Tryd.zeroValue53
  t28 := Tryd.underlying54
  a28 := Tryd.isAgg54
  z28 := Tryd.sizeOf54
  v28 := Tryd.zeroValue54
  t33 := Tryd.underlying51
  a33 := Tryd.isAgg51
  z33 := Tryd.sizeOf51
  v33 := Tryd.zeroValue51 }
def Tryd.sortedA_ren : Go.Shelf.Ren := ⟨fun | 6 => 21 | 8 => 24 | 9 => 25 | 11 => 34 | 13 => 36 | 12 => 35 | 23 => 50 | 24 => 51 | 14 => 41 | 15 => 42 | 16 => 43 | 17 => 44 | 18 => 45 | 19 => 46 | 20 => 47 | 21 => 48 | 22 => 49 | 25 => 55 | 26 => 56 | 27 => 57 | 28 => 58 | 29 => 59 | 30 => 60 | 31 => 65 | n => n, fun | 26 => 9 | 28 => 54 | 24 => 37 | 0 => 0 | 3 => 3 | 37 => 33 | 48 => 82 | 50 => 84 | 4 => 4 | 40 => 74 | 39 => 73 | 45 => 79 | 5 => 5 | 9 => 9 | 51 => 86 | 55 => 90 | 57 => 99 | 58 => 100 | 33 => 51 | n => n, fun | n => n⟩
theorem Tryd.sortedA : Go.Proofs.SlLaysZ.n6 Tryd.prog Tryd.sortedA_ren := {
  mixed := by kernel_rfl
  f6 := ⟨Tryd.f21.name, by decide, Tryd.func21.trans (congrArg some (by kernel_rfl))⟩
  f8 := ⟨Tryd.f24.name, by decide, Tryd.func24.trans (congrArg some (by kernel_rfl))⟩
  f11 := ⟨Tryd.f34.name, by decide, Tryd.func34.trans (congrArg some (by kernel_rfl))⟩
  t0 := Tryd.underlying0
  a0 := Tryd.isAgg0
  z0 := Tryd.sizeOf0
  v0 := Tryd.zeroValue0
  t24 := Tryd.underlying37
  a24 := Tryd.isAgg37
  z24 := Tryd.sizeOf37
  v24 := Tryd.zeroValue37
  t26 := Tryd.underlying9
  a26 := Tryd.isAgg9
  z26 := Tryd.sizeOf9
  v26 := Tryd.zeroValue9
  t28 := Tryd.underlying54
  a28 := Tryd.isAgg54
  z28 := Tryd.sizeOf54
  v28 := Tryd.zeroValue54
  i26 := by kernel_rfl }
def Tryd.sortA_ren : Go.Shelf.Ren := ⟨fun | 6 => 25 | 8 => 36 | 9 => 35 | 19 => 50 | 20 => 51 | 21 => 41 | 22 => 42 | 23 => 43 | 24 => 44 | 25 => 45 | 26 => 46 | 27 => 47 | 28 => 48 | 29 => 49 | 36 => 55 | 31 => 56 | 32 => 57 | 37 => 58 | 38 => 59 | 39 => 60 | 41 => 65 | n => n, fun | 27 => 37 | 29 => 9 | 3 => 3 | 32 => 33 | 26 => 37 | 0 => 0 | 44 => 82 | 46 => 84 | 4 => 4 | 36 => 74 | 35 => 73 | 41 => 79 | 5 => 5 | 9 => 9 | 53 => 86 | 57 => 90 | 63 => 99 | 64 => 100 | n => n, fun | n => n⟩
theorem Tryd.sortA : Go.Proofs.SlLaysM.n6 Tryd.prog Tryd.sortA_ren := {
  mixed := by kernel_rfl
  f6 := ⟨Tryd.f25.name, by decide, Tryd.func25.trans (congrArg some (by kernel_rfl))⟩
  f8 := Tryd.func36.trans (congrArg some (by kernel_rfl))
  f9 := ⟨Tryd.f35.name, by decide, Tryd.func35.trans (congrArg some (by kernel_rfl))⟩
  f19 := Tryd.func50.trans (congrArg some (by kernel_rfl))
  f20 := Tryd.func51.trans (congrArg some (by kernel_rfl))
  f21 := ⟨Tryd.f41.name, by decide, Tryd.func41.trans (congrArg some (by kernel_rfl))⟩
  f22 := ⟨Tryd.f42.name, by decide, Tryd.func42.trans (congrArg some (by kernel_rfl))⟩
  f23 := ⟨Tryd.f43.name, by decide, Tryd.func43.trans (congrArg some (by kernel_rfl))⟩
  f24 := ⟨Tryd.f44.name, by decide, Tryd.func44.trans (congrArg some (by kernel_rfl))⟩
  f25 := ⟨Tryd.f45.name, by decide, Tryd.func45.trans (congrArg some (by kernel_rfl))⟩
  f26 := ⟨Tryd.f46.name, by decide, Tryd.func46.trans (congrArg some (by kernel_rfl))⟩
  f27 := ⟨Tryd.f47.name, by decide, Tryd.func47.trans (congrArg some (by kernel_rfl))⟩
  f28 := ⟨Tryd.f48.name, by decide, Tryd.func48.trans (congrArg some (by kernel_rfl))⟩
  f29 := ⟨Tryd.f49.name, by decide, Tryd.func49.trans (congrArg some (by kernel_rfl))⟩
  f31 := Tryd.func56.trans (congrArg some (by kernel_rfl))
  f32 := Tryd.func57.trans (congrArg some (by kernel_rfl))
  f36 := ⟨Tryd.f55.name, by decide, Tryd.func55.trans (congrArg some (by kernel_rfl))⟩
  f37 := ⟨Tryd.f58.name, by decide, Tryd.func58.trans (congrArg some (by kernel_rfl))⟩
  f38 := ⟨Tryd.f59.name, by decide, Tryd.func59.trans (congrArg some (by kernel_rfl))⟩
  f39 := ⟨Tryd.f60.name, by decide, Tryd.func60.trans (congrArg some (by kernel_rfl))⟩
  f41 := ⟨Tryd.f65.name, by decide, Tryd.func65.trans (congrArg some (by kernel_rfl))⟩
  t0 := Tryd.underlying0
  a0 := Tryd.isAgg0
  z0 := Tryd.sizeOf0
  v0 := Tryd.zeroValue0
  t3 := Tryd.underlying3
  a3 := Tryd.isAgg3
  z3 := Tryd.sizeOf3
  v3 := Tryd.zeroValue3
  t4 := Tryd.underlying4
  a4 := Tryd.isAgg4
  z4 := Tryd.sizeOf4
  v4 := Tryd.zeroValue4
  t5 := Tryd.underlying5
  a5 := Tryd.isAgg5
  z5 := Tryd.sizeOf5
  v5 := Tryd.zeroValue5
  t9 := Tryd.underlying9
  a9 := Tryd.isAgg9
  z9 := Tryd.sizeOf9
  v9 := Tryd.zeroValue9
  t26 := Tryd.underlying37
  a26 := Tryd.isAgg37
  z26 := Tryd.sizeOf37
  v26 := Tryd.zeroValue37
  t27 := Tryd.underlying37
  a27 := Tryd.isAgg37
  z27 := Tryd.sizeOf37
  v27 := Tryd.zeroValue37
  t29 := Tryd.underlying9
  a29 := Tryd.isAgg9
  z29 := Tryd.sizeOf9
  v29 := Tryd.zeroValue9
  t32 := Tryd.underlying33
  a32 := Tryd.isAgg33
  z32 := Tryd.sizeOf33
  v32 := Tryd.zeroValue33
  t35 := Tryd.underlying73
  a35 := Tryd.isAgg73
  z35 := Tryd.sizeOf73
  v35 := Tryd.zeroValue73
  t36 := Tryd.underlying74
  a36 := Tryd.isAgg74
  z36 := Tryd.sizeOf74
  v36 := Tryd.zeroValue74
  t41 := Tryd.underlying79
  a41 := Tryd.isAgg79
  z41 := Tryd.sizeOf79
  v41 := Tryd.zeroValue79
  t44 := Tryd.underlying82
  a44 := Tryd.isAgg82
  z44 := Tryd.sizeOf82
  v44 := Tryd.zeroValue82
  t46 := Tryd.underlying84
  a46 := Tryd.isAgg84
  z46 := Tryd.sizeOf84
  v46 := Tryd.zeroValue84
  t53 := Tryd.underlying86
  a53 := Tryd.isAgg86
  z53 := Tryd.sizeOf86
  v53 := Tryd.zeroValue86
  t57 := Tryd.underlying90
  a57 := Tryd.isAgg90
  z57 := Tryd.sizeOf90
  v57 := Tryd.zeroValue90
  t63 := Tryd.underlying99
  a63 := Tryd.isAgg99
  z63 := Tryd.sizeOf99
  v63 := Tryd.zeroValue99
  t64 := Tryd.underlying100
  a64 := Tryd.isAgg100
  z64 := Tryd.sizeOf100
  v64 := Tryd.zeroValue100 }
end Go.Proofs
