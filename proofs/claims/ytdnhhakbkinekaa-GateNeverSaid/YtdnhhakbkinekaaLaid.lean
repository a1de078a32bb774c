/-
  The layout of slices.Sort in this program, as the kit lays it. No conditions.
-/
import Derived.Shelf.SlGeneric
import Derived.Shelf.SortM.Plain
import Derived.Shelf.SortM.SortNone
import Derived.Ground.SlgmProg
import Derived.Test.YtdnhhakbkinekaaProg
namespace Go.Proofs
open Go.Shelf
def Try.sortA_ren : Go.Shelf.Ren := ⟨fun | 5 => 14 | 8 => 20 | 7 => 19 | 19 => 31 | 20 => 32 | 10 => 22 | 11 => 23 | 12 => 24 | 13 => 25 | 14 => 26 | 15 => 27 | 16 => 28 | 17 => 29 | 18 => 30 | 30 => 33 | 31 => 34 | 32 => 35 | 33 => 36 | 34 => 37 | 35 => 38 | 40 => 39 | n => n, fun | 23 => 32 | 25 => 3 | 3 => 3 | 32 => 22 | 22 => 32 | 0 => 0 | 44 => 23 | 46 => 43 | 4 => 4 | 36 => 52 | 35 => 51 | 41 => 56 | 5 => 5 | 9 => 9 | 53 => 60 | 57 => 64 | 63 => 67 | 64 => 68 | n => n, fun | n => n⟩
theorem Try.sortA : Go.Proofs.SlLaysM.n5 Try.prog Try.sortA_ren := {
  mixed := by kernel_rfl
  f5 := ⟨Try.f14.name, by decide, Try.func14.trans (congrArg some (by kernel_rfl))⟩
  f7 := ⟨Try.f19.name, by decide, Try.func19.trans (congrArg some (by kernel_rfl))⟩
  f8 := Try.func20.trans (congrArg some (by kernel_rfl))
  f10 := ⟨Try.f22.name, by decide, Try.func22.trans (congrArg some (by kernel_rfl))⟩
  f11 := ⟨Try.f23.name, by decide, Try.func23.trans (congrArg some (by kernel_rfl))⟩
  f12 := ⟨Try.f24.name, by decide, Try.func24.trans (congrArg some (by kernel_rfl))⟩
  f13 := ⟨Try.f25.name, by decide, Try.func25.trans (congrArg some (by kernel_rfl))⟩
  f14 := ⟨Try.f26.name, by decide, Try.func26.trans (congrArg some (by kernel_rfl))⟩
  f15 := ⟨Try.f27.name, by decide, Try.func27.trans (congrArg some (by kernel_rfl))⟩
  f16 := ⟨Try.f28.name, by decide, Try.func28.trans (congrArg some (by kernel_rfl))⟩
  f17 := ⟨Try.f29.name, by decide, Try.func29.trans (congrArg some (by kernel_rfl))⟩
  f18 := ⟨Try.f30.name, by decide, Try.func30.trans (congrArg some (by kernel_rfl))⟩
  f19 := Try.func31.trans (congrArg some (by kernel_rfl))
  f20 := Try.func32.trans (congrArg some (by kernel_rfl))
  f30 := ⟨Try.f33.name, by decide, Try.func33.trans (congrArg some (by kernel_rfl))⟩
  f31 := Try.func34.trans (congrArg some (by kernel_rfl))
  f32 := Try.func35.trans (congrArg some (by kernel_rfl))
  f33 := ⟨Try.f36.name, by decide, Try.func36.trans (congrArg some (by kernel_rfl))⟩
  f34 := ⟨Try.f37.name, by decide, Try.func37.trans (congrArg some (by kernel_rfl))⟩
  f35 := ⟨Try.f38.name, by decide, Try.func38.trans (congrArg some (by kernel_rfl))⟩
  f40 := ⟨Try.f39.name, by decide, Try.func39.trans (congrArg some (by kernel_rfl))⟩
  t0 := Try.underlying0
  a0 := Try.isAgg0
  z0 := Try.sizeOf0
  v0 := Try.zeroValue0
  t3 := Try.underlying3
  a3 := Try.isAgg3
  z3 := Try.sizeOf3
  v3 := Try.zeroValue3
  t4 := Try.underlying4
  a4 := Try.isAgg4
  z4 := Try.sizeOf4
  v4 := Try.zeroValue4
  t5 := Try.underlying5
  a5 := Try.isAgg5
  z5 := Try.sizeOf5
  v5 := Try.zeroValue5
  t9 := Try.underlying9
  a9 := Try.isAgg9
  z9 := Try.sizeOf9
  v9 := Try.zeroValue9
  t22 := Try.underlying32
  a22 := Try.isAgg32
  z22 := Try.sizeOf32
  v22 := Try.zeroValue32
  t23 := Try.underlying32
  a23 := Try.isAgg32
  z23 := Try.sizeOf32
  v23 := Try.zeroValue32
  t25 := Try.underlying3
  a25 := Try.isAgg3
  z25 := Try.sizeOf3
  v25 := Try.zeroValue3
  t32 := Try.underlying22
  a32 := Try.isAgg22
  z32 := Try.sizeOf22
  v32 := Try.zeroValue22
  t35 := Try.underlying51
  a35 := Try.isAgg51
  z35 := Try.sizeOf51
  v35 := Try.zeroValue51
  t36 := Try.underlying52
  a36 := Try.isAgg52
  z36 := Try.sizeOf52
  v36 := Try.zeroValue52
  t41 := Try.underlying56
  a41 := Try.isAgg56
  z41 := Try.sizeOf56
  v41 := Try.zeroValue56
  t44 := Try.underlying23
  a44 := Try.isAgg23
  z44 := Try.sizeOf23
  v44 := Try.zeroValue23
  t46 := Try.underlying43
  a46 := Try.isAgg43
  z46 := Try.sizeOf43
  v46 := Try.zeroValue43
  t53 := Try.underlying60
  a53 := Try.isAgg60
  z53 := Try.sizeOf60
  v53 := Try.zeroValue60
  t57 := Try.underlying64
  a57 := Try.isAgg64
  z57 := Try.sizeOf64
  v57 := Try.zeroValue64
  t63 := Try.underlying67
  a63 := Try.isAgg67
  z63 := Try.sizeOf67
  v63 := Try.zeroValue67
  t64 := Try.underlying68
  a64 := Try.isAgg68
  z64 := Try.sizeOf68
  v64 := Try.zeroValue68 }
end Go.Proofs
