/-
  DERIVED: THE SHELF's CONTRACTS AT THIS DUMP, IN PLAIN WORDS (tools/lay-plain.mjs out of 'YthokoimoiamddaaGreatDoorNamesTry.lean', which tools/lay-shelf.mjs wrote): THE SAME DECLARATIONS UNDER THE SAME NAMES: 'import', 'namespace', 'open', 'def', 'theorem' AND NOTHING ELSE: no command of the shelf's: FOR A HAND-IN. Each laying: the table of numbers ('.._ren') and one theorem, a field a fact of the dump's own or the kernel's comparison; each contract: ONE APPLICATION.
-/
import Derived.Shelf.SlIter.Nil
import Derived.Shelf.SortM.Plain
import Derived.Shelf.SortM.SortNone
import Derived.Ground.GgzProg
import Derived.Ground.SlgmProg
import Derived.Shelf.SlGeneric
import Derived.Test.YthokoimoiamddaaGreatDoorProg
namespace Go.Proofs
open Go.Shelf
def Tryz.namesSorted_ren : Go.Shelf.Ren := ⟨fun | 6 => 35 | 8 => 55 | 9 => 56 | 11 => 84 | 13 => 59 | 12 => 85 | 23 => 94 | 24 => 95 | 14 => 113 | 15 => 114 | 16 => 115 | 17 => 116 | 18 => 117 | 19 => 118 | 20 => 119 | 21 => 120 | 22 => 121 | 25 => 138 | 26 => 123 | 27 => 124 | 28 => 139 | 29 => 140 | 30 => 141 | 31 => 149 | n => n, fun | 26 => 9 | 28 => 78 | 24 => 54 | 0 => 0 | 3 => 3 | 37 => 117 | 48 => 129 | 50 => 160 | 4 => 4 | 40 => 152 | 39 => 151 | 45 => 156 | 5 => 5 | 9 => 9 | 51 => 196 | 55 => 200 | 57 => 217 | 58 => 218 | 33 => 61 | n => n, fun | n => n⟩
theorem Tryz.namesSorted : Go.Proofs.SlLaysZ.n6 Tryz.prog Tryz.namesSorted_ren := {
  mixed := by kernel_rfl
  f6 := ⟨Tryz.f35.name, by decide, Tryz.func35.trans (congrArg some (by kernel_rfl))⟩
  f8 := ⟨Tryz.f55.name, by decide, Tryz.func55.trans (congrArg some (by kernel_rfl))⟩
  f11 := ⟨Tryz.f84.name, by decide, Tryz.func84.trans (congrArg some (by kernel_rfl))⟩
  t0 := Tryz.underlying0
  a0 := Tryz.isAgg0
  z0 := Tryz.sizeOf0
  v0 := Tryz.zeroValue0
  t24 := Tryz.underlying54
  a24 := Tryz.isAgg54
  z24 := Tryz.sizeOf54
  v24 := Tryz.zeroValue54
  t26 := Tryz.underlying9
  a26 := Tryz.isAgg9
  z26 := Tryz.sizeOf9
  v26 := Tryz.zeroValue9
  t28 := Tryz.underlying78
  a28 := Tryz.isAgg78
  z28 := Tryz.sizeOf78
  v28 := Tryz.zeroValue78
  i26 := by kernel_rfl }
def Tryz.namesSort_ren : Go.Shelf.Ren := ⟨fun | 6 => 56 | 8 => 59 | 9 => 85 | 19 => 94 | 20 => 95 | 21 => 113 | 22 => 114 | 23 => 115 | 24 => 116 | 25 => 117 | 26 => 118 | 27 => 119 | 28 => 120 | 29 => 121 | 36 => 138 | 31 => 123 | 32 => 124 | 37 => 139 | 38 => 140 | 39 => 141 | 41 => 149 | n => n, fun | 27 => 54 | 29 => 9 | 3 => 3 | 32 => 117 | 26 => 54 | 0 => 0 | 44 => 129 | 46 => 160 | 4 => 4 | 36 => 152 | 35 => 151 | 41 => 156 | 5 => 5 | 9 => 9 | 53 => 196 | 57 => 200 | 63 => 217 | 64 => 218 | n => n, fun | n => n⟩
theorem Tryz.namesSort : Go.Proofs.SlLaysM.n6 Tryz.prog Tryz.namesSort_ren := {
  mixed := by kernel_rfl
  f6 := ⟨Tryz.f56.name, by decide, Tryz.func56.trans (congrArg some (by kernel_rfl))⟩
  f8 := Tryz.func59.trans (congrArg some (by kernel_rfl))
  f9 := ⟨Tryz.f85.name, by decide, Tryz.func85.trans (congrArg some (by kernel_rfl))⟩
  f19 := Tryz.func94.trans (congrArg some (by kernel_rfl))
  f20 := Tryz.func95.trans (congrArg some (by kernel_rfl))
  f21 := ⟨Tryz.f113.name, by decide, Tryz.func113.trans (congrArg some (by kernel_rfl))⟩
  f22 := ⟨Tryz.f114.name, by decide, Tryz.func114.trans (congrArg some (by kernel_rfl))⟩
  f23 := ⟨Tryz.f115.name, by decide, Tryz.func115.trans (congrArg some (by kernel_rfl))⟩
  f24 := ⟨Tryz.f116.name, by decide, Tryz.func116.trans (congrArg some (by kernel_rfl))⟩
  f25 := ⟨Tryz.f117.name, by decide, Tryz.func117.trans (congrArg some (by kernel_rfl))⟩
  f26 := ⟨Tryz.f118.name, by decide, Tryz.func118.trans (congrArg some (by kernel_rfl))⟩
  f27 := ⟨Tryz.f119.name, by decide, Tryz.func119.trans (congrArg some (by kernel_rfl))⟩
  f28 := ⟨Tryz.f120.name, by decide, Tryz.func120.trans (congrArg some (by kernel_rfl))⟩
  f29 := ⟨Tryz.f121.name, by decide, Tryz.func121.trans (congrArg some (by kernel_rfl))⟩
  f31 := Tryz.func123.trans (congrArg some (by kernel_rfl))
  f32 := Tryz.func124.trans (congrArg some (by kernel_rfl))
  f36 := ⟨Tryz.f138.name, by decide, Tryz.func138.trans (congrArg some (by kernel_rfl))⟩
  f37 := ⟨Tryz.f139.name, by decide, Tryz.func139.trans (congrArg some (by kernel_rfl))⟩
  f38 := ⟨Tryz.f140.name, by decide, Tryz.func140.trans (congrArg some (by kernel_rfl))⟩
  f39 := ⟨Tryz.f141.name, by decide, Tryz.func141.trans (congrArg some (by kernel_rfl))⟩
  f41 := ⟨Tryz.f149.name, by decide, Tryz.func149.trans (congrArg some (by kernel_rfl))⟩
  t0 := Tryz.underlying0
  a0 := Tryz.isAgg0
  z0 := Tryz.sizeOf0
  v0 := Tryz.zeroValue0
  t3 := Tryz.underlying3
  a3 := Tryz.isAgg3
  z3 := Tryz.sizeOf3
  v3 := Tryz.zeroValue3
  t4 := Tryz.underlying4
  a4 := Tryz.isAgg4
  z4 := Tryz.sizeOf4
  v4 := Tryz.zeroValue4
  t5 := Tryz.underlying5
  a5 := Tryz.isAgg5
  z5 := Tryz.sizeOf5
  v5 := Tryz.zeroValue5
  t9 := Tryz.underlying9
  a9 := Tryz.isAgg9
  z9 := Tryz.sizeOf9
  v9 := Tryz.zeroValue9
  t26 := Tryz.underlying54
  a26 := Tryz.isAgg54
  z26 := Tryz.sizeOf54
  v26 := Tryz.zeroValue54
  t27 := Tryz.underlying54
  a27 := Tryz.isAgg54
  z27 := Tryz.sizeOf54
  v27 := Tryz.zeroValue54
  t29 := Tryz.underlying9
  a29 := Tryz.isAgg9
  z29 := Tryz.sizeOf9
  v29 := Tryz.zeroValue9
  t32 := Tryz.underlying117
  a32 := Tryz.isAgg117
  z32 := Tryz.sizeOf117
  v32 := Tryz.zeroValue117
  t35 := Tryz.underlying151
  a35 := Tryz.isAgg151
  z35 := Tryz.sizeOf151
  v35 := Tryz.zeroValue151
  t36 := Tryz.underlying152
  a36 := Tryz.isAgg152
  z36 := Tryz.sizeOf152
  v36 := Tryz.zeroValue152
  t41 := Tryz.underlying156
  a41 := Tryz.isAgg156
  z41 := Tryz.sizeOf156
  v41 := Tryz.zeroValue156
  t44 := Tryz.underlying129
  a44 := Tryz.isAgg129
  z44 := Tryz.sizeOf129
  v44 := Tryz.zeroValue129
  t46 := Tryz.underlying160
  a46 := Tryz.isAgg160
  z46 := Tryz.sizeOf160
  v46 := Tryz.zeroValue160
  t53 := Tryz.underlying196
  a53 := Tryz.isAgg196
  z53 := Tryz.sizeOf196
  v53 := Tryz.zeroValue196
  t57 := Tryz.underlying200
  a57 := Tryz.isAgg200
  z57 := Tryz.sizeOf200
  v57 := Tryz.zeroValue200
  t63 := Tryz.underlying217
  a63 := Tryz.isAgg217
  z63 := Tryz.sizeOf217
  v63 := Tryz.zeroValue217
  t64 := Tryz.underlying218
  a64 := Tryz.isAgg218
  z64 := Tryz.sizeOf218
  v64 := Tryz.zeroValue218 }
end Go.Proofs
