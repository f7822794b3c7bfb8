/-
  DERIVED: THE SHELF's CONTRACTS AT THIS DUMP, IN PLAIN WORDS (tools/lay-plain.mjs out of 'YtfhdcjfkngflbaaDoorNamesTry.lean', which tools/lay-shelf.mjs wrote): THE SAME DECLARATIONS UNDER THE SAME NAMES: 'import', 'namespace', 'open', 'def', 'theorem' AND NOTHING ELSE: no command of the shelf's: FOR A HAND-IN. Each laying: the table of numbers ('.._ren') and one theorem, a field a fact of the dump's own or the kernel's comparison; each contract: ONE APPLICATION.
-/
import Derived.Shelf.SlIter.Nil
import Derived.Shelf.SortM.Plain
import Derived.Shelf.SortM.SortNone
import Derived.Ground.GgzProg
import Derived.Ground.SlgmProg
import Derived.Shelf.SlGeneric
import Derived.Test.YtfhdcjfkngflbaaDoorProg
namespace Go.Proofs
open Go.Shelf
def Tryd.namesSorted_ren : Go.Shelf.Ren := ⟨fun | 6 => 22 | 8 => 31 | 9 => 32 | 11 => 40 | 13 => 35 | 12 => 41 | 23 => 50 | 24 => 51 | 14 => 55 | 15 => 56 | 16 => 57 | 17 => 58 | 18 => 59 | 19 => 60 | 20 => 61 | 21 => 62 | 22 => 63 | 25 => 69 | 26 => 65 | 27 => 66 | 28 => 70 | 29 => 71 | 30 => 72 | 31 => 74 | n => n, fun | 26 => 9 | 28 => 62 | 24 => 35 | 0 => 0 | 3 => 3 | 37 => 82 | 48 => 106 | 50 => 108 | 4 => 4 | 40 => 99 | 39 => 98 | 45 => 103 | 5 => 5 | 9 => 9 | 51 => 128 | 55 => 132 | 57 => 136 | 58 => 137 | 33 => 51 | n => n, fun | n => n⟩
theorem Tryd.namesSorted : Go.Proofs.SlLaysZ.n6 Tryd.prog Tryd.namesSorted_ren := {
  mixed := by kernel_rfl
  f6 := ⟨Tryd.f22.name, by decide, Tryd.func22.trans (congrArg some (by kernel_rfl))⟩
  f8 := ⟨Tryd.f31.name, by decide, Tryd.func31.trans (congrArg some (by kernel_rfl))⟩
  f11 := ⟨Tryd.f40.name, by decide, Tryd.func40.trans (congrArg some (by kernel_rfl))⟩
  t0 := Tryd.underlying0
  a0 := Tryd.isAgg0
  z0 := Tryd.sizeOf0
  v0 := Tryd.zeroValue0
  t24 := Tryd.underlying35
  a24 := Tryd.isAgg35
  z24 := Tryd.sizeOf35
  v24 := Tryd.zeroValue35
  t26 := Tryd.underlying9
  a26 := Tryd.isAgg9
  z26 := Tryd.sizeOf9
  v26 := Tryd.zeroValue9
  t28 := Tryd.underlying62
  a28 := Tryd.isAgg62
  z28 := Tryd.sizeOf62
  v28 := Tryd.zeroValue62
  i26 := by kernel_rfl }
def Tryd.namesSort_ren : Go.Shelf.Ren := ⟨fun | 6 => 32 | 8 => 35 | 9 => 41 | 19 => 50 | 20 => 51 | 21 => 55 | 22 => 56 | 23 => 57 | 24 => 58 | 25 => 59 | 26 => 60 | 27 => 61 | 28 => 62 | 29 => 63 | 36 => 69 | 31 => 65 | 32 => 66 | 37 => 70 | 38 => 71 | 39 => 72 | 41 => 74 | n => n, fun | 27 => 35 | 29 => 9 | 3 => 3 | 32 => 82 | 26 => 35 | 0 => 0 | 44 => 106 | 46 => 108 | 4 => 4 | 36 => 99 | 35 => 98 | 41 => 103 | 5 => 5 | 9 => 9 | 53 => 128 | 57 => 132 | 63 => 136 | 64 => 137 | n => n, fun | n => n⟩
theorem Tryd.namesSort : Go.Proofs.SlLaysM.n6 Tryd.prog Tryd.namesSort_ren := {
  mixed := by kernel_rfl
  f6 := ⟨Tryd.f32.name, by decide, Tryd.func32.trans (congrArg some (by kernel_rfl))⟩
  f8 := Tryd.func35.trans (congrArg some (by kernel_rfl))
  f9 := ⟨Tryd.f41.name, by decide, Tryd.func41.trans (congrArg some (by kernel_rfl))⟩
  f19 := Tryd.func50.trans (congrArg some (by kernel_rfl))
  f20 := Tryd.func51.trans (congrArg some (by kernel_rfl))
  f21 := ⟨Tryd.f55.name, by decide, Tryd.func55.trans (congrArg some (by kernel_rfl))⟩
  f22 := ⟨Tryd.f56.name, by decide, Tryd.func56.trans (congrArg some (by kernel_rfl))⟩
  f23 := ⟨Tryd.f57.name, by decide, Tryd.func57.trans (congrArg some (by kernel_rfl))⟩
  f24 := ⟨Tryd.f58.name, by decide, Tryd.func58.trans (congrArg some (by kernel_rfl))⟩
  f25 := ⟨Tryd.f59.name, by decide, Tryd.func59.trans (congrArg some (by kernel_rfl))⟩
  f26 := ⟨Tryd.f60.name, by decide, Tryd.func60.trans (congrArg some (by kernel_rfl))⟩
  f27 := ⟨Tryd.f61.name, by decide, Tryd.func61.trans (congrArg some (by kernel_rfl))⟩
  f28 := ⟨Tryd.f62.name, by decide, Tryd.func62.trans (congrArg some (by kernel_rfl))⟩
  f29 := ⟨Tryd.f63.name, by decide, Tryd.func63.trans (congrArg some (by kernel_rfl))⟩
  f31 := Tryd.func65.trans (congrArg some (by kernel_rfl))
  f32 := Tryd.func66.trans (congrArg some (by kernel_rfl))
  f36 := ⟨Tryd.f69.name, by decide, Tryd.func69.trans (congrArg some (by kernel_rfl))⟩
  f37 := ⟨Tryd.f70.name, by decide, Tryd.func70.trans (congrArg some (by kernel_rfl))⟩
  f38 := ⟨Tryd.f71.name, by decide, Tryd.func71.trans (congrArg some (by kernel_rfl))⟩
  f39 := ⟨Tryd.f72.name, by decide, Tryd.func72.trans (congrArg some (by kernel_rfl))⟩
  f41 := ⟨Tryd.f74.name, by decide, Tryd.func74.trans (congrArg some (by kernel_rfl))⟩
  t0 := Tryd.underlying0
  a0 := Tryd.isAgg0
  z0 := Tryd.sizeOf0
  v0 := Tryd.zeroValue0
  t3 := Tryd.underlying3
  a3 := Tryd.isAgg3
  z3 := Tryd.sizeOf3
  v3 := Tryd.zeroValue3
  t4 := Tryd.underlying4
  a4 := Tryd.isAgg4
  z4 := Tryd.sizeOf4
  v4 := Tryd.zeroValue4
  t5 := Tryd.underlying5
  a5 := Tryd.isAgg5
  z5 := Tryd.sizeOf5
  v5 := Tryd.zeroValue5
  t9 := Tryd.underlying9
  a9 := Tryd.isAgg9
  z9 := Tryd.sizeOf9
  v9 := Tryd.zeroValue9
  t26 := Tryd.underlying35
  a26 := Tryd.isAgg35
  z26 := Tryd.sizeOf35
  v26 := Tryd.zeroValue35
  t27 := Tryd.underlying35
  a27 := Tryd.isAgg35
  z27 := Tryd.sizeOf35
  v27 := Tryd.zeroValue35
  t29 := Tryd.underlying9
  a29 := Tryd.isAgg9
  z29 := Tryd.sizeOf9
  v29 := Tryd.zeroValue9
  t32 := Tryd.underlying82
  a32 := Tryd.isAgg82
  z32 := Tryd.sizeOf82
  v32 := Tryd.zeroValue82
  t35 := Tryd.underlying98
  a35 := Tryd.isAgg98
  z35 := Tryd.sizeOf98
  v35 := Tryd.zeroValue98
  t36 := Tryd.underlying99
  a36 := Tryd.isAgg99
  z36 := Tryd.sizeOf99
  v36 := Tryd.zeroValue99
  t41 := Tryd.underlying103
  a41 := Tryd.isAgg103
  z41 := Tryd.sizeOf103
  v41 := Tryd.zeroValue103
  t44 := Tryd.underlying106
  a44 := Tryd.isAgg106
  z44 := Tryd.sizeOf106
  v44 := Tryd.zeroValue106
  t46 := Tryd.underlying108
  a46 := Tryd.isAgg108
  z46 := Tryd.sizeOf108
  v46 := Tryd.zeroValue108
  t53 := Tryd.underlying128
  a53 := Tryd.isAgg128
  z53 := Tryd.sizeOf128
  v53 := Tryd.zeroValue128
  t57 := Tryd.underlying132
  a57 := Tryd.isAgg132
  z57 := Tryd.sizeOf132
  v57 := Tryd.zeroValue132
  t63 := Tryd.underlying136
  a63 := Tryd.isAgg136
  z63 := Tryd.sizeOf136
  v63 := Tryd.zeroValue136
  t64 := Tryd.underlying137
  a64 := Tryd.isAgg137
  z64 := Tryd.sizeOf137
  v64 := Tryd.zeroValue137 }
end Go.Proofs
