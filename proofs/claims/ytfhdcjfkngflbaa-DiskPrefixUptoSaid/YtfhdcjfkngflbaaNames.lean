/-
  DERIVED: THE SHELF's CONTRACTS AT THIS DUMP, IN PLAIN WORDS (tools/lay-plain.mjs out of 'YtfhdcjfkngflbaaNamesTry.lean', which tools/lay-shelf.mjs wrote): THE SAME DECLARATIONS UNDER THE SAME NAMES: 'import', 'namespace', 'open', 'def', 'theorem' AND NOTHING ELSE: no command of the shelf's: FOR A HAND-IN. Each laying: the table of numbers ('.._ren') and one theorem, a field a fact of the dump's own or the kernel's comparison; each contract: ONE APPLICATION.
-/
import Derived.Shelf.SlIter.Nil
import Derived.Shelf.SortM.Plain
import Derived.Shelf.SortM.SortNone
import Derived.Ground.GgzProg
import Derived.Ground.SlgmProg
import Derived.Shelf.SlGeneric
import Derived.Test.YtfhdcjfkngflbaaProg
namespace Go.Proofs
open Go.Shelf
def Try.namesSorted_ren : Go.Shelf.Ren := ⟨fun | 6 => 22 | 8 => 29 | 9 => 30 | 11 => 42 | 13 => 28 | 12 => 43 | 23 => 40 | 24 => 41 | 14 => 49 | 15 => 50 | 16 => 51 | 17 => 52 | 18 => 53 | 19 => 54 | 20 => 55 | 21 => 56 | 22 => 57 | 25 => 59 | 26 => 45 | 27 => 46 | 28 => 60 | 29 => 61 | 30 => 62 | 31 => 63 | n => n, fun | 26 => 9 | 28 => 61 | 24 => 36 | 0 => 0 | 3 => 3 | 37 => 69 | 48 => 81 | 50 => 83 | 4 => 4 | 40 => 74 | 39 => 73 | 45 => 78 | 5 => 5 | 9 => 9 | 51 => 86 | 55 => 90 | 57 => 98 | 58 => 99 | 33 => 42 | n => n, fun | n => n⟩
theorem Try.namesSorted : Go.Proofs.SlLaysZ.n6 Try.prog Try.namesSorted_ren := {
  mixed := by kernel_rfl
  f6 := ⟨Try.f22.name, by decide, Try.func22.trans (congrArg some (by kernel_rfl))⟩
  f8 := ⟨Try.f29.name, by decide, Try.func29.trans (congrArg some (by kernel_rfl))⟩
  f11 := ⟨Try.f42.name, by decide, Try.func42.trans (congrArg some (by kernel_rfl))⟩
  t0 := Try.underlying0
  a0 := Try.isAgg0
  z0 := Try.sizeOf0
  v0 := Try.zeroValue0
  t24 := Try.underlying36
  a24 := Try.isAgg36
  z24 := Try.sizeOf36
  v24 := Try.zeroValue36
  t26 := Try.underlying9
  a26 := Try.isAgg9
  z26 := Try.sizeOf9
  v26 := Try.zeroValue9
  t28 := Try.underlying61
  a28 := Try.isAgg61
  z28 := Try.sizeOf61
  v28 := Try.zeroValue61
  i26 := by kernel_rfl }
def Try.namesSort_ren : Go.Shelf.Ren := ⟨fun | 6 => 30 | 8 => 28 | 9 => 43 | 19 => 40 | 20 => 41 | 21 => 49 | 22 => 50 | 23 => 51 | 24 => 52 | 25 => 53 | 26 => 54 | 27 => 55 | 28 => 56 | 29 => 57 | 36 => 59 | 31 => 45 | 32 => 46 | 37 => 60 | 38 => 61 | 39 => 62 | 41 => 63 | n => n, fun | 27 => 36 | 29 => 9 | 3 => 3 | 32 => 69 | 26 => 36 | 0 => 0 | 44 => 81 | 46 => 83 | 4 => 4 | 36 => 74 | 35 => 73 | 41 => 78 | 5 => 5 | 9 => 9 | 53 => 86 | 57 => 90 | 63 => 98 | 64 => 99 | n => n, fun | n => n⟩
theorem Try.namesSort : Go.Proofs.SlLaysM.n6 Try.prog Try.namesSort_ren := {
  mixed := by kernel_rfl
  f6 := ⟨Try.f30.name, by decide, Try.func30.trans (congrArg some (by kernel_rfl))⟩
  f8 := Try.func28.trans (congrArg some (by kernel_rfl))
  f9 := ⟨Try.f43.name, by decide, Try.func43.trans (congrArg some (by kernel_rfl))⟩
  f19 := Try.func40.trans (congrArg some (by kernel_rfl))
  f20 := Try.func41.trans (congrArg some (by kernel_rfl))
  f21 := ⟨Try.f49.name, by decide, Try.func49.trans (congrArg some (by kernel_rfl))⟩
  f22 := ⟨Try.f50.name, by decide, Try.func50.trans (congrArg some (by kernel_rfl))⟩
  f23 := ⟨Try.f51.name, by decide, Try.func51.trans (congrArg some (by kernel_rfl))⟩
  f24 := ⟨Try.f52.name, by decide, Try.func52.trans (congrArg some (by kernel_rfl))⟩
  f25 := ⟨Try.f53.name, by decide, Try.func53.trans (congrArg some (by kernel_rfl))⟩
  f26 := ⟨Try.f54.name, by decide, Try.func54.trans (congrArg some (by kernel_rfl))⟩
  f27 := ⟨Try.f55.name, by decide, Try.func55.trans (congrArg some (by kernel_rfl))⟩
  f28 := ⟨Try.f56.name, by decide, Try.func56.trans (congrArg some (by kernel_rfl))⟩
  f29 := ⟨Try.f57.name, by decide, Try.func57.trans (congrArg some (by kernel_rfl))⟩
  f31 := Try.func45.trans (congrArg some (by kernel_rfl))
  f32 := Try.func46.trans (congrArg some (by kernel_rfl))
  f36 := ⟨Try.f59.name, by decide, Try.func59.trans (congrArg some (by kernel_rfl))⟩
  f37 := ⟨Try.f60.name, by decide, Try.func60.trans (congrArg some (by kernel_rfl))⟩
  f38 := ⟨Try.f61.name, by decide, Try.func61.trans (congrArg some (by kernel_rfl))⟩
  f39 := ⟨Try.f62.name, by decide, Try.func62.trans (congrArg some (by kernel_rfl))⟩
  f41 := ⟨Try.f63.name, by decide, Try.func63.trans (congrArg some (by kernel_rfl))⟩
  t0 := Try.underlying0
  a0 := Try.isAgg0
  z0 := Try.sizeOf0
  v0 := Try.zeroValue0
  t3 := Try.underlying3
  a3 := Try.isAgg3
  z3 := Try.sizeOf3
  v3 := Try.zeroValue3
  t4 := Try.underlying4
  a4 := Try.isAgg4
  z4 := Try.sizeOf4
  v4 := Try.zeroValue4
  t5 := Try.underlying5
  a5 := Try.isAgg5
  z5 := Try.sizeOf5
  v5 := Try.zeroValue5
  t9 := Try.underlying9
  a9 := Try.isAgg9
  z9 := Try.sizeOf9
  v9 := Try.zeroValue9
  t26 := Try.underlying36
  a26 := Try.isAgg36
  z26 := Try.sizeOf36
  v26 := Try.zeroValue36
  t27 := Try.underlying36
  a27 := Try.isAgg36
  z27 := Try.sizeOf36
  v27 := Try.zeroValue36
  t29 := Try.underlying9
  a29 := Try.isAgg9
  z29 := Try.sizeOf9
  v29 := Try.zeroValue9
  t32 := Try.underlying69
  a32 := Try.isAgg69
  z32 := Try.sizeOf69
  v32 := Try.zeroValue69
  t35 := Try.underlying73
  a35 := Try.isAgg73
  z35 := Try.sizeOf73
  v35 := Try.zeroValue73
  t36 := Try.underlying74
  a36 := Try.isAgg74
  z36 := Try.sizeOf74
  v36 := Try.zeroValue74
  t41 := Try.underlying78
  a41 := Try.isAgg78
  z41 := Try.sizeOf78
  v41 := Try.zeroValue78
  t44 := Try.underlying81
  a44 := Try.isAgg81
  z44 := Try.sizeOf81
  v44 := Try.zeroValue81
  t46 := Try.underlying83
  a46 := Try.isAgg83
  z46 := Try.sizeOf83
  v46 := Try.zeroValue83
  t53 := Try.underlying86
  a53 := Try.isAgg86
  z53 := Try.sizeOf86
  v53 := Try.zeroValue86
  t57 := Try.underlying90
  a57 := Try.isAgg90
  z57 := Try.sizeOf90
  v57 := Try.zeroValue90
  t63 := Try.underlying98
  a63 := Try.isAgg98
  z63 := Try.sizeOf98
  v63 := Try.zeroValue98
  t64 := Try.underlying99
  a64 := Try.isAgg99
  z64 := Try.sizeOf99
  v64 := Try.zeroValue99 }
end Go.Proofs
