/-
  DERIVED: THE SHELF's CONTRACTS AT THIS DUMP, IN PLAIN WORDS (tools/lay-plain.mjs out of 'YtdbcklichbiihaaDoorSort.lean', which tools/lay-shelf.mjs wrote): THE SAME DECLARATIONS UNDER THE SAME NAMES: 'import', 'namespace', 'open', 'def', 'theorem' AND NOTHING ELSE: no command of the shelf's: FOR A HAND-IN. Each laying: the table of numbers ('.._ren') and one theorem, a field a fact of the dump's own or the kernel's comparison; each contract: ONE APPLICATION.
-/
import Derived.Shelf.SortM.Plain
import Derived.Shelf.SortM.SortNone
import Derived.Ground.SlgmProg
import Derived.Test.YtdbcklichbiihaaDoorProg
namespace Go.Proofs
open Go.Shelf
def Tryd.mSort_ren : Go.Shelf.Ren := ⟨fun | 6 => 40 | 8 => 55 | 9 => 54 | 19 => 83 | 20 => 84 | 21 => 74 | 22 => 75 | 23 => 76 | 24 => 77 | 25 => 78 | 26 => 79 | 27 => 80 | 28 => 81 | 29 => 82 | 36 => 94 | 31 => 95 | 32 => 96 | 37 => 97 | 38 => 98 | 39 => 99 | 41 => 105 | n => n, fun | 27 => 22 | 29 => 9 | 3 => 3 | 32 => 82 | 26 => 22 | 0 => 0 | 44 => 105 | 46 => 107 | 4 => 4 | 36 => 99 | 35 => 98 | 41 => 102 | 5 => 5 | 9 => 9 | 53 => 112 | 57 => 116 | 63 => 119 | 64 => 71 | n => n, fun | n => n⟩
theorem Tryd.mSort : Go.Proofs.SlLaysM.n6 Tryd.prog Tryd.mSort_ren := {
  mixed := by kernel_rfl
  f6 := ⟨Tryd.f40.name, by decide, Tryd.func40.trans (congrArg some (by kernel_rfl))⟩
  f8 := Tryd.func55.trans (congrArg some (by kernel_rfl))
  f9 := ⟨Tryd.f54.name, by decide, Tryd.func54.trans (congrArg some (by kernel_rfl))⟩
  f19 := Tryd.func83.trans (congrArg some (by kernel_rfl))
  f20 := Tryd.func84.trans (congrArg some (by kernel_rfl))
  f21 := ⟨Tryd.f74.name, by decide, Tryd.func74.trans (congrArg some (by kernel_rfl))⟩
  f22 := ⟨Tryd.f75.name, by decide, Tryd.func75.trans (congrArg some (by kernel_rfl))⟩
  f23 := ⟨Tryd.f76.name, by decide, Tryd.func76.trans (congrArg some (by kernel_rfl))⟩
  f24 := ⟨Tryd.f77.name, by decide, Tryd.func77.trans (congrArg some (by kernel_rfl))⟩
  f25 := ⟨Tryd.f78.name, by decide, Tryd.func78.trans (congrArg some (by kernel_rfl))⟩
  f26 := ⟨Tryd.f79.name, by decide, Tryd.func79.trans (congrArg some (by kernel_rfl))⟩
  f27 := ⟨Tryd.f80.name, by decide, Tryd.func80.trans (congrArg some (by kernel_rfl))⟩
  f28 := ⟨Tryd.f81.name, by decide, Tryd.func81.trans (congrArg some (by kernel_rfl))⟩
  f29 := ⟨Tryd.f82.name, by decide, Tryd.func82.trans (congrArg some (by kernel_rfl))⟩
  f31 := Tryd.func95.trans (congrArg some (by kernel_rfl))
  f32 := Tryd.func96.trans (congrArg some (by kernel_rfl))
  f36 := ⟨Tryd.f94.name, by decide, Tryd.func94.trans (congrArg some (by kernel_rfl))⟩
  f37 := ⟨Tryd.f97.name, by decide, Tryd.func97.trans (congrArg some (by kernel_rfl))⟩
  f38 := ⟨Tryd.f98.name, by decide, Tryd.func98.trans (congrArg some (by kernel_rfl))⟩
  f39 := ⟨Tryd.f99.name, by decide, Tryd.func99.trans (congrArg some (by kernel_rfl))⟩
  f41 := ⟨Tryd.f105.name, by decide, Tryd.func105.trans (congrArg some (by kernel_rfl))⟩
  t0 := Tryd.underlying0
  a0 := Tryd.isAgg0
  z0 := Tryd.sizeOf0
  v0 := Tryd.zeroValue0
  t3 := Tryd.underlying3
  a3 := Tryd.isAgg3
  z3 := Tryd.sizeOf3
  v3 := Tryd.zeroValue3
  t4 := Tryd.underlying4
  a4 := Tryd.isAgg4
  z4 := Tryd.sizeOf4
  v4 := Tryd.zeroValue4
  t5 := Tryd.underlying5
  a5 := Tryd.isAgg5
  z5 := Tryd.sizeOf5
  v5 := Tryd.zeroValue5
  t9 := Tryd.underlying9
  a9 := Tryd.isAgg9
  z9 := Tryd.sizeOf9
  v9 := Tryd.zeroValue9
  t26 := Tryd.underlying22
  a26 := Tryd.isAgg22
  z26 := Tryd.sizeOf22
  v26 := Tryd.zeroValue22
  t27 := Tryd.underlying22
  a27 := Tryd.isAgg22
  z27 := Tryd.sizeOf22
  v27 := Tryd.zeroValue22
  t29 := Tryd.underlying9
  a29 := Tryd.isAgg9
  z29 := Tryd.sizeOf9
  v29 := Tryd.zeroValue9
  t32 := Tryd.underlying82
  a32 := Tryd.isAgg82
  z32 := Tryd.sizeOf82
  v32 := Tryd.zeroValue82
  t35 := Tryd.underlying98
  a35 := Tryd.isAgg98
  z35 := Tryd.sizeOf98
  v35 := Tryd.zeroValue98
  t36 := Tryd.underlying99
  a36 := Tryd.isAgg99
  z36 := Tryd.sizeOf99
  v36 := Tryd.zeroValue99
  t41 := Tryd.underlying102
  a41 := Tryd.isAgg102
  z41 := Tryd.sizeOf102
  v41 := Tryd.zeroValue102
  t44 := Tryd.underlying105
  a44 := Tryd.isAgg105
  z44 := Tryd.sizeOf105
  v44 := Tryd.zeroValue105
  t46 := Tryd.underlying107
  a46 := Tryd.isAgg107
  z46 := Tryd.sizeOf107
  v46 := Tryd.zeroValue107
  t53 := Tryd.underlying112
  a53 := Tryd.isAgg112
  z53 := Tryd.sizeOf112
  v53 := Tryd.zeroValue112
  t57 := Tryd.underlying116
  a57 := Tryd.isAgg116
  z57 := Tryd.sizeOf116
  v57 := Tryd.zeroValue116
  t63 := Tryd.underlying119
  a63 := Tryd.isAgg119
  z63 := Tryd.sizeOf119
  v63 := Tryd.zeroValue119
  t64 := Tryd.underlying71
  a64 := Tryd.isAgg71
  z64 := Tryd.sizeOf71
  v64 := Tryd.zeroValue71 }
end Go.Proofs
