/-
  DERIVED: THE SHELF's CONTRACTS AT THIS DUMP, IN PLAIN WORDS (tools/lay-plain.mjs out of 'YtfocleohejljpaaDoorSort.lean', which tools/lay-shelf.mjs wrote): THE SAME DECLARATIONS UNDER THE SAME NAMES: 'import', 'namespace', 'open', 'def', 'theorem' AND NOTHING ELSE: no command of the shelf's: FOR A HAND-IN. Each laying: the table of numbers ('.._ren') and one theorem, a field a fact of the dump's own or the kernel's comparison; each contract: ONE APPLICATION.
-/
import Derived.Shelf.SortM.Plain
import Derived.Shelf.SortM.SortNone
import Derived.Ground.SlgmProg
import Derived.Test.YtfocleohejljpaaDoorProg
namespace Go.Proofs
open Go.Shelf
def Tryd.mSort_ren : Go.Shelf.Ren := ⟨fun | 6 => 81 | 8 => 100 | 9 => 99 | 19 => 124 | 20 => 125 | 21 => 115 | 22 => 116 | 23 => 117 | 24 => 118 | 25 => 119 | 26 => 120 | 27 => 121 | 28 => 122 | 29 => 123 | 36 => 131 | 31 => 132 | 32 => 133 | 37 => 134 | 38 => 135 | 39 => 136 | 41 => 138 | n => n, fun | 27 => 60 | 29 => 9 | 3 => 3 | 32 => 129 | 26 => 60 | 0 => 0 | 44 => 146 | 46 => 148 | 4 => 4 | 36 => 139 | 35 => 138 | 41 => 143 | 5 => 5 | 9 => 9 | 53 => 152 | 57 => 156 | 63 => 163 | 64 => 82 | n => n, fun | n => n⟩
theorem Tryd.mSort : Go.Proofs.SlLaysM.n6 Tryd.prog Tryd.mSort_ren := {
  mixed := by kernel_rfl
  f6 := ⟨Tryd.f81.name, by decide, Tryd.func81.trans (congrArg some (by kernel_rfl))⟩
  f8 := Tryd.func100.trans (congrArg some (by kernel_rfl))
  f9 := ⟨Tryd.f99.name, by decide, Tryd.func99.trans (congrArg some (by kernel_rfl))⟩
  f19 := Tryd.func124.trans (congrArg some (by kernel_rfl))
  f20 := Tryd.func125.trans (congrArg some (by kernel_rfl))
  f21 := ⟨Tryd.f115.name, by decide, Tryd.func115.trans (congrArg some (by kernel_rfl))⟩
  f22 := ⟨Tryd.f116.name, by decide, Tryd.func116.trans (congrArg some (by kernel_rfl))⟩
  f23 := ⟨Tryd.f117.name, by decide, Tryd.func117.trans (congrArg some (by kernel_rfl))⟩
  f24 := ⟨Tryd.f118.name, by decide, Tryd.func118.trans (congrArg some (by kernel_rfl))⟩
  f25 := ⟨Tryd.f119.name, by decide, Tryd.func119.trans (congrArg some (by kernel_rfl))⟩
  f26 := ⟨Tryd.f120.name, by decide, Tryd.func120.trans (congrArg some (by kernel_rfl))⟩
  f27 := ⟨Tryd.f121.name, by decide, Tryd.func121.trans (congrArg some (by kernel_rfl))⟩
  f28 := ⟨Tryd.f122.name, by decide, Tryd.func122.trans (congrArg some (by kernel_rfl))⟩
  f29 := ⟨Tryd.f123.name, by decide, Tryd.func123.trans (congrArg some (by kernel_rfl))⟩
  f31 := Tryd.func132.trans (congrArg some (by kernel_rfl))
  f32 := Tryd.func133.trans (congrArg some (by kernel_rfl))
  f36 := ⟨Tryd.f131.name, by decide, Tryd.func131.trans (congrArg some (by kernel_rfl))⟩
  f37 := ⟨Tryd.f134.name, by decide, Tryd.func134.trans (congrArg some (by kernel_rfl))⟩
  f38 := ⟨Tryd.f135.name, by decide, Tryd.func135.trans (congrArg some (by kernel_rfl))⟩
  f39 := ⟨Tryd.f136.name, by decide, Tryd.func136.trans (congrArg some (by kernel_rfl))⟩
  f41 := ⟨Tryd.f138.name, by decide, Tryd.func138.trans (congrArg some (by kernel_rfl))⟩
  t0 := Tryd.underlying0
  a0 := Tryd.isAgg0
  z0 := Tryd.sizeOf0
  v0 := Tryd.zeroValue0
  t3 := Tryd.underlying3
  a3 := Tryd.isAgg3
  z3 := Tryd.sizeOf3
  v3 := Tryd.zeroValue3
  t4 := Tryd.underlying4
  a4 := Tryd.isAgg4
  z4 := Tryd.sizeOf4
  v4 := Tryd.zeroValue4
  t5 := Tryd.underlying5
  a5 := Tryd.isAgg5
  z5 := Tryd.sizeOf5
  v5 := Tryd.zeroValue5
  t9 := Tryd.underlying9
  a9 := Tryd.isAgg9
  z9 := Tryd.sizeOf9
  v9 := Tryd.zeroValue9
  t26 := Tryd.underlying60
  a26 := Tryd.isAgg60
  z26 := Tryd.sizeOf60
  v26 := Tryd.zeroValue60
  t27 := Tryd.underlying60
  a27 := Tryd.isAgg60
  z27 := Tryd.sizeOf60
  v27 := Tryd.zeroValue60
  t29 := Tryd.underlying9
  a29 := Tryd.isAgg9
  z29 := Tryd.sizeOf9
  v29 := Tryd.zeroValue9
  t32 := Tryd.underlying129
  a32 := Tryd.isAgg129
  z32 := Tryd.sizeOf129
  v32 := Tryd.zeroValue129
  t35 := Tryd.underlying138
  a35 := Tryd.isAgg138
  z35 := Tryd.sizeOf138
  v35 := Tryd.zeroValue138
  t36 := Tryd.underlying139
  a36 := Tryd.isAgg139
  z36 := Tryd.sizeOf139
  v36 := Tryd.zeroValue139
  t41 := Tryd.underlying143
  a41 := Tryd.isAgg143
  z41 := Tryd.sizeOf143
  v41 := Tryd.zeroValue143
  t44 := Tryd.underlying146
  a44 := Tryd.isAgg146
  z44 := Tryd.sizeOf146
  v44 := Tryd.zeroValue146
  t46 := Tryd.underlying148
  a46 := Tryd.isAgg148
  z46 := Tryd.sizeOf148
  v46 := Tryd.zeroValue148
  t53 := Tryd.underlying152
  a53 := Tryd.isAgg152
  z53 := Tryd.sizeOf152
  v53 := Tryd.zeroValue152
  t57 := Tryd.underlying156
  a57 := Tryd.isAgg156
  z57 := Tryd.sizeOf156
  v57 := Tryd.zeroValue156
  t63 := Tryd.underlying163
  a63 := Tryd.isAgg163
  z63 := Tryd.sizeOf163
  v63 := Tryd.zeroValue163
  t64 := Tryd.underlying82
  a64 := Tryd.isAgg82
  z64 := Tryd.sizeOf82
  v64 := Tryd.zeroValue82 }
end Go.Proofs
