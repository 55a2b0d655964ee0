/-
  DERIVED: THE SHELF's CONTRACTS AT THIS DUMP, IN PLAIN WORDS (tools/lay-plain.mjs out of 'YtonkblhhknafbaaGreatL9.lean', which tools/lay-shelf.mjs wrote): THE SAME DECLARATIONS UNDER THE SAME NAMES: 'import', 'namespace', 'open', 'def', 'theorem' AND NOTHING ELSE: no command of the shelf's: FOR A HAND-IN. Each laying: the table of numbers ('.._ren') and one theorem, a field a fact of the dump's own or the kernel's comparison; each contract: ONE APPLICATION.
-/
import Derived.Test.YtonkblhhknafbaaGreatProg
import Derived.Shelf.SlLaysF0
import Derived.Shelf.SlGeneric
import Derived.Ground.SlsfProg
namespace Go.Proofs
open Go.Shelf
def Tryz.sortC_ren : Go.Shelf.Ren := ⟨fun | 6 => 59 | 15 => 88 | 14 => 87 | 28 => 109 | 29 => 110 | 20 => 101 | 21 => 102 | 22 => 103 | 23 => 104 | 24 => 105 | 25 => 106 | 26 => 107 | 27 => 108 | 46 => 116 | 47 => 117 | 48 => 118 | 49 => 119 | 50 => 120 | 57 => 123 | n => n, fun | 22 => 71 | 24 => 77 | 25 => 121 | 3 => 3 | 39 => 126 | 0 => 0 | 53 => 182 | 55 => 118 | 4 => 4 | 46 => 175 | 45 => 174 | 50 => 179 | 5 => 5 | 9 => 9 | 66 => 192 | 70 => 196 | 76 => 212 | 77 => 213 | n => n, fun | n => n⟩
theorem Tryz.sortC : Go.Proofs.SlLaysF0.n6 Tryz.prog Tryz.sortC_ren := {
  mixed := by kernel_rfl
  f6 := ⟨Tryz.f59.name, by decide, Tryz.func59.trans (congrArg some (by kernel_rfl))⟩
  f14 := ⟨Tryz.f87.name, by decide, Tryz.func87.trans (congrArg some (by kernel_rfl))⟩
  f15 := Tryz.func88.trans (congrArg some (by kernel_rfl))
  f20 := ⟨Tryz.f101.name, by decide, Tryz.func101.trans (congrArg some (by kernel_rfl))⟩
  f21 := ⟨Tryz.f102.name, by decide, Tryz.func102.trans (congrArg some (by kernel_rfl))⟩
  f22 := ⟨Tryz.f103.name, by decide, Tryz.func103.trans (congrArg some (by kernel_rfl))⟩
  f23 := ⟨Tryz.f104.name, by decide, Tryz.func104.trans (congrArg some (by kernel_rfl))⟩
  f24 := ⟨Tryz.f105.name, by decide, Tryz.func105.trans (congrArg some (by kernel_rfl))⟩
  f25 := ⟨Tryz.f106.name, by decide, Tryz.func106.trans (congrArg some (by kernel_rfl))⟩
  f26 := ⟨Tryz.f107.name, by decide, Tryz.func107.trans (congrArg some (by kernel_rfl))⟩
  f27 := ⟨Tryz.f108.name, by decide, Tryz.func108.trans (congrArg some (by kernel_rfl))⟩
  f28 := Tryz.func109.trans (congrArg some (by kernel_rfl))
  f29 := Tryz.func110.trans (congrArg some (by kernel_rfl))
  f46 := ⟨Tryz.f116.name, by decide, Tryz.func116.trans (congrArg some (by kernel_rfl))⟩
  f47 := Tryz.func117.trans (congrArg some (by kernel_rfl))
  f48 := Tryz.func118.trans (congrArg some (by kernel_rfl))
  f49 := ⟨Tryz.f119.name, by decide, Tryz.func119.trans (congrArg some (by kernel_rfl))⟩
  f50 := ⟨Tryz.f120.name, by decide, Tryz.func120.trans (congrArg some (by kernel_rfl))⟩
  f57 := ⟨Tryz.f123.name, by decide, Tryz.func123.trans (congrArg some (by kernel_rfl))⟩
  t0 := Tryz.underlying0
  a0 := Tryz.isAgg0
  z0 := Tryz.sizeOf0
  v0 := Tryz.zeroValue0
  t3 := Tryz.underlying3
  a3 := Tryz.isAgg3
  z3 := Tryz.sizeOf3
  v3 := Tryz.zeroValue3
  t4 := Tryz.underlying4
  a4 := Tryz.isAgg4
  z4 := Tryz.sizeOf4
  v4 := Tryz.zeroValue4
  t5 := Tryz.underlying5
  a5 := Tryz.isAgg5
  z5 := Tryz.sizeOf5
  v5 := Tryz.zeroValue5
  t9 := Tryz.underlying9
  a9 := Tryz.isAgg9
  z9 := Tryz.sizeOf9
  v9 := Tryz.zeroValue9
  t22 := Tryz.underlying71
  a22 := Tryz.isAgg71
  z22 := Tryz.sizeOf71
  v22 := Tryz.zeroValue71
  t25 := Tryz.underlying121
  a25 := Tryz.isAgg121
  z25 := Tryz.sizeOf121
  v25 := Tryz.zeroValue121
  t39 := Tryz.underlying126
  a39 := Tryz.isAgg126
  z39 := Tryz.sizeOf126
  v39 := Tryz.zeroValue126
  t45 := Tryz.underlying174
  a45 := Tryz.isAgg174
  z45 := Tryz.sizeOf174
  v45 := Tryz.zeroValue174
  t46 := Tryz.underlying175
  a46 := Tryz.isAgg175
  z46 := Tryz.sizeOf175
  v46 := Tryz.zeroValue175
  t50 := Tryz.underlying179
  a50 := Tryz.isAgg179
  z50 := Tryz.sizeOf179
  v50 := Tryz.zeroValue179
  t53 := Tryz.underlying182
  a53 := Tryz.isAgg182
  z53 := Tryz.sizeOf182
  v53 := Tryz.zeroValue182
  t55 := Tryz.underlying118
  a55 := Tryz.isAgg118
  z55 := Tryz.sizeOf118
  v55 := Tryz.zeroValue118
  t66 := Tryz.underlying192
  a66 := Tryz.isAgg192
  z66 := Tryz.sizeOf192
  v66 := Tryz.zeroValue192
  t70 := Tryz.underlying196
  a70 := Tryz.isAgg196
  z70 := Tryz.sizeOf196
  v70 := Tryz.zeroValue196
  t76 := Tryz.underlying212
  a76 := Tryz.isAgg212
  z76 := Tryz.sizeOf212
  v76 := Tryz.zeroValue212
  t77 := Tryz.underlying213
  a77 := Tryz.isAgg213
  z77 := Tryz.sizeOf213
  v77 := Tryz.zeroValue213 }
end Go.Proofs
