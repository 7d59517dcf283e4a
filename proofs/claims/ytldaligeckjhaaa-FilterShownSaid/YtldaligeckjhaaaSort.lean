/-
  DERIVED: THE SHELF's CONTRACTS AT THIS DUMP, IN PLAIN WORDS (tools/lay-plain.mjs out of 'TrySort.lean', which tools/lay-shelf.mjs wrote): THE SAME DECLARATIONS UNDER THE SAME NAMES: 'import', 'namespace', 'open', 'def', 'theorem' AND NOTHING ELSE: no command of the shelf's: FOR A HAND-IN. Each laying: the table of numbers ('.._ren') and one theorem, a field a fact of the dump's own or the kernel's comparison; each contract: ONE APPLICATION.
-/
import Derived.Shelf.SlSortCmp.WholeK
import Derived.Shelf.SlGeneric
import Derived.Ground.SlsfProg
import Derived.Test.YtldaligeckjhaaaProg
namespace Go.Proofs
open Go.Shelf
def Try.sortIt_ren : Go.Shelf.Ren := ⟨fun | 6 => 43 | 15 => 74 | 14 => 73 | 28 => 97 | 29 => 98 | 20 => 89 | 21 => 90 | 22 => 91 | 23 => 92 | 24 => 93 | 25 => 94 | 26 => 95 | 27 => 96 | 46 => 100 | 47 => 101 | 48 => 102 | 49 => 103 | 50 => 104 | 57 => 105 | n => n, fun | 22 => 49 | 24 => 41 | 25 => 75 | 3 => 3 | 39 => 99 | 0 => 0 | 53 => 123 | 55 => 23 | 4 => 4 | 46 => 116 | 45 => 115 | 50 => 120 | 5 => 5 | 9 => 9 | 66 => 126 | 70 => 130 | 76 => 132 | 77 => 133 | n => n, fun | n => n⟩
theorem Try.sortIt : Go.Proofs.SlLaysF0.n6 Try.prog Try.sortIt_ren := {
  mixed := by kernel_rfl
  f6 := ⟨Try.f43.name, by decide, Try.func43.trans (congrArg some (by kernel_rfl))⟩
  f14 := ⟨Try.f73.name, by decide, Try.func73.trans (congrArg some (by kernel_rfl))⟩
  f15 := Try.func74.trans (congrArg some (by kernel_rfl))
  f20 := ⟨Try.f89.name, by decide, Try.func89.trans (congrArg some (by kernel_rfl))⟩
  f21 := ⟨Try.f90.name, by decide, Try.func90.trans (congrArg some (by kernel_rfl))⟩
  f22 := ⟨Try.f91.name, by decide, Try.func91.trans (congrArg some (by kernel_rfl))⟩
  f23 := ⟨Try.f92.name, by decide, Try.func92.trans (congrArg some (by kernel_rfl))⟩
  f24 := ⟨Try.f93.name, by decide, Try.func93.trans (congrArg some (by kernel_rfl))⟩
  f25 := ⟨Try.f94.name, by decide, Try.func94.trans (congrArg some (by kernel_rfl))⟩
  f26 := ⟨Try.f95.name, by decide, Try.func95.trans (congrArg some (by kernel_rfl))⟩
  f27 := ⟨Try.f96.name, by decide, Try.func96.trans (congrArg some (by kernel_rfl))⟩
  f28 := Try.func97.trans (congrArg some (by kernel_rfl))
  f29 := Try.func98.trans (congrArg some (by kernel_rfl))
  f46 := ⟨Try.f100.name, by decide, Try.func100.trans (congrArg some (by kernel_rfl))⟩
  f47 := Try.func101.trans (congrArg some (by kernel_rfl))
  f48 := Try.func102.trans (congrArg some (by kernel_rfl))
  f49 := ⟨Try.f103.name, by decide, Try.func103.trans (congrArg some (by kernel_rfl))⟩
  f50 := ⟨Try.f104.name, by decide, Try.func104.trans (congrArg some (by kernel_rfl))⟩
  f57 := ⟨Try.f105.name, by decide, Try.func105.trans (congrArg some (by kernel_rfl))⟩
  t0 := Try.underlying0
  a0 := Try.isAgg0
  z0 := Try.sizeOf0
  v0 := Try.zeroValue0
  t3 := Try.underlying3
  a3 := Try.isAgg3
  z3 := Try.sizeOf3
  v3 := Try.zeroValue3
  t4 := Try.underlying4
  a4 := Try.isAgg4
  z4 := Try.sizeOf4
  v4 := Try.zeroValue4
  t5 := Try.underlying5
  a5 := Try.isAgg5
  z5 := Try.sizeOf5
  v5 := Try.zeroValue5
  t9 := Try.underlying9
  a9 := Try.isAgg9
  z9 := Try.sizeOf9
  v9 := Try.zeroValue9
  t22 := Try.underlying49
  a22 := Try.isAgg49
  z22 := Try.sizeOf49
  v22 := Try.zeroValue49
  t25 := Try.underlying75
  a25 := Try.isAgg75
  z25 := Try.sizeOf75
  v25 := Try.zeroValue75
  t39 := Try.underlying99
  a39 := Try.isAgg99
  z39 := Try.sizeOf99
  v39 := Try.zeroValue99
  t45 := Try.underlying115
  a45 := Try.isAgg115
  z45 := Try.sizeOf115
  v45 := Try.zeroValue115
  t46 := Try.underlying116
  a46 := Try.isAgg116
  z46 := Try.sizeOf116
  v46 := Try.zeroValue116
  t50 := Try.underlying120
  a50 := Try.isAgg120
  z50 := Try.sizeOf120
  v50 := Try.zeroValue120
  t53 := Try.underlying123
  a53 := Try.isAgg123
  z53 := Try.sizeOf123
  v53 := Try.zeroValue123
  t55 := Try.underlying23
  a55 := Try.isAgg23
  z55 := Try.sizeOf23
  v55 := Try.zeroValue23
  t66 := Try.underlying126
  a66 := Try.isAgg126
  z66 := Try.sizeOf126
  v66 := Try.zeroValue126
  t70 := Try.underlying130
  a70 := Try.isAgg130
  z70 := Try.sizeOf130
  v70 := Try.zeroValue130
  t76 := Try.underlying132
  a76 := Try.isAgg132
  z76 := Try.sizeOf132
  v76 := Try.zeroValue132
  t77 := Try.underlying133
  a77 := Try.isAgg133
  z77 := Try.sizeOf133
  v77 := Try.zeroValue133 }
end Go.Proofs
