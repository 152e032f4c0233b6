/-
  DERIVED: THE SHELF's CONTRACTS AT THIS DUMP, IN PLAIN WORDS (tools/lay-plain.mjs out of 'TryzShelf.lean', which tools/lay-shelf.mjs wrote): THE SAME DECLARATIONS UNDER THE SAME NAMES: 'import', 'namespace', 'open', 'def', 'theorem' AND NOTHING ELSE: no command of the shelf's: FOR A HAND-IN. Each laying: the table of numbers ('.._ren') and one theorem, a field a fact of the dump's own or the kernel's comparison; each contract: ONE APPLICATION.
-/
import Derived.Shelf.SlSortCmp.NoneTotal
import Derived.Ground.SlsfProg
import Derived.Test.YtacjgphfcailmaaGreatDoorProg
namespace Go.Proofs
open Go.Shelf
def Tryz.laysSort_ren : Go.Shelf.Ren := ⟨fun | 6 => 18 | 15 => 30 | 14 => 29 | 28 => 46 | 29 => 47 | 20 => 38 | 21 => 39 | 22 => 40 | 23 => 41 | 24 => 42 | 25 => 43 | 26 => 44 | 27 => 45 | 46 => 59 | 47 => 60 | 48 => 61 | 49 => 62 | 50 => 63 | 57 => 80 | n => n, fun | 22 => 22 | 24 => 32 | 25 => 67 | 3 => 3 | 39 => 78 | 0 => 0 | 53 => 106 | 55 => 108 | 4 => 4 | 46 => 99 | 45 => 98 | 50 => 103 | 5 => 5 | 9 => 9 | 66 => 148 | 70 => 152 | 76 => 170 | 77 => 171 | n => n, fun | n => n⟩
theorem Tryz.laysSort : Go.Proofs.SlLaysF0.n6 Tryz.prog Tryz.laysSort_ren := {
  mixed := by kernel_rfl
  f6 := ⟨Tryz.f18.name, by decide, Tryz.func18.trans (congrArg some (by kernel_rfl))⟩
  f14 := ⟨Tryz.f29.name, by decide, Tryz.func29.trans (congrArg some (by kernel_rfl))⟩
  f15 := Tryz.func30.trans (congrArg some (by kernel_rfl))
  f20 := ⟨Tryz.f38.name, by decide, Tryz.func38.trans (congrArg some (by kernel_rfl))⟩
  f21 := ⟨Tryz.f39.name, by decide, Tryz.func39.trans (congrArg some (by kernel_rfl))⟩
  f22 := ⟨Tryz.f40.name, by decide, Tryz.func40.trans (congrArg some (by kernel_rfl))⟩
  f23 := ⟨Tryz.f41.name, by decide, Tryz.func41.trans (congrArg some (by kernel_rfl))⟩
  f24 := ⟨Tryz.f42.name, by decide, Tryz.func42.trans (congrArg some (by kernel_rfl))⟩
  f25 := ⟨Tryz.f43.name, by decide, Tryz.func43.trans (congrArg some (by kernel_rfl))⟩
  f26 := ⟨Tryz.f44.name, by decide, Tryz.func44.trans (congrArg some (by kernel_rfl))⟩
  f27 := ⟨Tryz.f45.name, by decide, Tryz.func45.trans (congrArg some (by kernel_rfl))⟩
  f28 := Tryz.func46.trans (congrArg some (by kernel_rfl))
  f29 := Tryz.func47.trans (congrArg some (by kernel_rfl))
  f46 := ⟨Tryz.f59.name, by decide, Tryz.func59.trans (congrArg some (by kernel_rfl))⟩
  f47 := Tryz.func60.trans (congrArg some (by kernel_rfl))
  f48 := Tryz.func61.trans (congrArg some (by kernel_rfl))
  f49 := ⟨Tryz.f62.name, by decide, Tryz.func62.trans (congrArg some (by kernel_rfl))⟩
  f50 := ⟨Tryz.f63.name, by decide, Tryz.func63.trans (congrArg some (by kernel_rfl))⟩
  f57 := ⟨Tryz.f80.name, by decide, Tryz.func80.trans (congrArg some (by kernel_rfl))⟩
  t0 := Tryz.underlying0
  a0 := Tryz.isAgg0
  z0 := Tryz.sizeOf0
  v0 := Tryz.zeroValue0
  t3 := Tryz.underlying3
  a3 := Tryz.isAgg3
  z3 := Tryz.sizeOf3
  v3 := Tryz.zeroValue3
  t4 := Tryz.underlying4
  a4 := Tryz.isAgg4
  z4 := Tryz.sizeOf4
  v4 := Tryz.zeroValue4
  t5 := Tryz.underlying5
  a5 := Tryz.isAgg5
  z5 := Tryz.sizeOf5
  v5 := Tryz.zeroValue5
  t9 := Tryz.underlying9
  a9 := Tryz.isAgg9
  z9 := Tryz.sizeOf9
  v9 := Tryz.zeroValue9
  t22 := Tryz.underlying22
  a22 := Tryz.isAgg22
  z22 := Tryz.sizeOf22
  v22 := Tryz.zeroValue22
  t25 := Tryz.underlying67
  a25 := Tryz.isAgg67
  z25 := Tryz.sizeOf67
  v25 := Tryz.zeroValue67
  t39 := Tryz.underlying78
  a39 := Tryz.isAgg78
  z39 := Tryz.sizeOf78
  v39 := Tryz.zeroValue78
  t45 := Tryz.underlying98
  a45 := Tryz.isAgg98
  z45 := Tryz.sizeOf98
  v45 := Tryz.zeroValue98
  t46 := Tryz.underlying99
  a46 := Tryz.isAgg99
  z46 := Tryz.sizeOf99
  v46 := Tryz.zeroValue99
  t50 := Tryz.underlying103
  a50 := Tryz.isAgg103
  z50 := Tryz.sizeOf103
  v50 := Tryz.zeroValue103
  t53 := Tryz.underlying106
  a53 := Tryz.isAgg106
  z53 := Tryz.sizeOf106
  v53 := Tryz.zeroValue106
  t55 := Tryz.underlying108
  a55 := Tryz.isAgg108
  z55 := Tryz.sizeOf108
  v55 := Tryz.zeroValue108
  t66 := Tryz.underlying148
  a66 := Tryz.isAgg148
  z66 := Tryz.sizeOf148
  v66 := Tryz.zeroValue148
  t70 := Tryz.underlying152
  a70 := Tryz.isAgg152
  z70 := Tryz.sizeOf152
  v70 := Tryz.zeroValue152
  t76 := Tryz.underlying170
  a76 := Tryz.isAgg170
  z76 := Tryz.sizeOf170
  v76 := Tryz.zeroValue170
  t77 := Tryz.underlying171
  a77 := Tryz.isAgg171
  z77 := Tryz.sizeOf171
  v77 := Tryz.zeroValue171 }
end Go.Proofs
