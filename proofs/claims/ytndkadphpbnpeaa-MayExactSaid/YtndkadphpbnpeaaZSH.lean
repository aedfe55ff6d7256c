/-
  DERIVED: THE SHELF's CONTRACTS AT THIS DUMP, IN PLAIN WORDS (tools/lay-plain.mjs out of 'YtndkadphpbnpeaaSH.lean', which tools/lay-shelf.mjs wrote): THE SAME DECLARATIONS UNDER THE SAME NAMES: 'import', 'namespace', 'open', 'def', 'theorem' AND NOTHING ELSE: no command of the shelf's: FOR A HAND-IN. Each laying: the table of numbers ('.._ren') and one theorem, a field a fact of the dump's own or the kernel's comparison; each contract: ONE APPLICATION.
-/
import Derived.Shelf.SlGeneric
import Derived.Shelf.SortM.Plain
import Derived.Shelf.SortM.SortNone
import Derived.Ground.SlgmProg
import Derived.Test.YtndkadphpbnpeaaProg
namespace Go.Proofs
open Go.Shelf
def Try.sortM_ren : Go.Shelf.Ren := ⟨fun | 5 => 42 | 8 => 51 | 7 => 50 | 19 => 63 | 20 => 64 | 10 => 54 | 11 => 55 | 12 => 56 | 13 => 57 | 14 => 58 | 15 => 59 | 16 => 60 | 17 => 61 | 18 => 62 | 30 => 66 | 31 => 67 | 32 => 68 | 33 => 69 | 34 => 70 | 35 => 71 | 40 => 73 | n => n, fun | 23 => 28 | 25 => 3 | 3 => 3 | 32 => 92 | 22 => 28 | 0 => 0 | 44 => 103 | 46 => 105 | 4 => 4 | 36 => 97 | 35 => 96 | 41 => 52 | 5 => 5 | 9 => 9 | 53 => 106 | 57 => 110 | 63 => 112 | 64 => 79 | n => n, fun | n => n⟩
theorem Try.sortM : Go.Proofs.SlLaysM.n5 Try.prog Try.sortM_ren := {
  mixed := by kernel_rfl
  f5 := ⟨Try.f42.name, by decide, Try.func42.trans (congrArg some (by kernel_rfl))⟩
  f7 := ⟨Try.f50.name, by decide, Try.func50.trans (congrArg some (by kernel_rfl))⟩
  f8 := Try.func51.trans (congrArg some (by kernel_rfl))
  f10 := ⟨Try.f54.name, by decide, Try.func54.trans (congrArg some (by kernel_rfl))⟩
  f11 := ⟨Try.f55.name, by decide, Try.func55.trans (congrArg some (by kernel_rfl))⟩
  f12 := ⟨Try.f56.name, by decide, Try.func56.trans (congrArg some (by kernel_rfl))⟩
  f13 := ⟨Try.f57.name, by decide, Try.func57.trans (congrArg some (by kernel_rfl))⟩
  f14 := ⟨Try.f58.name, by decide, Try.func58.trans (congrArg some (by kernel_rfl))⟩
  f15 := ⟨Try.f59.name, by decide, Try.func59.trans (congrArg some (by kernel_rfl))⟩
  f16 := ⟨Try.f60.name, by decide, Try.func60.trans (congrArg some (by kernel_rfl))⟩
  f17 := ⟨Try.f61.name, by decide, Try.func61.trans (congrArg some (by kernel_rfl))⟩
  f18 := ⟨Try.f62.name, by decide, Try.func62.trans (congrArg some (by kernel_rfl))⟩
  f19 := Try.func63.trans (congrArg some (by kernel_rfl))
  f20 := Try.func64.trans (congrArg some (by kernel_rfl))
  f30 := ⟨Try.f66.name, by decide, Try.func66.trans (congrArg some (by kernel_rfl))⟩
  f31 := Try.func67.trans (congrArg some (by kernel_rfl))
  f32 := Try.func68.trans (congrArg some (by kernel_rfl))
  f33 := ⟨Try.f69.name, by decide, Try.func69.trans (congrArg some (by kernel_rfl))⟩
  f34 := ⟨Try.f70.name, by decide, Try.func70.trans (congrArg some (by kernel_rfl))⟩
  f35 := ⟨Try.f71.name, by decide, Try.func71.trans (congrArg some (by kernel_rfl))⟩
  f40 := ⟨Try.f73.name, by decide, Try.func73.trans (congrArg some (by kernel_rfl))⟩
  t0 := Try.underlying0
  a0 := Try.isAgg0
  z0 := Try.sizeOf0
  v0 := Try.zeroValue0
  t3 := Try.underlying3
  a3 := Try.isAgg3
  z3 := Try.sizeOf3
  v3 := Try.zeroValue3
  t4 := Try.underlying4
  a4 := Try.isAgg4
  z4 := Try.sizeOf4
  v4 := Try.zeroValue4
  t5 := Try.underlying5
  a5 := Try.isAgg5
  z5 := Try.sizeOf5
  v5 := Try.zeroValue5
  t9 := Try.underlying9
  a9 := Try.isAgg9
  z9 := Try.sizeOf9
  v9 := Try.zeroValue9
  t22 := Try.underlying28
  a22 := Try.isAgg28
  z22 := Try.sizeOf28
  v22 := Try.zeroValue28
  t23 := Try.underlying28
  a23 := Try.isAgg28
  z23 := Try.sizeOf28
  v23 := Try.zeroValue28
  t25 := Try.underlying3
  a25 := Try.isAgg3
  z25 := Try.sizeOf3
  v25 := Try.zeroValue3
  t32 := Try.underlying92
  a32 := Try.isAgg92
  z32 := Try.sizeOf92
  v32 := Try.zeroValue92
  t35 := Try.underlying96
  a35 := Try.isAgg96
  z35 := Try.sizeOf96
  v35 := Try.zeroValue96
  t36 := Try.underlying97
  a36 := Try.isAgg97
  z36 := Try.sizeOf97
  v36 := Try.zeroValue97
  t41 := Try.underlying52
  a41 := Try.isAgg52
  z41 := Try.sizeOf52
  v41 := Try.zeroValue52
  t44 := Try.underlying103
  a44 := Try.isAgg103
  z44 := Try.sizeOf103
  v44 := Try.zeroValue103
  t46 := Try.underlying105
  a46 := Try.isAgg105
  z46 := Try.sizeOf105
  v46 := Try.zeroValue105
  t53 := Try.underlying106
  a53 := Try.isAgg106
  z53 := Try.sizeOf106
  v53 := Try.zeroValue106
  t57 := Try.underlying110
  a57 := Try.isAgg110
  z57 := Try.sizeOf110
  v57 := Try.zeroValue110
  t63 := Try.underlying112
  a63 := Try.isAgg112
  z63 := Try.sizeOf112
  v63 := Try.zeroValue112
  t64 := Try.underlying79
  a64 := Try.isAgg79
  z64 := Try.sizeOf79
  v64 := Try.zeroValue79 }
end Go.Proofs
