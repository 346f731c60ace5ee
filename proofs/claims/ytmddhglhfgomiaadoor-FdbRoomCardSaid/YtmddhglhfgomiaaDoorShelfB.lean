/- The shelf of the kit, laid at this program: which function is which. Conditions: none. -/
import Derived.Shelf.SlGeneric
import Derived.Shelf.SlLaysF0
import Derived.Ground.SlsfProg
import Derived.Test.YtmddhglhfgomiaaDoorProg
namespace Go.Proofs
open Go.Shelf
def Tryd.sortE_ren : Go.Shelf.Ren := ⟨fun | 6 => 44 | 15 => 67 | 14 => 66 | 28 => 91 | 29 => 92 | 20 => 83 | 21 => 84 | 22 => 85 | 23 => 86 | 24 => 87 | 25 => 88 | 26 => 89 | 27 => 90 | 46 => 97 | 47 => 98 | 48 => 99 | 49 => 100 | 50 => 101 | 57 => 103 | n => n, fun | 22 => 50 | 24 => 74 | 25 => 102 | 3 => 3 | 39 => 49 | 0 => 0 | 53 => 142 | 55 => 22 | 4 => 4 | 46 => 136 | 45 => 135 | 50 => 89 | 5 => 5 | 9 => 9 | 66 => 145 | 70 => 149 | 76 => 152 | 77 => 153 | n => n, fun | n => n⟩
theorem Tryd.sortE : Go.Proofs.SlLaysF0.n6 Tryd.prog Tryd.sortE_ren := {
  mixed := by kernel_rfl
  f6 := ⟨Tryd.f44.name, by decide, Tryd.func44.trans (congrArg some (by kernel_rfl))⟩
  f14 := ⟨Tryd.f66.name, by decide, Tryd.func66.trans (congrArg some (by kernel_rfl))⟩
  f15 := Tryd.func67.trans (congrArg some (by kernel_rfl))
  f20 := ⟨Tryd.f83.name, by decide, Tryd.func83.trans (congrArg some (by kernel_rfl))⟩
  f21 := ⟨Tryd.f84.name, by decide, Tryd.func84.trans (congrArg some (by kernel_rfl))⟩
  f22 := ⟨Tryd.f85.name, by decide, Tryd.func85.trans (congrArg some (by kernel_rfl))⟩
  f23 := ⟨Tryd.f86.name, by decide, Tryd.func86.trans (congrArg some (by kernel_rfl))⟩
  f24 := ⟨Tryd.f87.name, by decide, Tryd.func87.trans (congrArg some (by kernel_rfl))⟩
  f25 := ⟨Tryd.f88.name, by decide, Tryd.func88.trans (congrArg some (by kernel_rfl))⟩
  f26 := ⟨Tryd.f89.name, by decide, Tryd.func89.trans (congrArg some (by kernel_rfl))⟩
  f27 := ⟨Tryd.f90.name, by decide, Tryd.func90.trans (congrArg some (by kernel_rfl))⟩
  f28 := Tryd.func91.trans (congrArg some (by kernel_rfl))
  f29 := Tryd.func92.trans (congrArg some (by kernel_rfl))
  f46 := ⟨Tryd.f97.name, by decide, Tryd.func97.trans (congrArg some (by kernel_rfl))⟩
  f47 := Tryd.func98.trans (congrArg some (by kernel_rfl))
  f48 := Tryd.func99.trans (congrArg some (by kernel_rfl))
  f49 := ⟨Tryd.f100.name, by decide, Tryd.func100.trans (congrArg some (by kernel_rfl))⟩
  f50 := ⟨Tryd.f101.name, by decide, Tryd.func101.trans (congrArg some (by kernel_rfl))⟩
  f57 := ⟨Tryd.f103.name, by decide, Tryd.func103.trans (congrArg some (by kernel_rfl))⟩
  t0 := Tryd.underlying0
  a0 := Tryd.isAgg0
  z0 := Tryd.sizeOf0
  v0 := Tryd.zeroValue0
  t3 := Tryd.underlying3
  a3 := Tryd.isAgg3
  z3 := Tryd.sizeOf3
  v3 := Tryd.zeroValue3
  t4 := Tryd.underlying4
  a4 := Tryd.isAgg4
  z4 := Tryd.sizeOf4
  v4 := Tryd.zeroValue4
  t5 := Tryd.underlying5
  a5 := Tryd.isAgg5
  z5 := Tryd.sizeOf5
  v5 := Tryd.zeroValue5
  t9 := Tryd.underlying9
  a9 := Tryd.isAgg9
  z9 := Tryd.sizeOf9
  v9 := Tryd.zeroValue9
  t22 := Tryd.underlying50
  a22 := Tryd.isAgg50
  z22 := Tryd.sizeOf50
  v22 := Tryd.zeroValue50
  t25 := Tryd.underlying102
  a25 := Tryd.isAgg102
  z25 := Tryd.sizeOf102
  v25 := Tryd.zeroValue102
  t39 := Tryd.underlying49
  a39 := Tryd.isAgg49
  z39 := Tryd.sizeOf49
  v39 := Tryd.zeroValue49
  t45 := Tryd.underlying135
  a45 := Tryd.isAgg135
  z45 := Tryd.sizeOf135
  v45 := Tryd.zeroValue135
  t46 := Tryd.underlying136
  a46 := Tryd.isAgg136
  z46 := Tryd.sizeOf136
  v46 := Tryd.zeroValue136
  t50 := Tryd.underlying89
  a50 := Tryd.isAgg89
  z50 := Tryd.sizeOf89
  v50 := Tryd.zeroValue89
  t53 := Tryd.underlying142
  a53 := Tryd.isAgg142
  z53 := Tryd.sizeOf142
  v53 := Tryd.zeroValue142
  t55 := Tryd.underlying22
  a55 := Tryd.isAgg22
  z55 := Tryd.sizeOf22
  v55 := Tryd.zeroValue22
  t66 := Tryd.underlying145
  a66 := Tryd.isAgg145
  z66 := Tryd.sizeOf145
  v66 := Tryd.zeroValue145
  t70 := Tryd.underlying149
  a70 := Tryd.isAgg149
  z70 := Tryd.sizeOf149
  v70 := Tryd.zeroValue149
  t76 := Tryd.underlying152
  a76 := Tryd.isAgg152
  z76 := Tryd.sizeOf152
  v76 := Tryd.zeroValue152
  t77 := Tryd.underlying153
  a77 := Tryd.isAgg153
  z77 := Tryd.sizeOf153
  v77 := Tryd.zeroValue153 }
end Go.Proofs
