/- The shelf of the kit, laid at this program: which function is which. Conditions: none. -/
import Derived.Shelf.Slices.Turned
import Derived.Ground.Names2Prog
import Derived.Shelf.Slices.Clone
import Derived.Shelf.Slices.SearchI
import Derived.Shelf.Slices.Empties
import Derived.Shelf.Spec.SlicesInsert
import Derived.Shelf.Spec.SlicesInsertGrow
import Derived.Test.YtmddhglhfgomiaaDoorProg
namespace Go.Proofs
open Go.Shelf
def Tryd.lays108_ren : Go.Shelf.Ren := ⟨fun | 108 => 59 | n => n, fun | 28 => 35 | 3 => 3 | 0 => 0 | 4 => 4 | n => n, fun | n => n⟩
theorem Tryd.lays108 : Go.Proofs.Lays.n108 Tryd.prog Tryd.lays108_ren := {
  mixed := by kernel_rfl
  f108 := Tryd.func59.trans (congrArg some (by kernel_rfl))
  t0 := Tryd.underlying0
  a0 := Tryd.isAgg0
  z0 := Tryd.sizeOf0
  v0 := Tryd.zeroValue0
  t3 := Tryd.underlying3
  a3 := Tryd.isAgg3
  z3 := Tryd.sizeOf3
  v3 := Tryd.zeroValue3
  t4 := Tryd.underlying4
  a4 := Tryd.isAgg4
  z4 := Tryd.sizeOf4
  v4 := Tryd.zeroValue4
  t28 := Tryd.underlying35
  a28 := Tryd.isAgg35
  z28 := Tryd.sizeOf35
  v28 := Tryd.zeroValue35 }
def Tryd.lays107_ren : Go.Shelf.Ren := ⟨fun | 107 => 40 | 108 => 59 | n => n, fun | 28 => 35 | 3 => 3 | 4 => 4 | 0 => 0 | n => n, fun | n => n⟩
theorem Tryd.lays107 : Go.Proofs.Lays.n107 Tryd.prog Tryd.lays107_ren := {
  mixed := by kernel_rfl
  f107 := Tryd.func40.trans (congrArg some (by kernel_rfl))
  f108 := Tryd.func59.trans (congrArg some (by kernel_rfl))
  t0 := Tryd.underlying0
  a0 := Tryd.isAgg0
  z0 := Tryd.sizeOf0
  v0 := Tryd.zeroValue0
  t3 := Tryd.underlying3
  a3 := Tryd.isAgg3
  z3 := Tryd.sizeOf3
  v3 := Tryd.zeroValue3
  t4 := Tryd.underlying4
  a4 := Tryd.isAgg4
  z4 := Tryd.sizeOf4
  v4 := Tryd.zeroValue4
  t28 := Tryd.underlying35
  a28 := Tryd.isAgg35
  z28 := Tryd.sizeOf35
  v28 := Tryd.zeroValue35 }
def Tryd.laysNm215_ren : Go.Shelf.Ren := ⟨fun | 15 => 58 | n => n, fun | 22 => 35 | 3 => 3 | 4 => 4 | n => n, fun | n => n⟩
theorem Tryd.laysNm215 : Go.Proofs.Lays2.n15 Tryd.prog Tryd.laysNm215_ren := {
  mixed := by kernel_rfl
  f15 := Tryd.func58.trans (congrArg some (by kernel_rfl))
  t3 := Tryd.underlying3
  a3 := Tryd.isAgg3
  z3 := Tryd.sizeOf3
  v3 := Tryd.zeroValue3
  t4 := Tryd.underlying4
  a4 := Tryd.isAgg4
  z4 := Tryd.sizeOf4
  v4 := Tryd.zeroValue4
  t22 := Tryd.underlying35
  a22 := Tryd.isAgg35
  z22 := Tryd.sizeOf35
  v22 := Tryd.zeroValue35
  i3 := by kernel_rfl }
def Tryd.laysNm225_ren : Go.Shelf.Ren := ⟨fun | 25 => 56 | 31 => 74 | 32 => 75 | 37 => 94 | n => n, fun | 22 => 35 | 3 => 3 | 4 => 4 | 40 => 49 | 0 => 0 | n => n, fun | n => n⟩
theorem Tryd.laysNm225 : Go.Proofs.Lays2.n25 Tryd.prog Tryd.laysNm225_ren := {
  mixed := by kernel_rfl
  f25 := Tryd.func56.trans (congrArg some (by kernel_rfl))
  f31 := Tryd.func74.trans (congrArg some (by kernel_rfl))
  f32 := Tryd.func75.trans (congrArg some (by kernel_rfl))
  f37 := Tryd.func94.trans (congrArg some (by kernel_rfl))
  t0 := Tryd.underlying0
  a0 := Tryd.isAgg0
  z0 := Tryd.sizeOf0
  v0 := Tryd.zeroValue0
  t3 := Tryd.underlying3
  a3 := Tryd.isAgg3
  z3 := Tryd.sizeOf3
  v3 := Tryd.zeroValue3
  t4 := Tryd.underlying4
  a4 := Tryd.isAgg4
  z4 := Tryd.sizeOf4
  v4 := Tryd.zeroValue4
  t22 := Tryd.underlying35
  a22 := Tryd.isAgg35
  z22 := Tryd.sizeOf35
  v22 := Tryd.zeroValue35
  t40 := Tryd.underlying49
  a40 := Tryd.isAgg49
  z40 := Tryd.sizeOf49
  v40 := Tryd.zeroValue49 }
def Tryd.laysNm221_ren : Go.Shelf.Ren := ⟨fun | 21 => 57 | 27 => 76 | 28 => 77 | 35 => 95 | 39 => 102 | n => n, fun | 22 => 35 | 3 => 3 | 4 => 4 | 0 => 0 | n => n, fun | n => n⟩
theorem Tryd.laysNm221 : Go.Proofs.Lays2.n21 Tryd.prog Tryd.laysNm221_ren := {
  mixed := by kernel_rfl
  f21 := Tryd.func57.trans (congrArg some (by kernel_rfl))
  f27 := Tryd.func76.trans (congrArg some (by kernel_rfl))
  f28 := Tryd.func77.trans (congrArg some (by kernel_rfl))
  f35 := Tryd.func95.trans (congrArg some (by kernel_rfl))
  f39 := Tryd.func102.trans (congrArg some (by kernel_rfl))
  t0 := Tryd.underlying0
  a0 := Tryd.isAgg0
  z0 := Tryd.sizeOf0
  v0 := Tryd.zeroValue0
  t3 := Tryd.underlying3
  a3 := Tryd.isAgg3
  z3 := Tryd.sizeOf3
  v3 := Tryd.zeroValue3
  t4 := Tryd.underlying4
  a4 := Tryd.isAgg4
  z4 := Tryd.sizeOf4
  v4 := Tryd.zeroValue4
  t22 := Tryd.underlying35
  a22 := Tryd.isAgg35
  z22 := Tryd.sizeOf35
  v22 := Tryd.zeroValue35
  i3 := by kernel_rfl }
end Go.Proofs
