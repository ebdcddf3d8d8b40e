import Derived.Shelf.GgClosure.StringsIndexFunc
import Derived.Shelf.GgClosure.StringsIndexFuncTop
import Derived.Shelf.Strings.FuncGrows
import Derived.Shelf.SlicesE.Clone
import Derived.Test.YtkcilagjhieapaaGreatDoorProg
import Derived.Test.YtkcilagjhieapaaGreatDoorC9
section
namespace Go.Proofs
open Go.Shelf
def Tryz.laysGw17_ren : Go.Shelf.Ren := ⟨fun | 17 => 120 | 15 => 144 | 20 => 150 | n => n, fun | 9 => 9 | 23 => 177 | 4 => 4 | 3 => 3 | 0 => 0 | 21 => 21 | n => n, fun | n => n⟩
theorem Tryz.laysGw17 : Go.Proofs.LaysGw.n17 Tryz.prog Tryz.laysGw17_ren := {
 mixed := by kernel_rfl
 f15 := Tryz.func144.trans (congrArg some (by kernel_rfl))
 f17 := Tryz.func120.trans (congrArg some (by kernel_rfl))
 f20 := Tryz.func150.trans (congrArg some (by kernel_rfl))
 t0 := Tryz.underlying0
 a0 := Tryz.isAgg0
 z0 := Tryz.sizeOf0
 v0 := Tryz.zeroValue0
 i0 := by kernel_rfl
 t3 := Tryz.underlying3
 a3 := Tryz.isAgg3
 z3 := Tryz.sizeOf3
 v3 := Tryz.zeroValue3
 i3 := by kernel_rfl
 t4 := Tryz.underlying4
 a4 := Tryz.isAgg4
 z4 := Tryz.sizeOf4
 v4 := Tryz.zeroValue4
 i4 := by kernel_rfl
 t9 := Tryz.underlying9
 a9 := Tryz.isAgg9
 z9 := Tryz.sizeOf9
 v9 := Tryz.zeroValue9
 i9 := by kernel_rfl
 t21 := Tryz.underlying21
 a21 := Tryz.isAgg21
 z21 := Tryz.sizeOf21
 v21 := Tryz.zeroValue21
 i21 := by kernel_rfl
 t23 := Tryz.underlying177
 a23 := Tryz.isAgg177
 z23 := Tryz.sizeOf177
 v23 := Tryz.zeroValue177
 i23 := by kernel_rfl }
def Tryz.laysClone94_ren : Go.Shelf.Ren := ⟨fun | 41 => 94 | n => n, fun | 22 => 27 | 23 => 52 | 4 => 4 | n => n, fun | n => n⟩
theorem Tryz.laysClone94 : Go.Proofs.SlLaysE0.n41 Tryz.prog Tryz.laysClone94_ren := {
 mixed := by kernel_rfl
 f41 := ⟨Tryz.f94.name, by decide, Tryz.func94.trans (congrArg some (by kernel_rfl))⟩
 t4 := Tryz.underlying4
 a4 := Tryz.isAgg4
 z4 := Tryz.sizeOf4
 v4 := Tryz.zeroValue4
 t22 := Tryz.underlying27
 a22 := Tryz.isAgg27
 z22 := Tryz.sizeOf27
 v22 := Tryz.zeroValue27 }
def Tryz.laysClone95_ren : Go.Shelf.Ren := ⟨fun | 41 => 95 | n => n, fun | 22 => 22 | 23 => 123 | 4 => 4 | n => n, fun | n => n⟩
theorem Tryz.laysClone95 : Go.Proofs.SlLaysE0.n41 Tryz.prog Tryz.laysClone95_ren := {
 mixed := by kernel_rfl
 f41 := ⟨Tryz.f95.name, by decide, Tryz.func95.trans (congrArg some (by kernel_rfl))⟩
 t4 := Tryz.underlying4
 a4 := Tryz.isAgg4
 z4 := Tryz.sizeOf4
 v4 := Tryz.zeroValue4
 t22 := Tryz.underlying22
 a22 := Tryz.isAgg22
 z22 := Tryz.sizeOf22
 v22 := Tryz.zeroValue22 }
def Tryz.laysClone96_ren : Go.Shelf.Ren := ⟨fun | 41 => 96 | n => n, fun | 22 => 23 | 23 => 87 | 4 => 4 | n => n, fun | n => n⟩
theorem Tryz.laysClone96 : Go.Proofs.SlLaysE0.n41 Tryz.prog Tryz.laysClone96_ren := {
 mixed := by kernel_rfl
 f41 := ⟨Tryz.f96.name, by decide, Tryz.func96.trans (congrArg some (by kernel_rfl))⟩
 t4 := Tryz.underlying4
 a4 := Tryz.isAgg4
 z4 := Tryz.sizeOf4
 v4 := Tryz.zeroValue4
 t22 := Tryz.underlying23
 a22 := Tryz.isAgg23
 z22 := Tryz.sizeOf23
 v22 := Tryz.zeroValue23 }
def Tryz.laysClone97_ren : Go.Shelf.Ren := ⟨fun | 41 => 97 | n => n, fun | 22 => 66 | 23 => 136 | 4 => 4 | n => n, fun | n => n⟩
theorem Tryz.laysClone97 : Go.Proofs.SlLaysE0.n41 Tryz.prog Tryz.laysClone97_ren := {
 mixed := by kernel_rfl
 f41 := ⟨Tryz.f97.name, by decide, Tryz.func97.trans (congrArg some (by kernel_rfl))⟩
 t4 := Tryz.underlying4
 a4 := Tryz.isAgg4
 z4 := Tryz.sizeOf4
 v4 := Tryz.zeroValue4
 t22 := Tryz.underlying66
 a22 := Tryz.isAgg66
 z22 := Tryz.sizeOf66
 v22 := Tryz.zeroValue66 }
def Tryz.laysClone98_ren : Go.Shelf.Ren := ⟨fun | 41 => 98 | n => n, fun | 22 => 28 | 23 => 79 | 4 => 4 | n => n, fun | n => n⟩
theorem Tryz.laysClone98 : Go.Proofs.SlLaysE0.n41 Tryz.prog Tryz.laysClone98_ren := {
 mixed := by kernel_rfl
 f41 := ⟨Tryz.f98.name, by decide, Tryz.func98.trans (congrArg some (by kernel_rfl))⟩
 t4 := Tryz.underlying4
 a4 := Tryz.isAgg4
 z4 := Tryz.sizeOf4
 v4 := Tryz.zeroValue4
 t22 := Tryz.underlying28
 a22 := Tryz.isAgg28
 z22 := Tryz.sizeOf28
 v22 := Tryz.zeroValue28 }
end Go.Proofs
end
