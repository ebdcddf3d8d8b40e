/-
  DERIVED: THE SHELF's CONTRACTS AT THIS DUMP, IN PLAIN WORDS (tools/lay-plain.mjs out of 'TryShelf.lean', which tools/lay-shelf.mjs wrote): THE SAME DECLARATIONS UNDER THE SAME NAMES: 'import', 'namespace', 'open', 'def', 'theorem' AND NOTHING ELSE: no command of the shelf's: FOR A HAND-IN. Each laying: the table of numbers ('.._ren') and one theorem, a field a fact of the dump's own or the kernel's comparison; each contract: ONE APPLICATION.
-/
import Derived.Shelf.GgClosure.StringsIndexFunc
import Derived.Shelf.GgClosure.StringsIndexFuncTop
import Derived.Shelf.Strings.FuncGrows
import Derived.Shelf.SlicesE.Clone
import Derived.Test.YtkcilagjhieapaaProg
namespace Go.Proofs
open Go.Shelf
def Try.laysGw17_ren : Go.Shelf.Ren := ⟨fun | 17 => 91 | 15 => 116 | 20 => 123 | n => n, fun | 9 => 9 | 23 => 134 | 4 => 4 | 3 => 3 | 0 => 0 | 21 => 21 | n => n, fun | n => n⟩
theorem Try.laysGw17 : Go.Proofs.LaysGw.n17 Try.prog Try.laysGw17_ren := {
  mixed := by kernel_rfl
  f15 := Try.func116.trans (congrArg some (by kernel_rfl))
  f17 := Try.func91.trans (congrArg some (by kernel_rfl))
  f20 := Try.func123.trans (congrArg some (by kernel_rfl))
  t0 := Try.underlying0
  a0 := Try.isAgg0
  z0 := Try.sizeOf0
  v0 := Try.zeroValue0
  i0 := by kernel_rfl
  t3 := Try.underlying3
  a3 := Try.isAgg3
  z3 := Try.sizeOf3
  v3 := Try.zeroValue3
  i3 := by kernel_rfl
  t4 := Try.underlying4
  a4 := Try.isAgg4
  z4 := Try.sizeOf4
  v4 := Try.zeroValue4
  i4 := by kernel_rfl
  t9 := Try.underlying9
  a9 := Try.isAgg9
  z9 := Try.sizeOf9
  v9 := Try.zeroValue9
  i9 := by kernel_rfl
  t21 := Try.underlying21
  a21 := Try.isAgg21
  z21 := Try.sizeOf21
  v21 := Try.zeroValue21
  i21 := by kernel_rfl
  t23 := Try.underlying134
  a23 := Try.isAgg134
  z23 := Try.sizeOf134
  v23 := Try.zeroValue134
  i23 := by kernel_rfl }
def Try.laysClone58_ren : Go.Shelf.Ren := ⟨fun | 41 => 58 | n => n, fun | 22 => 22 | 23 => 27 | 4 => 4 | n => n, fun | n => n⟩
theorem Try.laysClone58 : Go.Proofs.SlLaysE0.n41 Try.prog Try.laysClone58_ren := {
  mixed := by kernel_rfl
  f41 := ⟨Try.f58.name, by decide, Try.func58.trans (congrArg some (by kernel_rfl))⟩
  t4 := Try.underlying4
  a4 := Try.isAgg4
  z4 := Try.sizeOf4
  v4 := Try.zeroValue4
  t22 := Try.underlying22
  a22 := Try.isAgg22
  z22 := Try.sizeOf22
  v22 := Try.zeroValue22 }
def Try.laysClone59_ren : Go.Shelf.Ren := ⟨fun | 41 => 59 | n => n, fun | 22 => 23 | 23 => 32 | 4 => 4 | n => n, fun | n => n⟩
theorem Try.laysClone59 : Go.Proofs.SlLaysE0.n41 Try.prog Try.laysClone59_ren := {
  mixed := by kernel_rfl
  f41 := ⟨Try.f59.name, by decide, Try.func59.trans (congrArg some (by kernel_rfl))⟩
  t4 := Try.underlying4
  a4 := Try.isAgg4
  z4 := Try.sizeOf4
  v4 := Try.zeroValue4
  t22 := Try.underlying23
  a22 := Try.isAgg23
  z22 := Try.sizeOf23
  v22 := Try.zeroValue23 }
def Try.laysClone84_ren : Go.Shelf.Ren := ⟨fun | 41 => 84 | n => n, fun | 22 => 73 | 23 => 77 | 4 => 4 | n => n, fun | n => n⟩
theorem Try.laysClone84 : Go.Proofs.SlLaysE0.n41 Try.prog Try.laysClone84_ren := {
  mixed := by kernel_rfl
  f41 := ⟨Try.f84.name, by decide, Try.func84.trans (congrArg some (by kernel_rfl))⟩
  t4 := Try.underlying4
  a4 := Try.isAgg4
  z4 := Try.sizeOf4
  v4 := Try.zeroValue4
  t22 := Try.underlying73
  a22 := Try.isAgg73
  z22 := Try.sizeOf73
  v22 := Try.zeroValue73 }
end Go.Proofs
