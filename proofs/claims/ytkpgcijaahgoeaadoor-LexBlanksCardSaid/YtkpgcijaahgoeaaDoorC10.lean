import Derived.Shelf.Strings.OnBuilder
import Derived.Test.YtkpgcijaahgoeaaDoorProg
import Derived.Test.YtkpgcijaahgoeaaDoorC9
section
namespace Go.Proofs
open Go.Shelf
def Tryd.lays156_ren : Go.Shelf.Ren := ⟨fun | 156 => 25 | 165 => 38 | 166 => 39 | 169 => 40 | 240 => 60 | 241 => 61 | 276 => 71 | 277 => 72 | n => n, fun | 31 => 51 | 9 => 9 | 3 => 3 | 4 => 4 | 0 => 0 | 20 => 20 | 72 => 68 | 76 => 72 | 70 => 66 | 37 => 43 | 75 => 71 | 127 => 82 | 164 => 87 | 5 => 5 | 80 => 74 | n => n, fun | n => n⟩
theorem Tryd.lays156 : Go.Proofs.Lays.n156 Tryd.prog Tryd.lays156_ren := {
 mixed := by kernel_rfl
 f156 := Tryd.func25.trans (congrArg some (by kernel_rfl))
 f165 := Tryd.func38.trans (congrArg some (by kernel_rfl))
 f166 := Tryd.func39.trans (congrArg some (by kernel_rfl))
 f169 := Tryd.func40.trans (congrArg some (by kernel_rfl))
 f240 := Tryd.func60.trans (congrArg some (by kernel_rfl))
 f241 := Tryd.func61.trans (congrArg some (by kernel_rfl))
 f276 := Tryd.func71.trans (congrArg some (by kernel_rfl))
 f277 := Tryd.func72.trans (congrArg some (by kernel_rfl))
 t0 := Tryd.underlying0
 a0 := Tryd.isAgg0
 z0 := Tryd.sizeOf0
 v0 := Tryd.zeroValue0
 t3 := Tryd.underlying3
 a3 := Tryd.isAgg3
 z3 := Tryd.sizeOf3
 v3 := Tryd.zeroValue3
 t4 := Tryd.underlying4
 a4 := Tryd.isAgg4
 z4 := Tryd.sizeOf4
 v4 := Tryd.zeroValue4
 t9 := Tryd.underlying9
 a9 := Tryd.isAgg9
 z9 := Tryd.sizeOf9
 v9 := Tryd.zeroValue9
 t20 := Tryd.underlying20
 a20 := Tryd.isAgg20
 z20 := Tryd.sizeOf20
 v20 := Tryd.zeroValue20
 t31 := Tryd.underlying51
 a31 := Tryd.isAgg51
 z31 := Tryd.sizeOf51
 v31 := Tryd.zeroValue51
 t37 := Tryd.underlying43
 a37 := Tryd.isAgg43
 z37 := Tryd.sizeOf43
 v37 := Tryd.zeroValue43
 t70 := Tryd.underlying66
 a70 := Tryd.isAgg66
 z70 := Tryd.sizeOf66
 v70 := Tryd.zeroValue66
 t72 := Tryd.underlying68
 a72 := Tryd.isAgg68
 z72 := Tryd.sizeOf68
 v72 := Tryd.zeroValue68
 t75 := Tryd.underlying71
 a75 := Tryd.isAgg71
 z75 := Tryd.sizeOf71
 v75 := Tryd.zeroValue71
 t76 := Tryd.underlying72
 a76 := Tryd.isAgg72
 z76 := Tryd.sizeOf72
 v76 := Tryd.zeroValue72
 t127 := Tryd.underlying82
 a127 := Tryd.isAgg82
 z127 := Tryd.sizeOf82
 v127 := Tryd.zeroValue82
 t164 := Tryd.underlying87
 a164 := Tryd.isAgg87
 z164 := Tryd.sizeOf87
 v164 := Tryd.zeroValue87 }
theorem Tryd.Builder_Extra_156 : Builder.Extra Tryd.prog Tryd.lays156_ren := {
 sizeBuilder := by kernel_rfl
 liesBuilder := by kernel_rfl
 t5 := Tryd.underlying5
 a5 := Tryd.isAgg5
 z5 := Tryd.sizeOf5
 v5 := Tryd.zeroValue5
 infoByte := by kernel_rfl
 cellsByte := by kernel_rfl
 sizeByte := by kernel_rfl
 neB5 := by decide }
end Go.Proofs
end
