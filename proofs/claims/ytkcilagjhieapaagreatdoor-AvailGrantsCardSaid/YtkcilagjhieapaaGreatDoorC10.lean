import Derived.Shelf.GgClosure.StringsIndexFunc
import Derived.Shelf.GgClosure.StringsIndexFuncTop
import Derived.Shelf.Strings.FuncGrows
import Derived.Shelf.SlicesE.Clone
import Derived.Test.YtkcilagjhieapaaGreatDoorProg
import Derived.Test.YtkcilagjhieapaaGreatDoorC9
section
namespace Go.Proofs
open Go.Shelf
def Sv:Go.Shelf.Ren:=⟨fun|17=>120|15=>144|20=>150|n=>n,fun|9=>9|23=>177|4=>4|3=>3|0=>0|21=>21|n=>n,fun|n=>n⟩
theorem X5:Go.Proofs.LaysGw.n17 Tryz.prog Sv:={
 mixed:=by kernel_rfl
 f15:=Tryz.func144.trans (congrArg some (by kernel_rfl))
 f17:=Tryz.func120.trans (congrArg some (by kernel_rfl))
 f20:=Tryz.func150.trans (congrArg some (by kernel_rfl))
 t0:=Tryz.underlying0
 a0:=Tryz.isAgg0
 z0:=Tryz.sizeOf0
 v0:=Tryz.zeroValue0
 i0:=by kernel_rfl
 t3:=Tryz.underlying3
 a3:=Tryz.isAgg3
 z3:=Tryz.sizeOf3
 v3:=Tryz.zeroValue3
 i3:=by kernel_rfl
 t4:=Tryz.underlying4
 a4:=Tryz.isAgg4
 z4:=Tryz.sizeOf4
 v4:=Tryz.zeroValue4
 i4:=by kernel_rfl
 t9:=Tryz.underlying9
 a9:=Tryz.isAgg9
 z9:=Tryz.sizeOf9
 v9:=Tryz.zeroValue9
 i9:=by kernel_rfl
 t21:=Tryz.underlying21
 a21:=Tryz.isAgg21
 z21:=Tryz.sizeOf21
 v21:=Tryz.zeroValue21
 i21:=by kernel_rfl
 t23:=Tryz.underlying177
 a23:=Tryz.isAgg177
 z23:=Tryz.sizeOf177
 v23:=Tryz.zeroValue177
 i23:=by kernel_rfl}
def Pm:Go.Shelf.Ren:=⟨fun|41=>94|n=>n,fun|22=>27|23=>52|4=>4|n=>n,fun|n=>n⟩
theorem Ua:Go.Proofs.SlLaysE0.n41 Tryz.prog Pm:={
 mixed:=by kernel_rfl
 f41:=⟨Tryz.f94.name,by decide,Tryz.func94.trans (congrArg some (by kernel_rfl))⟩
 t4:=Tryz.underlying4
 a4:=Tryz.isAgg4
 z4:=Tryz.sizeOf4
 v4:=Tryz.zeroValue4
 t22:=Tryz.underlying27
 a22:=Tryz.isAgg27
 z22:=Tryz.sizeOf27
 v22:=Tryz.zeroValue27}
def Pn:Go.Shelf.Ren:=⟨fun|41=>95|n=>n,fun|22=>22|23=>123|4=>4|n=>n,fun|n=>n⟩
theorem Ub:Go.Proofs.SlLaysE0.n41 Tryz.prog Pn:={
 mixed:=by kernel_rfl
 f41:=⟨Tryz.f95.name,by decide,Tryz.func95.trans (congrArg some (by kernel_rfl))⟩
 t4:=Tryz.underlying4
 a4:=Tryz.isAgg4
 z4:=Tryz.sizeOf4
 v4:=Tryz.zeroValue4
 t22:=Tryz.underlying22
 a22:=Tryz.isAgg22
 z22:=Tryz.sizeOf22
 v22:=Tryz.zeroValue22}
def Po:Go.Shelf.Ren:=⟨fun|41=>96|n=>n,fun|22=>23|23=>87|4=>4|n=>n,fun|n=>n⟩
theorem Uc:Go.Proofs.SlLaysE0.n41 Tryz.prog Po:={
 mixed:=by kernel_rfl
 f41:=⟨Tryz.f96.name,by decide,Tryz.func96.trans (congrArg some (by kernel_rfl))⟩
 t4:=Tryz.underlying4
 a4:=Tryz.isAgg4
 z4:=Tryz.sizeOf4
 v4:=Tryz.zeroValue4
 t22:=Tryz.underlying23
 a22:=Tryz.isAgg23
 z22:=Tryz.sizeOf23
 v22:=Tryz.zeroValue23}
def Pp:Go.Shelf.Ren:=⟨fun|41=>97|n=>n,fun|22=>66|23=>136|4=>4|n=>n,fun|n=>n⟩
theorem Ud:Go.Proofs.SlLaysE0.n41 Tryz.prog Pp:={
 mixed:=by kernel_rfl
 f41:=⟨Tryz.f97.name,by decide,Tryz.func97.trans (congrArg some (by kernel_rfl))⟩
 t4:=Tryz.underlying4
 a4:=Tryz.isAgg4
 z4:=Tryz.sizeOf4
 v4:=Tryz.zeroValue4
 t22:=Tryz.underlying66
 a22:=Tryz.isAgg66
 z22:=Tryz.sizeOf66
 v22:=Tryz.zeroValue66}
def Pq:Go.Shelf.Ren:=⟨fun|41=>98|n=>n,fun|22=>28|23=>79|4=>4|n=>n,fun|n=>n⟩
theorem Ue:Go.Proofs.SlLaysE0.n41 Tryz.prog Pq:={
 mixed:=by kernel_rfl
 f41:=⟨Tryz.f98.name,by decide,Tryz.func98.trans (congrArg some (by kernel_rfl))⟩
 t4:=Tryz.underlying4
 a4:=Tryz.isAgg4
 z4:=Tryz.sizeOf4
 v4:=Tryz.zeroValue4
 t22:=Tryz.underlying28
 a22:=Tryz.isAgg28
 z22:=Tryz.sizeOf28
 v22:=Tryz.zeroValue28}
end Go.Proofs
end
