import Derived.Test.YtkcilagjhieapaaGreatDoorRows
import Derived.ChangeSame
import Derived.ChangeVars
import Derived.JoinedOf
import Derived.RowKit
import Derived.RowKitTokens
import Derived.LaidLaws
import Derived.LaidHandle
import Derived.Stop.Joined
import Derived.Handed
import Derived.Test.YtkcilagjhieapaaGreatDoorC17
section
set_option linter.unusedVariables false
namespace Go.Proofs.YtkcilagjhieapaaGreatDoor
open Go Go.ChangeShapes Go.WideShapes Go.ChangeAt Go.RowKit Go.Av
theorem own:ownKnob Tryz.prog.godebug=none:=by kernel_rfl
theorem et:Tryz.prog.globalNamed "errors.errorType"=some 0:=by kernel_rfl
theorem rt:(Tryz.prog.cutTypes.find? (·.1=="internal/reflectlite.rtype")).map (·.2)=some 200:=by kernel_rfl
theorem Axs:((List.range 252).filter fun t=>Tryz.prog.rowNamed t [101,114,114,111,114])=[72]:=by kernel_rfl
theorem Bd7:Tryz.prog.types.size=252:=by kernel_rfl
def O3:List (String×DataW Unit):=[("errors.errorType",Rows.laid_errors_errorType)]
theorem W0{W:World}(h:laidMetH Tryz.prog O3 W):W.cell? ⟨0,0,none⟩=some (.iface 200 (.agg #[.pointer (some ⟨1,72,none⟩)])):=by
 have h':laidMet Tryz.prog [] W∧handlesMet Tryz.prog O3 W:=h
 obtain⟨name,u,ty,e1,e2,e3,e4,e5⟩:=h'.2 _ (List.mem_singleton.2 rfl)
 have en:name=[101,114,114,111,114]:=(Option.some.inj e1).symm
 subst en
 obtain rfl:=Option.some.inj (rt.symm.trans e2)
 have hm:ty∈(List.range 252).filter fun t=>Tryz.prog.rowNamed t [101,114,114,111,114]:=List.mem_filter.2 ⟨List.mem_range.2 (by rw[←Bd7];exact e3),e4⟩
 rw[Axs] at hm
 obtain rfl:=List.mem_singleton.1 hm
 have hh:typeHandle Tryz.prog 72= .pointer (some ⟨1,72,none⟩):=by kernel_rfl
 rw[hh] at e5
 simpa using World.var?_cell et e5 0
theorem Abs{W:World}(h:laidMetH Tryz.prog O3 W):GOK W (· <W.heap.size):=by
 have hg:=W0 h
 refine⟨?_,hg⟩
 rcases Nat.eq_zero_or_pos W.heap.size with h0|h
 ·simp[World.cell?,h0] at hg
 ·exact h
noncomputable def Y9(os:Os):World:=
 let w0:=World.holding Tryz.prog os ⟨#[],#[],[]⟩
 {w0 with heap:=w0.heap.modify 0 fun
   | .cells _ t frozen=> .cells #[.iface 200 (.agg #[.pointer (some ⟨1,72,none⟩)])] t frozen
   |o=>o}
theorem Yh(os:Os)(args:Array Value):laidMetH Tryz.prog O3 ((Y9 os).forCall (fun _ _=>0) ⟨#[],args,[]⟩).memory:=
 laidMetH_of_parts (laidMet_nil _ _) (by kernel_rfl)
end Go.Proofs.YtkcilagjhieapaaGreatDoor
end
