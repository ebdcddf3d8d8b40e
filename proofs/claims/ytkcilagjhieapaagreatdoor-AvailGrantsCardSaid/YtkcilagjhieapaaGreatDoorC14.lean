import Derived.Test.YtkcilagjhieapaaGreatDoorProg
import Derived.WalkKit
import Derived.LaidEql
import Derived.Stop.Asserts
import Derived.RowKitTokens
import Derived.Test.YtkcilagjhieapaaGreatDoorC13
section
set_option linter.unusedVariables false
set_option linter.unusedSimpArgs false
namespace Go.Proofs.YtkcilagjhieapaaGreatDoor
open Go.RowKit Go.Extern.Stop Go.Stop Go.Extern
theorem Aw9(t:Value)(w:World):
  Calls Tryz.prog 70 #[.nilIface,t] w fun e w'=>e= .returned (.bool false)∧w'=w:=by
 go_enter Tryz.func70,Tryz.ntmps70
 go_wp2
 go_ret
 exact⟨rfl,rfl⟩
theorem Aa2(t:Addr)(w:World):(ReflectliteValue.unpack (.iface 119 (.pointer (some t)))).run Tryz.prog w
  = .ok (.agg #[.pointer (some ⟨1,119,none⟩),.pointer (some ⟨w.heap.size,0,none⟩),.int .u64 150]) (w.alloc (.cells #[.pointer (some t)] 119)):=by kernel_rfl
theorem Ahx(a:Addr)(w:World):(ReflectliteValue.methodAny (ReflectliteValue.valueError "reflectlite.Value.Type" 0) (fun t _ _ _=>ReflectliteType.toType t) #[.agg #[.pointer (some ⟨1,119,none⟩),.pointer (some a),.int .u64 150]]).run Tryz.prog w
  = .ok (.iface 200 (.agg #[.pointer (some ⟨1,119,none⟩)])) w:=by kernel_rfl
theorem X7(h:Value)(w:World):(Go.method 352 200 (.agg #[h]) "Kind").run Tryz.prog w= .ok (168,h) w:=by kernel_rfl
theorem Ahu(w:World):((ReflectliteType.abiMethod fun t=>(fun a:Nat=>Value.int IntKind.u8 (a:Int)) <$> Rtype.kind t) #[.pointer (some ⟨1,119,none⟩)]).run Tryz.prog w= .ok (.int .u8 22) w:=by kernel_rfl
theorem Ahv(w:World):((ReflectliteType.abiMethod fun t=>(fun a:Nat=>Value.int IntKind.u8 (a:Int)) <$> Rtype.kind t) #[.pointer (some ⟨1,113,none⟩)]).run Tryz.prog w= .ok (.int .u8 25) w:=by kernel_rfl
theorem rlm(z:Sem Value)(f:TypeId→Addr→Nat→Nat→Sem Value)(v:Value):
  ReflectliteValue.method z f #[v]=(do match ←ReflectliteValue.parts v with|none=>z|some (t,a,fl)=>f t a fl (fl%32)):=rfl
theorem Yr(a:Addr)(w:World):(ReflectliteValue.parts (.agg #[.pointer (some ⟨1,119,none⟩),.pointer (some a),.int .u64 150])).run Tryz.prog w= .ok (some (119,a,150)) w:=by kernel_rfl
theorem Af4(a p:Addr)(W:World)(ha:W.cell? a=some (.pointer (some p))):
  (ReflectliteValue.method (ReflectliteValue.valueError "reflectlite.Value.IsNil" 0) ReflectliteValue.isNil #[.agg #[.pointer (some ⟨1,119,none⟩),.pointer (some a),.int .u64 150]]).run Tryz.prog W= .ok (.bool false) W:=by
 rw[rlm]
 simp only[Sem.run_bind,Yr,Result.andThen]
 simp[ReflectliteValue.isNil,loadVar,isAgg,underlying,Tryz.underlying119,ha,Result.andThen]
theorem X6(h:Value)(w:World):(Go.method 352 200 (.agg #[h]) "Elem").run Tryz.prog w= .ok (179,.agg #[h]) w:=by kernel_rfl
theorem Rg(h:Value)(w:World):(Go.method 352 200 (.agg #[h]) "Implements").run Tryz.prog w= .ok (180,.agg #[h]) w:=by kernel_rfl
theorem Pd(h:Value)(w:World):(Go.method 352 200 (.agg #[h]) "AssignableTo").run Tryz.prog w= .ok (177,.agg #[h]) w:=by kernel_rfl
theorem Aht(w:World):(ReflectliteType.method ReflectliteType.elem #[.agg #[.pointer (some ⟨1,119,none⟩)]]).run Tryz.prog w= .ok (.iface 200 (.agg #[.pointer (some ⟨1,113,none⟩)])) w:=by kernel_rfl
theorem Wc(w:World):(ReflectliteType.relation "Implements" ReflectliteType.implements_ #[.agg #[.pointer (some ⟨1,113,none⟩)],.iface 200 (.agg #[.pointer (some ⟨1,72,none⟩)])]).run Tryz.prog w= .ok (.bool true) w:=by kernel_rfl
theorem Adh(v:Value)(w:World):(ReflectliteType.typeOf #[.iface 113 v]).run Tryz.prog w= .ok (.iface 200 (.agg #[.pointer (some ⟨1,113,none⟩)])) w:=by kernel_rfl
theorem Wb(w:World):(ReflectliteType.relation "AssignableTo" ReflectliteType.assignableTo #[.agg #[.pointer (some ⟨1,113,none⟩)],.iface 200 (.agg #[.pointer (some ⟨1,113,none⟩)])]).run Tryz.prog w= .ok (.bool true) w:=by kernel_rfl
theorem Aa3(e:Int)(w:World):(ReflectliteValue.unpack (.iface 113 (.agg #[.int .i64 e]))).run Tryz.prog w
  = .ok (.agg #[.pointer (some ⟨1,113,none⟩),.pointer (some ⟨w.heap.size,0,none⟩),.int .u64 153]) (w.alloc (.cells #[.int .i64 e] 113)):=by kernel_rfl
theorem Adf(w:World):(Rtype.elem? 119).run Tryz.prog w= .ok (some 113) w:=by kernel_rfl
theorem Aww(p:Addr)(w:World):(ReflectliteValue.mk 113 p ReflectliteValue.flagAddr).run Tryz.prog w= .ok (.agg #[.pointer (some ⟨1,113,none⟩),.pointer (some p),.int .u64 409]) w:=by kernel_rfl
theorem Af3(a p:Addr)(W:World)(ha:W.cell? a=some (.pointer (some p))):
  (ReflectliteValue.method (ReflectliteValue.valueError "reflectlite.Value.Elem" 0) ReflectliteValue.elem #[.agg #[.pointer (some ⟨1,119,none⟩),.pointer (some a),.int .u64 150]]).run Tryz.prog W
   = .ok (.agg #[.pointer (some ⟨1,113,none⟩),.pointer (some p),.int .u64 409]) W:=by
 rw[rlm]
 simp only[Sem.run_bind,Yr,Result.andThen]
 simp[ReflectliteValue.elem,loadVar,isAgg,underlying,Tryz.underlying119,ha,Result.andThen,Adf,Aww]
theorem rls(v x:Value):ReflectliteValue.set #[v,x]=(do
  let (some (dst,a,fl),some (src,b,_)):=(←ReflectliteValue.parts v,←ReflectliteValue.parts x)
   |unsupported (.noEntry "extern/(internal/reflectlite.Value).Set.zeroValue")
  if fl/ReflectliteValue.flagAddr%2==0 then unsupported (.noEntry "extern/(internal/reflectlite.Value).Set.unaddressable")
  let val ←loadVar src b
  if ←Rtype.directlyAssignable dst src then storeVar dst a val
  else if ←Rtype.implements dst src then
   if (←Rtype.kind src)==20 then
    match val with
    | .nilIface=>unsupported (.noEntry "extern/reflectlite: a nil value of one interface type handed on as a value of another")
    |_=>storeVar dst a val
   else storeVar dst a (.iface src val)
  else panicString ("reflectlite.Set: value of type "++(←Rtype.spelt src)++" is not assignable to type "++(←Rtype.spelt dst))
  pure (.tuple #[])):=rfl
theorem Adg(a:Addr)(w:World):(ReflectliteValue.parts (.agg #[.pointer (some ⟨1,113,none⟩),.pointer (some a),.int .u64 409])).run Tryz.prog w= .ok (some (113,a,409)) w:=by kernel_rfl
theorem Af5(a:Addr)(w:World):(ReflectliteValue.parts (.agg #[.pointer (some ⟨1,113,none⟩),.pointer (some a),.int .u64 153])).run Tryz.prog w= .ok (some (113,a,153)) w:=by kernel_rfl
theorem Ade(w:World):(Rtype.directlyAssignable 113 113).run Tryz.prog w= .ok true w:=by kernel_rfl
theorem Aa1(w:World):(sizeOf 113).run Tryz.prog w= .ok 1 w:=by kernel_rfl
theorem Ak5(w:World):(isAgg 113).run Tryz.prog w= .ok true w:=by kernel_rfl
theorem Ahw(b:Addr)(e:Int)(W:World)(hb:W.cell? b=some (.int .i64 e))(hbs:b.spot=none):(loadVar 113 b).run Tryz.prog W= .ok (.agg #[.int .i64 e]) W:=by
 simp[loadVar,Ak5,Aa1,Result.andThen,loadCells,loadCellsFrom,Addr.add,hb]
theorem Af6(ta:Addr)(e:Int)(old:Value)(W:World)(ht:W.cell? ta=some old)(hf:W.frozen? ta=false):(storeVar 113 ta (.agg #[.int .i64 e])).run Tryz.prog W= .ok () (W.setCell ta (.int .i64 e)):=by
 simp[storeVar,Value.cells,storeCells,Addr.add,Aa1,Result.andThen]
 rw[run_store Tryz.prog W ta _ _ (by rfl)]
 simp[ht,hf]
theorem Ak6(ta b:Addr)(e:Int)(old:Value)(W:World)(hb:W.cell? b=some (.int .i64 e))(hbs:b.spot=none)(ht:W.cell? ta=some old)(hf:W.frozen? ta=false):
  (ReflectliteValue.set #[.agg #[.pointer (some ⟨1,113,none⟩),.pointer (some ta),.int .u64 409],.agg #[.pointer (some ⟨1,113,none⟩),.pointer (some b),.int .u64 153]]).run Tryz.prog W
   = .ok (.tuple #[]) (W.setCell ta (.int .i64 e)):=by
 rw[rls]
 simp only[Sem.run_bind,Adg,Af5,Result.andThen]
 simp[ReflectliteValue.flagAddr,Result.andThen,Ade,Ahw b e W hb hbs,Af6 ta e old W ht hf]
noncomputable def Axn(w:World)(t:Addr)(e:Int):World:=((((w.alloc (.cells #[.pointer (some t)] 119)).alloc (.cells #[.pointer (some ⟨1,119,none⟩),.pointer (some ⟨w.heap.size,0,none⟩),.int .u64 150] 167)).alloc (.cells #[.pointer (some ⟨1,119,none⟩),.pointer (some ⟨w.heap.size,0,none⟩),.int .u64 150] 167)).alloc (.cells #[.int .i64 e] 113)).setCell t (.int .i64 e)
set_option maxHeartbeats 4000000 in
theorem Aw8(e:Int)(t:Addr)(old:Value)(w:World)(hg:w.cell? ⟨0,0,none⟩=some (.iface 200 (.agg #[.pointer (some ⟨1,72,none⟩)])))(ht0:w.cell? t=some old)(hf0:w.frozen? t=false):
  Calls Tryz.prog 70 #[.iface 113 (.agg #[.int .i64 e]),.iface 119 (.pointer (some t))] w fun ev w'=>ev= .returned (.bool true)∧w'=Axn w t e:=by
 have h6:= @run_callFunc_extern Tryz.prog 113 _ (fun args=>ReflectliteValue.unpack (args.getD 0 (.tuple #[]))) Tryz.func113 (by kernel_rfl) (by kernel_rfl) (by kernel_rfl) (by kernel_rfl)
 have h7:= @run_callFunc_extern Tryz.prog 114 _ (ReflectliteValue.methodAny (ReflectliteValue.valueError "reflectlite.Value.Type" 0) (fun t _ _ _=>ReflectliteType.toType t)) Tryz.func114 (by kernel_rfl) (by kernel_rfl) (by kernel_rfl) (by kernel_rfl)
 have h8:= @run_callFunc_extern Tryz.prog 115 _ (ReflectliteValue.method (ReflectliteValue.valueError "reflectlite.Value.IsNil" 0) ReflectliteValue.isNil) Tryz.func115 (by kernel_rfl) (by kernel_rfl) (by kernel_rfl) (by kernel_rfl)
 have h27:= @run_callFunc_extern Tryz.prog 168 _ (ReflectliteType.abiMethod fun t=>do pure (.int .u8 (←Rtype.kind t))) Tryz.func168 (by kernel_rfl) (by kernel_rfl) (by kernel_rfl) (by kernel_rfl)
 have h37:= @run_callFunc_extern Tryz.prog 179 _ (ReflectliteType.method ReflectliteType.elem) Tryz.func179 (by kernel_rfl) (by kernel_rfl) (by kernel_rfl) (by kernel_rfl)
 have h38:= @run_callFunc_extern Tryz.prog 180 _ (ReflectliteType.relation "Implements" ReflectliteType.implements_) Tryz.func180 (by kernel_rfl) (by kernel_rfl) (by kernel_rfl) (by kernel_rfl)
 have h10:= @run_callFunc_extern Tryz.prog 141 _ ReflectliteType.typeOf Tryz.func141 (by kernel_rfl) (by kernel_rfl) (by kernel_rfl) (by kernel_rfl)
 have h35:= @run_callFunc_extern Tryz.prog 177 _ (ReflectliteType.relation "AssignableTo" ReflectliteType.assignableTo) Tryz.func177 (by kernel_rfl) (by kernel_rfl) (by kernel_rfl) (by kernel_rfl)
 have h11:= @run_callFunc_extern Tryz.prog 142 _ (ReflectliteValue.method (ReflectliteValue.valueError "reflectlite.Value.Elem" 0) ReflectliteValue.elem) Tryz.func142 (by kernel_rfl) (by kernel_rfl) (by kernel_rfl) (by kernel_rfl)
 have h12:= @run_callFunc_extern Tryz.prog 143 _ ReflectliteValue.set Tryz.func143 (by kernel_rfl) (by kernel_rfl) (by kernel_rfl) (by kernel_rfl)
 have tO:=Adh
 have mA:=Pd
 have a25:=Wb
 have v25:=Aa3
 have f6:=Aa2
 have f7:=Ahx
 have mK:=X7
 have mE:=X6
 have mI:=Rg
 have k27:=Ahu
 have k25:=Ahv
 have e27:=Aht
 have i25:=Wc
 have n8:=Af4 ⟨w.heap.size,0,none⟩ t ((w.alloc (.cells #[.pointer (some t)] 119)).alloc (.cells #[.pointer (some ⟨1,119,none⟩),.pointer (some ⟨w.heap.size,0,none⟩),.int .u64 150] 167)) (by simp)
 have hlt:0<w.heap.size:=by
  rcases Nat.eq_zero_or_pos w.heap.size with h0|h
  ·simp[World.cell?,h0] at hg
  ·exact h
 have hg2:((w.alloc (.cells #[.pointer (some t)] 119)).alloc (.cells #[.pointer (some ⟨1,119,none⟩),.pointer (some ⟨w.heap.size,0,none⟩),.int .u64 150] 167)).cell? ⟨0,0,none⟩=some (.iface 200 (.agg #[.pointer (some ⟨1,72,none⟩)])):=by
  rw[World.cell?_alloc_lt _ _ ⟨0,0,none⟩ (by simp),World.cell?_alloc_lt _ _ ⟨0,0,none⟩ hlt];exact hg
 have htl:t.block<w.heap.size:=by
  rcases Nat.lt_or_ge t.block w.heap.size with h|h
  ·exact h
  ·simp[World.cell?,Array.getElem?_eq_none h] at ht0
 have el:=Af3 ⟨w.heap.size,0,none⟩ t (((w.alloc (.cells #[.pointer (some t)] 119)).alloc (.cells #[.pointer (some ⟨1,119,none⟩),.pointer (some ⟨w.heap.size,0,none⟩),.int .u64 150] 167)).alloc (.cells #[.pointer (some ⟨1,119,none⟩),.pointer (some ⟨w.heap.size,0,none⟩),.int .u64 150] 167)) (by rw[World.cell?_alloc_lt _ _ ⟨w.heap.size,0,none⟩ (by simp;omega)];simp)
 have st:=Ak6 t ⟨w.heap.size+1+1+1,0,none⟩ e old ((((w.alloc (.cells #[.pointer (some t)] 119)).alloc (.cells #[.pointer (some ⟨1,119,none⟩),.pointer (some ⟨w.heap.size,0,none⟩),.int .u64 150] 167)).alloc (.cells #[.pointer (some ⟨1,119,none⟩),.pointer (some ⟨w.heap.size,0,none⟩),.int .u64 150] 167)).alloc (.cells #[.int .i64 e] 113))
  (by rw[World.cell?_alloc_at _ _ _ _ (by simp)];rfl) rfl
  (by rw[World.cell?_alloc_lt _ _ t (by simp;omega),World.cell?_alloc_lt _ _ t (by simp;omega),World.cell?_alloc_lt _ _ t (by simp;omega),World.cell?_alloc_lt _ _ t htl];exact ht0)
  (by rw[World.frozen?_alloc_old _ _ t (by simp;omega),World.frozen?_alloc_old _ _ t (by simp;omega),World.frozen?_alloc_old _ _ t (by simp;omega),World.frozen?_alloc_old _ _ t (Nat.ne_of_lt htl)];exact hf0)
 go_enter Tryz.func70,Tryz.ntmps70
 go_wp2
 refine wp_loop_rounds 1 ?_
 rw[rounds_succ]
 go_wp2
 go_ret
 exact⟨rfl,rfl⟩
end Go.Proofs.YtkcilagjhieapaaGreatDoor
end
section
set_option linter.unusedVariables false
set_option linter.unusedSimpArgs false
namespace Go.Proofs.YtkcilagjhieapaaGreatDoor
open Go Go.RowKit Go.Extern.Stop Go.Stop Go.Extern
theorem Ak8(e:Int)(w:World)(hg:w.cell? ⟨0,0,none⟩=some (.iface 200 (.agg #[.pointer (some ⟨1,72,none⟩)])))(v0:Value):
  Calls Tryz.prog 70 #[.iface 113 (.agg #[.int .i64 e]),.iface 119 (.pointer (some ⟨w.heap.size,0,none⟩))] (w.alloc (.cells #[v0] 113)) fun ev w'=>ev= .returned (.bool true)∧w'.cell? ⟨w.heap.size,0,none⟩=some (.int .i64 e)∧Below w.heap.size w w':=by
 have hlt:0<w.heap.size:=by
  rcases Nat.eq_zero_or_pos w.heap.size with h0|h
  ·simp[World.cell?,h0] at hg
  ·exact h
 refine(Aw8 e ⟨w.heap.size,0,none⟩ v0 (w.alloc (.cells #[v0] 113)) (by rw[World.cell?_alloc_lt _ _ ⟨0,0,none⟩ hlt];exact hg) (by simp) (by simp)).mono ?_
 rintro ev w' ⟨rfl,rfl⟩
 refine⟨rfl,?_,?_⟩
 ·unfold Axn
  refine World.cell?_setCell_same (u:=v0) _ _ _ ?_
  rw[World.cell?_alloc_lt _ _ ⟨w.heap.size,0,none⟩ (by simp;omega),World.cell?_alloc_lt _ _ ⟨w.heap.size,0,none⟩ (by simp;omega),World.cell?_alloc_lt _ _ ⟨w.heap.size,0,none⟩ (by simp;omega),World.cell?_alloc_lt _ _ ⟨w.heap.size,0,none⟩ (by simp)]
  simp
 ·unfold Axn
  exact(((((((Below.refl _ w).alloc (Nat.le_refl _) _).alloc (by simp) _).alloc (by simp;omega) _).alloc (by simp;omega) _).alloc (by simp;omega) _)).setCell (by simp) _
theorem why_nil(w:World):Calls Tryz.prog 29 #[.nilIface] w fun e w'=>e= .returned (.int .i64 0)∧Below w.heap.size w w':=by
 go_enter Tryz.func29,Tryz.ntmps29
 go_wp2_with (first|(go_at_call 70;refine(Aw9 _ _).mono ?_;rintro e w' ⟨rfl,rfl⟩))
 go_ret
 exact⟨rfl,(Below.refl _ w).alloc (Nat.le_refl _) _⟩
theorem why_hit(n:Int)(w:World)(hg:w.cell? ⟨0,0,none⟩=some (.iface 200 (.agg #[.pointer (some ⟨1,72,none⟩)]))):Calls Tryz.prog 29 #[.iface 113 (.agg #[.int .i64 n])] w fun e w'=>e= .returned (.int .i64 n)∧Below w.heap.size w w':=by
 go_enter Tryz.func29,Tryz.ntmps29
 go_wp2_with (first|(go_at_call 70;refine(Ak8 n w hg _).mono ?_;rintro e w' ⟨rfl,hc,hb⟩))
 go_ret
 exact⟨rfl,hb⟩
end Go.Proofs.YtkcilagjhieapaaGreatDoor
namespace Go.Av.G
open Go Go.Av Go.Proofs
theorem Aas{e:Option Int}{r:Int}(h:r=e.getD 0):A3 Tryz.prog 29 [.pv (Ww 113 e)] [] ⟨.pv (.int .i64 r),[],[]⟩:=by
 subst h
 refine⟨⟨Tryz.f29,Tryz.func29,by kernel_rfl,by kernel_rfl⟩,fun w vs γ ok h1 hG h2 h3 h4 h5=>?_⟩
 match vs,h4 with
 |[v],_=>
  have hv:=Cl (h5 0 _ _ rfl rfl)
  cases e with
  |none=>
   obtain rfl:v= .nilIface:=by cases hv;rfl
   refine(Go.Proofs.YtkcilagjhieapaaGreatDoor.why_nil w).mono ?_
   rintro e w' ⟨rfl,hb⟩
   exact⟨_,fun _=>⟨none,0⟩,rfl,Mc hb (.pv _ _ (.int _ _))⟩
  |some n=>
   obtain rfl:v= .iface 113 (.agg #[.int .i64 n]):=by
    cases hv with
    |iface _ _ u hu=>
     cases hu with
     |agg _ us hl _ hj=>
      match us,hl,hj with
      |[u],_,hj=>
       have:=Tg (hj 0 _ _ rfl rfl)
       subst this;rfl
   refine(Go.Proofs.YtkcilagjhieapaaGreatDoor.why_hit n w hG.2).mono ?_
   rintro e w' ⟨rfl,hb⟩
   exact⟨_,fun _=>⟨none,0⟩,rfl,Mc hb (.pv _ _ (.int _ _))⟩
end Go.Av.G
end
section
set_option linter.unusedVariables false
set_option linter.unusedSimpArgs false
set_option maxRecDepth 100000
set_option maxHeartbeats 8000000
namespace Go.Av.G
open Go Go.Av Go.Proofs
structure Ac where
 Bc:Int
 Di:List UInt8
 Ca:Int
 deriving DecidableEq,Inhabited
def Ac.pv(x:Ac):PV:= .agg [.int .i64 x.Bc,.str x.Di,.int .i64 x.Ca]
theorem Ac.pv_inj(x y:Ac):x.pv=y.pv↔x=y:=by
 constructor
 ·intro h;rcases x with⟨_,_,_⟩;rcases y with⟨_,_,_⟩;simp[Ac.pv,E3,D9,E4] at h;simp[h]
 ·rintro rfl;rfl
theorem Ac.pv_maps(l m:List Ac):l.map Ac.pv=m.map Ac.pv↔l=m:=List.map_inj_right (fun x y h=>(Ac.pv_inj x y).1 h)
def Ac.same(x y:Ac):Bool:=((x.Bc==y.Bc)&&((x.Di==y.Di)&&((x.Ca==y.Ca)&&true)))
theorem Ac.same_iff(x y:Ac):Ac.same x y=decide (x=y):=by
 rw[Bool.eq_iff_iff];rcases x with⟨_,_,_⟩;rcases y with⟨_,_,_⟩;simp[Ac.same,Ac.mk.injEq,and_assoc]
def Ac.tt:TT:= .struct (.field (.int .i64) (.field .str (.field (.int .i64) .unit)))
def Ac.wf(x:Ac):Prop:=inR .i64 x.Bc∧x.Di.length≤maxLen∧inR .i64 x.Ca
theorem Ac.of{xs:List PV}(hh:Ac.tt.Of xs): ∃x:Ac,x.wf∧Ac.tt.pack xs=Ac.pv x:=by
 obtain⟨a0,b0,rfl,h0,hh⟩:=hh
 obtain⟨a1,b1,rfl,h1,hh⟩:=hh
 obtain⟨a2,b2,rfl,h2,hh⟩:=hh
 obtain rfl:_=[]:=hh
 obtain⟨n0,rfl,w0⟩:=h0
 obtain⟨n1,rfl,w1⟩:=h1
 obtain⟨n2,rfl,w2⟩:=h2
 exact⟨⟨n0,n1,n2⟩,⟨w0,w1,w2⟩,rfl⟩
structure Ad where
 Az:Int
 Ca:Int
 Bb:Int
 Bt:Int
 Cq:Int
 Dc:Int
 Eu:Int
 Iu:Int
 deriving DecidableEq,Inhabited
def Ad.pv(x:Ad):PV:= .agg [.int .i64 x.Az,.int .i64 x.Ca,.int .i64 x.Bb,.int .i64 x.Bt,.int .i64 x.Cq,.int .i64 x.Dc,.int .i32 x.Eu,.int .i32 x.Iu]
theorem Ad.pv_inj(x y:Ad):x.pv=y.pv↔x=y:=by
 constructor
 ·intro h;rcases x with⟨_,_,_,_,_,_,_,_⟩;rcases y with⟨_,_,_,_,_,_,_,_⟩;simp[Ad.pv,E3,D9,E4,Ac.pv_maps] at h;simp[h]
 ·rintro rfl;rfl
theorem Ad.pv_maps(l m:List Ad):l.map Ad.pv=m.map Ad.pv↔l=m:=List.map_inj_right (fun x y h=>(Ad.pv_inj x y).1 h)
def Ad.same(x y:Ad):Bool:=((x.Az==y.Az)&&((x.Ca==y.Ca)&&((x.Bb==y.Bb)&&((x.Bt==y.Bt)&&((x.Cq==y.Cq)&&((x.Dc==y.Dc)&&((x.Eu==y.Eu)&&((x.Iu==y.Iu)&&true))))))))
theorem Ad.same_iff(x y:Ad):Ad.same x y=decide (x=y):=by
 rw[Bool.eq_iff_iff];rcases x with⟨_,_,_,_,_,_,_,_⟩;rcases y with⟨_,_,_,_,_,_,_,_⟩;simp[Ad.same,Ad.mk.injEq,and_assoc]
def Ad.tt:TT:= .struct (.field (.int .i64) (.field (.int .i64) (.field (.int .i64) (.field (.int .i64) (.field (.int .i64) (.field (.int .i64) (.field (.int .i32) (.field (.int .i32) .unit))))))))
def Ad.wf(x:Ad):Prop:=inR .i64 x.Az∧inR .i64 x.Ca∧inR .i64 x.Bb∧inR .i64 x.Bt∧inR .i64 x.Cq∧inR .i64 x.Dc∧inR .i32 x.Eu∧inR .i32 x.Iu
theorem Ad.of{xs:List PV}(hh:Ad.tt.Of xs): ∃x:Ad,x.wf∧Ad.tt.pack xs=Ad.pv x:=by
 obtain⟨a0,b0,rfl,h0,hh⟩:=hh
 obtain⟨a1,b1,rfl,h1,hh⟩:=hh
 obtain⟨a2,b2,rfl,h2,hh⟩:=hh
 obtain⟨a3,b3,rfl,h3,hh⟩:=hh
 obtain⟨a4,b4,rfl,h4,hh⟩:=hh
 obtain⟨a5,b5,rfl,h5,hh⟩:=hh
 obtain⟨a6,b6,rfl,h6,hh⟩:=hh
 obtain⟨a7,b7,rfl,h7,hh⟩:=hh
 obtain rfl:_=[]:=hh
 obtain⟨n0,rfl,w0⟩:=h0
 obtain⟨n1,rfl,w1⟩:=h1
 obtain⟨n2,rfl,w2⟩:=h2
 obtain⟨n3,rfl,w3⟩:=h3
 obtain⟨n4,rfl,w4⟩:=h4
 obtain⟨n5,rfl,w5⟩:=h5
 obtain⟨n6,rfl,w6⟩:=h6
 obtain⟨n7,rfl,w7⟩:=h7
 exact⟨⟨n0,n1,n2,n3,n4,n5,n6,n7⟩,⟨w0,w1,w2,w3,w4,w5,w6,w7⟩,rfl⟩
structure A4 where
 As:List Ac
 Au:List Ad
 deriving DecidableEq,Inhabited
def A4.pv(x:A4):PV:= .agg [.slice (List.map Ac.pv x.As),.slice (List.map Ad.pv x.Au)]
theorem A4.pv_inj(x y:A4):x.pv=y.pv↔x=y:=by
 constructor
 ·intro h;rcases x with⟨_,_⟩;rcases y with⟨_,_⟩;simp[A4.pv,E3,D9,E4,Ac.pv_maps,Ad.pv_maps] at h;simp[h]
 ·rintro rfl;rfl
theorem A4.pv_maps(l m:List A4):l.map A4.pv=m.map A4.pv↔l=m:=List.map_inj_right (fun x y h=>(A4.pv_inj x y).1 h)
def A4.tt:TT:= .struct (.field (.slice Ac.tt) (.field (.slice Ad.tt) .unit))
def A4.wf(x:A4):Prop:=(x.As.length≤maxLen∧ ∀x'∈x.As,Ac.wf x')∧(x.Au.length≤maxLen∧ ∀x'∈x.Au,Ad.wf x')
theorem A4.of{xs:List PV}(hh:A4.tt.Of xs): ∃x:A4,x.wf∧A4.tt.pack xs=A4.pv x:=by
 obtain⟨a0,b0,rfl,h0,hh⟩:=hh
 obtain⟨a1,b1,rfl,h1,hh⟩:=hh
 obtain rfl:_=[]:=hh
 obtain⟨n0,w0,rfl⟩:=Ny (f:=Ac.pv) (wf:=Ac.wf) (fun xs h=>Ac.of h) h0
 obtain⟨n1,w1,rfl⟩:=Ny (f:=Ad.pv) (wf:=Ad.wf) (fun xs h=>Ad.of h) h1
 exact⟨⟨n0,n1⟩,⟨w0,w1⟩,rfl⟩
structure A5 where
 Bb:Int
 Ao:Int
 deriving DecidableEq,Inhabited
def A5.pv(x:A5):PV:= .agg [.int .i64 x.Bb,.int .i64 x.Ao]
theorem A5.pv_inj(x y:A5):x.pv=y.pv↔x=y:=by
 constructor
 ·intro h;rcases x with⟨_,_⟩;rcases y with⟨_,_⟩;simp[A5.pv,E3,D9,E4,Ac.pv_maps,Ad.pv_maps,A4.pv_maps] at h;simp[h]
 ·rintro rfl;rfl
theorem A5.pv_maps(l m:List A5):l.map A5.pv=m.map A5.pv↔l=m:=List.map_inj_right (fun x y h=>(A5.pv_inj x y).1 h)
def A5.same(x y:A5):Bool:=((x.Bb==y.Bb)&&((x.Ao==y.Ao)&&true))
theorem A5.same_iff(x y:A5):A5.same x y=decide (x=y):=by
 rw[Bool.eq_iff_iff];rcases x with⟨_,_⟩;rcases y with⟨_,_⟩;simp[A5.same,A5.mk.injEq,and_assoc]
def A5.tt:TT:= .struct (.field (.int .i64) (.field (.int .i64) .unit))
def A5.wf(x:A5):Prop:=inR .i64 x.Bb∧inR .i64 x.Ao
theorem A5.of{xs:List PV}(hh:A5.tt.Of xs): ∃x:A5,x.wf∧A5.tt.pack xs=A5.pv x:=by
 obtain⟨a0,b0,rfl,h0,hh⟩:=hh
 obtain⟨a1,b1,rfl,h1,hh⟩:=hh
 obtain rfl:_=[]:=hh
 obtain⟨n0,rfl,w0⟩:=h0
 obtain⟨n1,rfl,w1⟩:=h1
 exact⟨⟨n0,n1⟩,⟨w0,w1⟩,rfl⟩
structure Bj where
 Az:Int
 Ak:A5
 deriving DecidableEq,Inhabited
def Bj.pv(x:Bj):PV:= .agg [.int .i64 x.Az,.int .i64 x.Ak.Bb,.int .i64 x.Ak.Ao]
theorem Bj.pv_inj(x y:Bj):x.pv=y.pv↔x=y:=by
 constructor
 ·intro h;rcases x with⟨_,⟨_,_⟩⟩;rcases y with⟨_,⟨_,_⟩⟩;simp[Bj.pv,E3,D9,E4,Ac.pv_maps,Ad.pv_maps,A4.pv_maps,A5.pv_maps] at h;simp[h]
 ·rintro rfl;rfl
theorem Bj.pv_maps(l m:List Bj):l.map Bj.pv=m.map Bj.pv↔l=m:=List.map_inj_right (fun x y h=>(Bj.pv_inj x y).1 h)
def Bj.same(x y:Bj):Bool:=((x.Az==y.Az)&&((x.Ak.Bb==y.Ak.Bb)&&((x.Ak.Ao==y.Ak.Ao)&&true)))
theorem Bj.same_iff(x y:Bj):Bj.same x y=decide (x=y):=by
 rw[Bool.eq_iff_iff];rcases x with⟨_,⟨_,_⟩⟩;rcases y with⟨_,⟨_,_⟩⟩;simp[Bj.same,Bj.mk.injEq,A5.mk.injEq,and_assoc]
def Bj.tt:TT:= .struct (.field (.int .i64) (.field A5.tt .unit))
def Bj.wf(x:Bj):Prop:=inR .i64 x.Az∧A5.wf x.Ak
theorem Bj.of{xs:List PV}(hh:Bj.tt.Of xs): ∃x:Bj,x.wf∧Bj.tt.pack xs=Bj.pv x:=by
 obtain⟨a0,b0,rfl,h0,hh⟩:=hh
 obtain⟨a1,b1,rfl,h1,hh⟩:=hh
 obtain rfl:_=[]:=hh
 obtain⟨n0,rfl,w0⟩:=h0
 obtain⟨n1,w1,e1⟩:=A5.of h1
 obtain rfl:=PV.agg.inj e1
 exact⟨⟨n0,n1⟩,⟨w0,w1⟩,rfl⟩
structure Af where
 Bc:Int
 Cy:Int
 Cp:Int
 B0:List Bj
 Fg:Int
 Ca:Int
 Kf:List UInt8
 deriving DecidableEq,Inhabited
def Af.pv(x:Af):PV:= .agg [.int .i64 x.Bc,.int .i32 x.Cy,.int .i32 x.Cp,.slice (List.map Bj.pv x.B0),.int .i64 x.Fg,.int .i64 x.Ca,.str x.Kf]
theorem Af.pv_inj(x y:Af):x.pv=y.pv↔x=y:=by
 constructor
 ·intro h;rcases x with⟨_,_,_,_,_,_,_⟩;rcases y with⟨_,_,_,_,_,_,_⟩;simp[Af.pv,E3,D9,E4,Ac.pv_maps,Ad.pv_maps,A4.pv_maps,A5.pv_maps,Bj.pv_maps] at h;simp[h]
 ·rintro rfl;rfl
theorem Af.pv_maps(l m:List Af):l.map Af.pv=m.map Af.pv↔l=m:=List.map_inj_right (fun x y h=>(Af.pv_inj x y).1 h)
def Af.tt:TT:= .struct (.field (.int .i64) (.field (.int .i32) (.field (.int .i32) (.field (.slice Bj.tt) (.field (.int .i64) (.field (.int .i64) (.field .str .unit)))))))
def Af.wf(x:Af):Prop:=inR .i64 x.Bc∧inR .i32 x.Cy∧inR .i32 x.Cp∧(x.B0.length≤maxLen∧ ∀x'∈x.B0,Bj.wf x')∧inR .i64 x.Fg∧inR .i64 x.Ca∧x.Kf.length≤maxLen
theorem Af.of{xs:List PV}(hh:Af.tt.Of xs): ∃x:Af,x.wf∧Af.tt.pack xs=Af.pv x:=by
 obtain⟨a0,b0,rfl,h0,hh⟩:=hh
 obtain⟨a1,b1,rfl,h1,hh⟩:=hh
 obtain⟨a2,b2,rfl,h2,hh⟩:=hh
 obtain⟨a3,b3,rfl,h3,hh⟩:=hh
 obtain⟨a4,b4,rfl,h4,hh⟩:=hh
 obtain⟨a5,b5,rfl,h5,hh⟩:=hh
 obtain⟨a6,b6,rfl,h6,hh⟩:=hh
 obtain rfl:_=[]:=hh
 obtain⟨n0,rfl,w0⟩:=h0
 obtain⟨n1,rfl,w1⟩:=h1
 obtain⟨n2,rfl,w2⟩:=h2
 obtain⟨n3,w3,rfl⟩:=Ny (f:=Bj.pv) (wf:=Bj.wf) (fun xs h=>Bj.of h) h3
 obtain⟨n4,rfl,w4⟩:=h4
 obtain⟨n5,rfl,w5⟩:=h5
 obtain⟨n6,rfl,w6⟩:=h6
 exact⟨⟨n0,n1,n2,n3,n4,n5,n6⟩,⟨w0,w1,w2,w3,w4,w5,w6⟩,rfl⟩
structure Aa where
 Bc:Int
 Az:Int
 Ak:A5
 A9:Int
 B5:Int
 Cb:Int
 Bo:Int
 C4:Bool
 deriving DecidableEq,Inhabited
def Aa.pv(x:Aa):PV:= .agg [.int .i64 x.Bc,.int .i64 x.Az,.int .i64 x.Ak.Bb,.int .i64 x.Ak.Ao,.int .i64 x.A9,.int .i32 x.B5,.int .i32 x.Cb,.int .i64 x.Bo,.bool x.C4]
theorem Aa.pv_inj(x y:Aa):x.pv=y.pv↔x=y:=by
 constructor
 ·intro h;rcases x with⟨_,_,⟨_,_⟩,_,_,_,_,_⟩;rcases y with⟨_,_,⟨_,_⟩,_,_,_,_,_⟩;simp[Aa.pv,E3,D9,E4,Ac.pv_maps,Ad.pv_maps,A4.pv_maps,A5.pv_maps,Bj.pv_maps,Af.pv_maps] at h;simp[h]
 ·rintro rfl;rfl
theorem Aa.pv_maps(l m:List Aa):l.map Aa.pv=m.map Aa.pv↔l=m:=List.map_inj_right (fun x y h=>(Aa.pv_inj x y).1 h)
def Aa.same(x y:Aa):Bool:=((x.Bc==y.Bc)&&((x.Az==y.Az)&&((x.Ak.Bb==y.Ak.Bb)&&((x.Ak.Ao==y.Ak.Ao)&&((x.A9==y.A9)&&((x.B5==y.B5)&&((x.Cb==y.Cb)&&((x.Bo==y.Bo)&&((x.C4==y.C4)&&true)))))))))
theorem Aa.same_iff(x y:Aa):Aa.same x y=decide (x=y):=by
 rw[Bool.eq_iff_iff];rcases x with⟨_,_,⟨_,_⟩,_,_,_,_,_⟩;rcases y with⟨_,_,⟨_,_⟩,_,_,_,_,_⟩;simp[Aa.same,Aa.mk.injEq,A5.mk.injEq,and_assoc]
def Aa.tt:TT:= .struct (.field (.int .i64) (.field (.int .i64) (.field A5.tt (.field (.int .i64) (.field (.int .i32) (.field (.int .i32) (.field (.int .i64) (.field .bool .unit))))))))
def Aa.wf(x:Aa):Prop:=inR .i64 x.Bc∧inR .i64 x.Az∧A5.wf x.Ak∧inR .i64 x.A9∧inR .i32 x.B5∧inR .i32 x.Cb∧inR .i64 x.Bo∧True
theorem Aa.of{xs:List PV}(hh:Aa.tt.Of xs): ∃x:Aa,x.wf∧Aa.tt.pack xs=Aa.pv x:=by
 obtain⟨a0,b0,rfl,h0,hh⟩:=hh
 obtain⟨a1,b1,rfl,h1,hh⟩:=hh
 obtain⟨a2,b2,rfl,h2,hh⟩:=hh
 obtain⟨a3,b3,rfl,h3,hh⟩:=hh
 obtain⟨a4,b4,rfl,h4,hh⟩:=hh
 obtain⟨a5,b5,rfl,h5,hh⟩:=hh
 obtain⟨a6,b6,rfl,h6,hh⟩:=hh
 obtain⟨a7,b7,rfl,h7,hh⟩:=hh
 obtain rfl:_=[]:=hh
 obtain⟨n0,rfl,w0⟩:=h0
 obtain⟨n1,rfl,w1⟩:=h1
 obtain⟨n2,w2,e2⟩:=A5.of h2
 obtain rfl:=PV.agg.inj e2
 obtain⟨n3,rfl,w3⟩:=h3
 obtain⟨n4,rfl,w4⟩:=h4
 obtain⟨n5,rfl,w5⟩:=h5
 obtain⟨n6,rfl,w6⟩:=h6
 obtain⟨n7,rfl⟩:=h7
 exact⟨⟨n0,n1,n2,n3,n4,n5,n6,n7⟩,⟨w0,w1,w2,w3,w4,w5,w6,trivial⟩,rfl⟩
structure Al where
 Az:Int
 Ao:Int
 deriving DecidableEq,Inhabited
def Al.pv(x:Al):PV:= .agg [.int .i64 x.Az,.int .i64 x.Ao]
theorem Al.pv_inj(x y:Al):x.pv=y.pv↔x=y:=by
 constructor
 ·intro h;rcases x with⟨_,_⟩;rcases y with⟨_,_⟩;simp[Al.pv,E3,D9,E4,Ac.pv_maps,Ad.pv_maps,A4.pv_maps,A5.pv_maps,Bj.pv_maps,Af.pv_maps,Aa.pv_maps] at h;simp[h]
 ·rintro rfl;rfl
theorem Al.pv_maps(l m:List Al):l.map Al.pv=m.map Al.pv↔l=m:=List.map_inj_right (fun x y h=>(Al.pv_inj x y).1 h)
def Al.same(x y:Al):Bool:=((x.Az==y.Az)&&((x.Ao==y.Ao)&&true))
theorem Al.same_iff(x y:Al):Al.same x y=decide (x=y):=by
 rw[Bool.eq_iff_iff];rcases x with⟨_,_⟩;rcases y with⟨_,_⟩;simp[Al.same,Al.mk.injEq,and_assoc]
def Al.tt:TT:= .struct (.field (.int .i64) (.field (.int .i64) .unit))
def Al.wf(x:Al):Prop:=inR .i64 x.Az∧inR .i64 x.Ao
theorem Al.of{xs:List PV}(hh:Al.tt.Of xs): ∃x:Al,x.wf∧Al.tt.pack xs=Al.pv x:=by
 obtain⟨a0,b0,rfl,h0,hh⟩:=hh
 obtain⟨a1,b1,rfl,h1,hh⟩:=hh
 obtain rfl:_=[]:=hh
 obtain⟨n0,rfl,w0⟩:=h0
 obtain⟨n1,rfl,w1⟩:=h1
 exact⟨⟨n0,n1⟩,⟨w0,w1⟩,rfl⟩
structure Ah where
 Bk:A4
 Fl:List Af
 A7:List Aa
 A6:List Al
 deriving DecidableEq,Inhabited
def Ah.pv(x:Ah):PV:= .agg [.slice (List.map Ac.pv x.Bk.As),.slice (List.map Ad.pv x.Bk.Au),.slice (List.map Af.pv x.Fl),.slice (List.map Aa.pv x.A7),.slice (List.map Al.pv x.A6)]
theorem Ah.pv_inj(x y:Ah):x.pv=y.pv↔x=y:=by
 constructor
 ·intro h;rcases x with⟨⟨_,_⟩,_,_,_⟩;rcases y with⟨⟨_,_⟩,_,_,_⟩;simp[Ah.pv,E3,D9,E4,Ac.pv_maps,Ad.pv_maps,A4.pv_maps,A5.pv_maps,Bj.pv_maps,Af.pv_maps,Aa.pv_maps,Al.pv_maps] at h;simp[h]
 ·rintro rfl;rfl
theorem Ah.pv_maps(l m:List Ah):l.map Ah.pv=m.map Ah.pv↔l=m:=List.map_inj_right (fun x y h=>(Ah.pv_inj x y).1 h)
def Ah.tt:TT:= .struct (.field A4.tt (.field (.slice Af.tt) (.field (.slice Aa.tt) (.field (.slice Al.tt) .unit))))
def Ah.wf(x:Ah):Prop:=A4.wf x.Bk∧(x.Fl.length≤maxLen∧ ∀x'∈x.Fl,Af.wf x')∧(x.A7.length≤maxLen∧ ∀x'∈x.A7,Aa.wf x')∧(x.A6.length≤maxLen∧ ∀x'∈x.A6,Al.wf x')
theorem Ah.of{xs:List PV}(hh:Ah.tt.Of xs): ∃x:Ah,x.wf∧Ah.tt.pack xs=Ah.pv x:=by
 obtain⟨a0,b0,rfl,h0,hh⟩:=hh
 obtain⟨a1,b1,rfl,h1,hh⟩:=hh
 obtain⟨a2,b2,rfl,h2,hh⟩:=hh
 obtain⟨a3,b3,rfl,h3,hh⟩:=hh
 obtain rfl:_=[]:=hh
 obtain⟨n0,w0,e0⟩:=A4.of h0
 obtain rfl:=PV.agg.inj e0
 obtain⟨n1,w1,rfl⟩:=Ny (f:=Af.pv) (wf:=Af.wf) (fun xs h=>Af.of h) h1
 obtain⟨n2,w2,rfl⟩:=Ny (f:=Aa.pv) (wf:=Aa.wf) (fun xs h=>Aa.of h) h2
 obtain⟨n3,w3,rfl⟩:=Ny (f:=Al.pv) (wf:=Al.wf) (fun xs h=>Al.of h) h3
 exact⟨⟨n0,n1,n2,n3⟩,⟨w0,w1,w2,w3⟩,rfl⟩
structure Bm where
 Mz:Int
 deriving DecidableEq,Inhabited
def Bm.pv(x:Bm):PV:= .agg [.int .i64 x.Mz]
theorem Bm.pv_inj(x y:Bm):x.pv=y.pv↔x=y:=by
 constructor
 ·intro h;rcases x with⟨_⟩;rcases y with⟨_⟩;simp[Bm.pv,E3,D9,E4,Ac.pv_maps,Ad.pv_maps,A4.pv_maps,A5.pv_maps,Bj.pv_maps,Af.pv_maps,Aa.pv_maps,Al.pv_maps,Ah.pv_maps] at h;simp[h]
 ·rintro rfl;rfl
theorem Bm.pv_maps(l m:List Bm):l.map Bm.pv=m.map Bm.pv↔l=m:=List.map_inj_right (fun x y h=>(Bm.pv_inj x y).1 h)
def Bm.same(x y:Bm):Bool:=((x.Mz==y.Mz)&&true)
theorem Bm.same_iff(x y:Bm):Bm.same x y=decide (x=y):=by
 rw[Bool.eq_iff_iff];rcases x with⟨_⟩;rcases y with⟨_⟩;simp[Bm.same,Bm.mk.injEq,and_assoc]
def Bm.tt:TT:= .struct (.field (.int .i64) .unit)
def Bm.wf(x:Bm):Prop:=inR .i64 x.Mz
theorem Bm.of{xs:List PV}(hh:Bm.tt.Of xs): ∃x:Bm,x.wf∧Bm.tt.pack xs=Bm.pv x:=by
 obtain⟨a0,b0,rfl,h0,hh⟩:=hh
 obtain rfl:_=[]:=hh
 obtain⟨n0,rfl,w0⟩:=h0
 exact⟨⟨n0⟩,w0,rfl⟩
structure Ai where
 S6:Int
 H3:Int
 B7:Int
 deriving DecidableEq,Inhabited
def Ai.pv(x:Ai):PV:= .agg [.int .i32 x.S6,.int .i32 x.H3,.int .i64 x.B7]
theorem Ai.pv_inj(x y:Ai):x.pv=y.pv↔x=y:=by
 constructor
 ·intro h;rcases x with⟨_,_,_⟩;rcases y with⟨_,_,_⟩;simp[Ai.pv,E3,D9,E4,Ac.pv_maps,Ad.pv_maps,A4.pv_maps,A5.pv_maps,Bj.pv_maps,Af.pv_maps,Aa.pv_maps,Al.pv_maps,Ah.pv_maps,Bm.pv_maps] at h;simp[h]
 ·rintro rfl;rfl
theorem Ai.pv_maps(l m:List Ai):l.map Ai.pv=m.map Ai.pv↔l=m:=List.map_inj_right (fun x y h=>(Ai.pv_inj x y).1 h)
def Ai.same(x y:Ai):Bool:=((x.S6==y.S6)&&((x.H3==y.H3)&&((x.B7==y.B7)&&true)))
theorem Ai.same_iff(x y:Ai):Ai.same x y=decide (x=y):=by
 rw[Bool.eq_iff_iff];rcases x with⟨_,_,_⟩;rcases y with⟨_,_,_⟩;simp[Ai.same,Ai.mk.injEq,and_assoc]
def Ai.tt:TT:= .struct (.field (.int .i32) (.field (.int .i32) (.field (.int .i64) .unit)))
def Ai.wf(x:Ai):Prop:=inR .i32 x.S6∧inR .i32 x.H3∧inR .i64 x.B7
theorem Ai.of{xs:List PV}(hh:Ai.tt.Of xs): ∃x:Ai,x.wf∧Ai.tt.pack xs=Ai.pv x:=by
 obtain⟨a0,b0,rfl,h0,hh⟩:=hh
 obtain⟨a1,b1,rfl,h1,hh⟩:=hh
 obtain⟨a2,b2,rfl,h2,hh⟩:=hh
 obtain rfl:_=[]:=hh
 obtain⟨n0,rfl,w0⟩:=h0
 obtain⟨n1,rfl,w1⟩:=h1
 obtain⟨n2,rfl,w2⟩:=h2
 exact⟨⟨n0,n1,n2⟩,⟨w0,w1,w2⟩,rfl⟩
structure Be where
 Rv:Int
 Qu:Int
 Qv:Int
 deriving DecidableEq,Inhabited
def Be.pv(x:Be):PV:= .agg [.int .i64 x.Rv,.int .i64 x.Qu,.int .i64 x.Qv]
theorem Be.pv_inj(x y:Be):x.pv=y.pv↔x=y:=by
 constructor
 ·intro h;rcases x with⟨_,_,_⟩;rcases y with⟨_,_,_⟩;simp[Be.pv,E3,D9,E4,Ac.pv_maps,Ad.pv_maps,A4.pv_maps,A5.pv_maps,Bj.pv_maps,Af.pv_maps,Aa.pv_maps,Al.pv_maps,Ah.pv_maps,Bm.pv_maps,Ai.pv_maps] at h;simp[h]
 ·rintro rfl;rfl
theorem Be.pv_maps(l m:List Be):l.map Be.pv=m.map Be.pv↔l=m:=List.map_inj_right (fun x y h=>(Be.pv_inj x y).1 h)
def Be.same(x y:Be):Bool:=((x.Rv==y.Rv)&&((x.Qu==y.Qu)&&((x.Qv==y.Qv)&&true)))
theorem Be.same_iff(x y:Be):Be.same x y=decide (x=y):=by
 rw[Bool.eq_iff_iff];rcases x with⟨_,_,_⟩;rcases y with⟨_,_,_⟩;simp[Be.same,Be.mk.injEq,and_assoc]
def Be.tt:TT:= .struct (.field (.int .i64) (.field (.int .i64) (.field (.int .i64) .unit)))
def Be.wf(x:Be):Prop:=inR .i64 x.Rv∧inR .i64 x.Qu∧inR .i64 x.Qv
theorem Be.of{xs:List PV}(hh:Be.tt.Of xs): ∃x:Be,x.wf∧Be.tt.pack xs=Be.pv x:=by
 obtain⟨a0,b0,rfl,h0,hh⟩:=hh
 obtain⟨a1,b1,rfl,h1,hh⟩:=hh
 obtain⟨a2,b2,rfl,h2,hh⟩:=hh
 obtain rfl:_=[]:=hh
 obtain⟨n0,rfl,w0⟩:=h0
 obtain⟨n1,rfl,w1⟩:=h1
 obtain⟨n2,rfl,w2⟩:=h2
 exact⟨⟨n0,n1,n2⟩,⟨w0,w1,w2⟩,rfl⟩
structure Aq where
 Bc:Int
 Kg:Int
 deriving DecidableEq,Inhabited
def Aq.pv(x:Aq):PV:= .agg [.int .i64 x.Bc,.int .i64 x.Kg]
theorem Aq.pv_inj(x y:Aq):x.pv=y.pv↔x=y:=by
 constructor
 ·intro h;rcases x with⟨_,_⟩;rcases y with⟨_,_⟩;simp[Aq.pv,E3,D9,E4,Ac.pv_maps,Ad.pv_maps,A4.pv_maps,A5.pv_maps,Bj.pv_maps,Af.pv_maps,Aa.pv_maps,Al.pv_maps,Ah.pv_maps,Bm.pv_maps,Ai.pv_maps,Be.pv_maps] at h;simp[h]
 ·rintro rfl;rfl
theorem Aq.pv_maps(l m:List Aq):l.map Aq.pv=m.map Aq.pv↔l=m:=List.map_inj_right (fun x y h=>(Aq.pv_inj x y).1 h)
def Aq.same(x y:Aq):Bool:=((x.Bc==y.Bc)&&((x.Kg==y.Kg)&&true))
theorem Aq.same_iff(x y:Aq):Aq.same x y=decide (x=y):=by
 rw[Bool.eq_iff_iff];rcases x with⟨_,_⟩;rcases y with⟨_,_⟩;simp[Aq.same,Aq.mk.injEq,and_assoc]
def Aq.tt:TT:= .struct (.field (.int .i64) (.field (.int .i64) .unit))
def Aq.wf(x:Aq):Prop:=inR .i64 x.Bc∧inR .i64 x.Kg
theorem Aq.of{xs:List PV}(hh:Aq.tt.Of xs): ∃x:Aq,x.wf∧Aq.tt.pack xs=Aq.pv x:=by
 obtain⟨a0,b0,rfl,h0,hh⟩:=hh
 obtain⟨a1,b1,rfl,h1,hh⟩:=hh
 obtain rfl:_=[]:=hh
 obtain⟨n0,rfl,w0⟩:=h0
 obtain⟨n1,rfl,w1⟩:=h1
 exact⟨⟨n0,n1⟩,⟨w0,w1⟩,rfl⟩
structure Am where
 Cy:Int
 Cp:Int
 Ao:Int
 deriving DecidableEq,Inhabited
def Am.pv(x:Am):PV:= .agg [.int .i32 x.Cy,.int .i32 x.Cp,.int .i64 x.Ao]
theorem Am.pv_inj(x y:Am):x.pv=y.pv↔x=y:=by
 constructor
 ·intro h;rcases x with⟨_,_,_⟩;rcases y with⟨_,_,_⟩;simp[Am.pv,E3,D9,E4,Ac.pv_maps,Ad.pv_maps,A4.pv_maps,A5.pv_maps,Bj.pv_maps,Af.pv_maps,Aa.pv_maps,Al.pv_maps,Ah.pv_maps,Bm.pv_maps,Ai.pv_maps,Be.pv_maps,Aq.pv_maps] at h;simp[h]
 ·rintro rfl;rfl
theorem Am.pv_maps(l m:List Am):l.map Am.pv=m.map Am.pv↔l=m:=List.map_inj_right (fun x y h=>(Am.pv_inj x y).1 h)
def Am.same(x y:Am):Bool:=((x.Cy==y.Cy)&&((x.Cp==y.Cp)&&((x.Ao==y.Ao)&&true)))
theorem Am.same_iff(x y:Am):Am.same x y=decide (x=y):=by
 rw[Bool.eq_iff_iff];rcases x with⟨_,_,_⟩;rcases y with⟨_,_,_⟩;simp[Am.same,Am.mk.injEq,and_assoc]
def Am.tt:TT:= .struct (.field (.int .i32) (.field (.int .i32) (.field (.int .i64) .unit)))
def Am.wf(x:Am):Prop:=inR .i32 x.Cy∧inR .i32 x.Cp∧inR .i64 x.Ao
theorem Am.of{xs:List PV}(hh:Am.tt.Of xs): ∃x:Am,x.wf∧Am.tt.pack xs=Am.pv x:=by
 obtain⟨a0,b0,rfl,h0,hh⟩:=hh
 obtain⟨a1,b1,rfl,h1,hh⟩:=hh
 obtain⟨a2,b2,rfl,h2,hh⟩:=hh
 obtain rfl:_=[]:=hh
 obtain⟨n0,rfl,w0⟩:=h0
 obtain⟨n1,rfl,w1⟩:=h1
 obtain⟨n2,rfl,w2⟩:=h2
 exact⟨⟨n0,n1,n2⟩,⟨w0,w1,w2⟩,rfl⟩
noncomputable def Gn(t1:Ah):Option Ah:=
 (slO t1.Bk.As 0 (if 20<(t1.Bk.As.length:Int) then 20 else(t1.Bk.As.length:Int))).bind fun x2=>
 (slO t1.Bk.Au 0 (if 30<(t1.Bk.Au.length:Int) then 30 else(t1.Bk.Au.length:Int))).bind fun x3=>
 ((if (decide ((t1.Fl.length:Int)≤2000))=true then
   (slO t1.Fl 0 (if 40<(t1.Fl.length:Int) then 40 else(t1.Fl.length:Int))).bind fun x5=>
   ((loopO (fun(qj6:Int×(List Af))=>match qj6 with
     |(x7,row8)=>(
      if (decide (x7<(x5.length:Int)))=true then
       (rdO x5 x7).bind fun x9=>
       (slO x9.B0 0 (if 6<(x9.B0.length:Int) then 6 else(x9.B0.length:Int))).bind fun x10=>
       (apO 72 row8 [(⟨x9.Bc,x9.Cy,x9.Cp,x10,x9.Fg,x9.Ca,x9.Kf⟩:Af)]).bind fun x11=>
       some (.inl (IntKind.wrap .i64 (x7+1),x11))
      else
       some (.inr row8):Option ((Int×(List Af))⊕(List Af)))) (0,([]:List Af))):Option (List Af)).bind fun j6=>
   some j6
 else
  some t1.Fl):Option (List Af)).bind fun j4=>
 (slO t1.A7 0 (if 40<(t1.A7.length:Int) then 40 else(t1.A7.length:Int))).bind fun x14=>
 (slO t1.A6 0 (if 40<(t1.A6.length:Int) then 40 else(t1.A6.length:Int))).bind fun x15=>
 some (⟨(⟨x2,x3⟩:A4),j4,x14,x15⟩:Ah)
def F2(n1:Int)(low2:Int)(high3:Int):Option Bool:=
 (some (decide (n1≥low2))).bind fun c4=>
 some (c4&&(decide (n1≤high3)))
def G6(n1:Int)(low2:Int)(high3:Int):Option Bool:=
 (some (decide (n1≥low2))).bind fun c4=>
 some (c4&&(decide (n1≤high3)))
def I7(x1:Ac):Option Int:=
 some x1.Bc
noncomputable def Ef(l1:List Ac):Option Bool:=
 ((loopO (fun(qj2:Int)=>match qj2 with
   |i3=>(
    if (decide (i3<(l1.length:Int)))=true then
     (rdO l1 (IntKind.wrap .i64 (i3-1))).bind fun x4=>
     (I7 x4).bind fun x5=>
     (rdO l1 i3).bind fun x6=>
     (I7 x6).bind fun x7=>
     if (decide (x5≥x7))=true then
      some (.inr (.inr false))
     else
      some (.inl (IntKind.wrap .i64 (i3+1)))
    else
     some (.inr (.inl ())):Option (Int⊕(Unit⊕Bool)))) 1):Option (Unit⊕Bool)).bind fun j2=>match j2 with
 | .inr o=>some o
 | .inl _=>
 some true
def Ie(r1:Ad):Option Int:=
 some r1.Az
noncomputable def D0(l1:List Ad):Option Bool:=
 ((loopO (fun(qj2:Int)=>match qj2 with
   |i3=>(
    if (decide (i3<(l1.length:Int)))=true then
     (rdO l1 (IntKind.wrap .i64 (i3-1))).bind fun x4=>
     (Ie x4).bind fun x5=>
     (rdO l1 i3).bind fun x6=>
     (Ie x6).bind fun x7=>
     if (decide (x5≥x7))=true then
      some (.inr (.inr false))
     else
      some (.inl (IntKind.wrap .i64 (i3+1)))
    else
     some (.inr (.inl ())):Option (Int⊕(Unit⊕Bool)))) 1):Option (Unit⊕Bool)).bind fun j2=>match j2 with
 | .inr o=>some o
 | .inl _=>
 some true
def Et(n1:Int)(low2:Int)(high3:Int):Option Bool:=
 (some (decide (n1≥low2))).bind fun c4=>
 some (c4&&(decide (n1≤high3)))
def Gd(r1:Int):Option Bool:=
 (some (decide (r1<32))).bind fun c2=>
 some (c2||(decide (r1>126)))
noncomputable def G9(x1:Ac):Option Bool:=
 (Et x1.Bc 1 999).bind fun x2=>
 (gdO x2 (Et (x1.Di.length:Int) 1 32) (default:Bool)).bind fun x3=>
 (some (x2&&x3)).bind fun c4=>
 (gdO c4 (Ej Gd x1.Di) (default:Bool)).bind fun x5=>
 (some (c4&&(!x5))).bind fun c6=>
 (gdO c6 (Et x1.Ca 0 3) (default:Bool)).bind fun x7=>
 some (c6&&x7)
noncomputable def Ku(x1:Ac):Option Bool:=
 (G9 x1).bind fun x2=>
 some (!x2)
noncomputable def Dt(s1:List Ac):Option Int:=
 ((loopO (fun(qj2:Int)=>match qj2 with
   |x3=>(
    if (decide (x3<(s1.length:Int)))=true then
     (rdO s1 x3).bind fun x4=>
     (Ku x4).bind fun x5=>
     if x5=true then
      some (.inr (.inr x3))
     else
      some (.inl (IntKind.wrap .i64 (x3+1)))
    else
     some (.inr (.inl ())):Option (Int⊕(Unit⊕Int)))) 0):Option (Unit⊕Int)).bind fun j2=>match j2 with
 | .inr o=>some o
 | .inl _=>
 some (-1)
noncomputable def Cs(s1:List Ac):Option Bool:=
 (Dt s1).bind fun x2=>
 some (decide (x2≥0))
def Gx(x1:Int):Option Bool:=
 some (x1 !=x1)
def E5(x1:Int)(y2:Int):Option Int:=
 (Gx x1).bind fun x3=>
 (Gx y2).bind fun x4=>
 if x3=true then
  if x4=true then
   some 0
  else
   some (-1)
 else
  if x4=true then
   some 1
  else
   if (decide (x1<y2))=true then
    some (-1)
   else
    if (decide (x1>y2))=true then
     some 1
    else
     some 0
def C0(x1:Ac)(n2:Int):Option Int:=
 (I7 x1).bind fun x3=>
 (E5 x3 n2).bind fun x4=>
 some x4
noncomputable def Ce(x1:List Ac)(target2:Int):Option (Int×Bool):=
 ((loopO (fun(qj3:Int×Int)=>match qj3 with
   |(i4,j5)=>(
    if (decide (i4<j5))=true then
     (rdO x1 (IntKind.wrap .i64 (Int.fdiv (IntKind.wrap .u64 (IntKind.wrap .i64 (i4+j5))) 2))).bind fun x6=>
     (C0 x6 target2).bind fun x7=>
     if (decide (x7<0))=true then
      some (.inl (IntKind.wrap .i64 ((IntKind.wrap .i64 (Int.fdiv (IntKind.wrap .u64 (IntKind.wrap .i64 (i4+j5))) 2))+1),j5))
     else
      some (.inl (i4,IntKind.wrap .i64 (Int.fdiv (IntKind.wrap .u64 (IntKind.wrap .i64 (i4+j5))) 2)))
    else
     some (.inr i4):Option ((Int×Int)⊕Int))) (0,(x1.length:Int))):Option Int).bind fun j3=>
 (some (decide (j3<(x1.length:Int)))).bind fun c9=>
 (gdO c9 (rdO x1 j3) (default:Ac)).bind fun x10=>
 (gdO c9 (C0 x10 target2) (default:Int)).bind fun x11=>
 some (j3,(c9&&(x11==0)))
noncomputable def Ee(l1:List Ac)(n2:Int):Option (Int×Bool):=
 (Ce l1 n2).bind fun x3=>
 some (x3.1,x3.2)
def Im(n1:Int)(low2:Int)(high3:Int):Option Bool:=
 (some (decide (n1≥low2))).bind fun c4=>
 some (c4&&(decide (n1≤high3)))
def H2(n1:Int)(low2:Int)(high3:Int):Option Bool:=
 (some (decide (n1≥low2))).bind fun c4=>
 some (c4&&(decide (n1≤high3)))
def Fq(d1:Int):Option Bool:=
 (some (decide (d1≥(-50000)))).bind fun c2=>
 some (c2&&(decide (d1≤50000)))
def Ig(r1:Ad):Option Bool:=
 (Im r1.Az 1 999).bind fun x2=>
 (some (!x2)).bind fun c3=>
 (gdO (!c3) (Et r1.Ca 0 3) (default:Bool)).bind fun x4=>
 (some (c3||(!x4))).bind fun c5=>
 (gdO (!c5) (H2 r1.Bb 0 3) (default:Bool)).bind fun x6=>
 (some (c5||(!x6))).bind fun c7=>
 (gdO (!c7) (Et r1.Bt 0 999) (default:Bool)).bind fun x8=>
 if (c7||(!x8))=true then
  some false
 else
  (some (decide (r1.Ca≥2))).bind fun c9=>
  (some (r1.Bt !=0)).bind fun c10=>
  if (c9&&(c10||(r1.Cq !=0)))=true then
   some false
  else
   (Et r1.Cq 0 20).bind fun x11=>
   (gdO x11 (Et r1.Dc 0 3) (default:Bool)).bind fun x12=>
   (some (x11&&x12)).bind fun c13=>
   (gdO c13 (Fq r1.Eu) (default:Bool)).bind fun x14=>
   (some (c13&&x14)).bind fun c15=>
   (gdO c15 (Fq r1.Iu) (default:Bool)).bind fun x16=>
   (some (c15&&x16)).bind fun c17=>
   some (c17&&(decide (r1.Eu≤r1.Iu)))
noncomputable def I0(r1:Ad)(e2:A4):Option Bool:=
 (Ee e2.As r1.Bt).bind fun x3=>
 (Ig r1).bind fun x4=>
 (some (!x4)).bind fun c5=>
 (some (decide (r1.Bt>0))).bind fun c6=>
 some (c5||(c6&&(!x3.2)))
noncomputable def D5(s1:List Ad)(e2:A4):Option Int:=
 ((loopO (fun(qj3:Int)=>match qj3 with
   |x4=>(
    if (decide (x4<(s1.length:Int)))=true then
     (rdO s1 x4).bind fun x5=>
     (I0 x5 e2).bind fun x6=>
     if x6=true then
      some (.inr (.inr x4))
     else
      some (.inl (IntKind.wrap .i64 (x4+1)))
    else
     some (.inr (.inl ())):Option (Int⊕(Unit⊕Int)))) 0):Option (Unit⊕Int)).bind fun j3=>match j3 with
 | .inr o=>some o
 | .inl _=>
 some (-1)
noncomputable def C3(s1:List Ad)(e2:A4):Option Bool:=
 (D5 s1 e2).bind fun x3=>
 some (decide (x3≥0))
noncomputable def Ic(c1:A4):Option Bool:=
 (some (decide ((c1.As.length:Int)>100))).bind fun c2=>
 (some (c2||(decide ((c1.Au.length:Int)>200)))).bind fun c3=>
 (gdO (!c3) (Ef c1.As) (default:Bool)).bind fun x4=>
 (some (c3||(!x4))).bind fun c5=>
 (gdO (!c5) (D0 c1.Au) (default:Bool)).bind fun x6=>
 if (c5||(!x6))=true then
  some false
 else
  (Cs c1.As).bind fun x7=>
  if x7=true then
   some false
  else
   (C3 c1.Au c1).bind fun x8=>
   some (!x8)
def Tm(cur1:Int):Option Bool:=
 (some (decide (cur1≥0))).bind fun c2=>
 some (c2&&(decide (cur1<4)))
def Jg(m1:A5):Option Bool:=
 (Tm m1.Bb).bind fun x2=>
 (some (x2&&(decide (m1.Ao≥(-1000000000000000))))).bind fun c3=>
 some (c3&&(decide (m1.Ao≤1000000000000000)))
def Ja(h1:Aa):Option Bool:=
 (some (decide (h1.Bc≥1))).bind fun c2=>
 (some (c2&&(decide (h1.Bc≤1000000)))).bind fun c3=>
 (some (c3&&(decide (h1.Az≥1)))).bind fun c4=>
 (some (c4&&(decide (h1.Az≤999)))).bind fun c5=>
 (some (c5&&(decide (h1.A9≥0)))).bind fun c6=>
 (Jg h1.Ak).bind fun x7=>
 (some (x7&&(decide (h1.Ak.Ao>0)))).bind fun c8=>
 (some (c8&&(decide (h1.Bo≥0)))).bind fun c9=>
 (some (c6&&(decide (h1.A9≤9)))).bind fun c10=>
 (some (c10&&(c9&&(decide (h1.Bo≤h1.Ak.Ao))))).bind fun c11=>
 (gdO c11 (Fq h1.B5) (default:Bool)).bind fun x12=>
 (some (c11&&x12)).bind fun c13=>
 (gdO c13 (Fq h1.Cb) (default:Bool)).bind fun x14=>
 (some (c13&&x14)).bind fun c15=>
 some (c15&&(decide (h1.B5≤h1.Cb)))
def Lu(h1:Aa):Option Bool:=
 (Ja h1).bind fun x2=>
 some (!x2)
noncomputable def Ez(s1:List Aa):Option Int:=
 ((loopO (fun(qj2:Int)=>match qj2 with
   |x3=>(
    if (decide (x3<(s1.length:Int)))=true then
     (rdO s1 x3).bind fun x4=>
     (Lu x4).bind fun x5=>
     if x5=true then
      some (.inr (.inr x3))
     else
      some (.inl (IntKind.wrap .i64 (x3+1)))
    else
     some (.inr (.inl ())):Option (Int⊕(Unit⊕Int)))) 0):Option (Unit⊕Int)).bind fun j2=>match j2 with
 | .inr o=>some o
 | .inl _=>
 some (-1)
noncomputable def Dm(s1:List Aa):Option Bool:=
 (Ez s1).bind fun x2=>
 some (decide (x2≥0))
noncomputable def Ho(l1:List Aa):Option Int:=
 (Dm l1).bind fun x2=>
 if x2=true then
  some 1
 else
  ((loopO (fun(qj3:Int)=>match qj3 with
    |i4=>(
     if (decide (i4<(l1.length:Int)))=true then
      (rdO l1 (IntKind.wrap .i64 (i4-1))).bind fun x5=>
      (rdO l1 i4).bind fun x6=>
      if (decide (x5.Bc≥x6.Bc))=true then
       some (.inr (.inr 20))
      else
       some (.inl (IntKind.wrap .i64 (i4+1)))
     else
      some (.inr (.inl ())):Option (Int⊕(Unit⊕Int)))) 1):Option (Unit⊕Int)).bind fun j3=>match j3 with
  | .inr o=>some o
  | .inl _=>
  if (decide ((l1.length:Int)>200))=true then
   some 6
  else
   some 0
noncomputable def Gm(t1:Ah):Option Bool:=
 ((loopO (fun(qj2:Int)=>match qj2 with
   |x3=>(
    if (decide (x3<(t1.A6.length:Int)))=true then
     (rdO t1.A6 x3).bind fun x4=>
     (F2 x4.Az 1 999).bind fun x5=>
     (some (!x5)).bind fun c6=>
     (gdO (!c6) (G6 x4.Ao 0 1000000000000000) (default:Bool)).bind fun x7=>
     (some (c6||(!x7))).bind fun c8=>
     (some (decide (x3>0))).bind fun c9=>
     (gdO ((!c8)&&c9) (rdO t1.A6 (IntKind.wrap .i64 (x3-1))) (default:Al)).bind fun x10=>
     if (c8||(c9&&(decide (x10.Az≥x4.Az))))=true then
      some (.inr (.inr false))
     else
      some (.inl (IntKind.wrap .i64 (x3+1)))
    else
     some (.inr (.inl ())):Option (Int⊕(Unit⊕Bool)))) 0):Option (Unit⊕Bool)).bind fun j2=>match j2 with
 | .inr o=>some o
 | .inl _=>
 (Ic t1.Bk).bind fun x11=>
 (some (x11&&(decide ((t1.Fl.length:Int)≤2000)))).bind fun c12=>
 (gdO c12 (Ho t1.A7) (default:Int)).bind fun x13=>
 (some (c12&&(x13==0))).bind fun c14=>
 some (c14&&(decide ((t1.A6.length:Int)≤200)))
def Hp(h1:Aa)(id2:Int):Option Int:=
 (E5 h1.Bc id2).bind fun x3=>
 some x3
noncomputable def Cr(x1:List Aa)(target2:Int):Option (Int×Bool):=
 ((loopO (fun(qj3:Int×Int)=>match qj3 with
   |(i4,j5)=>(
    if (decide (i4<j5))=true then
     (rdO x1 (IntKind.wrap .i64 (Int.fdiv (IntKind.wrap .u64 (IntKind.wrap .i64 (i4+j5))) 2))).bind fun x6=>
     (Hp x6 target2).bind fun x7=>
     if (decide (x7<0))=true then
      some (.inl (IntKind.wrap .i64 ((IntKind.wrap .i64 (Int.fdiv (IntKind.wrap .u64 (IntKind.wrap .i64 (i4+j5))) 2))+1),j5))
     else
      some (.inl (i4,IntKind.wrap .i64 (Int.fdiv (IntKind.wrap .u64 (IntKind.wrap .i64 (i4+j5))) 2)))
    else
     some (.inr i4):Option ((Int×Int)⊕Int))) (0,(x1.length:Int))):Option Int).bind fun j3=>
 (some (decide (j3<(x1.length:Int)))).bind fun c9=>
 (gdO c9 (rdO x1 j3) (default:Aa)).bind fun x10=>
 (gdO c9 (Hp x10 target2) (default:Int)).bind fun x11=>
 some (j3,(c9&&(x11==0)))
noncomputable def Ih(l1:List Aa)(id2:Int):Option (Int×Bool):=
 (Cr l1 id2).bind fun x3=>
 some (x3.1,x3.2)
noncomputable def Qc(l1:List Aa)(h2:Aa):Option ((List Aa)×Int):=
 (Ho l1).bind fun x3=>
 if (x3 !=0)=true then
  some (([]:List Aa),x3)
 else
  (Ih l1 h2.Bc).bind fun x4=>
  (Ja h2).bind fun x5=>
  (some (!x5)).bind fun c6=>
  (some (c6||(decide (h2.Bo>0)))).bind fun c7=>
  if (c7||h2.C4)=true then
   some (([]:List Aa),1)
  else
   if x4.2=true then
    some (([]:List Aa),26)
   else
    if (decide ((l1.length:Int)≥200))=true then
     some (([]:List Aa),6)
    else
     (slices_Clone 64 l1).bind fun x8=>
     (Aiv 64 x8 x4.1 h2).bind fun x9=>
     some (x9,0)
def Gs(x1:Int):Option Bool:=
 some (x1 !=x1)
def G4(x1:Int)(y2:Int):Option Int:=
 (Gs x1).bind fun x3=>
 (Gs y2).bind fun x4=>
 if x3=true then
  if x4=true then
   some 0
  else
   some (-1)
 else
  if x4=true then
   some 1
  else
   if (decide (x1<y2))=true then
    some (-1)
   else
    if (decide (x1>y2))=true then
     some 1
    else
     some 0
def Ct(x1:Ad)(n2:Int):Option Int:=
 (Ie x1).bind fun x3=>
 (G4 x3 n2).bind fun x4=>
 some x4
noncomputable def Cf(x1:List Ad)(target2:Int):Option (Int×Bool):=
 ((loopO (fun(qj3:Int×Int)=>match qj3 with
   |(i4,j5)=>(
    if (decide (i4<j5))=true then
     (rdO x1 (IntKind.wrap .i64 (Int.fdiv (IntKind.wrap .u64 (IntKind.wrap .i64 (i4+j5))) 2))).bind fun x6=>
     (Ct x6 target2).bind fun x7=>
     if (decide (x7<0))=true then
      some (.inl (IntKind.wrap .i64 ((IntKind.wrap .i64 (Int.fdiv (IntKind.wrap .u64 (IntKind.wrap .i64 (i4+j5))) 2))+1),j5))
     else
      some (.inl (i4,IntKind.wrap .i64 (Int.fdiv (IntKind.wrap .u64 (IntKind.wrap .i64 (i4+j5))) 2)))
    else
     some (.inr i4):Option ((Int×Int)⊕Int))) (0,(x1.length:Int))):Option Int).bind fun j3=>
 (some (decide (j3<(x1.length:Int)))).bind fun c9=>
 (gdO c9 (rdO x1 j3) (default:Ad)).bind fun x10=>
 (gdO c9 (Ct x10 target2) (default:Int)).bind fun x11=>
 some (j3,(c9&&(x11==0)))
noncomputable def C1(l1:List Ad)(n2:Int):Option (Int×Bool):=
 (Cf l1 n2).bind fun x3=>
 some (x3.1,x3.2)
noncomputable def Ib(c1:A4)(a2:Int):Option (Ad×Int):=
 (Ic c1).bind fun x3=>
 if (!x3)=true then
  some ((⟨0,0,0,0,0,0,0,0⟩:Ad),1)
 else
  (C1 c1.Au a2).bind fun x4=>
  if (!x4.2)=true then
   some ((⟨0,0,0,0,0,0,0,0⟩:Ad),8)
  else
   (rdO c1.Au x4.1).bind fun x5=>
   some (x5,0)
def Hf(e1:Int):Option (Option Int):=
 if (e1==0)=true then
  some none
 else
  some (some e1)
def Kv(n1:Int)(low2:Int)(high3:Int):Option Bool:=
 (some (decide (n1≥low2))).bind fun c4=>
 some (c4&&(decide (n1≤high3)))
noncomputable def Pz(c1:A4)(a2:Int)(day3:Int):Option (Bool×Int):=
 (Ib c1 a2).bind fun x4=>
 if (x4.2 !=0)=true then
  some (false,x4.2)
 else
  (Fq day3).bind fun x5=>
  if (!x5)=true then
   some (false,11)
  else
   (Kv day3 x4.1.Eu x4.1.Iu).bind fun x6=>
   some (x6,0)
def Gw(d1:Int):Option Bool:=
 (Fq d1).bind fun x2=>
 some (!x2)
noncomputable def Ey(s1:List Int):Option Int:=
 ((loopO (fun(qj2:Int)=>match qj2 with
   |x3=>(
    if (decide (x3<(s1.length:Int)))=true then
     (rdO s1 x3).bind fun x4=>
     (Gw x4).bind fun x5=>
     if x5=true then
      some (.inr (.inr x3))
     else
      some (.inl (IntKind.wrap .i64 (x3+1)))
    else
     some (.inr (.inl ())):Option (Int⊕(Unit⊕Int)))) 0):Option (Unit⊕Int)).bind fun j2=>match j2 with
 | .inr o=>some o
 | .inl _=>
 some (-1)
noncomputable def Dl(s1:List Int):Option Bool:=
 (Ey s1).bind fun x2=>
 some (decide (x2≥0))
noncomputable def K4(l1:List Af)(from_2:Int)(to3:Int)(more4:List Int):Option Int:=
 if (decide ((l1.length:Int)>2000))=true then
  some 4
 else
  (Gw from_2).bind fun x5=>
  (gdO (!x5) (Gw to3) (default:Bool)).bind fun x6=>
  (some (x5||x6)).bind fun c7=>
  (some (c7||(decide (from_2>to3)))).bind fun c8=>
  (gdO (!c8) (Dl more4) (default:Bool)).bind fun x9=>
  if (c8||x9)=true then
   some 11
  else
   some 0
def En(n1:Int)(e2:Bm):Option (Bool×Int):=
 ((if (decide (n1<0))=true then
   some (IntKind.wrap .i64 (0-n1))
 else
  some n1):Option Int).bind fun j3=>
 (some (decide (j3<0))).bind fun c5=>
 if (c5||(decide (j3>(IntKind.wrap .i64 (1000000000000000000-e2.Mz)))))=true then
  some (true,e2.Mz)
 else
  some (false,IntKind.wrap .i64 (e2.Mz+j3))
noncomputable def Jm(l1:List Af)(acc2:Int)(cur3:Int):Option ((List Ai)×Int):=
 ((loopO (fun(qj4:Int×Int×(List Ai))=>match qj4 with
   |(x5,g6,row7)=>(
    if (decide (x5<(l1.length:Int)))=true then
     (rdO l1 x5).bind fun x8=>
     ((loopO (fun(qj9:Int×Int×(List Ai))=>match qj9 with
       |(x10,g11,row12)=>(
        if (decide (x10<(x8.B0.length:Int)))=true then
         (((rdO x8.B0 x10).bind fun x14=>
         (some (x14.Az !=acc2)).bind fun c15=>
         if (c15||(x14.Ak.Bb !=cur3))=true then
          some (.inl (g11,row12))
         else
          (En x14.Ak.Ao (⟨g11⟩:Bm)).bind fun x16=>
          if x16.1=true then
           some (.inr (.inr (.inr (.inr (.inr (([]:List Ai),9))))))
          else
           (apO 16 row12 [(⟨x8.Cy,x8.Cp,x14.Ak.Ao⟩:Ai)]).bind fun x17=>
           some (.inl (x16.2,x17))):Option ((Int×(List Ai))⊕((Int×Int×(List Ai))⊕((Int×(List Ai))⊕((Int×Int×(List Ai))⊕((List Ai)⊕((List Ai)×Int))))))).bind fun j13=>match j13 with
         | .inr o=>some o
         | .inl (g18,row19)=>
         some (.inl (IntKind.wrap .i64 (x10+1),g18,row19))
        else
         some (.inr (.inl (g11,row12))):Option ((Int×Int×(List Ai))⊕((Int×(List Ai))⊕((Int×Int×(List Ai))⊕((List Ai)⊕((List Ai)×Int))))))) (0,g6,row7)):Option ((Int×(List Ai))⊕((Int×Int×(List Ai))⊕((List Ai)⊕((List Ai)×Int))))).bind fun j9=>match j9 with
     | .inr o=>some o
     | .inl (g20,row21)=>
     some (.inl (IntKind.wrap .i64 (x5+1),g20,row21))
    else
     some (.inr (.inl row7)):Option ((Int×Int×(List Ai))⊕((List Ai)⊕((List Ai)×Int))))) (0,0,([]:List Ai))):Option ((List Ai)⊕((List Ai)×Int))).bind fun j4=>match j4 with
 | .inr o=>some o
 | .inl out22=>
 some (out22,0)
def Il(x1:Ai)(e2:Int):Option Bool:=
 some (decide (x1.H3≤e2))
noncomputable def Je(l1:List Ai)(e2:Int):Option Int:=
 ((loopO (fun(qj3:Int×Int)=>match qj3 with
   |(n4,x5)=>(
    if (decide (x5<(l1.length:Int)))=true then
     (rdO l1 x5).bind fun x6=>
     (Il x6 e2).bind fun x7=>
     ((if x7=true then
       some (IntKind.wrap .i64 (n4+x6.B7))
     else
      some n4):Option Int).bind fun j8=>
     some (.inl (j8,IntKind.wrap .i64 (x5+1)))
    else
     some (.inr n4):Option ((Int×Int)⊕Int))) (0,0)):Option Int).bind fun j3=>
 some j3
noncomputable def Mh(l1:List Af)(acc2:Int)(cur3:Int)(upto4:Int):Option (Int×Int):=
 (K4 l1 upto4 upto4 ([]:List Int)).bind fun x5=>
 if (x5 !=0)=true then
  some (0,x5)
 else
  (Jm l1 acc2 cur3).bind fun x6=>
  (Je x6.1 upto4).bind fun x7=>
  some (x7,x6.2)
def Mw(x1:Al)(e2:Int):Option Bool:=
 some (x1.Az==e2)
noncomputable def C6(s1:List Al)(e2:Int):Option Int:=
 ((loopO (fun(qj3:Int)=>match qj3 with
   |x4=>(
    if (decide (x4<(s1.length:Int)))=true then
     (rdO s1 x4).bind fun x5=>
     (Mw x5 e2).bind fun x6=>
     if x6=true then
      some (.inr (.inr x4))
     else
      some (.inl (IntKind.wrap .i64 (x4+1)))
    else
     some (.inr (.inl ())):Option (Int⊕(Unit⊕Int)))) 0):Option (Unit⊕Int)).bind fun j3=>match j3 with
 | .inr o=>some o
 | .inl _=>
 some (-1)
noncomputable def Kd(t1:Ah)(acc2:Int)(now3:Int):Option (Be×(Option Int)):=
 (Ib t1.Bk acc2).bind fun x4=>
 (Hf x4.2).bind fun x5=>
 if (Option.isSome x5)=true then
  some ((⟨0,0,0⟩:Be),x5)
 else
  if (x4.1.Ca !=1)=true then
   some ((⟨0,0,0⟩:Be),(some 13))
  else
   (Pz t1.Bk acc2 now3).bind fun x6=>
   (Hf x6.2).bind fun x7=>
   if (Option.isSome x7)=true then
    some ((⟨0,0,0⟩:Be),x7)
   else
    if (!x6.1)=true then
     some ((⟨0,0,0⟩:Be),(some 16))
    else
     (Mh t1.Fl acc2 x4.1.Bb now3).bind fun x8=>
     (C6 t1.A6 acc2).bind fun x9=>
     ((if (decide (x9≥0))=true then
       (rdO t1.A6 x9).bind fun x11=>
       some x11.Ao
     else
      some 0):Option Int).bind fun j10=>
     (Hf x8.2).bind fun x13=>
     some ((⟨x4.1.Bb,IntKind.wrap .i64 (0-x8.1),j10⟩:Be),x13)
def Jd(e:Option Int):Option Int:=some (e.getD 0)
def Kj(h1:Aa)(now2:Int):Option Bool:=
 (Ja h1).bind fun x3=>
 (some (x3&&(!h1.C4))).bind fun c4=>
 (some (c4&&(decide (now2≥h1.B5)))).bind fun c5=>
 some (c5&&(decide (now2≤h1.Cb)))
def Jf(h1:Aa)(now2:Int):Option Int:=
 (Kj h1 now2).bind fun x3=>
 if (!x3)=true then
  some 0
 else
  some (IntKind.wrap .i64 (h1.Ak.Ao-h1.Bo))
def Ael(acc cur now:Int)(h:Aa):Option Bool:=
 if (h.Az==acc)=true then if (h.Ak.Bb==cur)=true then Kj h now else some false else some false
def itO(acc cur now:Int):List Aa→Option (List Aa)
 |[]=>some []
 |h::t=>(Ael acc cur now h).bind fun b=>(itO acc cur now t).map fun r=>bif b then h::r else r
def T3(now rank:Int)(n:Int)(h:Aa):Option Int:=
 if (decide (h.A9≥rank))=true then(Jf h now).bind fun x=>some (IntKind.wrap .i64 (n+x)) else some n
def Jb(l:List Aa)(acc cur now:Int):Option (List Aa):=
 if (l.length:Int)<4611686018427387904 then itO acc cur now l else none
noncomputable def Qd(l:List Aa)(acc cur now rank:Int):Option (Int×Int):=
 (Ho l).bind fun e=>if (e !=0)=true then some (0,e) else
 (Jb l acc cur now).bind fun r=>(I2 (T3 now rank) 0 r).bind fun n=>some (n,0)
def Jq(l:List Aa)(acc cur now:Int):Option (List Aa):=
 (Jb l acc cur now).bind fun q=>I2 (fun s x=>apO 64 s [x]) [] q
noncomputable def Fe(a1:Be)(t2:Ah)(acc3:Int)(now4:Int)(rank5:Int):Option Int:=
 (Qd t2.A7 acc3 a1.Rv now4 rank5).bind fun x6=>
 some (IntKind.wrap .i64 ((IntKind.wrap .i64 (a1.Qu+a1.Qv))-x6.1))
noncomputable def H9(t1:Ah)(l2:List Aa):Option Ah:=
 (slices_Clone 32 t1.Bk.As).bind fun x3=>
 (slices_Clone 56 t1.Bk.Au).bind fun x4=>
 ((loopO (fun(qj5:Int×(List Af))=>match qj5 with
   |(x6,row7)=>(
    if (decide (x6<(t1.Fl.length:Int)))=true then
     (rdO t1.Fl x6).bind fun x8=>
     (slices_Clone 24 x8.B0).bind fun x9=>
     (apO 72 row7 [(⟨x8.Bc,x8.Cy,x8.Cp,x9,x8.Fg,x8.Ca,x8.Kf⟩:Af)]).bind fun x10=>
     some (.inl (IntKind.wrap .i64 (x6+1),x10))
    else
     some (.inr row7):Option ((Int×(List Af))⊕(List Af)))) (0,([]:List Af))):Option (List Af)).bind fun j5=>
 (slices_Clone 64 l2).bind fun x12=>
 (slices_Clone 16 t1.A6).bind fun x13=>
 some (⟨(⟨x3,x4⟩:A4),j5,x12,x13⟩:Ah)
noncomputable def H8(t1:Ah)(h2:Aa):Option (Ah×Bool×Int):=
 (Gm t1).bind fun x3=>
 if (!x3)=true then
  some ((⟨(⟨([]:List Ac),([]:List Ad)⟩:A4),([]:List Af),([]:List Aa),([]:List Al)⟩:Ah),false,1)
 else
  (Qc t1.A7 h2).bind fun x4=>
  if (x4.2 !=0)=true then
   some ((⟨(⟨([]:List Ac),([]:List Ad)⟩:A4),([]:List Af),([]:List Aa),([]:List Al)⟩:Ah),false,x4.2)
  else
   (Kd t1 h2.Az h2.B5).bind fun x5=>
   if (Option.isSome x5.2)=true then
    (Jd x5.2).bind fun x6=>
    some ((⟨(⟨([]:List Ac),([]:List Ad)⟩:A4),([]:List Af),([]:List Aa),([]:List Al)⟩:Ah),false,x6)
   else
    if (h2.Ak.Bb !=x5.1.Rv)=true then
     some ((⟨(⟨([]:List Ac),([]:List Ad)⟩:A4),([]:List Af),([]:List Aa),([]:List Al)⟩:Ah),false,12)
    else
     (Fe x5.1 t1 h2.Az h2.B5 h2.A9).bind fun x7=>
     if (decide (h2.Ak.Ao>x7))=true then
      (H9 t1 t1.A7).bind fun x8=>
      some (x8,false,0)
     else
      (H9 t1 x4.1).bind fun x9=>
      some (x9,true,0)
noncomputable def Hn(l1:List Aa)(id2:Int)(amount3:A5)(now4:Int)(last5:Bool):Option ((List Aa)×Int):=
 (Ho l1).bind fun x6=>
 if (x6 !=0)=true then
  some (([]:List Aa),x6)
 else
  (Ih l1 id2).bind fun x7=>
  if (!x7.2)=true then
   some (([]:List Aa),8)
  else
   (rdO l1 x7.1).bind fun x8=>
   (Kj x8 now4).bind fun x9=>
   if (!x9)=true then
    some (([]:List Aa),27)
   else
    (rdO l1 x7.1).bind fun x10=>
    if (amount3.Bb !=x10.Ak.Bb)=true then
     some (([]:List Aa),12)
    else
     (Jg amount3).bind fun x11=>
     (some (!x11)).bind fun c12=>
     if (c12||(decide (amount3.Ao≤0)))=true then
      some (([]:List Aa),1)
     else
      (rdO l1 x7.1).bind fun x13=>
      (Jf x13 now4).bind fun x14=>
      if (decide (amount3.Ao>x14))=true then
       some (([]:List Aa),17)
      else
       (slices_Clone 64 l1).bind fun x15=>
       (rdO x15 x7.1).bind fun x16=>
       (rdO x15 x7.1).bind fun x17=>
       (gdO (!last5) (rdO (List.set x15 (Int.toNat x7.1) (⟨x17.Bc,x17.Az,x17.Ak,x17.A9,x17.B5,x17.Cb,IntKind.wrap .i64 (x16.Bo+amount3.Ao),x17.C4⟩:Aa)) x7.1) (default:Aa)).bind fun x18=>
       (gdO (!last5) (rdO (List.set x15 (Int.toNat x7.1) (⟨x17.Bc,x17.Az,x17.Ak,x17.A9,x17.B5,x17.Cb,IntKind.wrap .i64 (x16.Bo+amount3.Ao),x17.C4⟩:Aa)) x7.1) (default:Aa)).bind fun x19=>
       (rdO (List.set x15 (Int.toNat x7.1) (⟨x17.Bc,x17.Az,x17.Ak,x17.A9,x17.B5,x17.Cb,IntKind.wrap .i64 (x16.Bo+amount3.Ao),x17.C4⟩:Aa)) x7.1).bind fun x20=>
       some ((List.set (List.set x15 (Int.toNat x7.1) (⟨x17.Bc,x17.Az,x17.Ak,x17.A9,x17.B5,x17.Cb,IntKind.wrap .i64 (x16.Bo+amount3.Ao),x17.C4⟩:Aa)) (Int.toNat x7.1) (⟨x20.Bc,x20.Az,x20.Ak,x20.A9,x20.B5,x20.Cb,x20.Bo,(last5||(x18.Bo==x19.Ak.Ao))⟩:Aa)),0)
def Ln(h1:Aa)(x2:Int):Option Bool:=
 some (h1.Bc==x2)
noncomputable def Du(s1:List Aa)(c2:Int):Option Int:=
 ((loopO (fun(qj3:Int)=>match qj3 with
   |x4=>(
    if (decide (x4<(s1.length:Int)))=true then
     (rdO s1 x4).bind fun x5=>
     (Ln x5 c2).bind fun x6=>
     if x6=true then
      some (.inr (.inr x4))
     else
      some (.inl (IntKind.wrap .i64 (x4+1)))
    else
     some (.inr (.inl ())):Option (Int⊕(Unit⊕Int)))) 0):Option (Unit⊕Int)).bind fun j3=>match j3 with
 | .inr o=>some o
 | .inl _=>
 some (-1)
def D4(a1:Aa)(b2:Aa):Option Int:=
 (E5 b2.A9 a1.A9).bind fun x3=>
 some x3
noncomputable def Cc(a1:Int)(b2:Int)(l3:List Aa):Option (List Aa):=
 ((loopO (fun(qj4:Int×(List Aa))=>match qj4 with
   |(i5,row6)=>(
    if (decide (i5<b2))=true then
     ((loopO (fun(qj7:Int×(List Aa))=>match qj7 with
       |(j8,row9)=>(
        (some (decide (j8>a1))).bind fun c10=>
        (gdO c10 (rdO row9 j8) (default:Aa)).bind fun x11=>
        (gdO c10 (rdO row9 (IntKind.wrap .i64 (j8-1))) (default:Aa)).bind fun x12=>
        (gdO c10 (D4 x11 x12) (default:Int)).bind fun x13=>
        if (c10&&(decide (x13<0)))=true then
         (rdO row9 (IntKind.wrap .i64 (j8-1))).bind fun x14=>
         (rdO row9 j8).bind fun x15=>
         (rdO row9 j8).bind fun x16=>
         (rdO (List.set row9 (Int.toNat j8) x14) (IntKind.wrap .i64 (j8-1))).bind fun x17=>
         some (.inl (IntKind.wrap .i64 (j8-1),(List.set (List.set row9 (Int.toNat j8) x14) (Int.toNat (IntKind.wrap .i64 (j8-1))) x15)))
        else
         some (.inr row9):Option ((Int×(List Aa))⊕(List Aa)))) (i5,row6)):Option (List Aa)).bind fun j7=>
     some (.inl (IntKind.wrap .i64 (i5+1),j7))
    else
     some (.inr row6):Option ((Int×(List Aa))⊕(List Aa)))) (IntKind.wrap .i64 (a1+1),l3)):Option (List Aa)).bind fun j4=>
 some j4
noncomputable def B8(a1:Int)(b2:Int)(n3:Int)(l4:List Aa):Option (List Aa):=
 ((loopO (fun(qj5:Int×(List Aa))=>match qj5 with
   |(i6,row7)=>(
    if (decide (i6<n3))=true then
     (rdO row7 (IntKind.wrap .i64 (b2+i6))).bind fun x8=>
     (rdO row7 (IntKind.wrap .i64 (a1+i6))).bind fun x9=>
     (rdO row7 (IntKind.wrap .i64 (a1+i6))).bind fun x10=>
     (rdO (List.set row7 (Int.toNat (IntKind.wrap .i64 (a1+i6))) x8) (IntKind.wrap .i64 (b2+i6))).bind fun x11=>
     some (.inl (IntKind.wrap .i64 (i6+1),(List.set (List.set row7 (Int.toNat (IntKind.wrap .i64 (a1+i6))) x8) (Int.toNat (IntKind.wrap .i64 (b2+i6))) x9)))
    else
     some (.inr row7):Option ((Int×(List Aa))⊕(List Aa)))) (0,l4)):Option (List Aa)).bind fun j5=>
 some j5
noncomputable def Dn(a1:Int)(m2:Int)(b3:Int)(l4:List Aa):Option (List Aa):=
 ((loopO (fun(qj5:Int×Int×(List Aa))=>match qj5 with
   |(i6,j7,row8)=>(
    if (i6 !=j7)=true then
     if (decide (i6>j7))=true then
      (B8 (IntKind.wrap .i64 (m2-i6)) m2 j7 row8).bind fun x9=>
      some (.inl (IntKind.wrap .i64 (i6-j7),j7,x9))
     else
      (B8 (IntKind.wrap .i64 (m2-i6)) (IntKind.wrap .i64 ((IntKind.wrap .i64 (m2+j7))-i6)) i6 row8).bind fun x10=>
      some (.inl (i6,IntKind.wrap .i64 (j7-i6),x10))
    else
     some (.inr (i6,row8)):Option ((Int×Int×(List Aa))⊕(Int×(List Aa))))) (IntKind.wrap .i64 (m2-a1),IntKind.wrap .i64 (b3-m2),l4)):Option (Int×(List Aa))).bind fun(i11,row12)=>
 (B8 (IntKind.wrap .i64 (m2-i11)) m2 i11 row12).bind fun x13=>
 some x13
noncomputable def Bg:Nat→Int→Int→Int→(List Aa)→Option (List Aa)
 |0,_,_,_,_=>none
 |fuel+1,a1,m2,b3,l4=>
  if ((IntKind.wrap .i64 (m2-a1))==1)=true then
   ((loopO (fun(qj5:Int×Int)=>match qj5 with
     |(i6,j7)=>(
      if (decide (i6<j7))=true then
       (rdO l4 (IntKind.wrap .i64 (Int.fdiv (IntKind.wrap .u64 (IntKind.wrap .i64 (i6+j7))) 2))).bind fun x8=>
       (rdO l4 a1).bind fun x9=>
       (D4 x8 x9).bind fun x10=>
       if (decide (x10<0))=true then
        some (.inl (IntKind.wrap .i64 ((IntKind.wrap .i64 (Int.fdiv (IntKind.wrap .u64 (IntKind.wrap .i64 (i6+j7))) 2))+1),j7))
       else
        some (.inl (i6,IntKind.wrap .i64 (Int.fdiv (IntKind.wrap .u64 (IntKind.wrap .i64 (i6+j7))) 2)))
      else
       some (.inr i6):Option ((Int×Int)⊕Int))) (m2,b3)):Option Int).bind fun j5=>
   ((loopO (fun(qj12:Int×(List Aa))=>match qj12 with
     |(k13,row14)=>(
      if (decide (k13<(IntKind.wrap .i64 (j5-1))))=true then
       (rdO row14 (IntKind.wrap .i64 (k13+1))).bind fun x15=>
       (rdO row14 k13).bind fun x16=>
       (rdO row14 k13).bind fun x17=>
       (rdO (List.set row14 (Int.toNat k13) x15) (IntKind.wrap .i64 (k13+1))).bind fun x18=>
       some (.inl (IntKind.wrap .i64 (k13+1),(List.set (List.set row14 (Int.toNat k13) x15) (Int.toNat (IntKind.wrap .i64 (k13+1))) x16)))
      else
       some (.inr row14):Option ((Int×(List Aa))⊕(List Aa)))) (a1,l4)):Option (List Aa)).bind fun j12=>
   some j12
  else
   if ((IntKind.wrap .i64 (b3-m2))==1)=true then
    ((loopO (fun(qj20:Int×Int)=>match qj20 with
      |(i21,j22)=>(
       if (decide (i21<j22))=true then
        (rdO l4 m2).bind fun x23=>
        (rdO l4 (IntKind.wrap .i64 (Int.fdiv (IntKind.wrap .u64 (IntKind.wrap .i64 (i21+j22))) 2))).bind fun x24=>
        (D4 x23 x24).bind fun x25=>
        if (!(decide (x25<0)))=true then
         some (.inl (IntKind.wrap .i64 ((IntKind.wrap .i64 (Int.fdiv (IntKind.wrap .u64 (IntKind.wrap .i64 (i21+j22))) 2))+1),j22))
        else
         some (.inl (i21,IntKind.wrap .i64 (Int.fdiv (IntKind.wrap .u64 (IntKind.wrap .i64 (i21+j22))) 2)))
       else
        some (.inr i21):Option ((Int×Int)⊕Int))) (a1,m2)):Option Int).bind fun j20=>
    ((loopO (fun(qj27:Int×(List Aa))=>match qj27 with
      |(k28,row29)=>(
       if (decide (k28>j20))=true then
        (rdO row29 (IntKind.wrap .i64 (k28-1))).bind fun x30=>
        (rdO row29 k28).bind fun x31=>
        (rdO row29 k28).bind fun x32=>
        (rdO (List.set row29 (Int.toNat k28) x30) (IntKind.wrap .i64 (k28-1))).bind fun x33=>
        some (.inl (IntKind.wrap .i64 (k28-1),(List.set (List.set row29 (Int.toNat k28) x30) (Int.toNat (IntKind.wrap .i64 (k28-1))) x31)))
       else
        some (.inr row29):Option ((Int×(List Aa))⊕(List Aa)))) (m2,l4)):Option (List Aa)).bind fun j27=>
    some j27
   else
    ((if (decide (m2>(IntKind.wrap .i64 (Int.fdiv (IntKind.wrap .u64 (IntKind.wrap .i64 (a1+b3))) 2))))=true then
      some (IntKind.wrap .i64 ((IntKind.wrap .i64 ((IntKind.wrap .i64 (Int.fdiv (IntKind.wrap .u64 (IntKind.wrap .i64 (a1+b3))) 2))+m2))-b3),IntKind.wrap .i64 (Int.fdiv (IntKind.wrap .u64 (IntKind.wrap .i64 (a1+b3))) 2))
    else
     some (a1,m2)):Option (Int×Int)).bind fun(start36,r37)=>
    ((loopO (fun(qj38:Int×Int)=>match qj38 with
      |(start39,r40)=>(
       if (decide (start39<r40))=true then
        (rdO l4 (IntKind.wrap .i64 ((IntKind.wrap .i64 ((IntKind.wrap .i64 ((IntKind.wrap .i64 (Int.fdiv (IntKind.wrap .u64 (IntKind.wrap .i64 (a1+b3))) 2))+m2))-1))-(IntKind.wrap .i64 (Int.fdiv (IntKind.wrap .u64 (IntKind.wrap .i64 (start39+r40))) 2))))).bind fun x41=>
        (rdO l4 (IntKind.wrap .i64 (Int.fdiv (IntKind.wrap .u64 (IntKind.wrap .i64 (start39+r40))) 2))).bind fun x42=>
        (D4 x41 x42).bind fun x43=>
        if (!(decide (x43<0)))=true then
         some (.inl (IntKind.wrap .i64 ((IntKind.wrap .i64 (Int.fdiv (IntKind.wrap .u64 (IntKind.wrap .i64 (start39+r40))) 2))+1),r40))
        else
         some (.inl (start39,IntKind.wrap .i64 (Int.fdiv (IntKind.wrap .u64 (IntKind.wrap .i64 (start39+r40))) 2)))
       else
        some (.inr start39):Option ((Int×Int)⊕Int))) (start36,r37)):Option Int).bind fun j38=>
    (some (decide (j38<m2))).bind fun c45=>
    ((if (c45&&(decide (m2<(IntKind.wrap .i64 ((IntKind.wrap .i64 ((IntKind.wrap .i64 (Int.fdiv (IntKind.wrap .u64 (IntKind.wrap .i64 (a1+b3))) 2))+m2))-j38)))))=true then
      (Dn j38 m2 (IntKind.wrap .i64 ((IntKind.wrap .i64 ((IntKind.wrap .i64 (Int.fdiv (IntKind.wrap .u64 (IntKind.wrap .i64 (a1+b3))) 2))+m2))-j38)) l4).bind fun x47=>
      some x47
    else
     some l4):Option (List Aa)).bind fun j46=>
    (some (decide (a1<j38))).bind fun c49=>
    ((if (c49&&(decide (j38<(IntKind.wrap .i64 (Int.fdiv (IntKind.wrap .u64 (IntKind.wrap .i64 (a1+b3))) 2)))))=true then
      (Bg fuel a1 j38 (IntKind.wrap .i64 (Int.fdiv (IntKind.wrap .u64 (IntKind.wrap .i64 (a1+b3))) 2)) j46).bind fun x51=>
      some x51
    else
     some j46):Option (List Aa)).bind fun j50=>
    (some (decide ((IntKind.wrap .i64 (Int.fdiv (IntKind.wrap .u64 (IntKind.wrap .i64 (a1+b3))) 2))<(IntKind.wrap .i64 ((IntKind.wrap .i64 ((IntKind.wrap .i64 (Int.fdiv (IntKind.wrap .u64 (IntKind.wrap .i64 (a1+b3))) 2))+m2))-j38))))).bind fun c53=>
    if (c53&&(decide ((IntKind.wrap .i64 ((IntKind.wrap .i64 ((IntKind.wrap .i64 (Int.fdiv (IntKind.wrap .u64 (IntKind.wrap .i64 (a1+b3))) 2))+m2))-j38))<b3)))=true then
     (Bg fuel (IntKind.wrap .i64 (Int.fdiv (IntKind.wrap .u64 (IntKind.wrap .i64 (a1+b3))) 2)) (IntKind.wrap .i64 ((IntKind.wrap .i64 ((IntKind.wrap .i64 (Int.fdiv (IntKind.wrap .u64 (IntKind.wrap .i64 (a1+b3))) 2))+m2))-j38)) b3 j50).bind fun x54=>
     some x54
    else
     some j50
noncomputable def Fa(n1:Int)(l2:List Aa):Option (List Aa):=
 ((loopO (fun(qj3:Int×Int×(List Aa))=>match qj3 with
   |(a4,b5,row6)=>(
    if (decide (b5≤n1))=true then
     (Cc a4 b5 row6).bind fun x7=>
     some (.inl (b5,IntKind.wrap .i64 (b5+20),x7))
    else
     some (.inr (a4,row6)):Option ((Int×Int×(List Aa))⊕(Int×(List Aa))))) (0,20,l2)):Option (Int×(List Aa))).bind fun(a8,row9)=>
 (Cc a8 n1 row9).bind fun x10=>
 ((loopO (fun(qj11:Int×(List Aa))=>match qj11 with
   |(blockSize12,row13)=>(
    if (decide (blockSize12<n1))=true then
     ((loopO (fun(qj14:Int×Int×(List Aa))=>match qj14 with
       |(a15,b16,row17)=>(
        if (decide (b16≤n1))=true then
         (Bg 1000 a15 (IntKind.wrap .i64 (a15+blockSize12)) b16 row17).bind fun x18=>
         some (.inl (b16,IntKind.wrap .i64 (b16+(IntKind.wrap .i64 (2*blockSize12))),x18))
        else
         some (.inr (a15,row17)):Option ((Int×Int×(List Aa))⊕(Int×(List Aa))))) (0,IntKind.wrap .i64 (2*blockSize12),row13)):Option (Int×(List Aa))).bind fun(a19,row20)=>
     ((if (decide ((IntKind.wrap .i64 (a19+blockSize12))<n1))=true then
       (Bg 1000 a19 (IntKind.wrap .i64 (a19+blockSize12)) n1 row20).bind fun x22=>
       some x22
     else
      some row20):Option (List Aa)).bind fun j21=>
     some (.inl (IntKind.wrap .i64 (blockSize12*2),j21))
    else
     some (.inr row13):Option ((Int×(List Aa))⊕(List Aa)))) (20,x10)):Option (List Aa)).bind fun j11=>
 some j11
noncomputable def C9(l1:List Aa):Option (List Aa):=
 (Fa (l1.length:Int) l1).bind fun x2=>
 some x2
noncomputable def Ki(l1:List Aa)(acc2:Int)(cur3:Int)(now4:Int)(funds5:Int):Option ((List Aq)×Int):=
 (Ho l1).bind fun x6=>
 if (x6 !=0)=true then
  some (([]:List Aq),x6)
 else
  (Jq l1 acc2 cur3 now4).bind fun x7=>
  (C9 x7).bind fun x8=>
  ((loopO (fun(qj9:Int×(List Aa)×Int×(List Aq))=>match qj9 with
    |(left10,x11,x12,row13)=>(
     if (decide (x12<(x8.length:Int)))=true then
      (rdO x11 x12).bind fun x14=>
      (Jf x14 now4).bind fun x15=>
      (apO 16 row13 [(⟨x14.Bc,(if x15<left10 then x15 else left10)⟩:Aq)]).bind fun x16=>
      some (.inl (IntKind.wrap .i64 (left10-(if x15<left10 then x15 else left10)),x11,IntKind.wrap .i64 (x12+1),x16))
     else
      some (.inr row13):Option ((Int×(List Aa)×Int×(List Aq))⊕(List Aq)))) ((if 0>funds5 then 0 else funds5),x8,0,([]:List Aq))):Option (List Aq)).bind fun j9=>
  some (j9,0)
def Lo(c1:Aq)(x2:Int):Option Bool:=
 some (c1.Bc==x2)
noncomputable def C7(s1:List Aq)(c2:Int):Option Int:=
 ((loopO (fun(qj3:Int)=>match qj3 with
   |x4=>(
    if (decide (x4<(s1.length:Int)))=true then
     (rdO s1 x4).bind fun x5=>
     (Lo x5 c2).bind fun x6=>
     if x6=true then
      some (.inr (.inr x4))
     else
      some (.inl (IntKind.wrap .i64 (x4+1)))
    else
     some (.inr (.inl ())):Option (Int⊕(Unit⊕Int)))) 0):Option (Unit⊕Int)).bind fun j3=>match j3 with
 | .inr o=>some o
 | .inl _=>
 some (-1)
noncomputable def F6(t1:Ah)(id2:Int)(amount3:A5)(now4:Int)(last5:Bool):Option (Ah×Bool×Int):=
 (Gm t1).bind fun x6=>
 if (!x6)=true then
  some ((⟨(⟨([]:List Ac),([]:List Ad)⟩:A4),([]:List Af),([]:List Aa),([]:List Al)⟩:Ah),false,1)
 else
  (Hn t1.A7 id2 amount3 now4 last5).bind fun x7=>
  if (x7.2 !=0)=true then
   some ((⟨(⟨([]:List Ac),([]:List Ad)⟩:A4),([]:List Af),([]:List Aa),([]:List Al)⟩:Ah),false,x7.2)
  else
   (Du t1.A7 id2).bind fun x8=>
   (rdO t1.A7 x8).bind fun x9=>
   (Kd t1 x9.Az now4).bind fun x10=>
   if (Option.isSome x10.2)=true then
    (Jd x10.2).bind fun x11=>
    some ((⟨(⟨([]:List Ac),([]:List Ad)⟩:A4),([]:List Af),([]:List Aa),([]:List Al)⟩:Ah),false,x11)
   else
    if (x9.Ak.Bb !=x10.1.Rv)=true then
     some ((⟨(⟨([]:List Ac),([]:List Ad)⟩:A4),([]:List Af),([]:List Aa),([]:List Al)⟩:Ah),false,12)
    else
     (Ki t1.A7 x9.Az x10.1.Rv now4 (IntKind.wrap .i64 (x10.1.Qu+x10.1.Qv))).bind fun x12=>
     (C7 x12.1 id2).bind fun x13=>
     (some (decide (x13<0))).bind fun c14=>
     (gdO (!c14) (rdO x12.1 x13) (default:Aq)).bind fun x15=>
     if (c14||(decide (x15.Kg<amount3.Ao)))=true then
      (H9 t1 t1.A7).bind fun x16=>
      some (x16,false,0)
     else
      (H9 t1 x7.1).bind fun x17=>
      some (x17,true,0)
noncomputable def Ep(x1:Ac):Option Bool:=
 ((loopO (fun(qj2:Int)=>match qj2 with
   |i3=>(
    if (decide (i3<(x1.Di.length:Int)))=true then
     (byO x1.Di i3).bind fun x4=>
     (some (decide (x4<32))).bind fun c5=>
     (gdO (!c5) (byO x1.Di i3) 0).bind fun x6=>
     if (c5||(decide (x6>126)))=true then
      some (.inr (.inr false))
     else
      some (.inl (IntKind.wrap .i64 (i3+1)))
    else
     some (.inr (.inl ())):Option (Int⊕(Unit⊕Bool)))) 0):Option (Unit⊕Bool)).bind fun j2=>match j2 with
 | .inr o=>some o
 | .inl _=>
 (some (decide (x1.Bc≥1))).bind fun c7=>
 (some (c7&&(decide (x1.Bc≤999)))).bind fun c8=>
 (some (c8&&(decide ((x1.Di.length:Int)≥1)))).bind fun c9=>
 (some (c9&&(decide ((x1.Di.length:Int)≤32)))).bind fun c10=>
 (some (c10&&(decide (x1.Ca≥0)))).bind fun c11=>
 some (c11&&(decide (x1.Ca≤3)))
def C2(d1:Int):Option Bool:=
 (some (decide (d1≥(-50000)))).bind fun c2=>
 some (c2&&(decide (d1≤50000)))
def Dy(r1:Ad):Option Bool:=
 (some (decide (r1.Az<1))).bind fun c2=>
 (some (c2||(decide (r1.Az>999)))).bind fun c3=>
 (some (c3||(decide (r1.Ca<0)))).bind fun c4=>
 (some (c4||(decide (r1.Ca>3)))).bind fun c5=>
 (some (c5||(decide (r1.Bb<0)))).bind fun c6=>
 (some (c6||(decide (r1.Bb>3)))).bind fun c7=>
 (some (c7||(decide (r1.Bt<0)))).bind fun c8=>
 (some (c8||(decide (r1.Bt>999)))).bind fun c9=>
 (some (c9||(decide (r1.Cq<0)))).bind fun c10=>
 (some (c10||(decide (r1.Cq>20)))).bind fun c11=>
 (some (c11||(decide (r1.Dc<0)))).bind fun c12=>
 if (c12||(decide (r1.Dc>3)))=true then
  some false
 else
  (C2 r1.Eu).bind fun x13=>
  (gdO x13 (C2 r1.Iu) (default:Bool)).bind fun x14=>
  (some (x13&&x14)).bind fun c15=>
  some (c15&&(decide (r1.Iu≥r1.Eu)))
def Er(r1:Ad):Option Bool:=
 (some (decide (r1.Ca<2))).bind fun c2=>
 (some (r1.Bt==0)).bind fun c3=>
 some (c2||(c3&&(r1.Cq==0)))
noncomputable def Fb(l1:List Ac)(id2:Int):Option Int:=
 ((loopO (fun(qj3:Int)=>match qj3 with
   |x4=>(
    if (decide (x4<(l1.length:Int)))=true then
     (rdO l1 x4).bind fun x5=>
     if (x5.Bc==id2)=true then
      some (.inr (.inr x4))
     else
      some (.inl (IntKind.wrap .i64 (x4+1)))
    else
     some (.inr (.inl ())):Option (Int⊕(Unit⊕Int)))) 0):Option (Unit⊕Int)).bind fun j3=>match j3 with
 | .inr o=>some o
 | .inl _=>
 some (-1)
noncomputable def Dv(c1:A4):Option Bool:=
 ((loopO (fun(qj2:Int)=>match qj2 with
   |x3=>(
    if (decide (x3<(c1.As.length:Int)))=true then
     (rdO c1.As x3).bind fun x4=>
     (Ep x4).bind fun x5=>
     (some (!x5)).bind fun c6=>
     (some (decide (x3>0))).bind fun c7=>
     (gdO ((!c6)&&c7) (rdO c1.As (IntKind.wrap .i64 (x3-1))) (default:Ac)).bind fun x8=>
     if (c6||(c7&&(decide (x8.Bc≥x4.Bc))))=true then
      some (.inr (.inr false))
     else
      some (.inl (IntKind.wrap .i64 (x3+1)))
    else
     some (.inr (.inl ())):Option (Int⊕(Unit⊕Bool)))) 0):Option (Unit⊕Bool)).bind fun j2=>match j2 with
 | .inr o=>some o
 | .inl _=>
 ((loopO (fun(qj9:Int)=>match qj9 with
   |x10=>(
    if (decide (x10<(c1.Au.length:Int)))=true then
     (rdO c1.Au x10).bind fun x11=>
     (Dy x11).bind fun x12=>
     (some (!x12)).bind fun c13=>
     (gdO (!c13) (Er x11) (default:Bool)).bind fun x14=>
     (some (c13||(!x14))).bind fun c15=>
     (some (decide (x10>0))).bind fun c16=>
     (gdO ((!c15)&&c16) (rdO c1.Au (IntKind.wrap .i64 (x10-1))) (default:Ad)).bind fun x17=>
     (some (c15||(c16&&(decide (x17.Az≥x11.Az))))).bind fun c18=>
     (some (decide (x11.Bt>0))).bind fun c19=>
     (gdO ((!c18)&&c19) (Fb c1.As x11.Bt) (default:Int)).bind fun x20=>
     if (c18||(c19&&(decide (x20<0))))=true then
      some (.inr (.inr false))
     else
      some (.inl (IntKind.wrap .i64 (x10+1)))
    else
     some (.inr (.inl ())):Option (Int⊕(Unit⊕Bool)))) 0):Option (Unit⊕Bool)).bind fun j9=>match j9 with
 | .inr o=>some o
 | .inl _=>
 (some (decide ((c1.As.length:Int)≤100))).bind fun c21=>
 some (c21&&(decide ((c1.Au.length:Int)≤200)))
def F7(cur1:Int):Option (List UInt8):=
 if (cur1==0)=true then
  some [69,85,82]
 else
  if (cur1==1)=true then
   some [74,80,89]
  else
   if (cur1==2)=true then
    some [66,72,68]
   else
    if (cur1==3)=true then
     some [85,83,68]
    else
     some []
def E0(m1:A5):Option Bool:=
 (F7 m1.Bb).bind fun x2=>
 (some (!(x2==[]))).bind fun c3=>
 (some (c3&&(decide (m1.Ao≥(-1000000000000000))))).bind fun c4=>
 some (c4&&(decide (m1.Ao≤1000000000000000)))
def D7(h1:Aa):Option Bool:=
 (E0 h1.Ak).bind fun x2=>
 (C2 h1.B5).bind fun x3=>
 (C2 h1.Cb).bind fun x4=>
 (some (!x2)).bind fun c5=>
 (some (c5||(!x3))).bind fun c6=>
 (some (c6||(!x4))).bind fun c7=>
 (some (c7||(decide (h1.Cb<h1.B5)))).bind fun c8=>
 (some (c8||(decide (h1.Ak.Ao≤0)))).bind fun c9=>
 (some (c9||(decide (h1.Bo<0)))).bind fun c10=>
 if (c10||(decide (h1.Bo>h1.Ak.Ao)))=true then
  some false
 else
  (some (decide (h1.Bc≥1))).bind fun c11=>
  (some (c11&&(decide (h1.Bc≤1000000)))).bind fun c12=>
  (some (c12&&(decide (h1.Az≥1)))).bind fun c13=>
  (some (c13&&(decide (h1.Az≤999)))).bind fun c14=>
  (some (c14&&(decide (h1.A9≥0)))).bind fun c15=>
  some (c15&&(decide (h1.A9≤9)))
noncomputable def Fs(l1:List Aa):Option Int:=
 ((loopO (fun(qj2:Int)=>match qj2 with
   |i3=>(
    if (decide (i3<(l1.length:Int)))=true then
     (rdO l1 i3).bind fun x4=>
     (D7 x4).bind fun x5=>
     if (!x5)=true then
      some (.inr (.inr 1))
     else
      some (.inl (IntKind.wrap .i64 (i3+1)))
    else
     some (.inr (.inl ())):Option (Int⊕(Unit⊕Int)))) 0):Option (Unit⊕Int)).bind fun j2=>match j2 with
 | .inr o=>some o
 | .inl _=>
 ((loopO (fun(qj6:Int)=>match qj6 with
   |i7=>(
    if (decide (i7<(l1.length:Int)))=true then
     (rdO l1 i7).bind fun x8=>
     (rdO l1 (IntKind.wrap .i64 (i7-1))).bind fun x9=>
     if (decide (x8.Bc≤x9.Bc))=true then
      some (.inr (.inr 20))
     else
      some (.inl (IntKind.wrap .i64 (i7+1)))
    else
     some (.inr (.inl ())):Option (Int⊕(Unit⊕Int)))) 1):Option (Unit⊕Int)).bind fun j6=>match j6 with
 | .inr o=>some o
 | .inl _=>
 if (decide ((l1.length:Int)>200))=true then
  some 6
 else
  some 0
noncomputable def Fj(l1:List Al):Option Bool:=
 ((loopO (fun(qj2:Int)=>match qj2 with
   |x3=>(
    if (decide (x3<(l1.length:Int)))=true then
     (rdO l1 x3).bind fun x4=>
     (some (decide (x4.Az<1))).bind fun c5=>
     (some (c5||(decide (x4.Az>999)))).bind fun c6=>
     (some (c6||(decide (x4.Ao<0)))).bind fun c7=>
     (some (c7||(decide (x4.Ao>1000000000000000)))).bind fun c8=>
     (some (decide (x3>0))).bind fun c9=>
     (gdO ((!c8)&&c9) (rdO l1 (IntKind.wrap .i64 (x3-1))) (default:Al)).bind fun x10=>
     if (c8||(c9&&(decide (x10.Az≥x4.Az))))=true then
      some (.inr (.inr false))
     else
      some (.inl (IntKind.wrap .i64 (x3+1)))
    else
     some (.inr (.inl ())):Option (Int⊕(Unit⊕Bool)))) 0):Option (Unit⊕Bool)).bind fun j2=>match j2 with
 | .inr o=>some o
 | .inl _=>
 some (decide ((l1.length:Int)≤200))
noncomputable def D8(t1:Ah):Option Bool:=
 (Dv t1.Bk).bind fun x2=>
 (some (x2&&(decide ((t1.Fl.length:Int)≤2000)))).bind fun c3=>
 (gdO c3 (Fs t1.A7) (default:Int)).bind fun x4=>
 (some (c3&&(x4==0))).bind fun c5=>
 (gdO c5 (Fj t1.A6) (default:Bool)).bind fun x6=>
 some (c5&&x6)
def Gp:Option Ah:=
 some (⟨(⟨([]:List Ac),[(⟨5,1,0,0,0,0,0,50000⟩:Ad)]⟩:A4),[(⟨0,0,3,[(⟨5,(⟨0,(-100)⟩:A5)⟩:Bj)],0,0,[]⟩:Af)],[(⟨1,5,(⟨0,30⟩:A5),2,3,9,0,false⟩:Aa)],([]:List Al)⟩:Ah)
def Jl(n1:Int)(low2:Int)(high3:Int):Option Bool:=
 (some (decide (n1≥low2))).bind fun c4=>
 some (c4&&(decide (n1≤high3)))
noncomputable def Kc(t1:Ah)(acc2:Int)(now3:Int)(rank4:Int):Option (Int×Int):=
 (Gm t1).bind fun x5=>
 (some (!x5)).bind fun c6=>
 (gdO (!c6) (Jl rank4 0 9) (default:Bool)).bind fun x7=>
 if (c6||(!x7))=true then
  some (0,1)
 else
  (Kd t1 acc2 now3).bind fun x8=>
  if (Option.isSome x8.2)=true then
   (Jd x8.2).bind fun x9=>
   some (0,x9)
  else
   (Fe x8.1 t1 acc2 now3 rank4).bind fun x10=>
   some (x10,0)
noncomputable def Cu:Option Bool:=
 (Gp).bind fun x1=>
 (Kc x1 5 4 0).bind fun x2=>
 (Gp).bind fun x3=>
 (Kc x3 5 4 3).bind fun x4=>
 (some (x2.2==0)).bind fun c5=>
 (some (c5&&(x4.2==0))).bind fun c6=>
 (some (c6&&(x2.1==70))).bind fun c7=>
 some (c7&&(x4.1==100))
noncomputable def F8(a1:A4)(b2:A4):Option Bool:=
 (some ((a1.As.length:Int)!=(b2.As.length:Int))).bind fun c3=>
 if (c3||((a1.Au.length:Int)!=(b2.Au.length:Int)))=true then
  some false
 else
  ((loopO (fun(qj4:Int)=>match qj4 with
    |x5=>(
     if (decide (x5<(a1.As.length:Int)))=true then
      (rdO a1.As x5).bind fun x6=>
      (rdO b2.As x5).bind fun x7=>
      if (!(Ac.same x6 x7))=true then
       some (.inr (.inr false))
      else
       some (.inl (IntKind.wrap .i64 (x5+1)))
     else
      some (.inr (.inl ())):Option (Int⊕(Unit⊕Bool)))) 0):Option (Unit⊕Bool)).bind fun j4=>match j4 with
  | .inr o=>some o
  | .inl _=>
  ((loopO (fun(qj8:Int)=>match qj8 with
    |x9=>(
     if (decide (x9<(a1.Au.length:Int)))=true then
      (rdO a1.Au x9).bind fun x10=>
      (rdO b2.Au x9).bind fun x11=>
      if (!(Ad.same x10 x11))=true then
       some (.inr (.inr false))
      else
       some (.inl (IntKind.wrap .i64 (x9+1)))
     else
      some (.inr (.inl ())):Option (Int⊕(Unit⊕Bool)))) 0):Option (Unit⊕Bool)).bind fun j8=>match j8 with
  | .inr o=>some o
  | .inl _=>
  some true
noncomputable def F9(a1:List Aa)(b2:List Aa):Option Bool:=
 if ((a1.length:Int)!=(b2.length:Int))=true then
  some false
 else
  ((loopO (fun(qj3:Int)=>match qj3 with
    |i4=>(
     if (decide (i4<(a1.length:Int)))=true then
      (rdO a1 i4).bind fun x5=>
      (rdO b2 i4).bind fun x6=>
      if (!(Aa.same x5 x6))=true then
       some (.inr (.inr false))
      else
       some (.inl (IntKind.wrap .i64 (i4+1)))
     else
      some (.inr (.inl ())):Option (Int⊕(Unit⊕Bool)))) 0):Option (Unit⊕Bool)).bind fun j3=>match j3 with
  | .inr o=>some o
  | .inl _=>
  some true
noncomputable def B2(a1:Ah)(b2:Ah):Option Bool:=
 (F8 a1.Bk b2.Bk).bind fun x3=>
 (some (!x3)).bind fun c4=>
 (some (c4||((a1.Fl.length:Int)!=(b2.Fl.length:Int)))).bind fun c5=>
 (gdO (!c5) (F9 a1.A7 b2.A7) (default:Bool)).bind fun x6=>
 (some (c5||(!x6))).bind fun c7=>
 if (c7||((a1.A6.length:Int)!=(b2.A6.length:Int)))=true then
  some false
 else
  ((loopO (fun(qj8:Int)=>match qj8 with
    |x9=>(
     if (decide (x9<(a1.A6.length:Int)))=true then
      (rdO a1.A6 x9).bind fun x10=>
      (rdO b2.A6 x9).bind fun x11=>
      if (!(Al.same x10 x11))=true then
       some (.inr (.inr false))
      else
       some (.inl (IntKind.wrap .i64 (x9+1)))
     else
      some (.inr (.inl ())):Option (Int⊕(Unit⊕Bool)))) 0):Option (Unit⊕Bool)).bind fun j8=>match j8 with
  | .inr o=>some o
  | .inl _=>
  some true
noncomputable def Dz(l1:List Aa)(id2:Int):Option Int:=
 ((loopO (fun(qj3:Int)=>match qj3 with
   |i4=>(
    if (decide (i4<(l1.length:Int)))=true then
     (rdO l1 i4).bind fun x5=>
     if (x5.Bc==id2)=true then
      some (.inr (.inr i4))
     else
      some (.inl (IntKind.wrap .i64 (i4+1)))
    else
     some (.inr (.inl ())):Option (Int⊕(Unit⊕Int)))) 0):Option (Unit⊕Int)).bind fun j3=>match j3 with
 | .inr o=>some o
 | .inl _=>
 some (-1)
noncomputable def Gq(l1:List Aa)(h2:Aa):Option ((List Aa)×Int):=
 (D7 h2).bind fun x3=>
 (some (!x3)).bind fun c4=>
 (some (c4||(h2.Bo !=0))).bind fun c5=>
 if (c5||h2.C4)=true then
  some (([]:List Aa),1)
 else
  (Dz l1 h2.Bc).bind fun x6=>
  if (decide (x6≥0))=true then
   some (([]:List Aa),26)
  else
   if (decide ((IntKind.wrap .i64 ((l1.length:Int)+1))>200))=true then
    some (([]:List Aa),6)
   else
    ((loopO (fun(qj7:Bool×Int×(List Aa))=>match qj7 with
      |(done8,i9,row10)=>(
       if (decide (i9<(l1.length:Int)))=true then
        (some (!done8)).bind fun c11=>
        (gdO c11 (rdO l1 i9) (default:Aa)).bind fun x12=>
        ((if (c11&&(decide (x12.Bc>h2.Bc)))=true then
          (apO 64 row10 [h2]).bind fun x14=>
          some (true,x14)
        else
         some (done8,row10)):Option (Bool×(List Aa))).bind fun(done15,row16)=>
        (rdO l1 i9).bind fun x17=>
        (apO 64 row16 [x17]).bind fun x18=>
        some (.inl (done15,IntKind.wrap .i64 (i9+1),x18))
       else
        some (.inr (done8,row10)):Option ((Bool×Int×(List Aa))⊕(Bool×(List Aa))))) (false,0,([]:List Aa))):Option (Bool×(List Aa))).bind fun(done19,row20)=>
    ((if (!done19)=true then
      (apO 64 row20 [h2]).bind fun x22=>
      some x22
    else
     some row20):Option (List Aa)).bind fun j21=>
    some (j21,0)
noncomputable def E1(l1:List Ad)(a2:Int):Option Int:=
 ((loopO (fun(qj3:Int)=>match qj3 with
   |x4=>(
    if (decide (x4<(l1.length:Int)))=true then
     (rdO l1 x4).bind fun x5=>
     if (x5.Az==a2)=true then
      some (.inr (.inr x4))
     else
      some (.inl (IntKind.wrap .i64 (x4+1)))
    else
     some (.inr (.inl ())):Option (Int⊕(Unit⊕Int)))) 0):Option (Unit⊕Int)).bind fun j3=>match j3 with
 | .inr o=>some o
 | .inl _=>
 some (-1)
noncomputable def Ff(l1:List Af)(acc2:Int)(cur3:Int):Option (List Am):=
 ((loopO (fun(qj4:Int×(List Am))=>match qj4 with
   |(x5,row6)=>(
    if (decide (x5<(l1.length:Int)))=true then
     (rdO l1 x5).bind fun x7=>
     ((loopO (fun(qj8:Int×(List Am))=>match qj8 with
       |(x9,row10)=>(
        if (decide (x9<(x7.B0.length:Int)))=true then
         (rdO x7.B0 x9).bind fun x11=>
         (some (x11.Az==acc2)).bind fun c12=>
         ((if (c12&&(x11.Ak.Bb==cur3))=true then
           (apO 16 row10 [(⟨x7.Cy,x7.Cp,x11.Ak.Ao⟩:Am)]).bind fun x14=>
           some x14
         else
          some row10):Option (List Am)).bind fun j13=>
         some (.inl (IntKind.wrap .i64 (x9+1),j13))
        else
         some (.inr row10):Option ((Int×(List Am))⊕(List Am)))) (0,row6)):Option (List Am)).bind fun j8=>
     some (.inl (IntKind.wrap .i64 (x5+1),j8))
    else
     some (.inr row6):Option ((Int×(List Am))⊕(List Am)))) (0,([]:List Am))):Option (List Am)).bind fun j4=>
 some j4
noncomputable def Fr(l1:List Am):Option Bool:=
 ((loopO (fun(qj2:Int×Int)=>match qj2 with
   |(sum3,x4)=>(
    if (decide (x4<(l1.length:Int)))=true then
     (rdO l1 x4).bind fun x5=>
     (some (decide (x5.Ao>1000000000000000000))).bind fun c6=>
     if (c6||(decide (x5.Ao<(-1000000000000000000))))=true then
      some (.inr (.inr true))
     else
      ((if (decide (x5.Ao<0))=true then
        some (IntKind.wrap .i64 (sum3-x5.Ao))
      else
       some (IntKind.wrap .i64 (sum3+x5.Ao))):Option Int).bind fun j7=>
      if (decide (j7>1000000000000000000))=true then
       some (.inr (.inr true))
      else
       some (.inl (j7,IntKind.wrap .i64 (x4+1)))
    else
     some (.inr (.inl ())):Option ((Int×Int)⊕(Unit⊕Bool)))) (0,0)):Option (Unit⊕Bool)).bind fun j2=>match j2 with
 | .inr o=>some o
 | .inl _=>
 some false
noncomputable def Es(t1:Ah)(acc2:Int)(now3:Int):Option Int:=
 (E1 t1.Bk.Au acc2).bind fun x4=>
 if (decide (x4<0))=true then
  some 8
 else
  (rdO t1.Bk.Au x4).bind fun x5=>
  if (x5.Ca !=1)=true then
   some 13
  else
   (C2 now3).bind fun x6=>
   if (!x6)=true then
    some 11
   else
    (some (decide (now3<x5.Eu))).bind fun c7=>
    if (c7||(decide (now3>x5.Iu)))=true then
     some 16
    else
     (Ff t1.Fl acc2 x5.Bb).bind fun x8=>
     (Fr x8).bind fun x9=>
     if x9=true then
      some 9
     else
      some 0
noncomputable def Dg(t1:Ah)(acc2:Int):Option Int:=
 (E1 t1.Bk.Au acc2).bind fun x3=>
 (rdO t1.Bk.Au x3).bind fun x4=>
 some x4.Bb
noncomputable def G8(l1:List Am)(upto2:Int):Option Int:=
 ((loopO (fun(qj3:Int×Int)=>match qj3 with
   |(n4,x5)=>(
    if (decide (x5<(l1.length:Int)))=true then
     (rdO l1 x5).bind fun x6=>
     ((if (decide (x6.Cp≤upto2))=true then
       some (IntKind.wrap .i64 (n4+x6.Ao))
     else
      some n4):Option Int).bind fun j7=>
     some (.inl (j7,IntKind.wrap .i64 (x5+1)))
    else
     some (.inr n4):Option ((Int×Int)⊕Int))) (0,0)):Option Int).bind fun j3=>
 some j3
noncomputable def Fu(t1:Ah)(acc2:Int)(now3:Int):Option Int:=
 (Dg t1 acc2).bind fun x4=>
 (Ff t1.Fl acc2 x4).bind fun x5=>
 (G8 x5 now3).bind fun x6=>
 some (IntKind.wrap .i64 (0-x6))
noncomputable def Fv(t1:Ah)(acc2:Int):Option Int:=
 ((loopO (fun(qj3:Int)=>match qj3 with
   |x4=>(
    if (decide (x4<(t1.A6.length:Int)))=true then
     (rdO t1.A6 x4).bind fun x5=>
     if (x5.Az==acc2)=true then
      some (.inr (.inr x5.Ao))
     else
      some (.inl (IntKind.wrap .i64 (x4+1)))
    else
     some (.inr (.inl ())):Option (Int⊕(Unit⊕Int)))) 0):Option (Unit⊕Int)).bind fun j3=>match j3 with
 | .inr o=>some o
 | .inl _=>
 some 0
noncomputable def Fm(t1:Ah)(acc2:Int)(now3:Int):Option Int:=
 (Fu t1 acc2 now3).bind fun x4=>
 (Fv t1 acc2).bind fun x5=>
 some (IntKind.wrap .i64 (x4+x5))
def Dp(h1:Aa)(now2:Int):Option Bool:=
 (D7 h1).bind fun x3=>
 (some (x3&&(!h1.C4))).bind fun c4=>
 (some (c4&&(decide (h1.B5≤now2)))).bind fun c5=>
 some (c5&&(decide (now2≤h1.Cb)))
def Dq(h1:Aa)(now2:Int):Option Int:=
 (Dp h1 now2).bind fun x3=>
 if (!x3)=true then
  some 0
 else
  some (IntKind.wrap .i64 (h1.Ak.Ao-h1.Bo))
noncomputable def Gr(l1:List Aa)(acc2:Int)(cur3:Int)(now4:Int)(rank5:Int):Option Int:=
 ((loopO (fun(qj6:Int×Int)=>match qj6 with
   |(n7,i8)=>(
    if (decide (i8<(l1.length:Int)))=true then
     (rdO l1 i8).bind fun x9=>
     (some (x9.Az==acc2)).bind fun c10=>
     (gdO c10 (rdO l1 i8) (default:Aa)).bind fun x11=>
     (some (c10&&(x11.Ak.Bb==cur3))).bind fun c12=>
     (gdO c12 (rdO l1 i8) (default:Aa)).bind fun x13=>
     ((if (c12&&(decide (x13.A9≥rank5)))=true then
       (rdO l1 i8).bind fun x15=>
       (Dq x15 now4).bind fun x16=>
       some (IntKind.wrap .i64 (n7+x16))
     else
      some n7):Option Int).bind fun j14=>
     some (.inl (j14,IntKind.wrap .i64 (i8+1)))
    else
     some (.inr n7):Option ((Int×Int)⊕Int))) (0,0)):Option Int).bind fun j6=>
 some j6
noncomputable def Gb(t1:Ah)(acc2:Int)(now3:Int)(rank4:Int):Option Int:=
 (Fm t1 acc2 now3).bind fun x5=>
 (Dg t1 acc2).bind fun x6=>
 (Gr t1.A7 acc2 x6 now3 rank4).bind fun x7=>
 some (IntKind.wrap .i64 (x5-x7))
def Gc(t1:Ah)(l2:List Aa):Option Ah:=
 some (⟨t1.Bk,t1.Fl,l2,t1.A6⟩:Ah)
noncomputable def Ga(l1:List Aa)(at_2:Int)(h3:Aa):Option (List Aa):=
 ((loopO (fun(qj4:Int×(List Aa))=>match qj4 with
   |(i5,row6)=>(
    if (decide (i5<(l1.length:Int)))=true then
     ((if (i5==at_2)=true then
       (apO 64 row6 [h3]).bind fun x8=>
       some x8
     else
      (rdO l1 i5).bind fun x9=>
      (apO 64 row6 [x9]).bind fun x10=>
      some x10):Option (List Aa)).bind fun j7=>
     some (.inl (IntKind.wrap .i64 (i5+1),j7))
    else
     some (.inr row6):Option ((Int×(List Aa))⊕(List Aa)))) (0,([]:List Aa))):Option (List Aa)).bind fun j4=>
 some j4
noncomputable def Da(l1:List Aa)(id2:Int)(amount3:A5)(now4:Int)(last5:Bool):Option ((List Aa)×Int):=
 (Dz l1 id2).bind fun x6=>
 if (decide (x6<0))=true then
  some (([]:List Aa),8)
 else
  (rdO l1 x6).bind fun x7=>
  (Dp x7 now4).bind fun x8=>
  if (!x8)=true then
   some (([]:List Aa),27)
  else
   if (amount3.Bb !=x7.Ak.Bb)=true then
    some (([]:List Aa),12)
   else
    (E0 amount3).bind fun x9=>
    (some (!x9)).bind fun c10=>
    if (c10||(decide (amount3.Ao<1)))=true then
     some (([]:List Aa),1)
    else
     if (decide (amount3.Ao>(IntKind.wrap .i64 (x7.Ak.Ao-x7.Bo))))=true then
      some (([]:List Aa),17)
     else
      (Ga l1 x6 (⟨x7.Bc,x7.Az,x7.Ak,x7.A9,x7.B5,x7.Cb,IntKind.wrap .i64 (x7.Bo+amount3.Ao),(last5||((IntKind.wrap .i64 (x7.Bo+amount3.Ao))==x7.Ak.Ao))⟩:Aa)).bind fun x11=>
      some (x11,0)
noncomputable def Ei(l1:List Aa)(id2:Int):Option Aa:=
 ((loopO (fun(qj3:Int)=>match qj3 with
   |x4=>(
    if (decide (x4<(l1.length:Int)))=true then
     (rdO l1 x4).bind fun x5=>
     if (x5.Bc==id2)=true then
      some (.inr (.inr x5))
     else
      some (.inl (IntKind.wrap .i64 (x4+1)))
    else
     some (.inr (.inl ())):Option (Int⊕(Unit⊕Aa)))) 0):Option (Unit⊕Aa)).bind fun j3=>match j3 with
 | .inr o=>some o
 | .inl _=>
 some (⟨0,0,(⟨0,0⟩:A5),0,0,0,0,false⟩:Aa)
noncomputable def Ft(l1:List Aa)(acc2:Int)(cur3:Int)(now4:Int)(funds5:Int):Option (List Aq):=
 ((loopO (fun(qj6:Int×Int×(List Aq))=>match qj6 with
   |(left7,rank8,row9)=>(
    if (decide (rank8≥0))=true then
     ((loopO (fun(qj10:Int×Int×(List Aq))=>match qj10 with
       |(left11,i12,row13)=>(
        if (decide (i12<(l1.length:Int)))=true then
         (rdO l1 i12).bind fun x14=>
         (Dp x14 now4).bind fun x15=>
         (gdO x15 (rdO l1 i12) (default:Aa)).bind fun x16=>
         (some (x15&&(x16.A9==rank8))).bind fun c17=>
         (gdO c17 (rdO l1 i12) (default:Aa)).bind fun x18=>
         (some (c17&&(x18.Az==acc2))).bind fun c19=>
         (gdO c19 (rdO l1 i12) (default:Aa)).bind fun x20=>
         ((if (c19&&(x20.Ak.Bb==cur3))=true then
           (rdO l1 i12).bind fun x22=>
           (Dq x22 now4).bind fun x23=>
           (rdO l1 i12).bind fun x24=>
           (apO 16 row13 [(⟨x24.Bc,(if x23<left11 then x23 else left11)⟩:Aq)]).bind fun x25=>
           some (IntKind.wrap .i64 (left11-(if x23<left11 then x23 else left11)),x25)
         else
          some (left11,row13)):Option (Int×(List Aq))).bind fun(left26,row27)=>
         some (.inl (left26,IntKind.wrap .i64 (i12+1),row27))
        else
         some (.inr (left11,row13)):Option ((Int×Int×(List Aq))⊕(Int×(List Aq))))) (left7,0,row9)):Option (Int×(List Aq))).bind fun(left28,row29)=>
     some (.inl (left28,IntKind.wrap .i64 (rank8-1),row29))
    else
     some (.inr row9):Option ((Int×Int×(List Aq))⊕(List Aq)))) ((if funds5>0 then funds5 else 0),9,([]:List Aq))):Option (List Aq)).bind fun j6=>
 some j6
noncomputable def Eb(t1:Ah)(acc2:Int)(now3:Int)(id4:Int):Option Int:=
 (Dg t1 acc2).bind fun x5=>
 (Fm t1 acc2 now3).bind fun x6=>
 (Ft t1.A7 acc2 x5 now3 x6).bind fun x7=>
 ((loopO (fun(qj8:Int)=>match qj8 with
   |x9=>(
    if (decide (x9<(x7.length:Int)))=true then
     (rdO x7 x9).bind fun x10=>
     if (x10.Bc==id4)=true then
      some (.inr (.inr x10.Kg))
     else
      some (.inl (IntKind.wrap .i64 (x9+1)))
    else
     some (.inr (.inl ())):Option (Int⊕(Unit⊕Int)))) 0):Option (Unit⊕Int)).bind fun j8=>match j8 with
 | .inr o=>some o
 | .inl _=>
 some 0
noncomputable def E9(t1:Ah)(h2:Aa)(id3:Int)(amount4:A5)(now5:Int)(last6:Bool):Option Bool:=
 (Gn t1).bind fun x7=>
 (H8 x7 h2).bind fun x8=>
 (F6 x7 id3 amount4 now5 last6).bind fun x9=>
 (D8 x7).bind fun x10=>
 if (!x10)=true then
  (Cu).bind fun x11=>
  (some (x11&&(x8.2.2==1))).bind fun c12=>
  (some (c12&&(x9.2.2==1))).bind fun c13=>
  (some (c13&&(!x8.2.1))).bind fun c14=>
  (some (c14&&(!x9.2.1))).bind fun c15=>
  (gdO c15 (B2 x8.1 (⟨(⟨([]:List Ac),([]:List Ad)⟩:A4),([]:List Af),([]:List Aa),([]:List Al)⟩:Ah)) (default:Bool)).bind fun x16=>
  (some (c15&&x16)).bind fun c17=>
  (gdO c17 (B2 x9.1 (⟨(⟨([]:List Ac),([]:List Ad)⟩:A4),([]:List Af),([]:List Aa),([]:List Al)⟩:Ah)) (default:Bool)).bind fun x18=>
  some (c17&&x18)
 else
  (Gq x7.A7 h2).bind fun x19=>
  ((if (x19.2==0)=true then
    (Es x7 h2.Az h2.B5).bind fun x21=>
    some x21
  else
   some x19.2):Option Int).bind fun j20=>
  (some (j20==0)).bind fun c23=>
  (gdO c23 (Dg x7 h2.Az) (default:Int)).bind fun x24=>
  ((if (c23&&(h2.Ak.Bb !=x24))=true then
    some 12
  else
   some j20):Option Int).bind fun j25=>
  ((if (j25 !=0)=true then
    (some (x8.2.2 !=j25)).bind fun c28=>
    (some (c28||x8.2.1)).bind fun c29=>
    (gdO (!c29) (B2 x8.1 (⟨(⟨([]:List Ac),([]:List Ad)⟩:A4),([]:List Af),([]:List Aa),([]:List Al)⟩:Ah)) (default:Bool)).bind fun x30=>
    if (c29||(!x30))=true then
     some (.inr false)
    else
     some (.inl ())
  else
   (Gb x7 h2.Az h2.B5 h2.A9).bind fun x31=>
   if (decide (h2.Ak.Ao≤x31))=true then
    (some (x8.2.2 !=0)).bind fun c32=>
    (some (c32||(!x8.2.1))).bind fun c33=>
    (gdO (!c33) (Gc x7 x19.1) (default:Ah)).bind fun x34=>
    (gdO (!c33) (B2 x8.1 x34) (default:Bool)).bind fun x35=>
    if (c33||(!x35))=true then
     some (.inr false)
    else
     some (.inl ())
   else
    (some (x8.2.2 !=0)).bind fun c36=>
    (some (c36||x8.2.1)).bind fun c37=>
    (gdO (!c37) (B2 x8.1 x7) (default:Bool)).bind fun x38=>
    if (c37||(!x38))=true then
     some (.inr false)
    else
     some (.inl ())):Option (Unit⊕Bool)).bind fun j27=>match j27 with
  | .inr o=>some o
  | .inl _=>
  (Da x7.A7 id3 amount4 now5 last6).bind fun x39=>
  (Ei x7.A7 id3).bind fun x40=>
  ((if (x39.2==0)=true then
    (Es x7 x40.Az now5).bind fun x42=>
    some x42
  else
   some x39.2):Option Int).bind fun j41=>
  (some (j41==0)).bind fun c44=>
  (gdO c44 (Dg x7 x40.Az) (default:Int)).bind fun x45=>
  ((if (c44&&(x40.Ak.Bb !=x45))=true then
    some 12
  else
   some j41):Option Int).bind fun j46=>
  if (j46 !=0)=true then
   (Cu).bind fun x48=>
   (some (x48&&(x9.2.2==j46))).bind fun c49=>
   (some (c49&&(!x9.2.1))).bind fun c50=>
   (gdO c50 (B2 x9.1 (⟨(⟨([]:List Ac),([]:List Ad)⟩:A4),([]:List Af),([]:List Aa),([]:List Al)⟩:Ah)) (default:Bool)).bind fun x51=>
   some (c50&&x51)
  else
   (Eb x7 x40.Az now5 id3).bind fun x52=>
   if (decide (amount4.Ao≤x52))=true then
    (Cu).bind fun x53=>
    (some (x53&&(x9.2.2==0))).bind fun c54=>
    (some (c54&&x9.2.1)).bind fun c55=>
    (gdO c55 (Gc x7 x39.1) (default:Ah)).bind fun x56=>
    (gdO c55 (B2 x9.1 x56) (default:Bool)).bind fun x57=>
    some (c55&&x57)
   else
    (Cu).bind fun x58=>
    (some (x58&&(x9.2.2==0))).bind fun c59=>
    (some (c59&&(!x9.2.1))).bind fun c60=>
    (gdO c60 (B2 x9.1 x7) (default:Bool)).bind fun x61=>
    some (c60&&x61)
end Go.Av.G
end
section
set_option linter.unusedVariables false
set_option linter.unusedSimpArgs false
set_option maxRecDepth 4000
set_option maxHeartbeats 4000000
namespace Go.Av.G
open Go Go.Av Go.Proofs
theorem Hb{α:Type}(g:Bool)(a d:α):gdO g (some a) d=some (bif g then a else d):=by cases g<;>rfl
theorem S7(g a:Bool):gdO g (some a) (default:Bool)=some (g&&a):=by cases g<;>rfl
def okC(x:Ac):Bool:=decide (1≤x.Bc∧x.Bc≤999∧1≤x.Di.length∧x.Di.length≤32∧0≤x.Ca∧x.Ca≤3)&& !(x.Di.any fun b=>decide (b.toNat<32)||decide (126<b.toNat))
theorem Abh(s:List UInt8):Ej Gd s=some (s.any fun b=>decide (b.toNat<32)||decide (126<b.toNat)):=by
 rw[N2 (fun x=>decide (x<32)||decide (126<x)) (by
  intro x
  simp only[Gd,Option.bind_some,Option.some.injEq]
  rw[Bool.eq_iff_iff]
  simp
  omega)]
 rw[Acl (p:=fun x=>decide (x<32)||decide (126<x)) (by intro x hx;simp;omega)]
theorem Yf(x:Ac):G9 x=some (okC x):=by
 simp only[G9,Et,Abh,Hb,Option.bind_some,Option.some.injEq,okC,cond_eq_ite]
 rw[Bool.eq_iff_iff]
 generalize (x.Di.any fun b=>decide (b.toNat<32)||decide (126<b.toNat))=B
 cases B<;>simp<;>omega
def okR(r:Ad):Bool:=decide (1≤r.Az∧r.Az≤999∧0≤r.Ca∧r.Ca≤3∧0≤r.Bb∧r.Bb≤3∧0≤r.Bt∧r.Bt≤999∧0≤r.Cq∧r.Cq≤20∧0≤r.Dc∧r.Dc≤3∧
 (r.Ca<2∨r.Bt=0∧r.Cq=0)∧ -50000≤r.Eu∧r.Eu≤r.Iu∧r.Iu≤50000)
theorem Ab1(r:Ad):Ig r=some (okR r):=by
 simp only[Ig,Et,Im,H2,Fq,S7,Option.bind_some,okR]
 split
 ·rename_i h
  simp only[Option.some.injEq]
  rw[Bool.eq_iff_iff]
  simp at h⊢
  omega
 ·rename_i h
  split
  ·rename_i h2
   simp only[Option.some.injEq]
   rw[Bool.eq_iff_iff]
   simp at h h2⊢
   omega
  ·rename_i h2
   simp only[Option.some.injEq]
   rw[Bool.eq_iff_iff]
   simp at h h2⊢
   omega
theorem La(l:List Ac)(hn:l.length<4611686018427387904): ∃b,Ef l=some b∧(b=true↔Lm (·.Bc) l):=by
 unfold Ef
 rw[Ou (n:=l.length) (o:=(Sum.inr false:Unit⊕Bool)) (e:=Sum.inl ()) (q:=Fc (fun x:Ac=>x.Bc) l) hn]
 ·have h:=Wg (key:=fun x:Ac=>x.Bc) (l:=l)
  generalize hB:(List.range' 1 (l.length-1)).any (Fc (fun x:Ac=>x.Bc) l)=B at h⊢
  cases B with
  |true=>exact⟨false,rfl,by simpa using h⟩
  |false=>exact⟨true,rfl,by simpa using h⟩
 ·intro i h0 h
  have e1:IntKind.wrap .i64 ((i:Int)-1)=((i-1:Nat):Int):=by rw[Df (by omega) (by omega)];omega
  simp only[decide_eq_true_eq,e1]
  rw[if_pos (by omega),Cm (by omega),Cm h,E6 h0 h]
  simp only[I7,Option.bind_some,decide_eq_true_eq]
  split<;>rfl
 ·intro i h
  simp only[decide_eq_true_eq]
  rw[if_neg (by omega)]
theorem J0(l:List Ad)(hn:l.length<4611686018427387904): ∃b,D0 l=some b∧(b=true↔Lm (·.Az) l):=by
 unfold D0
 rw[Ou (n:=l.length) (o:=(Sum.inr false:Unit⊕Bool)) (e:=Sum.inl ()) (q:=Fc (fun x:Ad=>x.Az) l) hn]
 ·have h:=Wg (key:=fun x:Ad=>x.Az) (l:=l)
  generalize hB:(List.range' 1 (l.length-1)).any (Fc (fun x:Ad=>x.Az) l)=B at h⊢
  cases B with
  |true=>exact⟨false,rfl,by simpa using h⟩
  |false=>exact⟨true,rfl,by simpa using h⟩
 ·intro i h0 h
  have e1:IntKind.wrap .i64 ((i:Int)-1)=((i-1:Nat):Int):=by rw[Df (by omega) (by omega)];omega
  simp only[decide_eq_true_eq,e1]
  rw[if_pos (by omega),Cm (by omega),Cm h,E6 h0 h]
  simp only[Ie,Option.bind_some,decide_eq_true_eq]
  split<;>rfl
 ·intro i h
  simp only[decide_eq_true_eq]
  rw[if_neg (by omega)]
theorem Hg(x:Ac)(n:Int):C0 x n=some (if x.Bc<n then -1 else if x.Bc>n then 1 else 0):=by
 simp only[C0,I7,E5,Gx,Option.bind_some,bne_self_eq_false,Bool.false_eq_true,if_false,decide_eq_true_eq]
 split
 ·rfl
 ·split<;>rfl
theorem K8(l:List Ac)(n:Int)(hn:l.length<4611686018427387904)(hr:Lm (·.Bc) l):
  ∃(k:Nat) (b:Bool),Ee l n=some ((k:Int),b)∧k≤l.length∧(b=true→ ∃h:k<l.length,l[k].Bc=n)∧(b=false→ ∀x∈l,x.Bc≠n)∧(∀i (hi:i<l.length),i<k→l[i].Bc<n)∧(b=false→ ∀i (hi:i<l.length),k≤i→n<l[i].Bc):=by
 have hbs: ∃(k:Nat) (b:Bool),Ce l n=some ((k:Int),b)∧k≤l.length∧(b=true→ ∃h:k<l.length,l[k].Bc=n)∧(b=false→ ∀x∈l,x.Bc≠n)∧(∀i (hi:i<l.length),i<k→l[i].Bc<n)∧(b=false→ ∀i (hi:i<l.length),k≤i→n<l[i].Bc):=by
  unfold Ce
  obtain⟨k,hk,hl,h1,h2⟩:=Aaa (n:=l.length) (lt:=fun i=>(l[i]?).any fun x=>decide (x.Bc<n)) (f:=fun(qj3:Int×Int)=>match qj3 with
  |(i4,j5)=>(
   if (decide (i4<j5))=true then
    (rdO l (IntKind.wrap .i64 (Int.fdiv (IntKind.wrap .u64 (IntKind.wrap .i64 (i4+j5))) 2))).bind fun x7=>
    (C0 x7 n).bind fun x8=>
    if (decide (x8<0))=true then
     some (.inl (IntKind.wrap .i64 ((IntKind.wrap .i64 (Int.fdiv (IntKind.wrap .u64 (IntKind.wrap .i64 (i4+j5))) 2))+1),j5))
    else
     some (.inl (i4,IntKind.wrap .i64 (Int.fdiv (IntKind.wrap .u64 (IntKind.wrap .i64 (i4+j5))) 2)))
   else
    some (.inr i4))) hn
   (by
    intro i j hij hj
    simp only[decide_eq_true_eq,Adz hij (show j<4611686018427387904 by omega)]
    have hm:(i+j)/2<l.length:=by omega
    rw[if_pos (by omega),Cm hm]
    simp only[Option.bind_some,Hg]
    rw[List.getElem?_eq_getElem hm]
    have e:IntKind.wrap .i64 ((((i+j)/2:Nat):Int)+1)=(((i+j)/2+1:Nat):Int):=by rw[Df (by omega) (by omega)];rfl
    by_cases h:(l[(i+j)/2]).Bc<n
    ·simp[h]
     exact e
    ·simp[h]
     split<;>simp)
   (by
    intro i
    simp only[decide_eq_true_eq]
    rw[if_neg (by omega)])
  have hless: ∀i (hi:i<l.length),i<k→l[i].Bc<n:=by
   intro i hi hik
   have h3:=h1 (by omega)
   rw[List.getElem?_eq_getElem (by omega)] at h3
   simp only[Option.any_some,decide_eq_true_eq] at h3
   by_cases he:i=k-1
   ·subst he;exact h3
   ·have:=hr.lt (j:=k-1) (i:=i) (by omega) (by omega)
    try simp only at this
    omega
  rw[hl]
  simp only[Option.bind_some]
  by_cases hkl:k<l.length
  ·have h4:=h2 hkl
   rw[List.getElem?_eq_getElem hkl] at h4
   simp only[Option.any_some,decide_eq_false_iff_not] at h4
   have hdec:decide ((k:Int)<(l.length:Int))=true:=by simpa using hkl
   rw[hdec]
   simp only[gdO,Cm hkl,Option.bind_some,Hg,Bool.true_and]
   by_cases he:l[k].Bc=n
   ·refine⟨k,true,?_,hk,fun _=>⟨hkl,he⟩,(fun h=>by cases h),hless,(fun h=>by cases h)⟩
    simp[he]
   ·have hup: ∀i (hi:i<l.length),k≤i→n<l[i].Bc:=fun i hi hik=>by
     have: ¬l[k].Bc<n:=h4
     have h5:l[k].Bc>n:=by omega
     by_cases hik':i=k
     ·subst hik';omega
     ·have:=hr.lt (j:=i) (i:=k) hi (by omega)
      try simp only at this
      omega
    refine⟨k,false,?_,hk,(fun h=>by cases h),(fun _ x hx hxn=>?_),hless,fun _=>hup⟩
    ·have: ¬l[k].Bc<n:=h4
     have h5:l[k].Bc>n:=by omega
     simp[this,h5]
    ·obtain⟨i,hi,rfl⟩:=List.getElem_of_mem hx
     by_cases hik:i<k
     ·have:=hless i hi hik;omega
     ·by_cases hik':i=k
      ·subst hik';exact he hxn
      ·have:=hr.lt (j:=i) (i:=k) hi (by omega)
       try simp only at this
       omega
  ·have hdec:decide ((k:Int)<(l.length:Int))=false:=by simpa using hkl
   rw[hdec]
   simp only[gdO,Option.bind_some,Bool.false_and]
   refine⟨k,false,rfl,hk,(fun h=>by cases h),(fun _ x hx hxn=>?_),hless,fun _ i hi hik=>by omega⟩
   obtain⟨i,hi,rfl⟩:=List.getElem_of_mem hx
   have:=hless i hi (by omega)
   omega
 obtain⟨k,b,h1,hk,h2,h3,h4,h5⟩:=hbs
 refine⟨k,b,?_,hk,h2,h3,h4,h5⟩
 unfold Ee
 rw[h1]
 rfl
theorem G0(x:Ad)(n:Int):Ct x n=some (if x.Az<n then -1 else if x.Az>n then 1 else 0):=by
 simp only[Ct,Ie,G4,Gs,Option.bind_some,bne_self_eq_false,Bool.false_eq_true,if_false,decide_eq_true_eq]
 split
 ·rfl
 ·split<;>rfl
theorem G2(l:List Ad)(n:Int)(hn:l.length<4611686018427387904)(hr:Lm (·.Az) l):
  ∃(k:Nat) (b:Bool),C1 l n=some ((k:Int),b)∧k≤l.length∧(b=true→ ∃h:k<l.length,l[k].Az=n)∧(b=false→ ∀x∈l,x.Az≠n)∧(∀i (hi:i<l.length),i<k→l[i].Az<n)∧(b=false→ ∀i (hi:i<l.length),k≤i→n<l[i].Az):=by
 have hbs: ∃(k:Nat) (b:Bool),Cf l n=some ((k:Int),b)∧k≤l.length∧(b=true→ ∃h:k<l.length,l[k].Az=n)∧(b=false→ ∀x∈l,x.Az≠n)∧(∀i (hi:i<l.length),i<k→l[i].Az<n)∧(b=false→ ∀i (hi:i<l.length),k≤i→n<l[i].Az):=by
  unfold Cf
  obtain⟨k,hk,hl,h1,h2⟩:=Aaa (n:=l.length) (lt:=fun i=>(l[i]?).any fun x=>decide (x.Az<n)) (f:=fun(qj3:Int×Int)=>match qj3 with
  |(i4,j5)=>(
   if (decide (i4<j5))=true then
    (rdO l (IntKind.wrap .i64 (Int.fdiv (IntKind.wrap .u64 (IntKind.wrap .i64 (i4+j5))) 2))).bind fun x7=>
    (Ct x7 n).bind fun x8=>
    if (decide (x8<0))=true then
     some (.inl (IntKind.wrap .i64 ((IntKind.wrap .i64 (Int.fdiv (IntKind.wrap .u64 (IntKind.wrap .i64 (i4+j5))) 2))+1),j5))
    else
     some (.inl (i4,IntKind.wrap .i64 (Int.fdiv (IntKind.wrap .u64 (IntKind.wrap .i64 (i4+j5))) 2)))
   else
    some (.inr i4))) hn
   (by
    intro i j hij hj
    simp only[decide_eq_true_eq,Adz hij (show j<4611686018427387904 by omega)]
    have hm:(i+j)/2<l.length:=by omega
    rw[if_pos (by omega),Cm hm]
    simp only[Option.bind_some,G0]
    rw[List.getElem?_eq_getElem hm]
    have e:IntKind.wrap .i64 ((((i+j)/2:Nat):Int)+1)=(((i+j)/2+1:Nat):Int):=by rw[Df (by omega) (by omega)];rfl
    by_cases h:(l[(i+j)/2]).Az<n
    ·simp[h]
     exact e
    ·simp[h]
     split<;>simp)
   (by
    intro i
    simp only[decide_eq_true_eq]
    rw[if_neg (by omega)])
  have hless: ∀i (hi:i<l.length),i<k→l[i].Az<n:=by
   intro i hi hik
   have h3:=h1 (by omega)
   rw[List.getElem?_eq_getElem (by omega)] at h3
   simp only[Option.any_some,decide_eq_true_eq] at h3
   by_cases he:i=k-1
   ·subst he;exact h3
   ·have:=hr.lt (j:=k-1) (i:=i) (by omega) (by omega)
    try simp only at this
    omega
  rw[hl]
  simp only[Option.bind_some]
  by_cases hkl:k<l.length
  ·have h4:=h2 hkl
   rw[List.getElem?_eq_getElem hkl] at h4
   simp only[Option.any_some,decide_eq_false_iff_not] at h4
   have hdec:decide ((k:Int)<(l.length:Int))=true:=by simpa using hkl
   rw[hdec]
   simp only[gdO,Cm hkl,Option.bind_some,G0,Bool.true_and]
   by_cases he:l[k].Az=n
   ·refine⟨k,true,?_,hk,fun _=>⟨hkl,he⟩,(fun h=>by cases h),hless,(fun h=>by cases h)⟩
    simp[he]
   ·have hup: ∀i (hi:i<l.length),k≤i→n<l[i].Az:=fun i hi hik=>by
     have: ¬l[k].Az<n:=h4
     have h5:l[k].Az>n:=by omega
     by_cases hik':i=k
     ·subst hik';omega
     ·have:=hr.lt (j:=i) (i:=k) hi (by omega)
      try simp only at this
      omega
    refine⟨k,false,?_,hk,(fun h=>by cases h),(fun _ x hx hxn=>?_),hless,fun _=>hup⟩
    ·have: ¬l[k].Az<n:=h4
     have h5:l[k].Az>n:=by omega
     simp[this,h5]
    ·obtain⟨i,hi,rfl⟩:=List.getElem_of_mem hx
     by_cases hik:i<k
     ·have:=hless i hi hik;omega
     ·by_cases hik':i=k
      ·subst hik';exact he hxn
      ·have:=hr.lt (j:=i) (i:=k) hi (by omega)
       try simp only at this
       omega
  ·have hdec:decide ((k:Int)<(l.length:Int))=false:=by simpa using hkl
   rw[hdec]
   simp only[gdO,Option.bind_some,Bool.false_and]
   refine⟨k,false,rfl,hk,(fun h=>by cases h),(fun _ x hx hxn=>?_),hless,fun _ i hi hik=>by omega⟩
   obtain⟨i,hi,rfl⟩:=List.getElem_of_mem hx
   have:=hless i hi (by omega)
   omega
 obtain⟨k,b,h1,hk,h2,h3,h4,h5⟩:=hbs
 refine⟨k,b,?_,hk,h2,h3,h4,h5⟩
 unfold C1
 rw[h1]
 rfl
theorem V0{α:Type}(l:List α)(p:α→Bool):decide ((match Dr l p with|some i=>((i:Nat):Int)|none=> -1)≥0)=l.any p:=by
 cases h:Dr l p with
 |some i=>
  obtain⟨hi,hp,_⟩:=Fk h
  have:l.any p=true:=List.any_eq_true.2 ⟨_,List.getElem_mem hi,hp⟩
  simp[this]
 |none=>
  have:l.any p=false:=by simpa using Le h
  simp[this]
theorem Ali(l:List Ac)(hn:l.length<4611686018427387904):Cs l=some (l.any fun x=> !okC x):=by
 unfold Cs Dt
 rw[Gl (l:=l) (fun x=> !okC x) (o:=fun i=>(Sum.inr (i:Int):Unit⊕Int)) (e:=Sum.inl ()) hn]
 ·rw[←V0]
  cases Dr l fun x=> !okC x<;>rfl
 ·intro i h
  simp only[decide_eq_true_eq]
  rw[if_pos (by omega),Cm h]
  simp only[Option.bind_some,Ku,Yf]
  split<;>rfl
 ·intro i h
  simp only[decide_eq_true_eq]
  rw[if_neg (by omega)]
def X9(c:A4)(r:Ad):Bool:= !okR r||(decide (0<r.Bt)&& !(c.As.any fun x=>x.Bc==r.Bt))
theorem Agr{l:List Ac}{n:Int}{k:Nat}{b:Bool}(h1:b=true→ ∃h:k<l.length,l[k].Bc=n)(h2:b=false→ ∀x∈l,x.Bc≠n):(l.any fun x=>x.Bc==n)=b:=by
 cases b with
 |true=>
  obtain⟨h,he⟩:=h1 rfl
  exact List.any_eq_true.2 ⟨_,List.getElem_mem h,by simpa using he⟩
 |false=>simpa using h2 rfl
theorem Ag5(c:A4)(r:Ad)(hn:c.As.length<4611686018427387904)(hr:Lm (·.Bc) c.As):I0 r c=some (X9 c r):=by
 obtain⟨k,b,h1,_,h2,h3,_,_⟩:=K8 c.As r.Bt hn hr
 unfold I0 X9
 rw[h1,Agr h2 h3]
 simp only[Option.bind_some,Ab1,gt_iff_lt]
theorem Alj(c:A4)(hc:c.As.length<4611686018427387904)(hn:c.Au.length<4611686018427387904)(hr:Lm (·.Bc) c.As):C3 c.Au c=some (c.Au.any (X9 c)):=by
 unfold C3 D5
 rw[Gl (l:=c.Au) (X9 c) (o:=fun i=>(Sum.inr (i:Int):Unit⊕Int)) (e:=Sum.inl ()) hn]
 ·rw[←V0]
  cases Dr c.Au (X9 c)<;>rfl
 ·intro i h
  simp only[decide_eq_true_eq]
  rw[if_pos (by omega),Cm h]
  simp only[Option.bind_some,Ag5 c _ hc hr]
  split<;>rfl
 ·intro i h
  simp only[decide_eq_true_eq]
  rw[if_neg (by omega)]
def Kb(c:A4):Prop:=c.As.length≤100∧c.Au.length≤200∧Lm (·.Bc) c.As∧Lm (·.Az) c.Au∧(∀x∈c.As,okC x=true)∧ ∀r∈c.Au,X9 c r=false
theorem V7(c:A4)(hc:c.As.length<4611686018427387904)(hn:c.Au.length<4611686018427387904): ∃b,Ic c=some b∧(b=true↔Kb c):=by
 unfold Ic
 obtain⟨b1,e1,h1⟩:=La c.As hc
 obtain⟨b2,e2,h2⟩:=J0 c.Au hn
 simp only[e1,e2,S7,Option.bind_some,Ali _ hc]
 by_cases hA:c.As.length≤100∧c.Au.length≤200∧b1=true∧b2=true
 ·obtain⟨a1,a2,rfl,rfl⟩:=hA
  have d1:decide ((c.As.length:Int)>100)=false:=by simp;omega
  have d2:decide ((c.Au.length:Int)>200)=false:=by simp;omega
  have hr1:=h1.1 rfl
  have hr2:=h2.1 rfl
  simp only[d1,d2,Bool.or_false,Bool.not_false,Bool.true_and,Bool.not_true,Bool.false_eq_true,if_false,Alj c hc hn hr1,Option.bind_some]
  cases hB:c.As.any fun x=> !okC x with
  |true=>
   refine⟨false,rfl,by simp,fun h=>?_⟩
   obtain⟨x,hx,hb⟩:=List.any_eq_true.1 hB
   have:=h.2.2.2.2.1 x hx
   simp[this] at hb
  |false=>
   simp only[Bool.false_eq_true,if_false]
   refine⟨_,rfl,?_⟩
   have hC: ∀x∈c.As,okC x=true:=by simpa using hB
   unfold Kb
   simp only[a1,a2,hr1,hr2,true_and]
   simpa using fun _=>hC
 ·refine⟨false,?_,by simp,fun h=>absurd ⟨h.1,h.2.1,h1.2 h.2.2.1,h2.2 h.2.2.2.1⟩ hA⟩
  rw[if_pos]
  by_cases a1:c.As.length≤100
  ·by_cases a2:c.Au.length≤200
   ·cases b1<;>cases b2<;>simp_all
   ·have:(c.Au.length:Int)>200:=by omega
    simp[this]
  ·have:(c.As.length:Int)>100:=by omega
   simp[this]
def Ac8(c:A4):Prop:=c.As.length<1000∧c.Au.length<1000∧ ∀x∈c.As,x.Di.length≤9223372036854775807
theorem Aaw{c:A4}(hf:Ac8 c)(h:Kb c):Ic c=some true:=by
 obtain⟨b,e,hb⟩:=V7 c (by have:=hf.1;omega) (by have:=hf.2.1;omega)
 rw[e,hb.2 h]
theorem Agq{l:List Ad}{a:Int}(hn:l.length<1000)(hr:Lm (·.Az) l){i:Nat}(h:i<l.length)(he:l[i].Az=a):C1 l a=some ((i:Int),true):=by
 obtain⟨k,b,e,_,h1,h2,_,_⟩:=G2 l a (by omega) hr
 cases b with
 |false=>exact absurd he (h2 rfl _ (List.getElem_mem h))
 |true=>
  obtain⟨hk,he'⟩:=h1 rfl
  rw[e,hr.inj hk h (by omega)]
theorem Ab9{l:List Ad}{a:Int}(hn:l.length<1000)(hr:Lm (·.Az) l)(h: ∀x∈l,x.Az≠a): ∃k:Nat,k≤l.length∧C1 l a=some ((k:Int),false):=by
 obtain⟨k,b,e,hk,h1,h2,hlo,hup⟩:=G2 l a (by omega) hr
 cases b with
 |false=>exact⟨k,hk,e⟩
 |true=>
  obtain⟨hk,he'⟩:=h1 rfl
  exact absurd he' (h _ (List.getElem_mem hk))
theorem Afy{c:A4}(hf:Ac8 c)(h:Kb c){a:Int}(hn: ∀x∈c.Au,x.Az≠a):Ib c a=some (⟨0,0,0,0,0,0,0,0⟩,8):=by
 unfold Ib
 obtain⟨k,_,e⟩:=Ab9 hf.2.1 h.2.2.2.1 hn
 rw[Aaw hf h,e]
 rfl
theorem Ae6{c:A4}(hf:Ac8 c)(h:Kb c){a:Int}{i:Nat}(hi:i<c.Au.length)(he:c.Au[i].Az=a):Ib c a=some (c.Au[i],0):=by
 unfold Ib
 rw[Aaw hf h,Agq hf.2.1 h.2.2.2.1 hi he]
 simp only[Option.bind_some,Cm hi]
 rfl
theorem Aco{α:Type}{l:List α}{h:Int}(h0:0≤h)(h1:h≤l.length):slO l 0 h=some (l.take h.toNat):=by
 unfold slO
 rw[if_pos ⟨by omega,h0,h1⟩]
 rfl
theorem Re{α:Type}(l:List α)(m:Nat):slO l 0 (if (m:Int)<(l.length:Int) then(m:Int) else(l.length:Int))=some (l.take m):=by
 split
 ·rw[Aco (by omega) (by omega)];simp
 ·rw[Aco (by omega) (by omega)]
  simp only[Int.toNat_natCast,Option.some.injEq]
  rw[List.take_of_length_le (Nat.le_refl _),List.take_of_length_le (by omega)]
theorem Bd2(x:Ad):Ad.same x x=true:=by rw[Ad.same_iff];simp
theorem Bd0(x:Ac):Ac.same x x=true:=by rw[Ac.same_iff];simp
theorem Aya{c:A4}(hf:Ac8 c)(h:Kb c){a d:Int}{i:Nat}(hi:i<c.Au.length)(he:c.Au[i].Az=a):Pz c a d=some (if (decide (-50000≤d)&&decide (d≤50000))=true then(decide (d≥c.Au[i].Eu)&&decide (d≤c.Au[i].Iu),0) else(false,11)):=by
 unfold Pz
 rw[Ae6 hf h hi he]
 simp only[Option.bind_some,Fq,Kv,ge_iff_le]
 cases (decide (-50000≤d)&&decide (d≤50000))<;>rfl
theorem Z8{n:Nat}{q:Nat→Bool}:(List.range' 0 n).any q=false↔ ∀i,i<n→q i=false:=by
 rw[List.any_eq_false]
 constructor
 ·intro h i hi;have:=h i (by simpa using hi);simpa using this
 ·intro h i hi;have:=h i (by simpa using hi);simpa using this
theorem Hu{α:Type}{key:α→Int}{l:List α}:(∀i,i<l.length→(decide (0<i)&&Fc key l i)=false)↔Lm key l:=by
 constructor
 ·intro h i hi
  have:=h (i+1) hi
  rw[E6 (by omega) hi] at this
  simp at this
  omega
 ·intro h i hi
  cases i with
  |zero=>rfl
  |succ i=>
   rw[E6 (by omega) hi]
   have:=h i hi
   simp
   omega
theorem wN{x:Int}{n:Nat}(h:x=n)(hn:n<4611686018427387904):IntKind.wrap .i64 x=(n:Int):=by
 subst h
 exact Df (by omega) (by omega)
theorem Gy{α:Type}{A B:List α}{x:α}{n:Nat}(h:n=A.length):rdO (A++x::B) (n:Int)=some x:=by
 subst h
 rw[Cm (by simp)]
 simp
def okH(h:Aa):Bool:=decide (1≤h.Bc∧h.Bc≤1000000∧1≤h.Az∧h.Az≤999∧0≤h.A9∧h.A9≤9∧0≤h.Ak.Bb∧h.Ak.Bb<4∧0<h.Ak.Ao∧h.Ak.Ao≤1000000000000000∧
 0≤h.Bo∧h.Bo≤h.Ak.Ao∧ -50000≤h.B5∧h.B5≤h.Cb∧h.Cb≤50000)
def okM(m:A5):Bool:=decide (0≤m.Bb∧m.Bb<4∧ -1000000000000000≤m.Ao∧m.Ao≤1000000000000000)
theorem R0(m:A5):Jg m=some (okM m):=by
 simp only[Jg,Tm,Option.bind_some,Option.some.injEq,okM]
 rw[Bool.eq_iff_iff]
 simp
 omega
theorem Xh(h:Aa):Ja h=some (okH h):=by
 simp only[Ja,R0,Fq,S7,Option.bind_some,Option.some.injEq,okH,okM]
 rw[Bool.eq_iff_iff]
 simp
 omega
def H4(h:Aa)(now:Int):Bool:=okH h&& !h.C4&&decide (h.B5≤now∧now≤h.Cb)
def Em(h:Aa)(now:Int):Int:=if H4 h now=true then h.Ak.Ao-h.Bo else 0
theorem Aaf(h:Aa)(now:Int):Kj h now=some (H4 h now):=by
 simp only[Kj,Xh,Option.bind_some,Option.some.injEq,H4]
 rw[Bool.eq_iff_iff]
 simp[and_assoc]
theorem Mp{h:Aa}(hk:okH h=true):1≤h.Bc∧h.Bc≤1000000∧1≤h.Az∧h.Az≤999∧0≤h.A9∧h.A9≤9∧0≤h.Ak.Bb∧h.Ak.Bb<4∧0<h.Ak.Ao∧h.Ak.Ao≤1000000000000000∧
 0≤h.Bo∧h.Bo≤h.Ak.Ao∧ -50000≤h.B5∧h.B5≤h.Cb∧h.Cb≤50000:=of_decide_eq_true hk
theorem Qz{h:Aa}{now:Int}(hl:H4 h now=true):okH h=true:=by
 unfold H4 at hl
 simp only[Bool.and_eq_true] at hl
 exact hl.1.1
theorem Ji(h:Aa)(now:Int):0≤Em h now∧Em h now≤1000000000000000:=by
 unfold Em
 split
 ·rename_i hl
  have:=Mp (Qz hl)
  omega
 ·omega
theorem Aao(h:Aa)(now:Int):Jf h now=some (Em h now):=by
 simp only[Jf,Aaf,Option.bind_some]
 unfold Em
 cases hl:H4 h now with
 |false=>rfl
 |true=>
  have:=Mp (Qz hl)
  simp only[Bool.not_true,Bool.false_eq_true,if_false,if_true]
  rw[Df (by omega) (by omega)]
def Ala(l:List Aa):Bool:=(List.range' 1 (l.length-1)).any (Fc (fun x:Aa=>x.Bc) l)
def Agb(l:List Aa):Int:=if (l.any fun x=> !okH x)=true then 1 else if Ala l=true then 20 else if 200<l.length then 6 else 0
structure Ll (l:List Aa):Prop where
 ok: ∀x∈l,okH x=true
 rise:Lm (fun x:Aa=>x.Bc) l
 few:l.length≤200
theorem Io{l:List Aa}:Agb l=0↔Ll l:=by
 have h:=Wg (key:=fun x:Aa=>x.Bc) (l:=l)
 unfold Agb Ala
 constructor
 ·intro hc
  split at hc
  ·cases hc
  ·rename_i h1
   split at hc
   ·cases hc
   ·rename_i h2
    split at hc
    ·cases hc
    ·rename_i h3
     refine⟨by simpa using h1,Classical.byContradiction fun hr=>h2 (h.2 hr),by omega⟩
 ·intro hg
  rw[if_neg (by simpa using hg.ok),if_neg (fun hb=>h.1 hb hg.rise),if_neg (by have:=hg.few;omega)]
theorem Ait(l:List Aa)(hn:l.length<4611686018427387904):Dm l=some (l.any fun x=> !okH x):=by
 unfold Dm Ez
 rw[Gl (l:=l) (fun x=> !okH x) (o:=fun i=>(Sum.inr (i:Int):Unit⊕Int)) (e:=Sum.inl ()) hn]
 ·rw[←V0]
  cases Dr l fun x=> !okH x<;>rfl
 ·intro i h
  simp only[decide_eq_true_eq]
  rw[if_pos (by omega),Cm h]
  simp only[Option.bind_some,Lu,Xh]
  split<;>rfl
 ·intro i h
  simp only[decide_eq_true_eq]
  rw[if_neg (by omega)]
theorem Nn(l:List Aa)(hn:l.length<4611686018427387904):Ho l=some (Agb l):=by
 unfold Ho
 rw[Ait l hn]
 simp only[Option.bind_some]
 unfold Agb
 split
 ·rfl
 ·rw[Ou (n:=l.length) (o:=(Sum.inr 20:Unit⊕Int)) (e:=Sum.inl ()) (q:=Fc (fun x:Aa=>x.Bc) l) hn]
  ·unfold Ala
   cases (List.range' 1 (l.length-1)).any (Fc (fun x:Aa=>x.Bc) l) with
   |true=>rfl
   |false=>
    simp only[Bool.false_eq_true,if_false,Option.bind_some,decide_eq_true_eq]
    by_cases h:200<l.length
    ·rw[if_pos h,if_pos (by omega)]
    ·rw[if_neg h,if_neg (by omega)]
  ·intro i h0 h
   have e1:IntKind.wrap .i64 ((i:Int)-1)=((i-1:Nat):Int):=by rw[Df (by omega) (by omega)];omega
   simp only[decide_eq_true_eq,e1]
   rw[if_pos (by omega),Cm (by omega),Cm h,E6 h0 h]
   simp only[Option.bind_some,decide_eq_true_eq]
   split<;>rfl
  ·intro i h
   simp only[decide_eq_true_eq]
   rw[if_neg (by omega)]
theorem Bdt{S O:Type}{f:S→Option (S⊕O)}{n:Nat}(g:Nat→S){o:O}(hin: ∀k,k<n→f (g k)=some (.inl (g (k+1))))(hout:f (g n)=some (.inr o)):loopO f (g 0)=some o:=by
 have key: ∀k,k≤n→loopO f (g 0)=loopO f (g k):=by
  intro k
  induction k with
  |zero=>intro _;rfl
  |succ k ih=>intro hk;rw[ih (by omega),Cj (hin k (by omega))]
 rw[key n (Nat.le_refl _),Bz hout]
theorem Md{α:Type}{n:Nat}{xs ys:List α}(h:(xs.length+ys.length)*n≤140737488355328):apO n xs ys=some (xs++ys):=by
 unfold apO
 rw[if_pos h]
def Hs(acc cur now:Int)(h:Aa):Bool:=h.Az==acc&&(h.Ak.Bb==cur&&H4 h now)
def wH(acc cur now rank:Int)(h:Aa):Int:=if h.Az=acc∧h.Ak.Bb=cur∧rank≤h.A9 then Em h now else 0
def Nf(l:List Aa)(acc cur now rank:Int):Int:=(l.map (wH acc cur now rank)).sum
theorem Axy(acc cur now:Int)(h:Aa):Ael acc cur now h=some (Hs acc cur now h):=by
 unfold Ael Hs
 rw[Aaf]
 cases h.Az==acc with
 |false=>rfl
 |true=>
  cases h.Ak.Bb==cur with
  |false=>rfl
  |true=>rfl
theorem Ama(acc cur now:Int): ∀l:List Aa,itO acc cur now l=some (l.filter (Hs acc cur now))
 |[]=>rfl
 |h::t=>by
  simp only[itO,Axy,Ama acc cur now t,Option.bind_some,Option.map_some,List.filter_cons,Option.some.injEq]
  cases Hs acc cur now h<;>rfl
theorem Ac1{l:List Aa}(hn:l.length≤1000)(acc cur now:Int):Jb l acc cur now=some (l.filter (Hs acc cur now)):=by
 unfold Jb
 rw[if_pos (by omega),Ama]
theorem Ac5(acc cur now rank:Int)(h:Aa):0≤wH acc cur now rank h∧wH acc cur now rank h≤1000000000000000:=by
 unfold wH
 split
 ·exact Ji h now
 ·omega
theorem Xu(acc cur now rank:Int): ∀l:List Aa,0≤Nf l acc cur now rank∧Nf l acc cur now rank≤l.length*1000000000000000
 |[]=>by simp[Nf]
 |h::t=>by
  have h1:=Ac5 acc cur now rank h
  have h2:=Xu acc cur now rank t
  unfold Nf at h2⊢
  simp only[List.map_cons,List.sum_cons,List.length_cons]
  omega
theorem T4(acc cur now rank:Int): ∀(l:List Aa) (n:Int),0≤n→n+l.length*1000000000000000≤4000000000000000000→I2 (T3 now rank) n (l.filter (Hs acc cur now))=some (n+Nf l acc cur now rank)
 |[],n,_,_=>by simp[I2,Nf]
 |h::t,n,h0,h1=>by
  simp only[List.length_cons] at h1
  have hr:=Ji h now
  have e:Nf (h::t) acc cur now rank=wH acc cur now rank h+Nf t acc cur now rank:=by simp[Nf]
  rw[e,List.filter_cons]
  cases hs:Hs acc cur now h with
  |false=>
   have hw:wH acc cur now rank h=0:=by
    unfold Hs at hs
    unfold wH Em
    split
    ·rename_i hc
     simp only[hc.1,hc.2.1,beq_self_eq_true,Bool.true_and] at hs
     rw[hs];simp
    ·rfl
   rw[if_neg (by simp),T4 acc cur now rank t n h0 (by omega),hw]
   simp
  |true=>
   unfold Hs at hs
   simp only[Bool.and_eq_true,beq_iff_eq] at hs
   rw[if_pos rfl]
   simp only[I2,T3,Aao,Option.bind_some,ge_iff_le]
   by_cases hk:rank≤h.A9
   ·have hw:wH acc cur now rank h=Em h now:=by unfold wH;rw[if_pos ⟨hs.1,hs.2.1,hk⟩]
    simp only[hk,decide_true,if_true,Option.bind_some]
    rw[Df (by omega) (by omega),T4 acc cur now rank t _ (by omega) (by omega),hw,Int.add_assoc]
   ·have hw:wH acc cur now rank h=0:=by unfold wH;rw[if_neg (fun hc=>hk hc.2.2)]
    simp only[hk,decide_false,Bool.false_eq_true,if_false,Option.bind_some]
    rw[T4 acc cur now rank t n h0 (by omega),hw]
    simp
theorem Axz{l:List Aa}(hg:Ll l)(acc cur now rank:Int):Qd l acc cur now rank=some (Nf l acc cur now rank,0):=by
 have hf:=hg.few
 unfold Qd
 rw[Nn l (by omega),Io.2 hg]
 simp only[Option.bind_some,bne_self_eq_false,Bool.false_eq_true,if_false,Ac1 (show l.length≤1000 by omega),T4 acc cur now rank l 0 (by omega) (by omega),Int.zero_add]
theorem Bdu{O:Type}{f:Int→Option (Int⊕O)}{n:Nat}{q:Nat→Bool}{o:Nat→O}{e:O}(hn:n≤9223372036854775807)(hin: ∀i:Nat,i<n→f i=some (if q i=true then .inr (o i) else .inl (IntKind.wrap .i64 ((i:Int)+1))))
  (hout: ∀i:Nat,n≤i→f i=some (.inr e)): ∀(k:Nat),k≤n→loopO f (k:Int)=some (match (List.range' k (n-k)).find? q with|some i=>o i|none=>e):=by
 intro k hk
 induction hm:n-k generalizing k with
 |zero=>
  rw[Bz (hout k (by omega))]
  rfl
 |succ m ih=>
  have h:=hin k (by omega)
  cases hq:q k with
  |true=>
   rw[hq] at h
   rw[Bz (o:=o k) (by rw[h];rfl),List.range'_succ,List.find?_cons,hq]
  |false=>
   rw[hq] at h
   have e1:IntKind.wrap .i64 ((k:Int)+1)=((k+1:Nat):Int):=by rw[Df (by omega) (by omega)];rfl
   rw[Cj (s':=((k+1:Nat):Int)) (by rw[h,←e1];rfl),ih (k+1) (by omega) (by omega),List.range'_succ,List.find?_cons,hq]
theorem Agp{α O:Type}{f:Int→Option (Int⊕O)}{l:List α}(p:α→Bool){o e:O}(hn:l.length≤9223372036854775807)(hin: ∀(i:Nat) (h:i<l.length),f i=some (if p l[i]=true then .inr o else .inl (IntKind.wrap .i64 ((i:Int)+1))))
  (hout: ∀i:Nat,l.length≤i→f i=some (.inr e)):loopO f 0=some (if l.any p=true then o else e):=by
 have h:=Bdu (q:=fun i=>(l[i]?).any p) (o:=fun _=>o) hn (fun i hi=>by rw[hin i hi,List.getElem?_eq_getElem hi];rfl) hout 0 (by omega)
 rw[←Yy,←Abo]
 exact h
end Go.Av.G
end
section
set_option linter.unusedVariables false
set_option linter.unusedSimpArgs false
set_option maxRecDepth 4000
set_option maxHeartbeats 4000000
namespace Go.Av.G
open Go Go.Av Go.Proofs
theorem B9{α β:Type}{a:Option α}{x:α}{f:α→Option β}{o:Option β}(h:a=some x)(h2:f x=o):a.bind f=o:=by subst h;exact h2
def Ik(n:Int):Int:=if n<0 then -n else n
def Aja(acc cur:Int)(x:Bj):Bool:=x.Az==acc&&x.Ak.Bb==cur
def G3(acc cur:Int)(p:Af)(l:List Bj):List Ai:=(l.filter (Aja acc cur)).map fun x=>⟨p.Cy,p.Cp,x.Ak.Ao⟩
def flatL(acc cur:Int):List Af→List Ai
 |[]=>[]
 |p::t=>G3 acc cur p p.B0++flatL acc cur t
def Ds:Int→List Ai→Option Int
 |g,[]=>some g
 |g,x::t=>if 1000000000000000000-g<Ik x.B7 then none else Ds (g+Ik x.B7) t
def L5(e:Int):List Ai→Int
 |[]=>0
 |x::t=>(if x.H3≤e then x.B7 else 0)+L5 e t
theorem Ni(n:Int):0≤Ik n∧n≤Ik n∧ -Ik n≤n:=by unfold Ik;split<;>omega
theorem Rx: ∀(a b:List Ai) (g:Int),Ds g (a++b)=(Ds g a).bind fun g'=>Ds g' b
 |[],b,g=>rfl
 |x::a,b,g=>by
  show(if 1000000000000000000-g<Ik x.B7 then none else Ds (g+Ik x.B7) (a++b))=((if 1000000000000000000-g<Ik x.B7 then none else Ds (g+Ik x.B7) a).bind fun g'=>Ds g' b)
  split
  ·rfl
  ·exact Rx a b _
theorem Jp: ∀(a:List Ai) {g G:Int},Ds g a=some G→0≤g→g≤1000000000000000000→g≤G∧G≤1000000000000000000
 |[],g,G,h,h0,h1=>by cases h;omega
 |x::a,g,G,h,h0,h1=>by
  have ha:=Ni x.B7
  have h:(if 1000000000000000000-g<Ik x.B7 then none else Ds (g+Ik x.B7) a)=some G:=h
  split at h
  ·cases h
  ·have:=Jp a h (by omega) (by omega)
   omega
theorem O2(e:Int): ∀(a:List Ai) {g G:Int},Ds g a=some G→ -(G-g)≤L5 e a∧L5 e a≤G-g
 |[],g,G,h=>by cases h;simp[L5]
 |x::a,g,G,h=>by
  have ha:=Ni x.B7
  have h:(if 1000000000000000000-g<Ik x.B7 then none else Ds (g+Ik x.B7) a)=some G:=h
  split at h
  ·cases h
  ·have:=O2 e a h
   show -(G-g)≤(if x.H3≤e then x.B7 else 0)+L5 e a∧(if x.H3≤e then x.B7 else 0)+L5 e a≤G-g
   split<;>omega
def Aln(x:Bj):Prop:= -9223372036854775808≤x.Ak.Ao∧x.Ak.Ao<9223372036854775808
theorem Tb{n g:Int}(h1: -9223372036854775808≤n)(h2:n<9223372036854775808)(h3:0≤g)(h4:g≤1000000000000000000):En n ⟨g⟩=some (if 1000000000000000000-g<Ik n then(true,g) else(false,g+Ik n)):=by
 have e1:IntKind.wrap .i64 (1000000000000000000-g)=1000000000000000000-g:=Df (by omega) (by omega)
 unfold En Ik
 simp only[decide_eq_true_eq,e1]
 by_cases hn:n<0
 ·simp only[if_pos hn,Option.bind_some]
  by_cases hm:n= -9223372036854775808
  ·subst hm
   have e2:IntKind.wrap .i64 (0-(-9223372036854775808))= -9223372036854775808:=by rfl
   simp only[e2]
   rw[if_pos (by simp),if_pos (by omega)]
  ·have e2:IntKind.wrap .i64 (0-n)= -n:=by rw[Df (by omega) (by omega)];omega
   simp only[e2]
   by_cases hg:1000000000000000000-g< -n
   ·rw[if_pos (by simp;omega),if_pos hg]
   ·have e3:IntKind.wrap .i64 (g+ -n)=g+ -n:=Df (by omega) (by omega)
    rw[if_neg (by simp;omega),if_neg hg,e3]
 ·simp only[if_neg hn,Option.bind_some]
  by_cases hg:1000000000000000000-g<n
  ·rw[if_pos (by simp;omega),if_pos hg]
  ·have e3:IntKind.wrap .i64 (g+n)=g+n:=Df (by omega) (by omega)
   rw[if_neg (by simp;omega),if_neg hg,e3]
theorem Alp{p:Af}{acc cur:Int}(hp: ∀x∈p.B0,Aln x)(hl:p.B0.length≤1000): ∀(t pre:List Bj) (g:Int) (row:List Ai),p.B0=pre++t→0≤g→g≤1000000000000000000→row.length+t.length≤1000000→
  loopO (fun(qj9:Int×Int×(List Ai))=>match qj9 with
     |(x10,g11,row12)=>(
      if (decide (x10<(p.B0.length:Int)))=true then
       (((rdO p.B0 x10).bind fun x14=>
       (some (x14.Az !=acc)).bind fun c15=>
       if (c15||(x14.Ak.Bb !=cur))=true then
        some (.inl (g11,row12))
       else
        (En x14.Ak.Ao (⟨g11⟩:Bm)).bind fun x16=>
        if x16.1=true then
         some (.inr (.inr (.inr (.inr (.inr (([]:List Ai),9))))))
        else
         (apO 16 row12 [(⟨p.Cy,p.Cp,x14.Ak.Ao⟩:Ai)]).bind fun x17=>
         some (.inl (x16.2,x17))):Option ((Int×(List Ai))⊕((Int×Int×(List Ai))⊕((Int×(List Ai))⊕((Int×Int×(List Ai))⊕((List Ai)⊕((List Ai)×Int))))))).bind fun j13=>match j13 with
       | .inr o=>some o
       | .inl (g18,row19)=>
       some (.inl (IntKind.wrap .i64 (x10+1),g18,row19))
      else
       some (.inr (.inl (g11,row12))):Option ((Int×Int×(List Ai))⊕((Int×(List Ai))⊕((Int×Int×(List Ai))⊕((List Ai)⊕((List Ai)×Int))))))) ((pre.length:Int),g,row)
   =some (match Ds g (G3 acc cur p t) with|none=> .inr (.inr (.inr ([],9)))|some g'=> .inl (g',row++G3 acc cur p t)):=by
 intro t
 induction t with
 |nil=>
  intro pre g row he _ _ _
  rw[Bz (o:= .inl (g,row))]
  ·simp[G3,Ds]
  ·have:decide ((pre.length:Int)<(p.B0.length:Int))=false:=by rw[he];simp
   simp only[this,Bool.false_eq_true,if_false]
 |cons x t ih=>
  intro pre g row he h0 h1 hrow
  have hlen:p.B0.length=pre.length+(t.length+1):=by rw[he];simp
  simp only[List.length_cons] at hrow
  have hd:decide ((pre.length:Int)<(p.B0.length:Int))=true:=by simp;omega
  have hx:rdO p.B0 (pre.length:Int)=some x:=by rw[he];exact Gy rfl
  have e1:IntKind.wrap .i64 ((pre.length:Int)+1)=(((pre++[x]).length:Nat):Int):=wN (by simp) (by simp;omega)
  have hi:Aln x:=hp x (by rw[he];simp)
  have ha:=Ni x.Ak.Ao
  by_cases hs:Aja acc cur x=true
  ·have hf:G3 acc cur p (x::t)=⟨p.Cy,p.Cp,x.Ak.Ao⟩::G3 acc cur p t:=by simp[G3,List.filter_cons,hs]
   have hs':((x.Az !=acc)||(x.Ak.Bb !=cur))=false:=by
    simp only[Aja,Bool.and_eq_true,beq_iff_eq] at hs
    simp[hs.1,hs.2]
   rw[hf]
   have hgf:Ds g ((⟨p.Cy,p.Cp,x.Ak.Ao⟩:Ai)::G3 acc cur p t)=if 1000000000000000000-g<Ik x.Ak.Ao then none else Ds (g+Ik x.Ak.Ao) (G3 acc cur p t):=rfl
   rw[hgf]
   by_cases hg:1000000000000000000-g<Ik x.Ak.Ao
   ·rw[if_pos hg,Bz (o:= .inr (.inr (.inr ([],9))))]
    simp only[hd,if_true,hx,Option.bind_some,hs',Bool.false_eq_true,if_false,Tb hi.1 hi.2 h0 h1,if_pos hg]
   ·rw[if_neg hg]
    have ea:apO 16 row [(⟨p.Cy,p.Cp,x.Ak.Ao⟩:Ai)]=some (row++[⟨p.Cy,p.Cp,x.Ak.Ao⟩]):=Md (by simp;omega)
    have:=ih (pre++[x]) (g+Ik x.Ak.Ao) (row++[⟨p.Cy,p.Cp,x.Ak.Ao⟩]) (by simp[he]) (by omega) (by omega) (by simp;omega)
    rw[Cj (s':=((((pre++[x]).length:Nat):Int),g+Ik x.Ak.Ao,row++[⟨p.Cy,p.Cp,x.Ak.Ao⟩])),this]
    ·simp
    ·simp only[hd,if_true,hx,Option.bind_some,hs',Bool.false_eq_true,if_false,Tb hi.1 hi.2 h0 h1,if_neg hg,ea,e1]
  ·have hf:G3 acc cur p (x::t)=G3 acc cur p t:=by simp[G3,List.filter_cons,hs]
   have hs':((x.Az !=acc)||(x.Ak.Bb !=cur))=true:=by
    simp only[Aja,Bool.and_eq_true,beq_iff_eq] at hs
    by_cases h:x.Az=acc
    ·simp[h] at hs⊢
     exact hs
    ·simp[h]
   rw[hf]
   have:=ih (pre++[x]) g row (by simp[he]) h0 h1 (by omega)
   rw[Cj (s':=((((pre++[x]).length:Nat):Int),g,row)),this]
   simp only[hd,if_true,hx,Option.bind_some,hs',e1]
theorem Uo(acc cur:Int)(p:Af)(l:List Bj):(G3 acc cur p l).length≤l.length:=by
 unfold G3
 rw[List.length_map]
 exact List.length_filter_le _ _
structure Afz (l:List Af):Prop where
 few:l.length≤40
 legs: ∀p∈l,p.B0.length≤6
 fits: ∀p∈l,∀x∈p.B0,Aln x
theorem Ai0{l:List Af}{acc cur:Int}(hl:Afz l): ∀(t pre:List Af) (g:Int) (row:List Ai),l=pre++t→0≤g→g≤1000000000000000000→row.length+t.length*6≤1000000→
  loopO (fun(qj4:Int×Int×(List Ai))=>match qj4 with
  |(x5,g6,row7)=>(
   if (decide (x5<(l.length:Int)))=true then
    (rdO l x5).bind fun x8=>
    ((loopO (fun(qj9:Int×Int×(List Ai))=>match qj9 with
      |(x10,g11,row12)=>(
       if (decide (x10<(x8.B0.length:Int)))=true then
        (((rdO x8.B0 x10).bind fun x14=>
        (some (x14.Az !=acc)).bind fun c15=>
        if (c15||(x14.Ak.Bb !=cur))=true then
         some (.inl (g11,row12))
        else
         (En x14.Ak.Ao (⟨g11⟩:Bm)).bind fun x16=>
         if x16.1=true then
          some (.inr (.inr (.inr (.inr (.inr (([]:List Ai),9))))))
         else
          (apO 16 row12 [(⟨x8.Cy,x8.Cp,x14.Ak.Ao⟩:Ai)]).bind fun x17=>
          some (.inl (x16.2,x17))):Option ((Int×(List Ai))⊕((Int×Int×(List Ai))⊕((Int×(List Ai))⊕((Int×Int×(List Ai))⊕((List Ai)⊕((List Ai)×Int))))))).bind fun j13=>match j13 with
        | .inr o=>some o
        | .inl (g18,row19)=>
        some (.inl (IntKind.wrap .i64 (x10+1),g18,row19))
       else
        some (.inr (.inl (g11,row12))):Option ((Int×Int×(List Ai))⊕((Int×(List Ai))⊕((Int×Int×(List Ai))⊕((List Ai)⊕((List Ai)×Int))))))) (0,g6,row7)):Option ((Int×(List Ai))⊕((Int×Int×(List Ai))⊕((List Ai)⊕((List Ai)×Int))))).bind fun j9=>match j9 with
    | .inr o=>some o
    | .inl (g20,row21)=>
    some (.inl (IntKind.wrap .i64 (x5+1),g20,row21))
   else
    some (.inr (.inl row7)):Option ((Int×Int×(List Ai))⊕((List Ai)⊕((List Ai)×Int))))) ((pre.length:Int),g,row)
   =some (match Ds g (flatL acc cur t) with|none=> .inr ([],9)|some g'=> .inl (row++flatL acc cur t)):=by
 intro t
 induction t with
 |nil=>
  intro pre g row he _ _ _
  rw[Bz (o:= .inl row)]
  ·simp[flatL,Ds]
  ·have:decide ((pre.length:Int)<(l.length:Int))=false:=by rw[he];simp
   simp only[this,Bool.false_eq_true,if_false]
 |cons p t ih=>
  intro pre g row he h0 h1 hrow
  have hlen:l.length=pre.length+(t.length+1):=by rw[he];simp
  have hf:=hl.few
  have hmem:p∈l:=by rw[he];simp
  have h6:=hl.legs p hmem
  simp only[List.length_cons] at hrow
  have hd:decide ((pre.length:Int)<(l.length:Int))=true:=by simp;omega
  have hx:rdO l (pre.length:Int)=some p:=by rw[he];exact Gy rfl
  have e1:IntKind.wrap .i64 ((pre.length:Int)+1)=(((pre++[p]).length:Nat):Int):=wN (by simp) (by simp;omega)
  have hin:=Alp (p:=p) (acc:=acc) (cur:=cur) (hl.fits p hmem) (by omega) p.B0 [] g row rfl h0 h1 (by omega)
  have e0:(((([]:List Bj).length:Nat)):Int)=0:=rfl
  rw[e0] at hin
  have hfl:flatL acc cur (p::t)=G3 acc cur p p.B0++flatL acc cur t:=rfl
  rw[hfl,Rx]
  cases hg:Ds g (G3 acc cur p p.B0) with
  |none=>
   rw[hg] at hin
   rw[Bz (o:= .inr ([],9))]
   ·rfl
   ·simp only[hd,if_true,hx,Option.bind_some]
    exact B9 hin rfl
  |some g'=>
   rw[hg] at hin
   have hr:=Jp _ hg h0 h1
   have:=ih (pre++[p]) g' (row++G3 acc cur p p.B0) (by simp[he]) (by omega) (by omega) (by have:=Uo acc cur p p.B0;simp;omega)
   rw[Cj (s':=((((pre++[p]).length:Nat):Int),g',row++G3 acc cur p p.B0)),this]
   ·simp
   ·simp only[hd,if_true,hx,Option.bind_some,e1]
    exact B9 hin rfl
theorem Alo{l:List Af}(hl:Afz l)(acc cur:Int):Jm l acc cur=some (match Ds 0 (flatL acc cur l) with|none=>([],9)|some _=>(flatL acc cur l,0)):=by
 unfold Jm
 have:=Ai0 (acc:=acc) (cur:=cur) hl l [] 0 [] rfl (by omega) (by omega) (by have:=hl.few;simp;omega)
 have e0:(((([]:List Af).length:Nat)):Int)=0:=rfl
 rw[e0] at this
 refine B9 this ?_
 cases Ds 0 (flatL acc cur l)<;>rfl
theorem Ajh{l:List Ai}{e:Int}(hl:l.length<1000000): ∀(t pre:List Ai) (n g G:Int),l=pre++t→Ds g t=some G→0≤g→g≤1000000000000000000→ -g≤n→n≤g→
  loopO (fun(qj3:Int×Int)=>match qj3 with
  |(n4,x5)=>(
   if (decide (x5<(l.length:Int)))=true then
    (rdO l x5).bind fun x6=>
    (Il x6 e).bind fun x7=>
    ((if x7=true then
      some (IntKind.wrap .i64 (n4+x6.B7))
    else
     some n4):Option Int).bind fun j8=>
    some (.inl (j8,IntKind.wrap .i64 (x5+1)))
   else
    some (.inr n4):Option ((Int×Int)⊕Int))) (n,(pre.length:Int))=some (n+L5 e t):=by
 intro t
 induction t with
 |nil=>
  intro pre n g G he _ _ _ _ _
  rw[Bz (o:=n)]
  ·simp[L5]
  ·have:decide ((pre.length:Int)<(l.length:Int))=false:=by rw[he];simp
   simp only[this,Bool.false_eq_true,if_false]
 |cons x t ih=>
  intro pre n g G he hg h0 h1 h2 h3
  have hlen:l.length=pre.length+(t.length+1):=by rw[he];simp
  have hd:decide ((pre.length:Int)<(l.length:Int))=true:=by simp;omega
  have hx:rdO l (pre.length:Int)=some x:=by rw[he];exact Gy rfl
  have e1:IntKind.wrap .i64 ((pre.length:Int)+1)=(((pre++[x]).length:Nat):Int):=wN (by simp) (by simp;omega)
  have ha:=Ni x.B7
  have hg':(if 1000000000000000000-g<Ik x.B7 then none else Ds (g+Ik x.B7) t)=some G:=hg
  split at hg'
  ·cases hg'
  ·have hsv:L5 e (x::t)=(if x.H3≤e then x.B7 else 0)+L5 e t:=rfl
   rw[hsv]
   by_cases hv:x.H3≤e
   ·have ew:IntKind.wrap .i64 (n+x.B7)=n+x.B7:=Df (by omega) (by omega)
    have:=ih (pre++[x]) (n+x.B7) _ _ (by simp[he]) hg' (by omega) (by omega) (by omega) (by omega)
    rw[Cj (s':=(n+x.B7,(((pre++[x]).length:Nat):Int))),this,if_pos hv,Int.add_assoc]
    simp only[hd,if_true,hx,Option.bind_some,Il,decide_eq_true hv,ew,e1]
   ·have:=ih (pre++[x]) n _ _ (by simp[he]) hg' (by omega) (by omega) (by omega) (by omega)
    rw[Cj (s':=(n,(((pre++[x]).length:Nat):Int))),this,if_neg hv,Int.zero_add]
    simp only[hd,if_true,hx,Option.bind_some,Il,decide_eq_false hv,Bool.false_eq_true,if_false,e1]
theorem Qw(acc cur:Int): ∀{l:List Af},(∀p∈l,p.B0.length≤6)→(flatL acc cur l).length≤l.length*6
 |[],_=>by simp[flatL]
 |p::t,h=>by
  have h1:=Uo acc cur p p.B0
  have h2:=Qw acc cur (l:=t) (fun q hq=>h q (by simp[hq]))
  have h3:=h p (by simp)
  simp only[flatL,List.length_append,List.length_cons]
  omega
theorem Afc{l:List Ai}{G:Int}(hl:l.length<1000000)(hg:Ds 0 l=some G)(e:Int):Je l e=some (L5 e l):=by
 unfold Je
 have:=Ajh (e:=e) hl l [] 0 0 G rfl hg (by omega) (by omega) (by omega) (by omega)
 have e0:(((([]:List Ai).length:Nat)):Int)=0:=rfl
 rw[e0] at this
 rw[this,Int.zero_add]
 rfl
theorem Aij(e:Int):Je [] e=some 0:=Afc (G:=0) (by simp) rfl e
theorem Alc{l:List Af}(hl:l.length≤2000){d:Int}(hd: -50000≤d)(hd':d≤50000):K4 l d d []=some 0:=by
 have h1:Gw d=some false:=by simp[Gw,Fq,hd,hd']
 have h2:Dl []=some false:=by
  unfold Dl Ey
  rw[Bz (o:=Sum.inl ())]
  ·rfl
  ·rfl
 have h3:decide ((l.length:Int)>2000)=false:=decide_eq_false (by omega)
 have h4:decide (d>d)=false:=decide_eq_false (by omega)
 unfold K4
 simp only[h3,h1,Hb,h2,h4,Option.bind_some,Bool.false_eq_true,if_false,Bool.not_false,Bool.or_self,cond_true]
theorem Axb{l:List Af}(hl:Afz l)(acc cur:Int){d:Int}(hd: -50000≤d)(hd':d≤50000):Mh l acc cur d=some (match Ds 0 (flatL acc cur l) with|none=>(0,9)|some _=>(L5 d (flatL acc cur l),0)):=by
 unfold Mh
 rw[Alc (by have:=hl.few;omega) hd hd']
 simp only[Option.bind_some,bne_self_eq_false,Bool.false_eq_true,if_false,Alo hl]
 have hlen:=Qw acc cur hl.legs
 have hf:=hl.few
 cases hg:Ds 0 (flatL acc cur l) with
 |none=>simp only[Aij,Option.bind_some]
 |some G=>simp only[Afc (show(flatL acc cur l).length<1000000 by omega) hg,Option.bind_some]
end Go.Av.G
end
section
set_option linter.unusedVariables false
set_option linter.unusedSimpArgs false
set_option maxRecDepth 4000
set_option maxHeartbeats 4000000
namespace Go.Av.G
open Go Go.Av Go.Proofs
def R3(x:Al):Bool:=decide (1≤x.Az∧x.Az≤999∧0≤x.Ao∧x.Ao≤1000000000000000)
structure Amf (l:List Al):Prop where
 ok: ∀x∈l,R3 x=true
 rise:Lm (fun x:Al=>x.Az) l
 few:l.length≤200
def Vt(l:List Al)(i:Nat):Bool:=((l[i]?).any fun x=> !R3 x)||(decide (0<i)&&Fc (fun x:Al=>x.Az) l i)
theorem Ti{l:List Al}(h:l.length≤200):(List.range' 0 l.length).any (Vt l)=false↔Amf l:=by
 rw[Z8]
 constructor
 ·intro hq
  refine⟨fun x hx=>?_,Hu.1 fun i hi=>?_,h⟩
  ·obtain⟨i,hi,rfl⟩:=List.getElem_of_mem hx
   have:=hq i hi
   unfold Vt at this
   rw[List.getElem?_eq_getElem hi] at this
   simp at this
   exact this.1
  ·have:=hq i hi
   unfold Vt at this
   simp only[Bool.or_eq_false_iff] at this
   exact this.2
 ·intro hl i hi
  unfold Vt
  rw[Hu.2 hl.rise i hi,List.getElem?_eq_getElem hi]
  simp[hl.ok _ (List.getElem_mem hi)]
def Ly(l:List Al)(acc:Int):Int:=match Dr l (fun x=>x.Az==acc) with|some i=>((l[i]?).getD default).Ao|none=>0
theorem Ad6{l:List Al}(hl:Amf l)(acc:Int):0≤Ly l acc∧Ly l acc≤1000000000000000:=by
 unfold Ly
 cases hi:Dr l (fun x=>x.Az==acc) with
 |none=>simp
 |some i=>
  obtain⟨h,_,_⟩:=Fk hi
  have:=of_decide_eq_true (hl.ok _ (List.getElem_mem h))
  simp only[List.getElem?_eq_getElem h,Option.getD_some]
  omega
theorem Agj(l:List Al)(acc:Int)(hn:l.length<4611686018427387904):C6 l acc=some (match Dr l (fun x=>x.Az==acc) with|some i=>((i:Nat):Int)|none=> -1):=by
 unfold C6
 rw[Gl (l:=l) (fun x=>x.Az==acc) (o:=fun i=>(Sum.inr (i:Int):Unit⊕Int)) (e:=Sum.inl ()) hn]
 ·cases Dr l (fun x=>x.Az==acc)<;>rfl
 ·intro i h
  simp only[decide_eq_true_eq]
  rw[if_pos (by omega),Cm h]
  simp only[Option.bind_some,Mw]
  split<;>rfl
 ·intro i h
  simp only[decide_eq_true_eq]
  rw[if_neg (by omega)]
structure F5 (t:Ah):Prop where
 chart:Kb t.Bk
 few:t.Fl.length≤2000
 holds:Ll t.A7
 limits:Amf t.A6
structure Ka (t:Ah):Prop where
 chart:Ac8 t.Bk
 legs:t.Fl.length≤2000→Afz t.Fl
 holds:t.A7.length≤100
 limits:t.A6.length≤40
theorem Ye(n lo hi:Int):F2 n lo hi=some (decide (n≥lo)&&decide (n≤hi)):=by simp[F2]
theorem Abx(n lo hi:Int):G6 n lo hi=some (decide (n≥lo)&&decide (n≤hi)):=by simp[G6]
theorem Ac9{l:List Al}(hn:l.length<4611686018427387904):
  loopO (fun(qj2:Int)=>match qj2 with
  |x3=>(
   if (decide (x3<(l.length:Int)))=true then
    (rdO l x3).bind fun x4=>
    (F2 x4.Az 1 999).bind fun x5=>
    (some (!x5)).bind fun c6=>
    (gdO (!c6) (G6 x4.Ao 0 1000000000000000) (default:Bool)).bind fun x7=>
    (some (c6||(!x7))).bind fun c8=>
    (some (decide (x3>0))).bind fun c9=>
    (gdO ((!c8)&&c9) (rdO l (IntKind.wrap .i64 (x3-1))) (default:Al)).bind fun x10=>
    if (c8||(c9&&(decide (x10.Az≥x4.Az))))=true then
     some (.inr (.inr false))
    else
     some (.inl (IntKind.wrap .i64 (x3+1)))
   else
    some (.inr (.inl ())):Option (Int⊕(Unit⊕Bool)))) 0=some (if (List.range' 0 l.length).any (Vt l)=true then .inr false else .inl ()):=by
 rw[Mm (n:=l.length) (q:=Vt l) (o:=(Sum.inr false:Unit⊕Bool)) (e:=Sum.inl ()) hn]
 ·intro i h
  simp only[decide_eq_true_eq]
  rw[if_pos (by omega),Cm h]
  simp only[Option.bind_some,Ye,Abx,Hb]
  unfold Vt
  rw[List.getElem?_eq_getElem h]
  simp only[Option.any_some]
  have hb:(!(decide (l[i].Az≥1)&&decide (l[i].Az≤999))|| !(bif (!!(decide (l[i].Az≥1)&&decide (l[i].Az≤999))) then(decide (l[i].Ao≥0)&&decide (l[i].Ao≤1000000000000000)) else default))= !R3 l[i]:=by
   unfold R3
   by_cases h1:1≤l[i].Az<;>by_cases h2:l[i].Az≤999<;>by_cases h3:0≤l[i].Ao<;>by_cases h4:l[i].Ao≤1000000000000000<;>simp[h1,h2,h3,h4]
  rw[hb]
  by_cases hk:R3 l[i]=true
  ·cases i with
   |zero=>simp[hk,gdO]
   |succ i=>
    have e1:IntKind.wrap .i64 (((i+1:Nat):Int)-1)=(i:Int):=by rw[Df (by omega) (by omega)];omega
    have e2:decide (((i+1:Nat):Int)>0)=true:=decide_eq_true (by omega)
    rw[e1,e2,Cm (by omega),E6 (by omega) h]
    by_cases hd:(l[i]).Az≥(l[i+1]).Az<;>simp[hk,gdO,hd]
  ·have hk':R3 l[i]=false:=by simpa using hk
   simp[hk',gdO]
 ·intro i h
  simp only[decide_eq_true_eq]
  rw[if_neg (by omega)]
theorem Uv{t:Ah}(hf:Ka t): ∃b,Gm t=some b∧(b=true↔F5 t):=by
 unfold Gm
 obtain⟨c,ec,hc⟩:=V7 t.Bk (by have:=hf.chart.1;omega) (by have:=hf.chart.2.1;omega)
 have hlim:=hf.limits
 have hh:=hf.holds
 have e:=Ac9 (l:=t.A6) (by omega)
 by_cases hq:(List.range' 0 t.A6.length).any (Vt t.A6)=true
 ·rw[if_pos hq] at e
  refine⟨false,B9 e rfl,by simp,fun hr=>?_⟩
  rw[(Ti (by omega)).2 hr.limits] at hq
  cases hq
 ·rw[if_neg hq] at e
  have hl:=(Ti (by omega)).1 (Bool.eq_false_iff.2 hq)
  refine⟨_,B9 e (by simp only[ec,Nn t.A7 (by omega),Hb,Option.bind_some];rfl),?_⟩
  have h200:decide ((t.A6.length:Int)≤200)=true:=decide_eq_true (by omega)
  rw[h200]
  constructor
  ·intro hb
   cases c with
   |false=>simp at hb
   |true=>
    by_cases h2:t.Fl.length≤2000
    ·have h2':decide ((t.Fl.length:Int)≤2000)=true:=decide_eq_true (by omega)
     rw[h2'] at hb
     simp at hb
     exact⟨hc.1 rfl,h2,Io.1 hb,hl⟩
    ·have h2':decide ((t.Fl.length:Int)≤2000)=false:=decide_eq_false (by omega)
     rw[h2'] at hb
     simp at hb
  ·intro hr
   have h2':decide ((t.Fl.length:Int)≤2000)=true:=decide_eq_true (by have:=hr.few;omega)
   rw[hc.2 hr.chart,h2',Io.2 hr.holds]
   rfl
theorem Qn{t:Ah}(hf:Ka t)(h:F5 t):Gm t=some true:=by
 obtain⟨b,e,hb⟩:=Uv hf
 rw[e,hb.2 h]
theorem V4{t:Ah}(hf:Ka t)(h: ¬F5 t):Gm t=some false:=by
 obtain⟨b,e,hb⟩:=Uv hf
 cases b with
 |true=>exact absurd (hb.1 rfl) h
 |false=>exact e
def Ag0(t:Ah)(acc:Int):Option Nat:=Dr t.Bk.Au (fun r=>r.Az==acc)
def Hq(t:Ah)(acc:Int):Ad:=match Ag0 t acc with|some i=>(t.Bk.Au[i]?).getD default|none=>default
def Rm(t:Ah)(r:Ad)(acc now:Int):Int:=
 if r.Ca≠1 then 13 else if ¬(-50000≤now∧now≤50000) then 11 else if ¬(r.Eu≤now∧now≤r.Iu) then 16 else match Ds 0 (flatL acc r.Bb t.Fl) with|none=>9|some _=>0
def Ij(t:Ah)(acc now:Int):Int:=match Ag0 t acc with|none=>8|some _=>Rm t (Hq t acc) acc now
def Gi(t:Ah)(acc now:Int):Int:= -L5 now (flatL acc (Hq t acc).Bb t.Fl)
def Rw(t:Ah)(acc now rank:Int):Int:=Gi t acc now+Ly t.A6 acc-Nf t.A7 acc (Hq t acc).Bb now rank
theorem Afx{t:Ah}{r:Ad}{acc now:Int}(h:Rm t r acc now=0):r.Ca=1∧ -50000≤now∧now≤50000∧r.Eu≤now∧now≤r.Iu∧ ∃G,Ds 0 (flatL acc r.Bb t.Fl)=some G:=by
 unfold Rm at h
 split at h
 ·cases h
 ·split at h
  ·cases h
  ·split at h
   ·cases h
   ·rename_i h1 h2 h3
    cases hg:Ds 0 (flatL acc r.Bb t.Fl) with
    |none=>rw[hg] at h;cases h
    |some G=>exact⟨by simpa using h1,by omega,by omega,by omega,by omega,G,rfl⟩
theorem Xx{t:Ah}{acc now:Int}(h:Ij t acc now=0): ∃(i:Nat) (hi:i<t.Bk.Au.length),Ag0 t acc=some i∧Hq t acc=t.Bk.Au[i]∧t.Bk.Au[i].Az=acc∧Rm t (Hq t acc) acc now=0:=by
 unfold Ij at h
 cases hi:Ag0 t acc with
 |none=>rw[hi] at h;cases h
 |some i=>
  rw[hi] at h
  obtain⟨h1,h2,_⟩:=Fk hi
  refine⟨i,h1,rfl,?_,by simpa using h2,h⟩
  unfold Hq
  rw[hi]
  simp[List.getElem?_eq_getElem h1]
theorem Abq{t:Ah}{acc now:Int}(h:Ij t acc now=0): -1000000000000000000≤Gi t acc now∧Gi t acc now≤1000000000000000000:=by
 obtain⟨i,hi,_,_,_,hw⟩:=Xx h
 obtain⟨_,_,_,_,_,G,hG⟩:=Afx hw
 have h1:=O2 now _ hG
 have h2:=Jp _ hG (by omega) (by omega)
 unfold Gi
 omega
theorem Axf:Hf 0=some none:=rfl
theorem Bja{e:Int}(h:e≠0):Hf e=some (some e):=by
 unfold Hf
 rw[if_neg (by simpa using h)]
theorem Wk{t:Ah}(hf:Ka t)(hr:F5 t)(acc now:Int): ∃a,Kd t acc now=some (a,if Ij t acc now=0 then none else some (Ij t acc now))∧(Ij t acc now=0→a=⟨(Hq t acc).Bb,Gi t acc now,Ly t.A6 acc⟩):=by
 have hF:=hf.legs hr.few
 unfold Kd
 cases hi:Ag0 t acc with
 |none=>
  have hno: ∀x∈t.Bk.Au,x.Az≠acc:=fun x hx=>by simpa using Le hi x hx
  have hw:Ij t acc now=8:=by unfold Ij;rw[hi]
  rw[hw,Afy hf.chart hr.chart hno]
  exact⟨⟨0,0,0⟩,rfl,fun h=>by cases h⟩
 |some i=>
  obtain⟨h1,h2,_⟩:=Fk hi
  have h2:t.Bk.Au[i].Az=acc:=by simpa using h2
  have hrec:Hq t acc=t.Bk.Au[i]:=by unfold Hq;rw[hi];simp[List.getElem?_eq_getElem h1]
  have hw:Ij t acc now=Rm t t.Bk.Au[i] acc now:=by unfold Ij;rw[hi,←hrec]
  have hlim:=hf.limits
  have hfun:Gi t acc now= -L5 now (flatL acc t.Bk.Au[i].Bb t.Fl):=by unfold Gi;rw[hrec]
  have hIs:=Aya hf.chart hr.chart (d:=now) h1 h2
  rw[hw,Ae6 hf.chart hr.chart h1 h2,hrec,hfun]
  generalize t.Bk.Au[i]=r at h2 hIs⊢
  simp only[Option.bind_some,Axf,Option.isSome_none,Bool.false_eq_true,if_false,hIs]
  by_cases hk:r.Ca=1
  ·have hk':(r.Ca !=1)=false:=by simpa using hk
   simp only[hk',Bool.false_eq_true,if_false]
   by_cases hn: -50000≤now∧now≤50000
   ·have hn':(decide (-50000≤now)&&decide (now≤50000))=true:=by simp[hn]
    simp only[hn',if_true,Option.bind_some,Axf,Option.isSome_none,Bool.false_eq_true,if_false]
    by_cases ho:r.Eu≤now∧now≤r.Iu
    ·have ho':(!(decide (now≥r.Eu)&&decide (now≤r.Iu)))=false:=by simp[ho]
     have hx: ∃q:Int,C6 t.A6 acc=some q∧((if (decide (q≥0))=true then(rdO t.A6 q).bind fun x11=>some x11.Ao else some 0):Option Int)=some (Ly t.A6 acc):=by
      refine⟨_,Agj t.A6 acc (by omega),?_⟩
      unfold Ly
      cases hx:Dr t.A6 (fun x=>x.Az==acc) with
      |none=>rfl
      |some k=>
       obtain⟨hk,_,_⟩:=Fk hx
       simp only[Cm hk,List.getElem?_eq_getElem hk,Option.getD_some,Option.bind_some]
       rw[if_pos (by simp)]
     obtain⟨q,hq,hj⟩:=hx
     simp only[ho',Bool.false_eq_true,if_false,Axb hF acc r.Bb hn.1 hn.2,hq,Option.bind_some,hj]
     cases hg:Ds 0 (flatL acc r.Bb t.Fl) with
     |none=>
      have hwv:Rm t r acc now=9:=by
       unfold Rm
       rw[if_neg (not_not_intro hk),if_neg (not_not_intro hn),if_neg (not_not_intro ho),hg]
      rw[hwv]
      exact⟨_,rfl,fun h=>by cases h⟩
     |some G=>
      have hwv:Rm t r acc now=0:=by
       unfold Rm
       rw[if_neg (not_not_intro hk),if_neg (not_not_intro hn),if_neg (not_not_intro ho),hg]
      have h3:=O2 now _ hg
      have h4:=Jp _ hg (by omega) (by omega)
      have ew:IntKind.wrap .i64 (0-L5 now (flatL acc r.Bb t.Fl))= -L5 now (flatL acc r.Bb t.Fl):=by rw[Df (by omega) (by omega)];omega
      rw[hwv]
      refine⟨⟨r.Bb,-L5 now (flatL acc r.Bb t.Fl),Ly t.A6 acc⟩,?_,fun _=>rfl⟩
      simp only[Axf,Option.bind_some,ew,if_true]
    ·have ho':(!(decide (now≥r.Eu)&&decide (now≤r.Iu)))=true:=by
      rw[Bool.not_eq_true',Bool.eq_false_iff]
      intro h
      simp at h
      exact ho h
     have hwv:Rm t r acc now=16:=by
      unfold Rm
      rw[if_neg (not_not_intro hk),if_neg (not_not_intro hn),if_pos ho]
     rw[hwv]
     simp only[ho',if_true]
     exact⟨_,rfl,fun h=>by cases h⟩
   ·have hn':(decide (-50000≤now)&&decide (now≤50000))=false:=by
     rw[Bool.eq_false_iff]
     intro h
     simp at h
     exact hn h
    have hwv:Rm t r acc now=11:=by
     unfold Rm
     rw[if_neg (not_not_intro hk),if_pos hn]
    rw[hwv]
    simp only[hn',Bool.false_eq_true,if_false,Option.bind_some,Bja (show(11:Int)≠0 by decide),Option.isSome_some,if_true]
    exact⟨_,rfl,fun h=>by cases h⟩
  ·have hk':(r.Ca !=1)=true:=by simpa using hk
   have hwv:Rm t r acc now=13:=by
    unfold Rm
    rw[if_pos hk]
   rw[hwv]
   simp only[hk',if_true]
   exact⟨_,rfl,fun h=>by cases h⟩
theorem Agk(n lo hi:Int):Jl n lo hi=some (decide (n≥lo)&&decide (n≤hi)):=by simp[Jl]
theorem Ml{t:Ah}(hf:Ka t)(hr:F5 t){acc now:Int}(hw:Ij t acc now=0)(rank:Int): -1000000000000000000≤Gi t acc now∧Gi t acc now≤1000000000000000000∧0≤Ly t.A6 acc∧Ly t.A6 acc≤1000000000000000∧
  0≤Nf t.A7 acc (Hq t acc).Bb now rank∧Nf t.A7 acc (Hq t acc).Bb now rank≤100000000000000000:=by
 have h1:=Abq hw
 have h2:=Ad6 hr.limits acc
 have h3:=Xu acc (Hq t acc).Bb now rank t.A7
 have h4:=hf.holds
 refine⟨h1.1,h1.2,h2.1,h2.2,h3.1,?_⟩
 have h5:((t.A7.length:Nat):Int)≤100:=by omega
 omega
theorem Afi{t:Ah}(hf:Ka t)(hr:F5 t){acc now:Int}(hw:Ij t acc now=0)(rank:Int):Fe ⟨(Hq t acc).Bb,Gi t acc now,Ly t.A6 acc⟩ t acc now rank=some (Rw t acc now rank):=by
 have h:=Ml hf hr hw rank
 unfold Fe
 rw[Axz hr.holds]
 have e1:IntKind.wrap .i64 (Gi t acc now+Ly t.A6 acc)=Gi t acc now+Ly t.A6 acc:=Df (by omega) (by omega)
 have e2:IntKind.wrap .i64 (Gi t acc now+Ly t.A6 acc-Nf t.A7 acc (Hq t acc).Bb now rank)=Gi t acc now+Ly t.A6 acc-Nf t.A7 acc (Hq t acc).Bb now rank:=Df (by omega) (by omega)
 simp only[Option.bind_some,e1,e2]
 rfl
theorem Ae7{t:Ah}(hf:Ka t)(hr:F5 t){acc now rank:Int}(hk:0≤rank∧rank≤9)(hw:Ij t acc now=0):Kc t acc now rank=some (Rw t acc now rank,0):=by
 obtain⟨a,ha,hv⟩:=Wk hf hr acc now
 rw[if_pos hw] at ha
 obtain rfl:=hv hw
 have hk':(decide (rank≥0)&&decide (rank≤9))=true:=by simp[hk]
 unfold Kc
 rw[Qn hf hr]
 simp only[Option.bind_some,Agk,hk',Hb,Bool.not_true,Bool.not_false,cond_true,Bool.or_self,Bool.false_eq_true,if_false,ha,Option.isSome_none,Afi hf hr hw]
def Kn:Ah:=⟨⟨[],[⟨5,1,0,0,0,0,0,50000⟩]⟩,[⟨0,0,3,[⟨5,⟨0,(-100)⟩⟩],0,0,[]⟩],[⟨1,5,⟨0,30⟩,2,3,9,0,false⟩],[]⟩
theorem Afq:Ka Kn:=by
 refine⟨⟨by simp[Kn],by simp[Kn],by simp[Kn]⟩,fun _=>⟨by simp[Kn],by simp[Kn],?_⟩,by simp[Kn],by simp[Kn]⟩
 intro p hp x hx
 simp[Kn] at hp
 subst hp
 simp at hx
 subst hx
 simp[Aln]
theorem Zi:F5 Kn:=by
 refine⟨⟨by simp[Kn],by simp[Kn],?_,?_,by simp[Kn],?_⟩,by simp[Kn],⟨?_,?_,by simp[Kn]⟩,⟨by simp[Kn],?_,by simp[Kn]⟩⟩
 ·intro i h;simp[Kn] at h
 ·intro i h;simp[Kn] at h
 ·intro x hx
  simp[Kn] at hx
  subst hx
  decide
 ·intro x hx
  simp[Kn] at hx
  subst hx
  decide
 ·intro i h;simp[Kn] at h
 ·intro i h;simp[Kn] at h
theorem Afr:Ij Kn 5 4=0:=by decide
theorem Yw:Cu=some true:=by
 unfold Cu
 have h1:Gp=some Kn:=rfl
 have h2:=Ae7 Afq Zi (acc:=5) (now:=4) (rank:=0) ⟨by omega,by omega⟩ Afr
 have h3:=Ae7 Afq Zi (acc:=5) (now:=4) (rank:=3) ⟨by omega,by omega⟩ Afr
 have e2:Rw Kn 5 4 0=70:=by decide
 have e3:Rw Kn 5 4 3=100:=by decide
 simp only[h1,Option.bind_some,h2,h3,e2,e3]
 rfl
end Go.Av.G
end
section
set_option linter.unusedVariables false
set_option linter.unusedSimpArgs false
set_option maxRecDepth 4000
set_option maxHeartbeats 4000000
namespace Go.Av.G
open Go Go.Av Go.Proofs
def Abk(p:Af):Af:=⟨p.Bc,p.Cy,p.Cp,p.B0.take 6,p.Fg,p.Ca,p.Kf⟩
def Wv(t:Ah):Ah:=⟨⟨t.Bk.As.take 20,t.Bk.Au.take 30⟩,if t.Fl.length≤2000 then(t.Fl.take 40).map Abk else t.Fl,t.A7.take 40,t.A6.take 40⟩
theorem Nu{α β:Type}(f:α→β): ∀(l:List α) (s:List β),l.foldl (fun s x=>s++[f x]) s=s++l.map f
 |[],s=>by simp
 |x::l,s=>by rw[List.foldl_cons,Nu f l];simp
theorem Aip{l:List Af}(hl:l.length≤40):
  loopO (fun(qj6:Int×(List Af))=>match qj6 with
   |(x7,row8)=>(
    if (decide (x7<(l.length:Int)))=true then
     (rdO l x7).bind fun x9=>
     (slO x9.B0 0 (if 6<(x9.B0.length:Int) then 6 else(x9.B0.length:Int))).bind fun x10=>
     (apO 72 row8 [(⟨x9.Bc,x9.Cy,x9.Cp,x10,x9.Fg,x9.Ca,x9.Kf⟩:Af)]).bind fun x11=>
     some (.inl (IntKind.wrap .i64 (x7+1),x11))
    else
     some (.inr row8):Option ((Int×(List Af))⊕(List Af)))) (0,([]:List Af))=some (l.map Abk):=by
 have hm:l.map Abk=l.foldl (fun s x=>s++[Abk x]) []:=by rw[Nu];rfl
 rw[hm,W9 (l:=l) (fun s x=>s++[Abk x]) (fun s=>s) (by omega)]
 ·intro i h
  have h3:=Re (l[i]).B0 6
  rw[show((6:Nat):Int)=6 from rfl] at h3
  have hap: ∀x,apO 72 ((l.take i).foldl (fun s x=>s++[Abk x]) []) [x]=some ((l.take i).foldl (fun s x=>s++[Abk x]) []++[x]):=by
   intro x
   refine Md ?_
   rw[Nu]
   simp
   omega
  simp only[decide_eq_true_eq]
  rw[if_pos (by omega),Cm h]
  simp only[Option.bind_some,h3,hap]
  rfl
 ·simp only[decide_eq_true_eq]
  rw[if_neg (by omega)]
theorem Axk(t:Ah):Gn t=some (Wv t):=by
 have h1:=Re t.Bk.As 20
 have h2:=Re t.Bk.Au 30
 have h3:=Re t.Fl 40
 have h4:=Re t.A7 40
 have h5:=Re t.A6 40
 rw[show((20:Nat):Int)=20 from rfl] at h1
 rw[show((30:Nat):Int)=30 from rfl] at h2
 rw[show((40:Nat):Int)=40 from rfl] at h3 h4 h5
 unfold Gn Wv
 simp only[h1,h2,h4,h5,Option.bind_some]
 by_cases hl:t.Fl.length≤2000
 ·have hl':decide ((t.Fl.length:Int)≤2000)=true:=decide_eq_true (by omega)
  have hloop:=Aip (l:=t.Fl.take 40) (by simp;omega)
  simp only[hl',if_true,h3,Option.bind_some,hl]
  rw[hloop]
  rfl
 ·have hl':decide ((t.Fl.length:Int)≤2000)=false:=decide_eq_false (by omega)
  simp only[hl',Bool.false_eq_true,if_false,Option.bind_some,hl]
theorem Ald{t:Ah}(h:t.wf):Ka (Wv t):=by
 obtain⟨⟨⟨_,hc⟩,⟨_,hr⟩⟩,⟨hll,hp⟩,⟨_,hh⟩,⟨_,hm⟩⟩:=h
 refine⟨⟨?_,?_,?_⟩,fun hl=>⟨?_,?_,?_⟩,?_,?_⟩
 ·simp[Wv];omega
 ·simp[Wv];omega
 ·intro x hx
  have:=(hc x (List.mem_of_mem_take hx)).2.1
  have hm:maxLen≤9223372036854775807:=by decide
  omega
 ·unfold Wv at hl⊢
  by_cases h2:t.Fl.length≤2000
  ·simp only[h2,if_true,List.length_map,List.length_take];omega
  ·rw[if_neg h2] at hl
   exact absurd hl h2
 ·intro p hpm
  unfold Wv at hl hpm
  by_cases h2:t.Fl.length≤2000
  ·simp only[h2,if_true] at hpm
   obtain⟨q,hq,rfl⟩:=List.mem_map.1 hpm
   simp[Abk];omega
  ·rw[if_neg h2] at hl
   exact absurd hl h2
 ·intro p hpm x hx
  unfold Wv at hl hpm
  by_cases h2:t.Fl.length≤2000
  ·simp only[h2,if_true] at hpm
   obtain⟨q,hq,rfl⟩:=List.mem_map.1 hpm
   have:=(hp q (List.mem_of_mem_take hq)).2.2.2.1.2 x (List.mem_of_mem_take hx)
   have h3:=this.2.2
   unfold inR at h3
   have e1:IntKind.min .i64= -9223372036854775808:=by decide
   have e2:IntKind.max .i64=9223372036854775807:=by decide
   rw[e1,e2] at h3
   exact⟨h3.1,by omega⟩
  ·rw[if_neg h2] at hl
   exact absurd hl h2
 ·simp[Wv];omega
 ·simp[Wv];omega
end Go.Av.G
end
section
set_option linter.unusedVariables false
set_option linter.unusedSimpArgs false
set_option maxRecDepth 4000
set_option maxHeartbeats 4000000
namespace Go.Av.G
open Go Go.Av Go.Proofs
theorem O6(x:Aa)(n:Int):Hp x n=some (if x.Bc<n then -1 else if x.Bc>n then 1 else 0):=by
 simp only[Hp,E5,Gx,Option.bind_some,bne_self_eq_false,Bool.false_eq_true,if_false,decide_eq_true_eq]
 split
 ·rfl
 ·split<;>rfl
theorem O8(l:List Aa)(n:Int)(hn:l.length<4611686018427387904)(hr:Lm (·.Bc) l):
  ∃(k:Nat) (b:Bool),Ih l n=some ((k:Int),b)∧k≤l.length∧(b=true→ ∃h:k<l.length,l[k].Bc=n)∧(b=false→ ∀x∈l,x.Bc≠n)∧(∀i (hi:i<l.length),i<k→l[i].Bc<n)∧(b=false→ ∀i (hi:i<l.length),k≤i→n<l[i].Bc):=by
 have hbs: ∃(k:Nat) (b:Bool),Cr l n=some ((k:Int),b)∧k≤l.length∧(b=true→ ∃h:k<l.length,l[k].Bc=n)∧(b=false→ ∀x∈l,x.Bc≠n)∧(∀i (hi:i<l.length),i<k→l[i].Bc<n)∧(b=false→ ∀i (hi:i<l.length),k≤i→n<l[i].Bc):=by
  unfold Cr
  obtain⟨k,hk,hl,h1,h2⟩:=Aaa (n:=l.length) (lt:=fun i=>(l[i]?).any fun x=>decide (x.Bc<n)) (f:=fun(qj3:Int×Int)=>match qj3 with
  |(i4,j5)=>(
   if (decide (i4<j5))=true then
    (rdO l (IntKind.wrap .i64 (Int.fdiv (IntKind.wrap .u64 (IntKind.wrap .i64 (i4+j5))) 2))).bind fun x7=>
    (Hp x7 n).bind fun x8=>
    if (decide (x8<0))=true then
     some (.inl (IntKind.wrap .i64 ((IntKind.wrap .i64 (Int.fdiv (IntKind.wrap .u64 (IntKind.wrap .i64 (i4+j5))) 2))+1),j5))
    else
     some (.inl (i4,IntKind.wrap .i64 (Int.fdiv (IntKind.wrap .u64 (IntKind.wrap .i64 (i4+j5))) 2)))
   else
    some (.inr i4))) hn
   (by
    intro i j hij hj
    simp only[decide_eq_true_eq,Adz hij (show j<4611686018427387904 by omega)]
    have hm:(i+j)/2<l.length:=by omega
    rw[if_pos (by omega),Cm hm]
    simp only[Option.bind_some,O6]
    rw[List.getElem?_eq_getElem hm]
    have e:IntKind.wrap .i64 ((((i+j)/2:Nat):Int)+1)=(((i+j)/2+1:Nat):Int):=by rw[Df (by omega) (by omega)];rfl
    by_cases h:(l[(i+j)/2]).Bc<n
    ·simp[h]
     exact e
    ·simp[h]
     split<;>simp)
   (by
    intro i
    simp only[decide_eq_true_eq]
    rw[if_neg (by omega)])
  have hless: ∀i (hi:i<l.length),i<k→l[i].Bc<n:=by
   intro i hi hik
   have h3:=h1 (by omega)
   rw[List.getElem?_eq_getElem (by omega)] at h3
   simp only[Option.any_some,decide_eq_true_eq] at h3
   by_cases he:i=k-1
   ·subst he;exact h3
   ·have:=hr.lt (j:=k-1) (i:=i) (by omega) (by omega)
    try simp only at this
    omega
  rw[hl]
  simp only[Option.bind_some]
  by_cases hkl:k<l.length
  ·have h4:=h2 hkl
   rw[List.getElem?_eq_getElem hkl] at h4
   simp only[Option.any_some,decide_eq_false_iff_not] at h4
   have hdec:decide ((k:Int)<(l.length:Int))=true:=by simpa using hkl
   rw[hdec]
   simp only[gdO,Cm hkl,Option.bind_some,O6,Bool.true_and]
   by_cases he:l[k].Bc=n
   ·refine⟨k,true,?_,hk,fun _=>⟨hkl,he⟩,(fun h=>by cases h),hless,(fun h=>by cases h)⟩
    simp[he]
   ·have hup: ∀i (hi:i<l.length),k≤i→n<l[i].Bc:=fun i hi hik=>by
     have: ¬l[k].Bc<n:=h4
     have h5:l[k].Bc>n:=by omega
     by_cases hik':i=k
     ·subst hik';omega
     ·have:=hr.lt (j:=i) (i:=k) hi (by omega)
      try simp only at this
      omega
    refine⟨k,false,?_,hk,(fun h=>by cases h),(fun _ x hx hxn=>?_),hless,fun _=>hup⟩
    ·have: ¬l[k].Bc<n:=h4
     have h5:l[k].Bc>n:=by omega
     simp[this,h5]
    ·obtain⟨i,hi,rfl⟩:=List.getElem_of_mem hx
     by_cases hik:i<k
     ·have:=hless i hi hik;omega
     ·by_cases hik':i=k
      ·subst hik';exact he hxn
      ·have:=hr.lt (j:=i) (i:=k) hi (by omega)
       try simp only at this
       omega
  ·have hdec:decide ((k:Int)<(l.length:Int))=false:=by simpa using hkl
   rw[hdec]
   simp only[gdO,Option.bind_some,Bool.false_and]
   refine⟨k,false,rfl,hk,(fun h=>by cases h),(fun _ x hx hxn=>?_),hless,fun _ i hi hik=>by omega⟩
   obtain⟨i,hi,rfl⟩:=List.getElem_of_mem hx
   have:=hless i hi (by omega)
   omega
 obtain⟨k,b,h1,hk,h2,h3,h4,h5⟩:=hbs
 refine⟨k,b,?_,hk,h2,h3,h4,h5⟩
 unfold Ih
 rw[h1]
 rfl
theorem Aca{l:List Aa}{n:Int}(hg:Ll l){i:Nat}(h:i<l.length)(he:l[i].Bc=n):Ih l n=some ((i:Int),true):=by
 obtain⟨k,b,e,_,h1,h2,_,_⟩:=O8 l n (by have:=hg.few;omega) hg.rise
 cases b with
 |false=>exact absurd he (h2 rfl _ (List.getElem_mem h))
 |true=>
  obtain⟨hk,he'⟩:=h1 rfl
  rw[e,hg.rise.inj hk h (by omega)]
theorem Xd{l:List Aa}{n:Int}(hg:Ll l)(h: ∀x∈l,x.Bc≠n): ∃k:Nat,k≤l.length∧Ih l n=some ((k:Int),false)∧(∀i (hi:i<l.length),i<k→l[i].Bc<n)∧(∀i (hi:i<l.length),k≤i→n<l[i].Bc):=by
 obtain⟨k,b,e,hk,h1,h2,hlo,hup⟩:=O8 l n (by have:=hg.few;omega) hg.rise
 cases b with
 |false=>exact⟨k,hk,e,hlo,hup rfl⟩
 |true=>
  obtain⟨hk,he'⟩:=h1 rfl
  exact absurd he' (h _ (List.getElem_mem hk))
theorem Abg{l:List Aa}(h:l.length≤1000):slices_Clone 64 l=some l:=by
 unfold slices_Clone
 rw[if_pos (by omega)]
def Qe(h:Aa):List Aa→List Aa
 |[]=>[h]
 |x::t=>if h.Bc<x.Bc then h::x::t else x::Qe h t
theorem W5{h:Aa}: ∀{a b:List Aa},(∀x∈a,¬h.Bc<x.Bc)→(∀x∈b,h.Bc<x.Bc)→Qe h (a++b)=a++h::b
 |[],[],_,_=>rfl
 |[],x::t,_,hb=>by
  show(if h.Bc<x.Bc then h::x::t else x::Qe h t)=h::x::t
  rw[if_pos (hb x (by simp))]
 |x::t,b,ha,hb=>by
  show(if h.Bc<x.Bc then h::x::(t++b) else x::Qe h (t++b))=x::(t++h::b)
  rw[if_neg (ha x (by simp)),W5 (fun y hy=>ha y (by simp[hy])) hb]
theorem U5{h:Aa}: ∀{l:List Aa},(Qe h l).length=l.length+1
 |[]=>rfl
 |x::t=>by
  show(if h.Bc<x.Bc then h::x::t else x::Qe h t).length=_
  split
  ·simp
  ·simp[U5 (l:=t)]
theorem Aid{l:List Aa}{n:Int}:(l.any fun x=>x.Bc==n)=false↔ ∀x∈l,x.Bc≠n:=by simp
theorem Al9{l:List Aa}{n:Int}(h:(l.any fun x=>x.Bc==n)=true): ∃(i:Nat) (hi:i<l.length),l[i].Bc=n:=by
 obtain⟨x,hx,he⟩:=List.any_eq_true.1 h
 obtain⟨i,hi,rfl⟩:=List.getElem_of_mem hx
 exact⟨i,hi,by simpa using he⟩
def Uf(l:List Aa)(h:Aa):List Aa×Int:=
 if (!okH h||decide (0<h.Bo)||h.C4)=true then([],1) else if (l.any fun x=>x.Bc==h.Bc)=true then([],26) else if 200≤l.length then([],6) else(Qe h l,0)
theorem Awx{l:List Aa}(hg:Ll l)(h:Aa):Qc l h=some (Uf l h):=by
 have hf:=hg.few
 unfold Qc Uf
 rw[Nn l (by omega),Io.2 hg]
 simp only[Option.bind_some,bne_self_eq_false,Bool.false_eq_true,if_false,Xh]
 cases ha:l.any fun x=>x.Bc==h.Bc with
 |true=>
  obtain⟨i,hi,he⟩:=Al9 ha
  rw[Aca hg hi he]
  simp only[Option.bind_some,if_true,gt_iff_lt]
  split<;>rfl
 |false=>
  obtain⟨k,hk,e,hlo,hup⟩:=Xd hg (Aid.1 ha)
  rw[e]
  simp only[Option.bind_some,Bool.false_eq_true,if_false,gt_iff_lt]
  split
  ·rfl
  ·by_cases h2:200≤l.length
   ·rw[if_pos (by rw[decide_eq_true_eq];omega),if_pos h2]
   ·rw[if_neg (by rw[decide_eq_true_eq];omega),if_neg h2,Abg (by omega)]
    have hi:Aiv 64 l (k:Int) h=some (Qe h l):=by
     unfold Aiv
     rw[if_pos ⟨by omega,by omega,by omega⟩]
     have e2:Qe h (l.take k++l.drop k)=l.take k++h::l.drop k:=W5 (fun x hx=>by
      obtain⟨j,hj,rfl⟩:=List.getElem_of_mem hx
      simp only[List.length_take] at hj
      rw[List.getElem_take]
      have:=hlo j (by omega) (by omega)
      omega) (fun x hx=>by
      obtain⟨j,hj,rfl⟩:=List.getElem_of_mem hx
      simp only[List.length_drop] at hj
      rw[List.getElem_drop]
      exact hup (k+j) (by omega) (by omega))
     rw[List.take_append_drop] at e2
     rw[e2];rfl
    simp only[Option.bind_some,hi]
def Ids(l:List Aa):Prop:=l.Pairwise fun x y=>x.Bc<y.Bc
theorem Abw{l:List Aa}(h:Lm (fun x:Aa=>x.Bc) l):Ids l:=by
 unfold Ids
 rw[List.pairwise_iff_getElem]
 intro i j hi hj hij
 exact h.lt hj hij
end Go.Av.G
end
section
set_option linter.unusedVariables false
set_option linter.unusedSimpArgs false
set_option maxRecDepth 4000
set_option maxHeartbeats 4000000
namespace Go.Av.G
open Go Go.Av Go.Proofs
def bef(x y:Aa):Prop:=y.A9<x.A9∨(x.A9=y.A9∧x.Bc<y.Bc)
theorem Qp{x y z:Aa}(h1:bef x y)(h2:bef y z):bef x z:=by unfold bef at*;omega
theorem Qr(a b:Aa): ∃c,D4 a b=some c∧decide (c<0)=decide (b.A9<a.A9):=by
 simp only[D4,E5,Gx,Option.bind_some,bne_self_eq_false,Bool.false_eq_true,if_false,decide_eq_true_eq]
 by_cases h:b.A9<a.A9
 ·exact⟨-1,by simp[h],by simp[h]⟩
 ·by_cases h2:b.A9>a.A9
  ·exact⟨1,by simp[h,h2],by simp[h]⟩
  ·exact⟨0,by simp[h,h2],by simp[h]⟩
theorem Rd{α:Type}{A B:List α}{x y:α}{n:Nat}(h:n=A.length):(A++x::B).set n y=A++y::B:=by
 subst h
 rw[List.set_append_right _ _ (Nat.le_refl _)]
 simp
theorem V2{α:Type}{A B:List α}{x y:α}{n:Nat}(h:n=A.length+1):rdO (A++x::y::B) (n:Int)=some y:=by
 have:=Gy (A:=A++[x]) (B:=B) (x:=y) (n:=n) (by simp[h])
 simpa using this
theorem Xq{α:Type}{A B:List α}{x y z:α}{n:Nat}(h:n=A.length+1):(A++x::y::B).set n z=A++x::z::B:=by
 have:=Rd (A:=A++[x]) (B:=B) (x:=y) (y:=z) (n:=n) (by simp[h])
 simpa using this
theorem Agn{a:Nat}{A R:List Aa}{y:Aa}(ha:a=A.length): ∀(P1 P2:List Aa),(A.length+P1.length<4611686018427387900)→(∀x∈P2,x.A9<y.A9)→
  ∃Q1 Q2,loopO (fun(qj7:Int×(List Aa))=>match qj7 with
     |(j8,row9)=>(
      (some (decide (j8>(a:Int)))).bind fun c10=>
      (gdO c10 (rdO row9 j8) (default:Aa)).bind fun x11=>
      (gdO c10 (rdO row9 (IntKind.wrap .i64 (j8-1))) (default:Aa)).bind fun x12=>
      (gdO c10 (D4 x11 x12) (default:Int)).bind fun x13=>
      if (c10&&(decide (x13<0)))=true then
       (rdO row9 (IntKind.wrap .i64 (j8-1))).bind fun x14=>
       (rdO row9 j8).bind fun x15=>
       (rdO row9 j8).bind fun x16=>
       (rdO (List.set row9 (Int.toNat j8) x14) (IntKind.wrap .i64 (j8-1))).bind fun x17=>
       some (.inl (IntKind.wrap .i64 (j8-1),(List.set (List.set row9 (Int.toNat j8) x14) (Int.toNat (IntKind.wrap .i64 (j8-1))) x15)))
      else
       some (.inr row9):Option ((Int×(List Aa))⊕(List Aa)))) (((A.length+P1.length:Nat):Int),A++P1++y::P2++R)=some (A++Q1++y::Q2++R)∧Q1++Q2=P1++P2∧(∀x∈Q2,x.A9<y.A9)∧(∀z,Q1.getLast?=some z→ ¬z.A9<y.A9):=by
 intro P1
 induction hn:P1.length generalizing P1 with
 |zero=>
  intro P2 hb hP2
  obtain rfl:P1=[]:=List.length_eq_zero_iff.1 hn
  refine⟨[],P2,?_,rfl,hP2,by simp⟩
  rw[Bz]
  have:decide (((A.length+0:Nat):Int)>(a:Int))=false:=by simp[ha]
  simp only[this,Option.bind_some,gdO,Bool.false_and,Bool.false_eq_true,if_false]
 |succ n ih=>
  intro P2 hb hP2
  rcases List.eq_nil_or_concat P1 with rfl|⟨P1',z,rfl⟩
  ·simp at hn
  ·have hn':P1'.length=n:=by simpa using hn
   have hd:decide (((A.length+(n+1):Nat):Int)>(a:Int))=true:=by simp[ha];omega
   have hw:IntKind.wrap .i64 (((A.length+(n+1):Nat):Int)-1)=((A.length+n:Nat):Int):=wN (by omega) (by omega)
   have hrow:A++(P1'.concat z)++y::P2++R=(A++P1')++z::y::(P2++R):=by simp
   obtain⟨c,hc,hcd⟩:=Qr y z
   by_cases hlt:z.A9<y.A9
   ·obtain⟨Q1,Q2,q1,q2,q3,q4⟩:=ih P1' hn' (z::P2) (by omega) (fun x hx=>(List.mem_cons.1 hx).elim (fun e=>e▸hlt) (hP2 x))
    refine⟨Q1,Q2,?_,by simpa using q2,q3,q4⟩
    have hrow2:A++P1'++y::(z::P2)++R=(A++P1')++y::z::(P2++R):=by simp
    rw[hrow2] at q1
    rw[hrow,Cj,q1]
    simp only[hd,hw,gdO,Option.bind_some,Bool.true_and,Gy (A:=A++P1') (show A.length+n=(A++P1').length by simp[hn']),V2 (A:=A++P1') (show A.length+(n+1)=(A++P1').length+1 by simp[hn'];omega),hc,hcd,hlt,decide_true,if_true,Int.toNat_natCast,
     Xq (A:=A++P1') (show A.length+(n+1)=(A++P1').length+1 by simp[hn'];omega),Rd (A:=A++P1') (show A.length+n=(A++P1').length by simp[hn'])]
   ·refine⟨P1'.concat z,P2,?_,rfl,hP2,by intro w hw;simp at hw;subst hw;exact hlt⟩
    rw[hrow,Bz]
    simp only[hd,hw,gdO,Option.bind_some,Bool.true_and,Gy (A:=A++P1') (show A.length+n=(A++P1').length by simp[hn']),V2 (A:=A++P1') (show A.length+(n+1)=(A++P1').length+1 by simp[hn'];omega),hc,hcd,hlt,decide_false,Bool.false_eq_true,if_false]
def Asc(l:List Aa):Prop:=l.Pairwise bef
theorem Ak9{Q1 Q2:List Aa}{y:Aa}(h:Asc (Q1++Q2))(hid: ∀x∈Q1++Q2,x.Bc<y.Bc)(h2: ∀x∈Q2,x.A9<y.A9)(h1: ∀z,Q1.getLast?=some z→ ¬z.A9<y.A9):Asc (Q1++y::Q2):=by
 unfold Asc at*
 rw[List.pairwise_append] at h⊢
 obtain⟨a1,a2,a3⟩:=h
 have hq: ∀x∈Q1,bef x y:=by
  intro x hx
  rcases List.eq_nil_or_concat Q1 with rfl|⟨Q,z,rfl⟩
  ·cases hx
  ·have hz:=h1 z (by simp)
   have hix:=hid x (List.mem_append_left _ hx)
   rw[List.concat_eq_append,List.pairwise_append] at a1
   simp only[List.concat_eq_append,List.mem_append,List.mem_singleton] at hx
   rcases hx with hx|rfl
   ·have:=a1.2.2 x hx z (by simp)
    unfold bef at*
    omega
   ·unfold bef
    omega
 refine⟨a1,List.pairwise_cons.2 ⟨fun x hx=> .inl (h2 x hx),a2⟩,fun x hx w hw=>?_⟩
 rcases List.mem_cons.1 hw with rfl|hw
 ·exact hq x hx
 ·exact a3 x hx w hw
theorem Sh{A X B:List Aa}{a b:Nat}(ha:a=A.length)(hb:b=A.length+X.length)(hn:(A++X++B).length<4611686018427387000)(hid:Ids X):
  ∃Y,Cc (a:Int) (b:Int) (A++X++B)=some (A++Y++B)∧Y.Perm X∧Asc Y:=by
 have hlen:A.length+X.length<4611686018427387000:=by simp at hn;omega
 unfold Cc
 have key: ∀(Q P X0:List Aa),X=X0++Q→P.Perm X0→Asc P→ ∃Y,loopO (fun(qj4:Int×(List Aa))=>match qj4 with
  |(i5,row6)=>(
   if (decide (i5<(b:Int)))=true then
    ((loopO (fun(qj7:Int×(List Aa))=>match qj7 with
      |(j8,row9)=>(
       (some (decide (j8>(a:Int)))).bind fun c10=>
       (gdO c10 (rdO row9 j8) (default:Aa)).bind fun x11=>
       (gdO c10 (rdO row9 (IntKind.wrap .i64 (j8-1))) (default:Aa)).bind fun x12=>
       (gdO c10 (D4 x11 x12) (default:Int)).bind fun x13=>
       if (c10&&(decide (x13<0)))=true then
        (rdO row9 (IntKind.wrap .i64 (j8-1))).bind fun x14=>
        (rdO row9 j8).bind fun x15=>
        (rdO row9 j8).bind fun x16=>
        (rdO (List.set row9 (Int.toNat j8) x14) (IntKind.wrap .i64 (j8-1))).bind fun x17=>
        some (.inl (IntKind.wrap .i64 (j8-1),(List.set (List.set row9 (Int.toNat j8) x14) (Int.toNat (IntKind.wrap .i64 (j8-1))) x15)))
       else
        some (.inr row9):Option ((Int×(List Aa))⊕(List Aa)))) (i5,row6)):Option (List Aa)).bind fun j7=>
    some (.inl (IntKind.wrap .i64 (i5+1),j7))
   else
    some (.inr row6):Option ((Int×(List Aa))⊕(List Aa)))) (((A.length+P.length:Nat):Int),A++P++Q++B)=some (A++Y++B)∧Y.Perm X∧Asc Y:=by
  intro Q
  induction Q with
  |nil=>
   intro P X0 hX hP hA
   have hl:=hP.length_eq
   refine⟨P,?_,by rw[hX,List.append_nil];exact hP,hA⟩
   rw[Bz (o:=A++P++B)]
   have:decide (((A.length+P.length:Nat):Int)<(b:Int))=false:=by rw[hX] at hb;simp at hb;simp;omega
   simp only[this,Bool.false_eq_true,if_false,List.append_nil]
  |cons y Q ih=>
   intro P X0 hX hP hA
   have hl:=hP.length_eq
   have hXl:X.length=X0.length+(Q.length+1):=by rw[hX];simp
   obtain⟨Q1,Q2,q1,q2,q3,q4⟩:=Agn (a:=a) (A:=A) (R:=Q++B) (y:=y) ha P [] (by omega) (by simp)
   rw[List.append_nil] at q2
   have hPy: ∀x∈Q1++Q2,x.Bc<y.Bc:=by
    intro x hx
    rw[q2] at hx
    have hx0:=hP.mem_iff.1 hx
    unfold Ids at hid
    rw[hX,List.pairwise_append] at hid
    exact hid.2.2 x hx0 y (by simp)
   have hA2:Asc (Q1++y::Q2):=Ak9 (by rw[q2];exact hA) hPy q3 q4
   obtain⟨Y,y1,y2,y3⟩:=ih (Q1++y::Q2) (X0++[y]) (by simp[hX]) (by
    refine(List.perm_middle).trans ?_
    rw[q2]
    exact(List.Perm.cons y hP).trans (List.perm_append_singleton y X0).symm) hA2
   refine⟨Y,?_,y2,y3⟩
   rw[←y1]
   have hd:decide (((A.length+P.length:Nat):Int)<(b:Int))=true:=by simp;omega
   have e1:A++P++y::Q++B=A++P++[y]++(Q++B):=by simp
   have hq2:=congrArg List.length q2
   simp only[List.length_append] at hq2
   rw[Cj]
   simp only[hd,if_true]
   rw[e1,q1]
   simp only[Option.bind_some,Option.some.injEq,Sum.inl.injEq,Prod.mk.injEq]
   refine⟨?_,by simp⟩
   rw[wN (n:=A.length+(Q1++y::Q2).length) (by simp;omega) (by simp;omega)]
 have h1:IntKind.wrap .i64 ((a:Int)+1)=((A.length+1:Nat):Int):=wN (by omega) (by omega)
 cases X with
 |nil=>
  refine⟨[],?_,List.Perm.refl _,List.Pairwise.nil⟩
  rw[h1,Bz (o:=A++[]++B)]
  ·rfl
  ·have:decide (((A.length+1:Nat):Int)<(b:Int))=false:=by simp at hb;simp;omega
   simp only[this,Bool.false_eq_true,if_false]
 |cons x X=>
  obtain⟨Y,y1,y2,y3⟩:=key X [x] [x] rfl (List.Perm.refl _) (by unfold Asc;simp)
  refine⟨Y,?_,y2,y3⟩
  rw[h1]
  have e:A++x::X++B=A++[x]++X++B:=by simp
  have e2:((A.length+[x].length:Nat):Int)=((A.length+1:Nat):Int):=rfl
  rw[e2] at y1
  rw[e,y1]
  rfl
theorem Ahl{a b n:Nat}(hn:n<4611686018427387000)(ha:a<1000000000000)(hb:b<1000000000000)(hnn:n<1000000000000): ∀(X Y A C B:List Aa) (i:Nat),X.length=Y.length→i+X.length=n→a+i=A.length→b+i=A.length+X.length+C.length→
  loopO (fun(qj5:Int×(List Aa))=>match qj5 with
  |(i6,row7)=>(
   if (decide (i6<(n:Int)))=true then
    (rdO row7 (IntKind.wrap .i64 ((b:Int)+i6))).bind fun x8=>
    (rdO row7 (IntKind.wrap .i64 ((a:Int)+i6))).bind fun x9=>
    (rdO row7 (IntKind.wrap .i64 ((a:Int)+i6))).bind fun x10=>
    (rdO (List.set row7 (Int.toNat (IntKind.wrap .i64 ((a:Int)+i6))) x8) (IntKind.wrap .i64 ((b:Int)+i6))).bind fun x11=>
    some (.inl (IntKind.wrap .i64 (i6+1),(List.set (List.set row7 (Int.toNat (IntKind.wrap .i64 ((a:Int)+i6))) x8) (Int.toNat (IntKind.wrap .i64 ((b:Int)+i6))) x9)))
   else
    some (.inr row7):Option ((Int×(List Aa))⊕(List Aa)))) ((i:Int),A++(X++(C++(Y++B))))=some (A++(Y++(C++(X++B)))):=by
 intro X
 induction X with
 |nil=>
  intro Y A C B i hl hi _ _
  obtain rfl:Y=[]:=List.length_eq_zero_iff.1 hl.symm
  rw[Bz]
  have:decide ((i:Int)<(n:Int))=false:=by simp at hi;simp;omega
  simp only[this,Bool.false_eq_true,if_false]
 |cons x X ih=>
  intro Y A C B i hl hi h1 h2
  cases Y with
  |nil=>simp at hl
  |cons y Y=>
   simp only[List.length_cons] at hl hi h2
   have hl:X.length=Y.length:=by omega
   have:=ih Y (A++[y]) (C++[x]) B (i+1) hl (by omega) (by simp;omega) (by simp;omega)
   have hd:decide ((i:Int)<(n:Int))=true:=by simp;omega
   have ea:IntKind.wrap .i64 ((a:Int)+(i:Int))=((a+i:Nat):Int):=wN (by omega) (by omega)
   have eb:IntKind.wrap .i64 ((b:Int)+(i:Int))=((b+i:Nat):Int):=wN (by omega) (by omega)
   have e1:A++(x::X++(C++(y::Y++B)))=(A++x::X++C)++y::(Y++B):=by simp
   have e2: ∀z,A++(z::X++(C++(y::Y++B)))=A++z::(X++(C++(y::Y++B))):=fun z=>by simp
   have r1:rdO (A++(x::X++(C++(y::Y++B)))) ((b+i:Nat):Int)=some y:=by
    rw[e1];exact Gy (by simp;omega)
   have r2:rdO (A++(x::X++(C++(y::Y++B)))) ((a+i:Nat):Int)=some x:=by
    rw[e2];exact Gy h1
   have s1:(A++(x::X++(C++(y::Y++B)))).set (a+i) y=(A++y::X++C)++y::(Y++B):=by
    rw[e2,Rd h1];simp
   have r3:rdO ((A++y::X++C)++y::(Y++B)) ((b+i:Nat):Int)=some y:=Gy (by simp;omega)
   have s2:((A++y::X++C)++y::(Y++B)).set (b+i) x=(A++y::X++C)++x::(Y++B):=Rd (by simp;omega)
   have ei:IntKind.wrap .i64 ((i:Int)+1)=((i+1:Nat):Int):=wN (by omega) (by omega)
   rw[Cj (s':=(((i+1:Nat):Int),(A++[y])++(X++((C++[x])++(Y++B)))))]
   ·rw[this];simp
   ·simp only[hd,if_true,ea,eb,r1,r2,Option.bind_some,Int.toNat_natCast,s1,r3,s2,ei,Option.some.injEq,Sum.inl.injEq,Prod.mk.injEq,true_and]
    simp
theorem Aaq{a b n:Nat}{A X C Y B:List Aa}(hl:(A++(X++(C++(Y++B)))).length<1000000000)(ha:a=A.length)(hx:X.length=n)(hy:Y.length=n)(hb:b=A.length+X.length+C.length):
  B8 (a:Int) (b:Int) (n:Int) (A++(X++(C++(Y++B))))=some (A++(Y++(C++(X++B)))):=by
 simp only[List.length_append] at hl
 unfold B8
 have:=Ahl (a:=a) (b:=b) (n:=n) (by omega) (by omega) (by omega) (by omega) X Y A C B 0 (by omega) (by omega) (by omega) (by omega)
 have e:((0:Nat):Int)=0:=rfl
 rw[e] at this
 rw[this]
 rfl
theorem Ai8{m:Nat}: ∀(k:Nat) (X Y A B:List Aa),X.length+Y.length≤k→X≠[]→Y≠[]→m=A.length+X.length→(A++(X++(Y++B))).length<1000000000→
  ((loopO (fun(qj5:Int×Int×(List Aa))=>match qj5 with
  |(i6,j7,row8)=>(
   if (i6 !=j7)=true then
    if (decide (i6>j7))=true then
     (B8 (IntKind.wrap .i64 ((m:Int)-i6)) (m:Int) j7 row8).bind fun x9=>
     some (.inl (IntKind.wrap .i64 (i6-j7),j7,x9))
    else
     (B8 (IntKind.wrap .i64 ((m:Int)-i6)) (IntKind.wrap .i64 ((IntKind.wrap .i64 ((m:Int)+j7))-i6)) i6 row8).bind fun x10=>
     some (.inl (i6,IntKind.wrap .i64 (j7-i6),x10))
   else
    some (.inr (i6,row8)):Option ((Int×Int×(List Aa))⊕(Int×(List Aa))))) ((X.length:Int),(Y.length:Int),A++(X++(Y++B)))):Option (Int×(List Aa))).bind (fun(i11,row12)=>
 (B8 (IntKind.wrap .i64 ((m:Int)-i11)) (m:Int) i11 row12).bind fun x13=>
 some x13)=some (A++(Y++(X++B))):=by
 intro k
 induction k with
 |zero=>
  intro X Y A B hk hX hY
  exact absurd (List.length_eq_zero_iff.1 (by omega:X.length=0)) hX
 |succ k ih=>
  intro X Y A B hk hX hY hm hl
  have hx0:0<X.length:=List.length_pos_iff.2 hX
  have hy0:0<Y.length:=List.length_pos_iff.2 hY
  have hl':=hl
  simp only[List.length_append] at hl
  have ew:IntKind.wrap .i64 ((m:Int)-(X.length:Int))=(A.length:Int):=wN (by omega) (by omega)
  by_cases heq:X.length=Y.length
  ·have hs:=Aaq (a:=A.length) (b:=m) (n:=X.length) (A:=A) (X:=X) (C:=[]) (Y:=Y) (B:=B) (by simpa using hl') rfl rfl heq.symm (by simpa using hm)
   rw[Bz (o:=((X.length:Int),A++(X++(Y++B))))]
   ·simp only[Option.bind_some,ew]
    rw[List.nil_append] at hs
    rw[hs]
    simp
   ·have:((X.length:Int)!=(Y.length:Int))=false:=by rw[heq];simp
    simp only[this,Bool.false_eq_true,if_false]
  ·have hne:((X.length:Int)!=(Y.length:Int))=true:=by simp;omega
   by_cases hgt:Y.length<X.length
   ·obtain⟨X1,X2,rfl,hX1⟩: ∃X1 X2,X=X1++X2∧X1.length=Y.length:=⟨X.take Y.length,X.drop Y.length,(List.take_append_drop _ _).symm,by rw[List.length_take];omega⟩
    simp only[List.length_append] at hgt hm hk hl heq hx0
    have hs:=Aaq (a:=A.length) (b:=m) (n:=Y.length) (A:=A) (X:=X1) (C:=X2) (Y:=Y) (B:=B) (by simpa using hl') rfl hX1 rfl (by omega)
    have hi:=ih X2 X1 (A++Y) B (by omega) (by intro e;subst e;simp at hgt;omega) (by intro e;subst e;simp at hX1;omega) (by simp only[List.length_append];omega) (by simp only[List.length_append];omega)
    rw[Cj (s':=((X2.length:Int),(X1.length:Int),(A++Y)++(X2++(X1++B)))),hi]
    ·simp
    ·have hg:decide (((X1++X2).length:Int)>(Y.length:Int))=true:=by simp;omega
     have e3:IntKind.wrap .i64 (((X1++X2).length:Int)-(Y.length:Int))=(X2.length:Int):=wN (by simp;omega) (by omega)
     have e4:A++(X1++X2++(Y++B))=A++(X1++(X2++(Y++B))):=by simp
     simp only[hne,if_true,hg,ew,e4,hs,Option.bind_some,e3,hX1,Option.some.injEq,Sum.inl.injEq,Prod.mk.injEq,true_and]
     simp
   ·obtain⟨Y1,Y2,rfl,hY2⟩: ∃Y1 Y2,Y=Y1++Y2∧Y2.length=X.length:=⟨Y.take (Y.length-X.length),Y.drop (Y.length-X.length),(List.take_append_drop _ _).symm,by rw[List.length_drop];omega⟩
    simp only[List.length_append] at hgt hk hl heq hy0
    have hs:=Aaq (a:=A.length) (b:=A.length+X.length+Y1.length) (n:=X.length) (A:=A) (X:=X) (C:=Y1) (Y:=Y2) (B:=B) (by simpa using hl') rfl rfl hY2 rfl
    have hi:=ih Y2 Y1 A (X++B) (by omega) (by intro e;subst e;simp at hY2;omega) (by intro e;subst e;simp at heq;omega) (by omega) (by simp only[List.length_append];omega)
    rw[Cj (s':=((Y2.length:Int),(Y1.length:Int),A++(Y2++(Y1++(X++B))))),hi]
    ·simp
    ·have hg:decide ((X.length:Int)>((Y1++Y2).length:Int))=false:=by simp;omega
     have e3:IntKind.wrap .i64 (((Y1++Y2).length:Int)-(X.length:Int))=(Y1.length:Int):=wN (by simp;omega) (by omega)
     have e4:A++(X++(Y1++Y2++B))=A++(X++(Y1++(Y2++B))):=by simp
     have e5:IntKind.wrap .i64 ((m:Int)+((Y1++Y2).length:Int))=((m+Y1.length+X.length:Nat):Int):=wN (by simp;omega) (by omega)
     have e6:IntKind.wrap .i64 (((m+Y1.length+X.length:Nat):Int)-(X.length:Int))=((A.length+X.length+Y1.length:Nat):Int):=wN (by omega) (by omega)
     simp only[hne,if_true,hg,Bool.false_eq_true,if_false,ew,e4,e5,e6,hs,Option.bind_some,e3,hY2]
theorem Axv{a m b:Nat}{A X Y B:List Aa}(hl:(A++(X++(Y++B))).length<1000000000)(ha:a=A.length)(hm:m=A.length+X.length)(hb:b=A.length+X.length+Y.length)(hX:X≠[])(hY:Y≠[]):
  Dn (a:Int) (m:Int) (b:Int) (A++(X++(Y++B)))=some (A++(Y++(X++B))):=by
 have h:=Ai8 (m:=m) _ X Y A B (Nat.le_refl _) hX hY hm hl
 simp only[List.length_append] at hl
 unfold Dn
 have e1:IntKind.wrap .i64 ((m:Int)-(a:Int))=(X.length:Int):=wN (by omega) (by omega)
 have e2:IntKind.wrap .i64 ((b:Int)-(m:Int))=(Y.length:Int):=wN (by omega) (by omega)
 rw[e1,e2]
 exact h
theorem Wp{f:Int×Int→Option ((Int×Int)⊕Int)}{lo hi:Nat}{lt:Nat→Bool}(hle:lo≤hi)
  (hin: ∀i j:Nat,lo≤i→i<j→j≤hi→f ((i:Int),(j:Int))=some (if lt ((i+j)/2)=true then .inl ((((i+j)/2+1:Nat):Int),(j:Int)) else .inl ((i:Int),(((i+j)/2:Nat):Int))))
  (hout: ∀i:Nat,f ((i:Int),(i:Int))=some (.inr (i:Int))):
  ∃k:Nat,lo≤k∧k≤hi∧loopO f ((lo:Int),(hi:Int))=some (k:Int)∧(lo<k→lt (k-1)=true)∧(k<hi→lt k=false):=by
 have key: ∀n i j:Nat,j-i≤n→lo≤i→i≤j→j≤hi→(lo<i→lt (i-1)=true)→(j<hi→lt j=false)→ ∃k:Nat,lo≤k∧k≤hi∧loopO f ((i:Int),(j:Int))=some (k:Int)∧(lo<k→lt (k-1)=true)∧(k<hi→lt k=false):=by
  intro n
  induction n with
  |zero=>
   intro i j h1 h0 h2 h3 h4 h5
   obtain rfl:i=j:=by omega
   exact⟨i,h0,h3,Bz (hout i),h4,h5⟩
  |succ n ih=>
   intro i j h1 h0 h2 h3 h4 h5
   by_cases hij:i=j
   ·subst hij
    exact⟨i,h0,h3,Bz (hout i),h4,h5⟩
   ·have:=hin i j h0 (by omega) h3
    cases hl:lt ((i+j)/2) with
    |true=>
     rw[hl,if_pos rfl] at this
     rw[Cj this]
     exact ih _ j (by omega) (by omega) (by omega) h3 (fun _=>by rw[Nat.add_sub_cancel];exact hl) h5
    |false=>
     rw[hl,if_neg (by simp)] at this
     rw[Cj this]
     exact ih i _ (by omega) h0 (by omega) (by omega) h4 (fun _=>hl)
 exact key (hi-lo) lo hi (Nat.le_refl _) (Nat.le_refl _) hle (Nat.le_refl _) (by omega) (by omega)
theorem Ajb{e:Nat}{u:Aa}: ∀(R1 A Z:List Aa) (k:Nat),k=A.length→k+R1.length=e→e<1000000000→
  loopO (fun(qj12:Int×(List Aa))=>match qj12 with
    |(k13,row14)=>(
     if (decide (k13<(e:Int)))=true then
      (rdO row14 (IntKind.wrap .i64 (k13+1))).bind fun x15=>
      (rdO row14 k13).bind fun x16=>
      (rdO row14 k13).bind fun x17=>
      (rdO (List.set row14 (Int.toNat k13) x15) (IntKind.wrap .i64 (k13+1))).bind fun x18=>
      some (.inl (IntKind.wrap .i64 (k13+1),(List.set (List.set row14 (Int.toNat k13) x15) (Int.toNat (IntKind.wrap .i64 (k13+1))) x16)))
     else
      some (.inr row14):Option ((Int×(List Aa))⊕(List Aa)))) ((k:Int),A++u::(R1++Z))=some (A++(R1++u::Z)):=by
 intro R1
 induction R1 with
 |nil=>
  intro A Z k hk he hb
  rw[Bz]
  have:decide ((k:Int)<(e:Int))=false:=by simp at he;simp;omega
  simp only[this,Bool.false_eq_true,if_false,List.nil_append]
 |cons r R1 ih=>
  intro A Z k hk he hb
  simp only[List.length_cons] at he
  have hd:decide ((k:Int)<(e:Int))=true:=by simp;omega
  have ew:IntKind.wrap .i64 ((k:Int)+1)=((k+1:Nat):Int):=wN (by omega) (by omega)
  have:=ih (A++[r]) Z (k+1) (by simp[hk]) (by omega) hb
  rw[Cj (s':=(((k+1:Nat):Int),(A++[r])++u::(R1++Z))),this]
  ·simp
  ·have e1:A++u::(r::R1++Z)=A++u::r::(R1++Z):=by simp
   simp only[hd,if_true,ew,e1,Gy hk,V2 (show k+1=A.length+1 by omega),Option.bind_some,Int.toNat_natCast,Rd hk,Xq (show k+1=A.length+1 by omega)]
   simp
theorem Aem{e:Nat}{A:List Aa}{v:Aa}(he:e=A.length): ∀(L2 Z:List Aa) (k:Nat),k=A.length+L2.length→k<1000000000→
  loopO (fun(qj27:Int×(List Aa))=>match qj27 with
     |(k28,row29)=>(
      if (decide (k28>(e:Int)))=true then
       (rdO row29 (IntKind.wrap .i64 (k28-1))).bind fun x30=>
       (rdO row29 k28).bind fun x31=>
       (rdO row29 k28).bind fun x32=>
       (rdO (List.set row29 (Int.toNat k28) x30) (IntKind.wrap .i64 (k28-1))).bind fun x33=>
       some (.inl (IntKind.wrap .i64 (k28-1),(List.set (List.set row29 (Int.toNat k28) x30) (Int.toNat (IntKind.wrap .i64 (k28-1))) x31)))
      else
       some (.inr row29):Option ((Int×(List Aa))⊕(List Aa)))) ((k:Int),A++(L2++v::Z))=some (A++v::(L2++Z)):=by
 intro L2
 induction hn:L2.length generalizing L2 with
 |zero=>
  intro Z k hk hb
  obtain rfl:L2=[]:=List.length_eq_zero_iff.1 hn
  rw[Bz]
  have:decide ((k:Int)>(e:Int))=false:=by simp;omega
  simp only[this,Bool.false_eq_true,if_false,List.nil_append]
 |succ n ih=>
  intro Z k hk hb
  rcases List.eq_nil_or_concat L2 with rfl|⟨L',z,rfl⟩
  ·simp at hn
  ·have hn':L'.length=n:=by simpa using hn
   have hd:decide ((k:Int)>(e:Int))=true:=by simp;omega
   have ew:IntKind.wrap .i64 ((k:Int)-1)=((A.length+n:Nat):Int):=wN (by omega) (by omega)
   have:=ih L' hn' (z::Z) (A.length+n) rfl (by omega)
   have e1:A++(L'.concat z++v::Z)=(A++L')++z::v::Z:=by simp
   have q1:A.length+n=(A++L').length:=by simp[hn']
   have q2:k=(A++L').length+1:=by simp[hn'];omega
   rw[Cj (s':=(((A.length+n:Nat):Int),A++(L'++v::(z::Z)))),this]
   ·simp
   ·simp only[hd,if_true,ew,e1,Gy q1,V2 q2,Option.bind_some,Int.toNat_natCast,Rd q1,Xq q2]
    simp
def Add(L R:List Aa):Prop:= ∀u∈L,∀v∈R,u.A9=v.A9→u.Bc<v.Bc
theorem Abl{R:List Aa}(hR:Asc R){p:Aa→Prop}(hp: ∀x y,bef x y→p y→p x){s:Nat}(hs:s≤R.length)(h1:0<s→ ∀h:s-1<R.length,p R[s-1])(h2: ∀h:s<R.length,¬p R[s]):
  (∀x∈R.take s,p x)∧(∀x∈R.drop s,¬p x):=by
 unfold Asc at hR
 rw[List.pairwise_iff_getElem] at hR
 constructor
 ·intro x hx
  obtain⟨i,hi,rfl⟩:=List.getElem_of_mem hx
  simp only[List.length_take] at hi
  rw[List.getElem_take]
  by_cases e:i=s-1
  ·subst e;exact h1 (by omega) (by omega)
  ·exact hp _ _ (hR i (s-1) (by omega) (by omega) (by omega)) (h1 (by omega) (by omega))
 ·intro x hx
  obtain⟨i,hi,rfl⟩:=List.getElem_of_mem hx
  simp only[List.length_drop] at hi
  rw[List.getElem_drop]
  by_cases e:i=0
  ·subst e;exact h2 (by omega)
  ·intro hc
   exact h2 (by omega) (hp _ _ (hR s (s+i) (by omega) (by omega) (by omega)) hc)
theorem Vy{X Y:List Aa}(h1:Asc X)(h2:Asc Y)(h: ∀x∈X,∀y∈Y,bef x y):Asc (X++Y):=List.pairwise_append.2 ⟨h1,h2,h⟩
theorem Aa8{x:Aa}{Y:List Aa}(h2:Asc Y)(h: ∀y∈Y,bef x y):Asc (x::Y):=List.pairwise_cons.2 ⟨h,h2⟩
theorem Sx{X:List Aa}(h:Asc X)(n:Nat):Asc (X.take n):=List.Pairwise.sublist (List.take_sublist n X) h
theorem Sw{X:List Aa}(h:Asc X)(n:Nat):Asc (X.drop n):=List.Pairwise.sublist (List.drop_sublist n X) h
theorem Al1{fuel:Nat}{A R B:List Aa}{u:Aa}{a m b:Nat}(ha:a=A.length)(hm:m=A.length+1)(hb:b=m+R.length)(hl:(A++([u]++(R++B))).length<1000000000)(hR:Asc R)(hT:Add [u] R):
  ∃M,Bg (fuel+1) (a:Int) (m:Int) (b:Int) (A++([u]++(R++B)))=some (A++(M++B))∧M.Perm ([u]++R)∧Asc M:=by
 have hl':=hl
 simp only[List.length_append,List.length_cons,List.length_nil] at hl
 obtain⟨row,hrow⟩: ∃row,A++([u]++(R++B))=row:=⟨_,rfl⟩
 have hga:rdO row (a:Int)=some u:=by rw[←hrow];exact Gy (B:=R++B) ha
 have hgr: ∀h (hh:h<R.length),rdO row ((m+h:Nat):Int)=some R[h]:=by
  intro h hh
  rw[Cm (by rw[←hrow];simp;omega)]
  subst hrow
  congr 1
  rw[List.getElem_append_right (by omega),List.getElem_append_right (by simp;omega),List.getElem_append_left (by simp;omega)]
  congr 1
  simp;omega
 obtain⟨k,k1,k2,k3,k4,k5⟩:=Wp (lo:=m) (hi:=b) (lt:=fun h=>(R[h-m]?).any fun x=>decide (u.A9<x.A9)) (f:=fun(qj5:Int×Int)=>match qj5 with
    |(i6,j7)=>(
     if (decide (i6<j7))=true then
      (rdO row (IntKind.wrap .i64 (Int.fdiv (IntKind.wrap .u64 (IntKind.wrap .i64 (i6+j7))) 2))).bind fun x8=>
      (rdO row (a:Int)).bind fun x9=>
      (D4 x8 x9).bind fun x10=>
      if (decide (x10<0))=true then
       some (.inl (IntKind.wrap .i64 ((IntKind.wrap .i64 (Int.fdiv (IntKind.wrap .u64 (IntKind.wrap .i64 (i6+j7))) 2))+1),j7))
      else
       some (.inl (i6,IntKind.wrap .i64 (Int.fdiv (IntKind.wrap .u64 (IntKind.wrap .i64 (i6+j7))) 2)))
     else
      some (.inr i6))) (by omega) (by
   intro i j h0 hij hj
   simp only[Adz hij (show j<4611686018427387904 by omega)]
   have hq:(i+j)/2=m+((i+j)/2-m):=by omega
   have hlt:(i+j)/2-m<R.length:=by omega
   have hd:decide ((i:Int)<(j:Int))=true:=by simp;omega
   rw[hd,if_pos rfl,hq,hgr _ hlt,hga]
   obtain⟨c,hc,hcd⟩:=Qr R[(i+j)/2-m] u
   have e:IntKind.wrap .i64 (((m+((i+j)/2-m):Nat):Int)+1)=((m+((i+j)/2-m)+1:Nat):Int):=wN (by omega) (by omega)
   simp only[Option.bind_some,hc,hcd,e,Nat.add_sub_cancel_left,List.getElem?_eq_getElem hlt,Option.any_some]
   split<;>rfl) (by
   intro i
   have hd:decide ((i:Int)<(i:Int))=false:=by simp
   simp only[hd,Bool.false_eq_true,if_false])
 obtain⟨s,hs⟩: ∃s,k=m+s:=⟨k-m,by omega⟩
 subst hs
 have hsl:s≤R.length:=by omega
 obtain⟨c1,c2⟩:=Abl hR (p:=fun x=>u.A9<x.A9) (by intro x y hxy hy;unfold bef at hxy;omega) hsl (fun h0 h=>by
   have:=k4 (by omega)
   rw[show m+s-1-m=s-1 by omega,List.getElem?_eq_getElem h] at this
   simpa using this) (fun h=>by
   have:=k5 (by omega)
   rw[show m+s-m=s by omega,List.getElem?_eq_getElem h] at this
   simpa using this)
 have hup:=Ajb (e:=a+s) (u:=u) (R.take s) A (R.drop s++B) a ha (by rw[List.length_take];omega) (by omega)
 refine⟨R.take s++u::R.drop s,?_,?_,?_⟩
 ·rw[Bg]
  have e1:(IntKind.wrap .i64 ((m:Int)-(a:Int))==1)=true:=by rw[wN (n:=1) (by omega) (by omega)];rfl
  have e2:IntKind.wrap .i64 (((m+s:Nat):Int)-1)=((a+s:Nat):Int):=wN (by omega) (by omega)
  rw[if_pos e1,hrow,k3]
  simp only[Option.bind_some,e2]
  have e3:row=A++u::(R.take s++(R.drop s++B)):=by rw[←hrow,←List.append_assoc (R.take s),List.take_append_drop];rfl
  rw[e3,hup]
  simp
 ·have:([u]++R)=u::(R.take s++R.drop s):=by rw[List.take_append_drop];rfl
  rw[this]
  exact List.perm_middle
 ·refine Vy (Sx hR s) (Aa8 (Sw hR s) fun y hy=>?_) (fun x hx y hy=>?_)
  ·have h1:=c2 y hy
   have h2:=hT u (by simp) y (List.mem_of_mem_drop hy)
   unfold bef;omega
  ·have h1:=c1 x hx
   rcases List.mem_cons.1 hy with rfl|hy
   ·exact .inl h1
   ·have h2:=c2 y hy
    unfold bef;omega
theorem Aji{fuel:Nat}{A L B:List Aa}{v:Aa}{a m b:Nat}(ha:a=A.length)(hm:m=A.length+L.length)(hb:b=m+1)(hl:(A++(L++([v]++B))).length<1000000000)(h1:L.length≠1)(hL:Asc L)(hT:Add L [v]):
  ∃M,Bg (fuel+1) (a:Int) (m:Int) (b:Int) (A++(L++([v]++B)))=some (A++(M++B))∧M.Perm (L++[v])∧Asc M:=by
 have hl':=hl
 simp only[List.length_append,List.length_cons,List.length_nil] at hl
 obtain⟨row,hrow⟩: ∃row,A++(L++([v]++B))=row:=⟨_,rfl⟩
 have hgm:rdO row (m:Int)=some v:=by rw[←hrow,←List.append_assoc];exact Gy (B:=B) (by simp[hm])
 have hgl: ∀h (hh:h<L.length),rdO row ((a+h:Nat):Int)=some L[h]:=by
  intro h hh
  rw[Cm (by rw[←hrow];simp;omega)]
  subst hrow
  congr 1
  rw[List.getElem_append_right (by omega),List.getElem_append_left (by omega)]
  congr 1
  omega
 obtain⟨k,k1,k2,k3,k4,k5⟩:=Wp (lo:=a) (hi:=m) (lt:=fun h=>(L[h-a]?).any fun x=> !decide (x.A9<v.A9)) (f:=fun(qj20:Int×Int)=>match qj20 with
        |(i21,j22)=>(
         if (decide (i21<j22))=true then
          (rdO row (m:Int)).bind fun x23=>
          (rdO row (IntKind.wrap .i64 (Int.fdiv (IntKind.wrap .u64 (IntKind.wrap .i64 (i21+j22))) 2))).bind fun x24=>
          (D4 x23 x24).bind fun x25=>
          if (!(decide (x25<0)))=true then
           some (.inl (IntKind.wrap .i64 ((IntKind.wrap .i64 (Int.fdiv (IntKind.wrap .u64 (IntKind.wrap .i64 (i21+j22))) 2))+1),j22))
          else
           some (.inl (i21,IntKind.wrap .i64 (Int.fdiv (IntKind.wrap .u64 (IntKind.wrap .i64 (i21+j22))) 2)))
         else
          some (.inr i21))) (by omega) (by
   intro i j h0 hij hj
   simp only[Adz hij (show j<4611686018427387904 by omega)]
   have hq:(i+j)/2=a+((i+j)/2-a):=by omega
   have hlt:(i+j)/2-a<L.length:=by omega
   have hd:decide ((i:Int)<(j:Int))=true:=by simp;omega
   rw[hd,if_pos rfl,hq,hgl _ hlt,hgm]
   obtain⟨c,hc,hcd⟩:=Qr v L[(i+j)/2-a]
   have e:IntKind.wrap .i64 (((a+((i+j)/2-a):Nat):Int)+1)=((a+((i+j)/2-a)+1:Nat):Int):=wN (by omega) (by omega)
   simp only[Option.bind_some,hc,hcd,e,Nat.add_sub_cancel_left,List.getElem?_eq_getElem hlt,Option.any_some]
   split<;>rfl) (by
   intro i
   have hd:decide ((i:Int)<(i:Int))=false:=by simp
   simp only[hd,Bool.false_eq_true,if_false])
 obtain⟨s,hs⟩: ∃s,k=a+s:=⟨k-a,by omega⟩
 subst hs
 have hsl:s≤L.length:=by omega
 obtain⟨c1,c2⟩:=Abl hL (p:=fun x=> ¬x.A9<v.A9) (by intro x y hxy hy;unfold bef at hxy;omega) hsl (fun h0 h=>by
   have:=k4 (by omega)
   rw[show a+s-1-a=s-1 by omega,List.getElem?_eq_getElem h] at this
   simpa using this) (fun h=>by
   have:=k5 (by omega)
   rw[show a+s-a=s by omega,List.getElem?_eq_getElem h] at this
   simpa using this)
 have hdn:=Aem (e:=a+s) (A:=A++L.take s) (v:=v) (by rw[List.length_append,List.length_take];omega) (L.drop s) B m (by rw[List.length_append,List.length_take,List.length_drop];omega) (by omega)
 refine⟨L.take s++v::L.drop s,?_,?_,?_⟩
 ·rw[Bg]
  have e1: ¬(IntKind.wrap .i64 ((m:Int)-(a:Int))==1)=true:=by rw[wN (n:=L.length) (by omega) (by omega)];simp;omega
  have e2:(IntKind.wrap .i64 ((b:Int)-(m:Int))==1)=true:=by rw[wN (n:=1) (by omega) (by omega)];rfl
  rw[if_neg e1,if_pos e2,hrow,k3]
  simp only[Option.bind_some]
  have e3:row=(A++L.take s)++(L.drop s++v::B):=by
   rw[←hrow,List.append_assoc,←List.append_assoc (L.take s),List.take_append_drop];rfl
  rw[e3,hdn]
  simp
 ·have:(L++[v])=(L.take s++L.drop s)++[v]:=by rw[List.take_append_drop]
  rw[this]
  exact(List.perm_middle).trans (List.perm_append_singleton v _).symm
 ·refine Vy (Sx hL s) (Aa8 (Sw hL s) fun y hy=>?_) (fun x hx y hy=>?_)
  ·have h1:=c2 y hy
   exact .inl (Classical.not_not.1 h1)
  ·have h1:=c1 x hx
   rcases List.mem_cons.1 hy with rfl|hy
   ·have h2:=hT x (List.mem_of_mem_take hx) y (by simp)
    unfold bef;omega
   ·have h2:=Classical.not_not.1 (c2 y hy)
    unfold bef;omega
theorem Vz{X:List Aa}(h:Asc X){i j:Nat}(hj:j<X.length)(hij:i<j):bef (X[i]'(by omega)) X[j]:=(List.pairwise_iff_getElem.1 h) i j (by omega) hj hij
theorem Ale{L R:List Aa}(hL:Asc L)(hR:Asc R)(hT:Add L R){s e:Nat}(hs:s≤L.length)(h:0<s→ ∀(h1:s-1<L.length) (h2:e<R.length),¬(L[s-1]).A9<(R[e]).A9): ∀u∈L.take s,∀v∈R.drop e,bef u v:=by
 intro u hu v hv
 obtain⟨i,hi,rfl⟩:=List.getElem_of_mem hu
 obtain⟨j,hj,rfl⟩:=List.getElem_of_mem hv
 simp only[List.length_take,List.length_drop] at hi hj
 rw[List.getElem_take,List.getElem_drop]
 have h0:=h (by omega) (by omega) (by omega)
 have ht:=hT (L[s-1]'(by omega)) (List.getElem_mem _) (R[e]'(by omega)) (List.getElem_mem _)
 have hm:bef (L[s-1]'(by omega)) (R[e]'(by omega)):=by unfold bef;omega
 have h1:bef (L[i]'(by omega)) (R[e]'(by omega)):=by
  by_cases q:i=s-1
  ·subst q;exact hm
  ·exact Qp (Vz hL (by omega) (by omega)) hm
 by_cases q:j=0
 ·subst q;exact h1
 ·exact Qp h1 (Vz hR (by omega) (by omega))
theorem Ain{L R:List Aa}(hL:Asc L)(hR:Asc R){s e:Nat}(he:e≤R.length)(h:0<e→ ∀(h1:s<L.length) (h2:e-1<R.length),(L[s]).A9<(R[e-1]).A9): ∀v∈R.take e,∀u∈L.drop s,bef v u:=by
 intro v hv u hu
 obtain⟨i,hi,rfl⟩:=List.getElem_of_mem hv
 obtain⟨j,hj,rfl⟩:=List.getElem_of_mem hu
 simp only[List.length_take,List.length_drop] at hi hj
 rw[List.getElem_take,List.getElem_drop]
 have hm:bef (R[e-1]'(by omega)) (L[s]'(by omega)):= .inl (h (by omega) (by omega) (by omega))
 have h1:bef (R[i]'(by omega)) (L[s]'(by omega)):=by
  by_cases q:i=e-1
  ·subst q;exact hm
  ·exact Qp (Vz hR (by omega) (by omega)) hm
 by_cases q:j=0
 ·subst q;exact h1
 ·exact Qp h1 (Vz hL (by omega) (by omega))
theorem Ac2{L R L' R':List Aa}(h:Add L R)(h1: ∀x∈L',x∈L)(h2: ∀x∈R',x∈R):Add L' R':=fun u hu v hv=>h u (h1 u hu) v (h2 v hv)
theorem Acz: ∀(fuel:Nat) (A L R B:List Aa) (a m b:Nat),a=A.length→m=A.length+L.length→b=m+R.length→(A++(L++(R++B))).length<1000000000→L.length+R.length≤fuel→L≠[]→R≠[]→Asc L→Asc R→Add L R→
  ∃M,Bg fuel (a:Int) (m:Int) (b:Int) (A++(L++(R++B)))=some (A++(M++B))∧M.Perm (L++R)∧Asc M:=by
 intro fuel
 induction fuel with
 |zero=>
  intro A L R B a m b _ _ _ _ hf hLn
  exact absurd (List.length_eq_zero_iff.1 (by omega:L.length=0)) hLn
 |succ fuel ih=>
  intro A L R B a m b ha hm hb hl hf hLn hRn hL hR hT
  have hl0:0<L.length:=List.length_pos_iff.2 hLn
  have hr0:0<R.length:=List.length_pos_iff.2 hRn
  by_cases h1:L.length=1
  ·obtain⟨u,rfl⟩:=List.length_eq_one_iff.1 h1
   exact Al1 ha (by simpa using hm) hb hl hR hT
  by_cases h2:R.length=1
  ·obtain⟨v,rfl⟩:=List.length_eq_one_iff.1 h2
   exact Aji ha hm (by simpa using hb) hl h1 hL hT
  have hl':=hl
  simp only[List.length_append] at hl
  obtain⟨row,hrow⟩: ∃row,A++(L++(R++B))=row:=⟨_,rfl⟩
  have hgl: ∀h (hh:h<L.length),rdO row ((a+h:Nat):Int)=some L[h]:=by
   intro h hh
   rw[Cm (by rw[←hrow];simp;omega)]
   subst hrow
   congr 1
   rw[List.getElem_append_right (by omega),List.getElem_append_left (by omega)]
   congr 1
   omega
  have hgr: ∀h (hh:h<R.length),rdO row ((m+h:Nat):Int)=some R[h]:=by
   intro h hh
   rw[Cm (by rw[←hrow];simp;omega)]
   subst hrow
   congr 1
   rw[List.getElem_append_right (by omega),List.getElem_append_right (by omega),List.getElem_append_left (by omega)]
   congr 1
   omega
  obtain⟨mid,hmid⟩: ∃mid,mid=(a+b)/2:=⟨_,rfl⟩
  have hab:a<b:=by omega
  have em:IntKind.wrap .i64 (Int.fdiv (IntKind.wrap .u64 (IntKind.wrap .i64 ((a:Int)+(b:Int)))) 2)=(mid:Int):=by rw[Adz hab (by omega),hmid]
  have en:IntKind.wrap .i64 ((mid:Int)+(m:Int))=((mid+m:Nat):Int):=wN (by omega) (by omega)
  obtain⟨st,rr,hst,hsr,hsm,hs0,hs1,hs2,hs3,hif⟩: ∃st rr:Nat,(a≤st)∧st≤rr∧rr≤mid∧(st=a∨mid+m-st=b)∧(rr=m∨mid+m-rr=m)∧rr≤m∧mid+m-st≤b∧((if (decide ((m:Int)>(mid:Int)))=true then
     some (IntKind.wrap .i64 (((mid+m:Nat):Int)-(b:Int)),(mid:Int))
    else
     some ((a:Int),(m:Int))):Option (Int×Int))=some ((st:Int),(rr:Int)):=by
   by_cases h:mid<m
   ·refine⟨mid+m-b,mid,by omega,by omega,by omega,.inr (by omega),.inr (by omega),by omega,by omega,?_⟩
    rw[if_pos (by simp;omega),wN (n:=mid+m-b) (by omega) (by omega)]
   ·refine⟨a,m,by omega,by omega,by omega,.inl rfl,.inl rfl,by omega,by omega,?_⟩
    rw[if_neg (by simp;omega)]
  have hrr:mid+m-rr≥m:=by omega
  obtain⟨k,k1,k2,k3,k4,k5⟩:=Wp (lo:=st) (hi:=rr) (lt:=fun c=> !decide (((L[c-a]?).any fun x=>(R[mid+m-1-c-m]?).any fun y=>decide (x.A9<y.A9))=true)) (f:=fun(qj38:Int×Int)=>match qj38 with
     |(start39,r40)=>(
      if (decide (start39<r40))=true then
       (rdO row (IntKind.wrap .i64 ((IntKind.wrap .i64 (((mid+m:Nat):Int)-1))-(IntKind.wrap .i64 (Int.fdiv (IntKind.wrap .u64 (IntKind.wrap .i64 (start39+r40))) 2))))).bind fun x41=>
       (rdO row (IntKind.wrap .i64 (Int.fdiv (IntKind.wrap .u64 (IntKind.wrap .i64 (start39+r40))) 2))).bind fun x42=>
       (D4 x41 x42).bind fun x43=>
       if (!(decide (x43<0)))=true then
        some (.inl (IntKind.wrap .i64 ((IntKind.wrap .i64 (Int.fdiv (IntKind.wrap .u64 (IntKind.wrap .i64 (start39+r40))) 2))+1),r40))
       else
        some (.inl (start39,IntKind.wrap .i64 (Int.fdiv (IntKind.wrap .u64 (IntKind.wrap .i64 (start39+r40))) 2)))
      else
       some (.inr start39))) hsr (by
    intro i j h0 hij hj
    simp only[Adz hij (show j<4611686018427387904 by omega)]
    have hq:(i+j)/2=a+((i+j)/2-a):=by omega
    have hc1:(i+j)/2-a<L.length:=by omega
    have hc2:mid+m-1-(i+j)/2-m<R.length:=by omega
    have hd:decide ((i:Int)<(j:Int))=true:=by simp;omega
    have ep:IntKind.wrap .i64 ((IntKind.wrap .i64 (((mid+m:Nat):Int)-1))-(((i+j)/2:Nat):Int))=((m+(mid+m-1-(i+j)/2-m):Nat):Int):=by
     have e0:IntKind.wrap .i64 (((mid+m:Nat):Int)-1)=((mid+m-1:Nat):Int):=wN (by omega) (by omega)
     rw[e0]
     exact wN (by omega) (by omega)
    rw[hd,if_pos rfl,ep,hgr _ hc2]
    have e:IntKind.wrap .i64 ((((i+j)/2:Nat):Int)+1)=(((i+j)/2+1:Nat):Int):=wN (by omega) (by omega)
    have hg2:rdO row (((i+j)/2:Nat):Int)=some L[(i+j)/2-a]:=by have:=hgl _ hc1;rwa [←hq] at this
    obtain⟨c,hc,hcd⟩:=Qr R[mid+m-1-(i+j)/2-m] L[(i+j)/2-a]
    simp only[Option.bind_some,hg2,hc,hcd,e,List.getElem?_eq_getElem hc1,List.getElem?_eq_getElem hc2,Option.any_some,decide_eq_true_eq]
    split<;>rfl) (by
    intro i
    have hd:decide ((i:Int)<(i:Int))=false:=by simp
    simp only[hd,Bool.false_eq_true,if_false])
  obtain⟨s,hs⟩: ∃s,k=a+s:=⟨k-a,by omega⟩
  obtain⟨e,he⟩: ∃e,mid+m-k=m+e:=⟨mid+m-k-m,by omega⟩
  have hsl:s≤L.length:=by omega
  have hel:e≤R.length:=by omega
  have hlow: ∀u∈L.take s,∀v∈R.drop e,bef u v:=Ale hL hR hT hsl (fun h0 q1 q2 hc=>by
   have hk:st<k:=by omega
   have:=k4 hk
   rw[show k-1-a=s-1 by omega,show mid+m-1-(k-1)-m=e by omega,List.getElem?_eq_getElem q1,List.getElem?_eq_getElem q2] at this
   simp only[Option.any_some,decide_eq_true_eq,Bool.not_eq_true',decide_eq_false_iff_not] at this
   exact this hc)
  have hhigh: ∀v∈R.take e,∀u∈L.drop s,bef v u:=Ain hL hR hel (fun h0 q1 q2=>by
   have hk:k<rr:=by omega
   have:=k5 hk
   rw[show k-a=s by omega,show mid+m-1-k-m=e-1 by omega,List.getElem?_eq_getElem q1,List.getElem?_eq_getElem q2] at this
   simpa using this)
  obtain⟨L1,hL1⟩: ∃x,L.take s=x:=⟨_,rfl⟩
  obtain⟨L2,hL2⟩: ∃x,L.drop s=x:=⟨_,rfl⟩
  obtain⟨R1,hR1⟩: ∃x,R.take e=x:=⟨_,rfl⟩
  obtain⟨R2,hR2⟩: ∃x,R.drop e=x:=⟨_,rfl⟩
  have eL:L=L1++L2:=by rw[←hL1,←hL2,List.take_append_drop]
  have eR:R=R1++R2:=by rw[←hR1,←hR2,List.take_append_drop]
  have n1:L1.length=s:=by rw[←hL1,List.length_take];omega
  have n2:L2.length=L.length-s:=by rw[←hL2,List.length_drop]
  have n3:R1.length=e:=by rw[←hR1,List.length_take];omega
  have n4:R2.length=R.length-e:=by rw[←hR2,List.length_drop]
  have aL1:Asc L1:=hL1▸Sx hL s
  have aL2:Asc L2:=hL2▸Sw hL s
  have aR1:Asc R1:=hR1▸Sx hR e
  have aR2:Asc R2:=hR2▸Sw hR e
  rw[hL1,hR2] at hlow
  rw[hR1,hL2] at hhigh
  have cL: ∀x∈L1,∀y∈L2,bef x y:=by have:=hL;unfold Asc at this;rw[eL,List.pairwise_append] at this;exact this.2.2
  have cR: ∀x∈R1,∀y∈R2,bef x y:=by have:=hR;unfold Asc at this;rw[eR,List.pairwise_append] at this;exact this.2.2
  have ek:IntKind.wrap .i64 (((mid+m:Nat):Int)-(k:Int))=((m+e:Nat):Int):=wN (by omega) (by omega)
  have hrot:((if (decide ((k:Int)<(m:Int))&&(decide ((m:Int)<((m+e:Nat):Int))))=true then
     (Dn (k:Int) (m:Int) ((m+e:Nat):Int) row).bind fun x47=>
     some x47
    else
     some row):Option (List Aa))=some (A++(L1++(R1++(L2++(R2++B))))):=by
   by_cases hc:k<m∧0<e
   ·rw[if_pos (by simp;omega)]
    have:=Axv (a:=k) (m:=m) (b:=m+e) (A:=A++L1) (X:=L2) (Y:=R1) (B:=R2++B) (by simp;omega) (by simp;omega) (by simp;omega) (by simp;omega) (by intro q;subst q;simp at n2;omega) (by intro q;subst q;simp at n3;omega)
    have er:row=(A++L1)++(L2++(R1++(R2++B))):=by rw[←hrow,eL,eR];simp
    rw[er,this]
    simp
   ·rw[if_neg (by simp;omega),←hrow,eL,eR]
    by_cases q:k<m
    ·obtain rfl:R1=[]:=List.length_eq_zero_iff.1 (by omega)
     simp
    ·obtain rfl:L2=[]:=List.length_eq_zero_iff.1 (by omega)
     simp
  obtain⟨M1,hM1,pM1,aM1⟩: ∃M1,((if (decide ((a:Int)<(k:Int))&&(decide ((k:Int)<(mid:Int))))=true then
     (Bg fuel (a:Int) (k:Int) (mid:Int) (A++(L1++(R1++(L2++(R2++B)))))).bind fun x51=>
     some x51
    else
     some (A++(L1++(R1++(L2++(R2++B)))))):Option (List Aa))=some (A++(M1++(L2++(R2++B))))∧M1.Perm (L1++R1)∧Asc M1:=by
   by_cases hc:a<k∧k<mid
   ·obtain⟨M1,q1,q2,q3⟩:=ih A L1 R1 (L2++(R2++B)) a k mid ha (by omega) (by omega) (by simp;omega) (by omega) (by intro q;subst q;simp at n1;omega) (by intro q;subst q;simp at n3;omega) aL1 aR1 (Ac2 hT (fun x hx=>by rw[eL];simp[hx]) (fun x hx=>by rw[eR];simp[hx]))
    exact⟨M1,by rw[if_pos (by simp;omega),q1];rfl,q2,q3⟩
   ·refine⟨L1++R1,by rw[if_neg (by simp;omega)];simp,List.Perm.refl _,?_⟩
    by_cases q:a<k
    ·obtain rfl:R1=[]:=List.length_eq_zero_iff.1 (by omega)
     rw[List.append_nil];exact aL1
    ·obtain rfl:L1=[]:=List.length_eq_zero_iff.1 (by omega)
     exact aR1
  have nM1:M1.length=s+e:=by rw[pM1.length_eq,List.length_append,n1,n3]
  obtain⟨M2,hM2,pM2,aM2⟩: ∃M2,((if (decide ((mid:Int)<((m+e:Nat):Int))&&(decide (((m+e:Nat):Int)<(b:Int))))=true then
     (Bg fuel (mid:Int) ((m+e:Nat):Int) (b:Int) (A++(M1++(L2++(R2++B))))).bind fun x54=>
     some x54
    else
     some (A++(M1++(L2++(R2++B))))):Option (List Aa))=some (A++(M1++(M2++B)))∧M2.Perm (L2++R2)∧Asc M2:=by
   by_cases hc:mid<m+e∧m+e<b
   ·obtain⟨M2,q1,q2,q3⟩:=ih (A++M1) L2 R2 B mid (m+e) b (by simp;omega) (by simp;omega) (by omega) (by simp;omega) (by omega) (by intro q;subst q;simp at n2;omega) (by intro q;subst q;simp at n4;omega) aL2 aR2 (Ac2 hT (fun x hx=>by rw[eL];simp[hx]) (fun x hx=>by rw[eR];simp[hx]))
    refine⟨M2,?_,q2,q3⟩
    have e1:A++(M1++(L2++(R2++B)))=(A++M1)++(L2++(R2++B)):=by simp
    rw[if_pos (by simp;omega),e1,q1]
    simp
   ·refine⟨L2++R2,by rw[if_neg (by simp;omega)];simp,List.Perm.refl _,?_⟩
    by_cases q:mid<m+e
    ·obtain rfl:R2=[]:=List.length_eq_zero_iff.1 (by omega)
     rw[List.append_nil];exact aL2
    ·obtain rfl:L2=[]:=List.length_eq_zero_iff.1 (by omega)
     exact aR2
  refine⟨M1++M2,?_,?_,?_⟩
  ·rw[Bg]
   have e1: ¬(IntKind.wrap .i64 ((m:Int)-(a:Int))==1)=true:=by rw[wN (n:=L.length) (by omega) (by omega)];simp;omega
   have e2: ¬(IntKind.wrap .i64 ((b:Int)-(m:Int))==1)=true:=by rw[wN (n:=R.length) (by omega) (by omega)];simp;omega
   rw[if_neg e1,if_neg e2]
   simp only[em,en,hif,Option.bind_some,hrow,k3,ek,hrot,hM1]
   rw[hM2]
   simp
  ·refine(pM1.append pM2).trans ?_
   rw[eL,eR]
   simp only[List.append_assoc]
   refine List.Perm.append_left L1 ?_
   rw[←List.append_assoc,←List.append_assoc]
   exact List.Perm.append_right R2 List.perm_append_comm
  ·refine Vy aM1 aM2 (fun x hx y hy=>?_)
   have hx:=pM1.mem_iff.1 hx
   have hy:=pM2.mem_iff.1 hy
   simp only[List.mem_append] at hx hy
   rcases hx with hx|hx<;>rcases hy with hy|hy
   ·exact cL x hx y hy
   ·exact hlow x hx y hy
   ·exact hhigh x hx y hy
   ·exact cR x hx y hy
inductive J9 (bs:Nat):List Aa→List Aa→Prop
 |last (d o:List Aa) (h:d.length≤bs) (p:d.Perm o) (s:Asc d):J9 bs d o
 |more (d o r l:List Aa) (h:d.length=bs) (p:d.Perm o) (s:Asc d) (t:J9 bs r l):J9 bs (d++r) (o++l)
theorem J9.perm{bs:Nat}{r l:List Aa}(h:J9 bs r l):r.Perm l:=by
 induction h with
 |last d o _ p _=>exact p
 |more d o r l _ p _ _ ih=>exact p.append ih
theorem J9.one{bs:Nat}{r l:List Aa}(h:J9 bs r l)(hl:r.length≤bs):Asc r:=by
 cases h with
 |last d o _ p s=>exact s
 |more d o r l h p s t=>
  simp only[List.length_append] at hl
  obtain rfl:r=[]:=List.length_eq_zero_iff.1 (by omega)
  rw[List.append_nil];exact s
theorem Oq{X Y:List Aa}(h:Ids (X++Y)):Ids X∧Ids Y∧ ∀x∈X,∀y∈Y,x.Bc<y.Bc:=by
 unfold Ids at h
 exact List.pairwise_append.1 h
theorem Bdw{n:Nat}(hn:n<1000000): ∀(k:Nat) (E A:List Aa),E.length≤k→Ids E→n=A.length+E.length→
  ∃E',((loopO (fun(qj3:Int×Int×(List Aa))=>match qj3 with
  |(a4,b5,row6)=>(
   if (decide (b5≤(n:Int)))=true then
    (Cc a4 b5 row6).bind fun x7=>
    some (.inl (b5,IntKind.wrap .i64 (b5+20),x7))
   else
    some (.inr (a4,row6)):Option ((Int×Int×(List Aa))⊕(Int×(List Aa))))) ((A.length:Int),((A.length+20:Nat):Int),A++E)):Option (Int×(List Aa))).bind (fun(a8,row9)=>
 (Cc a8 (n:Int) row9))=some (A++E')∧J9 20 E' E:=by
 intro k
 induction k with
 |zero=>
  intro E A hk hI hN
  obtain rfl:E=[]:=List.length_eq_zero_iff.1 (by omega)
  rw[Bz (o:=((A.length:Int),A++[]))]
  ·obtain⟨Y,y1,y2,y3⟩:=Sh (A:=A) (X:=[]) (B:=[]) (a:=A.length) (b:=n) rfl (by simpa using hN) (by simp at hN⊢;omega) hI
   simp only[List.append_nil] at y1
   exact⟨Y,by simpa using y1,.last _ _ (by rw[y2.length_eq];simp) y2 y3⟩
  ·have:decide (((A.length+20:Nat):Int)≤(n:Int))=false:=by simp at hN;simp;omega
   simp only[this,Bool.false_eq_true,if_false]
 |succ k ih=>
  intro E A hk hI hN
  by_cases h20:20≤E.length
  ·obtain⟨X,E2,rfl,hX⟩: ∃X E2,E=X++E2∧X.length=20:=⟨E.take 20,E.drop 20,(List.take_append_drop _ _).symm,by rw[List.length_take];omega⟩
   simp only[List.length_append] at hk hN
   obtain⟨i1,i2,_⟩:=Oq hI
   obtain⟨Y,y1,y2,y3⟩:=Sh (A:=A) (X:=X) (B:=E2) (a:=A.length) (b:=A.length+20) rfl (by omega) (by simp;omega) i1
   have hY:=y2.length_eq
   obtain⟨E',e1,e2⟩:=ih E2 (A++Y) (by omega) i2 (by simp;omega)
   refine⟨Y++E',?_,.more _ _ _ _ (by omega) y2 y3 e2⟩
   rw[Cj (s':=(((A++Y).length:Int),(((A++Y).length+20:Nat):Int),(A++Y)++E2)),e1]
   ·simp
   ·have hd:decide (((A.length+20:Nat):Int)≤(n:Int))=true:=by simp;omega
    have e3:A++(X++E2)=A++X++E2:=by simp
    have e4:IntKind.wrap .i64 (((A.length+20:Nat):Int)+20)=(((A++Y).length+20:Nat):Int):=wN (by simp;omega) (by simp;omega)
    have e5:((A.length+20:Nat):Int)=(((A++Y).length:Nat):Int):=by simp;omega
    simp only[hd,if_true,e3,y1,Option.bind_some,e4]
    rw[e5]
  ·rw[Bz (o:=((A.length:Int),A++E))]
   ·obtain⟨Y,y1,y2,y3⟩:=Sh (A:=A) (X:=E) (B:=[]) (a:=A.length) (b:=n) rfl hN (by simp;omega) hI
    simp only[List.append_nil] at y1
    exact⟨Y,by simpa using y1,.last _ _ (by rw[y2.length_eq];omega) y2 y3⟩
   ·have:decide (((A.length+20:Nat):Int)≤(n:Int))=false:=by simp;omega
    simp only[this,Bool.false_eq_true,if_false]
theorem Afv{d1 d2 o1 o2:List Aa}(p1:d1.Perm o1)(p2:d2.Perm o2)(h: ∀x∈o1,∀y∈o2,x.Bc<y.Bc):Add d1 d2:=fun u hu v hv _=>h u (p1.mem_iff.1 hu) v (p2.mem_iff.1 hv)
theorem Bdx{n bs:Nat}(hn:n≤1000)(hb0:0<bs)(hb:bs≤1000): ∀(k:Nat) (row l A:List Aa),row.length≤k→J9 bs row l→Ids l→n=A.length+row.length→
  ∃row',((loopO (fun(qj14:Int×Int×(List Aa))=>match qj14 with
     |(a15,b16,row17)=>(
      if (decide (b16≤(n:Int)))=true then
       (Bg 1000 a15 (IntKind.wrap .i64 (a15+(bs:Int))) b16 row17).bind fun x18=>
       some (.inl (b16,IntKind.wrap .i64 (b16+(IntKind.wrap .i64 (2*(bs:Int)))),x18))
      else
       some (.inr (a15,row17)):Option ((Int×Int×(List Aa))⊕(Int×(List Aa))))) ((A.length:Int),((A.length+2*bs:Nat):Int),A++row)):Option (Int×(List Aa))).bind (fun(a19,row20)=>
    ((if (decide ((IntKind.wrap .i64 (a19+(bs:Int)))<(n:Int)))=true then
      (Bg 1000 a19 (IntKind.wrap .i64 (a19+(bs:Int))) (n:Int) row20).bind fun x22=>
      some x22
    else
     some row20):Option (List Aa)))=some (A++row')∧J9 (2*bs) row' l:=by
 intro k
 induction k with
 |zero=>
  intro row l A hk hc hI hN
  obtain rfl:row=[]:=List.length_eq_zero_iff.1 (by omega)
  simp only[List.length_nil,Nat.add_zero] at hN
  refine⟨[],?_,.last _ _ (by simp) hc.perm (by unfold Asc;simp)⟩
  rw[Bz (o:=((A.length:Int),A++[]))]
  ·have ew:IntKind.wrap .i64 ((A.length:Int)+(bs:Int))=((A.length+bs:Nat):Int):=wN (by omega) (by omega)
   have:decide (((A.length+bs:Nat):Int)<(n:Int))=false:=by simp;omega
   simp only[Option.bind_some,ew,this,Bool.false_eq_true,if_false]
  ·have:decide (((A.length+2*bs:Nat):Int)≤(n:Int))=false:=by simp;omega
   simp only[this,Bool.false_eq_true,if_false]
 |succ k ih=>
  intro row l A hk hc hI hN
  have ew:IntKind.wrap .i64 ((A.length:Int)+(bs:Int))=((A.length+bs:Nat):Int):=wN (by omega) (by omega)
  have two: ∀(d o d2 o2 r2 l2:List Aa),row=d++(d2++r2)→l=o++(o2++l2)→d.length=bs→d2.length=bs→d.Perm o→d2.Perm o2→Asc d→Asc d2→J9 bs r2 l2→ ∃row',((loopO (fun(qj14:Int×Int×(List Aa))=>match qj14 with
     |(a15,b16,row17)=>(
      if (decide (b16≤(n:Int)))=true then
       (Bg 1000 a15 (IntKind.wrap .i64 (a15+(bs:Int))) b16 row17).bind fun x18=>
       some (.inl (b16,IntKind.wrap .i64 (b16+(IntKind.wrap .i64 (2*(bs:Int)))),x18))
      else
       some (.inr (a15,row17)):Option ((Int×Int×(List Aa))⊕(Int×(List Aa))))) ((A.length:Int),((A.length+2*bs:Nat):Int),A++row)):Option (Int×(List Aa))).bind (fun(a19,row20)=>
    ((if (decide ((IntKind.wrap .i64 (a19+(bs:Int)))<(n:Int)))=true then
      (Bg 1000 a19 (IntKind.wrap .i64 (a19+(bs:Int))) (n:Int) row20).bind fun x22=>
      some x22
    else
     some row20):Option (List Aa)))=some (A++row')∧J9 (2*bs) row' l:=by
   intro d o d2 o2 r2 l2 er el h1 h2 p1 p2 s1 s2 t2
   subst er;subst el
   simp only[List.length_append] at hk hN
   obtain⟨i1,i2,i3⟩:=Oq hI
   obtain⟨i4,i5,i6⟩:=Oq i2
   obtain⟨M,m1,m2,m3⟩:=Acz 1000 A d d2 r2 A.length (A.length+bs) (A.length+2*bs) rfl (by omega) (by omega) (by simp;omega) (by omega) (by intro e;subst e;simp at h1;omega) (by intro e;subst e;simp at h2;omega) s1 s2 (Afv p1 p2 (fun x hx y hy=>i3 x hx y (by simp[hy])))
   have hM:M.length=2*bs:=by rw[m2.length_eq];simp;omega
   obtain⟨row',e1,e2⟩:=ih r2 l2 (A++M) (by omega) t2 i5 (by simp;omega)
   refine⟨M++row',?_,?_⟩
   ·rw[Cj (s':=(((A++M).length:Int),(((A++M).length+2*bs:Nat):Int),(A++M)++r2)),e1]
    ·simp
    ·have hd:decide (((A.length+2*bs:Nat):Int)≤(n:Int))=true:=by simp;omega
     have e3:IntKind.wrap .i64 (2*(bs:Int))=((2*bs:Nat):Int):=wN (by omega) (by omega)
     have e4:IntKind.wrap .i64 (((A.length+2*bs:Nat):Int)+((2*bs:Nat):Int))=(((A++M).length+2*bs:Nat):Int):=wN (by simp;omega) (by simp;omega)
     have e5:((A.length+2*bs:Nat):Int)=(((A++M).length:Nat):Int):=by simp;omega
     simp only[hd,if_true,ew,m1,Option.bind_some,e3,e4]
     rw[e5]
     simp
   ·have:o++(o2++l2)=(o++o2)++l2:=by simp
    rw[this]
    exact .more _ _ _ _ hM (m2.trans (p1.append p2)) m3 e2
  cases hc with
  |last d o h p s=>
   refine⟨row,?_,.last _ _ (by omega) p s⟩
   rw[Bz (o:=((A.length:Int),A++row))]
   ·have:decide (((A.length+bs:Nat):Int)<(n:Int))=false:=by simp;omega
    simp only[Option.bind_some,ew,this,Bool.false_eq_true,if_false]
   ·have:decide (((A.length+2*bs:Nat):Int)≤(n:Int))=false:=by simp;omega
    simp only[this,Bool.false_eq_true,if_false]
  |more d o r l h p s t=>
   cases t with
   |more d2 o2 r2 l2 h2 p2 s2 t2=>exact two d o d2 o2 r2 l2 rfl rfl h h2 p p2 s s2 t2
   |last _ _ h2 p2 s2=>
    by_cases hw:r.length=bs
    ·exact two d o r l [] [] (by simp) (by simp) h hw p p2 s s2 (.last _ _ (by simp) (List.Perm.refl _) (by unfold Asc;simp))
    ·simp only[List.length_append] at hk hN
     have hlen:=p2.length_eq
     have hout: ∀Z:List Aa,(fun(qj14:Int×Int×(List Aa))=>match qj14 with
     |(a15,b16,row17)=>(
      if (decide (b16≤(n:Int)))=true then
       (Bg 1000 a15 (IntKind.wrap .i64 (a15+(bs:Int))) b16 row17).bind fun x18=>
       some (.inl (b16,IntKind.wrap .i64 (b16+(IntKind.wrap .i64 (2*(bs:Int)))),x18))
      else
       some (.inr (a15,row17)):Option ((Int×Int×(List Aa))⊕(Int×(List Aa))))) ((A.length:Int),((A.length+2*bs:Nat):Int),Z)=some (.inr ((A.length:Int),Z)):=fun Z=>by
      have:decide (((A.length+2*bs:Nat):Int)≤(n:Int))=false:=by simp;omega
      simp only[this,Bool.false_eq_true,if_false]
     rw[Bz (hout _)]
     by_cases h0:r=[]
     ·subst h0
      obtain rfl:l=[]:=List.length_eq_zero_iff.1 (by simpa using hlen.symm)
      refine⟨d,?_,by rw[List.append_nil];exact .last _ _ (by omega) p s⟩
      have:decide (((A.length+bs:Nat):Int)<(n:Int))=false:=by simp at hN;simp;omega
      simp only[Option.bind_some,ew,this,Bool.false_eq_true,if_false,List.append_nil]
     ·have hr0:0<r.length:=List.length_pos_iff.2 h0
      obtain⟨i1,i2,i3⟩:=Oq hI
      obtain⟨M,m1,m2,m3⟩:=Acz 1000 A d r [] A.length (A.length+bs) n rfl (by omega) (by omega) (by simp;omega) (by omega) (by intro e;subst e;simp at h;omega) h0 s s2 (Afv p p2 i3)
      have hM:=m2.length_eq
      simp only[List.length_append] at hM
      refine⟨M,?_,.last _ _ (by omega) (m2.trans (p.append p2)) m3⟩
      have hd:decide (((A.length+bs:Nat):Int)<(n:Int))=true:=by simp;omega
      rw[List.append_nil,List.append_nil] at m1
      simp only[Option.bind_some,ew,hd,if_true,m1]
theorem Acy{l:List Aa}(hn:l.length≤500)(hI:Ids l): ∃r,C9 l=some r∧r.Perm l∧Asc r:=by
 have key: ∀(k bs:Nat) (row:List Aa),l.length-bs≤k→0<bs→bs≤1000→J9 bs row l→ ∃r,loopO (fun(qj11:Int×(List Aa))=>match qj11 with
  |(blockSize12,row13)=>(
   if (decide (blockSize12<(l.length:Int)))=true then
    ((loopO (fun(qj14:Int×Int×(List Aa))=>match qj14 with
      |(a15,b16,row17)=>(
       if (decide (b16≤(l.length:Int)))=true then
        (Bg 1000 a15 (IntKind.wrap .i64 (a15+blockSize12)) b16 row17).bind fun x18=>
        some (.inl (b16,IntKind.wrap .i64 (b16+(IntKind.wrap .i64 (2*blockSize12))),x18))
       else
        some (.inr (a15,row17)):Option ((Int×Int×(List Aa))⊕(Int×(List Aa))))) (0,IntKind.wrap .i64 (2*blockSize12),row13)):Option (Int×(List Aa))).bind fun(a19,row20)=>
    ((if (decide ((IntKind.wrap .i64 (a19+blockSize12))<(l.length:Int)))=true then
      (Bg 1000 a19 (IntKind.wrap .i64 (a19+blockSize12)) (l.length:Int) row20).bind fun x22=>
      some x22
    else
     some row20):Option (List Aa)).bind fun j21=>
    some (.inl (IntKind.wrap .i64 (blockSize12*2),j21))
   else
    some (.inr row13):Option ((Int×(List Aa))⊕(List Aa)))) ((bs:Int),row)=some r∧r.Perm l∧Asc r:=by
  intro k
  induction k with
  |zero=>
   intro bs row hk h0 hb hc
   have hp:=hc.perm
   have hlen:=hp.length_eq
   refine⟨row,?_,hp,hc.one (by omega)⟩
   rw[Bz]
   have:decide ((bs:Int)<(l.length:Int))=false:=by simp;omega
   simp only[this,Bool.false_eq_true,if_false]
  |succ k ih=>
   intro bs row hk h0 hb hc
   have hp:=hc.perm
   have hlen:=hp.length_eq
   by_cases hlt:bs<l.length
   ·obtain⟨row',e1,e2⟩:=Bdx (n:=l.length) (bs:=bs) (by omega) h0 hb row.length row l [] (Nat.le_refl _) hc hI (by simp[hlen])
    obtain⟨r,r1,r2,r3⟩:=ih (2*bs) row' (by omega) (by omega) (by omega) e2
    refine⟨r,?_,r2,r3⟩
    rw[←r1,Cj]
    have hd:decide ((bs:Int)<(l.length:Int))=true:=by simp;omega
    have e3:IntKind.wrap .i64 (2*(bs:Int))=((2*bs:Nat):Int):=wN (by omega) (by omega)
    have e4:IntKind.wrap .i64 ((bs:Int)*2)=((2*bs:Nat):Int):=wN (by omega) (by omega)
    have e5:(([]:List Aa).length:Int)=0:=rfl
    have e6:((([]:List Aa).length+2*bs:Nat):Int)=((2*bs:Nat):Int):=by simp
    rw[e5,e6,List.nil_append,List.nil_append] at e1
    simp only[hd,if_true]
    rw[e4]
    rw[e3] at e1⊢
    generalize hL:loopO (fun(qj14:Int×Int×(List Aa))=>_) ((0:Int),((2*bs:Nat):Int),row)=L at e1⊢
    cases L with
    |none=>cases e1
    |some q=>
     simp only[Option.bind_some] at e1⊢
     rw[e1]
     rfl
   ·refine⟨row,?_,hp,hc.one (by omega)⟩
    rw[Bz]
    have:decide ((bs:Int)<(l.length:Int))=false:=by simp;omega
    simp only[this,Bool.false_eq_true,if_false]
 unfold C9 Fa
 obtain⟨E',e1,e2⟩:=Bdw (n:=l.length) (by omega) l.length l [] (Nat.le_refl _) hI (by simp)
 obtain⟨r,r1,r2,r3⟩:=key l.length 20 E' (by omega) (by omega) (by omega) e2
 refine⟨r,?_,r2,r3⟩
 have e5:(([]:List Aa).length:Int)=0:=rfl
 have e6:((([]:List Aa).length+20:Nat):Int)=20:=rfl
 rw[e5,e6,List.nil_append,List.nil_append] at e1
 have e7:((20:Nat):Int)=20:=rfl
 rw[e7] at r1
 generalize hL:loopO (fun(qj3:Int×Int×(List Aa))=>_) ((0:Int),(20:Int),l)=L at e1⊢
 cases L with
 |none=>cases e1
 |some q=>
  simp only[Option.bind_some] at e1⊢
  rw[e1]
  simp only[Option.bind_some]
  rw[r1]
  rfl
end Go.Av.G
end
section
set_option linter.unusedVariables false
set_option linter.unusedSimpArgs false
set_option maxRecDepth 4000
set_option maxHeartbeats 4000000
namespace Go.Av.G
open Go Go.Av Go.Proofs
def Xy(t:Ah)(l:List Aa):Ah:=⟨t.Bk,t.Fl,l,t.A6⟩
def noT:Ah:=⟨⟨[],[]⟩,[],[],[]⟩
end Go.Av.G
end
section
set_option linter.unusedVariables false
set_option linter.unusedSimpArgs false
set_option maxRecDepth 4000
set_option maxHeartbeats 4000000
namespace Go.Av.G
open Go Go.Av Go.Proofs
theorem Wt{α:Type}{n:Nat}{l:List α}(h:l.length*n≤140737488355328):slices_Clone n l=some l:=by
 unfold slices_Clone
 rw[if_pos h]
theorem Ahm{l:List Af}(hl:Afz l):
  loopO (fun(qj5:Int×(List Af))=>match qj5 with
  |(x6,row7)=>(
   if (decide (x6<(l.length:Int)))=true then
    (rdO l x6).bind fun x8=>
    (slices_Clone 24 x8.B0).bind fun x9=>
    (apO 72 row7 [(⟨x8.Bc,x8.Cy,x8.Cp,x9,x8.Fg,x8.Ca,x8.Kf⟩:Af)]).bind fun x10=>
    some (.inl (IntKind.wrap .i64 (x6+1),x10))
   else
    some (.inr row7):Option ((Int×(List Af))⊕(List Af)))) (0,([]:List Af))=some (l.map fun x=>x):=by
 have hm:(l.map fun x=>x)=l.foldl (fun s x=>s++[x]) []:=by rw[Nu (fun x:Af=>x)];rfl
 have hn:=hl.few
 rw[hm,W9 (l:=l) (fun s x=>s++[x]) (fun s=>s) (by omega)]
 ·intro i h
  have hc:slices_Clone 24 (l[i]).B0=some (l[i]).B0:=by
   refine Wt ?_
   have:=hl.legs _ (List.getElem_mem h)
   omega
  have hap: ∀x,apO 72 ((l.take i).foldl (fun s x=>s++[x]) []) [x]=some ((l.take i).foldl (fun s x=>s++[x]) []++[x]):=by
   intro x
   refine Md ?_
   rw[Nu (fun x:Af=>x)]
   simp
   omega
  simp only[decide_eq_true_eq]
  rw[if_pos (by omega),Cm h]
  simp only[Option.bind_some,hc,hap]
 ·simp only[decide_eq_true_eq]
  rw[if_neg (by omega)]
theorem T6{t:Ah}(hf:Ka t)(hr:F5 t){l:List Aa}(hl:l.length≤200):H9 t l=some (Xy t l):=by
 have h1:=hf.chart.1
 have h2:=hf.chart.2.1
 have h3:=hf.limits
 unfold H9
 rw[Wt (n:=32) (l:=t.Bk.As) (by omega),Wt (n:=56) (l:=t.Bk.Au) (by omega)]
 simp only[Option.bind_some]
 refine B9 (Ahm (hf.legs hr.few)) ?_
 rw[Wt (n:=64) (l:=l) (by omega),Wt (n:=16) (l:=t.A6) (by omega)]
 simp only[Option.bind_some,List.map_id']
 rfl
def Aeb(t:Ah)(h:Aa):Ah×Bool×Int:=
 if (Uf t.A7 h).2≠0 then(noT,false,(Uf t.A7 h).2)
 else if Ij t h.Az h.B5≠0 then(noT,false,Ij t h.Az h.B5)
 else if h.Ak.Bb≠(Hq t h.Az).Bb then(noT,false,12)
 else if Rw t h.Az h.B5 h.A9<h.Ak.Ao then(t,false,0)
 else(Xy t (Uf t.A7 h).1,true,0)
theorem Aa4(l:List Aa)(h:Aa):(Uf l h).1.length≤l.length+1:=by
 unfold Uf
 split
 ·simp
 ·split
  ·simp
  ·split
   ·simp
   ·rw[U5];exact Nat.le_refl _
theorem Af0{t:Ah}(hf:Ka t)(hr: ¬F5 t)(h:Aa):H8 t h=some (noT,false,1):=by
 unfold H8
 rw[V4 hf hr]
 rfl
theorem Ahq{t:Ah}(hf:Ka t)(hr:F5 t)(h:Aa):H8 t h=some (Aeb t h):=by
 obtain⟨a,ha,hv⟩:=Wk hf hr h.Az h.B5
 have hh:=hf.holds
 have hl:=Aa4 t.A7 h
 unfold H8 Aeb
 rw[Qn hf hr]
 simp only[Option.bind_some,Bool.not_true,Bool.false_eq_true,if_false,Awx hr.holds]
 by_cases hb:(Uf t.A7 h).2=0
 ·have hb':((Uf t.A7 h).2 !=0)=false:=by simpa using hb
  rw[if_neg (not_not_intro hb)]
  simp only[hb',Bool.false_eq_true,if_false,ha,Option.bind_some]
  by_cases hw:Ij t h.Az h.B5=0
  ·obtain rfl:=hv hw
   rw[if_pos hw,if_neg (not_not_intro hw)]
   simp only[Option.isSome_none,Bool.false_eq_true,if_false]
   by_cases hc:h.Ak.Bb=(Hq t h.Az).Bb
   ·have hc':(h.Ak.Bb !=(Hq t h.Az).Bb)=false:=by simpa using hc
    rw[if_neg (not_not_intro hc)]
    simp only[hc',Bool.false_eq_true,if_false,Afi hf hr hw,Option.bind_some,decide_eq_true_eq]
    by_cases hm:Rw t h.Az h.B5 h.A9<h.Ak.Ao
    ·rw[if_pos hm,if_pos hm,T6 hf hr (by omega)]
     rfl
    ·rw[if_neg hm,if_neg hm,T6 hf hr (by omega)]
     rfl
   ·have hc':(h.Ak.Bb !=(Hq t h.Az).Bb)=true:=by simpa using hc
    rw[if_pos hc]
    simp only[hc',if_true]
    rfl
  ·rw[if_neg hw,if_pos hw]
   simp only[Option.isSome_some,if_true,Jd,Option.getD_some,Option.bind_some]
   rfl
 ·have hb':((Uf t.A7 h).2 !=0)=true:=by simpa using hb
  rw[if_pos hb]
  simp only[hb',if_true]
  rfl
end Go.Av.G
end
section
set_option linter.unusedVariables false
set_option linter.unusedSimpArgs false
set_option maxRecDepth 4000
set_option maxHeartbeats 4000000
namespace Go.Av.G
open Go Go.Av Go.Proofs
theorem Af8{x y:Aa}(h:bef x y): ¬bef y x:=by unfold bef at*;omega
theorem Wj: ∀{l m:List Aa},l.Perm m→Asc l→Asc m→l=m
 |[],m,p,_,_=>(List.Perm.nil_eq p)
 |x::t,[],p,_,_=>by have:=p.length_eq;simp at this
 |x::t,y::s,p,h1,h2=>by
  unfold Asc at h1 h2
  rw[List.pairwise_cons] at h1 h2
  have hx:x∈y::s:=p.mem_iff.1 (by simp)
  have hy:y∈x::t:=p.mem_iff.2 (by simp)
  have e:x=y:=by
   rcases List.mem_cons.1 hx with e|hx
   ·exact e
   ·rcases List.mem_cons.1 hy with e|hy
    ·exact e.symm
    ·exact absurd (h1.1 y hy) (Af8 (h2.1 x hx))
  subst e
  rw[Wj (List.Perm.cons_inv p) h1.2 h2.2]
def E7(a b:Int):Int:=if a<b then a else b
def Nr(now:Int):Int→List Aa→List Aq
 |_,[]=>[]
 |left,h::t=>⟨h.Bc,E7 (Em h now) left⟩::Nr now (left-E7 (Em h now) left) t
def Vp(now:Int):Int→List Aa→Int
 |left,[]=>left
 |left,h::t=>Vp now (left-E7 (Em h now) left) t
theorem Ot{a b:Int}(ha:0≤a)(hb:0≤b):0≤E7 a b∧E7 a b≤b∧E7 a b≤a:=by unfold E7;split<;>omega
theorem P4(now:Int): ∀(l:List Aa) (left:Int),(Nr now left l).length=l.length
 |[],_=>rfl
 |h::t,left=>by simp[Nr,P4 now t]
theorem U2(now:Int): ∀(a b:List Aa) (left:Int),Nr now left (a++b)=Nr now left a++Nr now (Vp now left a) b
 |[],_,_=>rfl
 |h::t,b,left=>by simp[Nr,Vp,U2 now t b]
theorem Wu(now:Int): ∀(l:List Aa) (left:Int),0≤left→0≤Vp now left l∧Vp now left l≤left
 |[],left,h=>⟨h,Int.le_refl _⟩
 |h::t,left,h0=>by
  have h1:=Ot (Ji h now).1 h0
  have:=Wu now t (left-E7 (Em h now) left) (by omega)
  simp only[Vp]
  omega
theorem Ail{now:Int}{r:List Aa}(hn:r.length≤1000): ∀(t pre:List Aa) (left:Int) (row:List Aq),r=pre++t→0≤left→left<9223372036854775808→row.length=pre.length→
  loopO (fun(qj9:Int×(List Aa)×Int×(List Aq))=>match qj9 with
   |(left10,x11,x12,row13)=>(
    if (decide (x12<(r.length:Int)))=true then
     (rdO x11 x12).bind fun x14=>
     (Jf x14 now).bind fun x15=>
     (apO 16 row13 [(⟨x14.Bc,(if x15<left10 then x15 else left10)⟩:Aq)]).bind fun x16=>
     some (.inl (IntKind.wrap .i64 (left10-(if x15<left10 then x15 else left10)),x11,IntKind.wrap .i64 (x12+1),x16))
    else
     some (.inr row13):Option ((Int×(List Aa)×Int×(List Aq))⊕(List Aq)))) (left,r,((pre.length:Nat):Int),row)=some (row++Nr now left t):=by
 intro t
 induction t with
 |nil=>
  intro pre left row hr _ _ _
  rw[Bz (o:=row)]
  ·simp[Nr]
  ·have:decide ((pre.length:Int)<(r.length:Int))=false:=by rw[hr];simp
   simp only[this,Bool.false_eq_true,if_false]
 |cons h t ih=>
  intro pre left row hr h0 h1 hl
  have hlen:r.length=pre.length+(t.length+1):=by rw[hr];simp
  have hq:=Ot (Ji h now).1 h0
  have hd:decide ((pre.length:Int)<(r.length:Int))=true:=by simp;omega
  have e1:IntKind.wrap .i64 ((pre.length:Int)+1)=((pre.length+1:Nat):Int):=wN (by omega) (by omega)
  have e2:IntKind.wrap .i64 (left-E7 (Em h now) left)=left-E7 (Em h now) left:=Df (by omega) (by omega)
  have hx:rdO r (pre.length:Int)=some h:=by rw[hr];exact Gy rfl
  have:=ih (pre++[h]) (left-E7 (Em h now) left) (row++[⟨h.Bc,E7 (Em h now) left⟩]) (by simp[hr]) (by omega) (by omega) (by simp[hl])
  rw[Cj (s':=(left-E7 (Em h now) left,r,(((pre++[h]).length:Nat):Int),row++[⟨h.Bc,E7 (Em h now) left⟩])),this]
  ·simp[Nr]
  ·have ea:apO 16 row [(⟨h.Bc,E7 (Em h now) left⟩:Aq)]=some (row++[⟨h.Bc,E7 (Em h now) left⟩]):=Md (by simp;omega)
   unfold E7 at ea e2
   simp only[hd,if_true,hx,Option.bind_some,Aao,ea,e1,e2]
   unfold E7
   simp
theorem S1: ∀(l s:List Aa),s.length+l.length≤1000→I2 (fun s x=>apO 64 s [x]) s l=some (s++l)
 |[],s,_=>by simp[I2]
 |h::t,s,hl=>by
  simp only[List.length_cons] at hl
  simp only[I2]
  rw[Md (by simp;omega)]
  simp only[Option.bind_some]
  rw[S1 t (s++[h]) (by simp;omega)]
  simp
theorem Adw{l:List Aa}(hn:l.length≤500)(acc cur now:Int):Jq l acc cur now=some (l.filter (Hs acc cur now)):=by
 unfold Jq
 rw[Ac1 (by omega)]
 simp only[Option.bind_some]
 have:=List.length_filter_le (Hs acc cur now) l
 rw[S1 _ _ (by simp;omega),List.nil_append]
def I6(s:List Aa):Nat→List Aa
 |0=>s.filter fun h=>h.A9==0
 |k+1=>(s.filter fun h=>h.A9==((k+1:Nat):Int))++I6 s k
theorem Wr{s:List Aa}: ∀{k:Nat} {x:Aa},x∈I6 s k→x∈s∧0≤x.A9∧x.A9≤k
 |0,x,h=>by
  simp only[I6,List.mem_filter,beq_iff_eq] at h
  exact⟨h.1,by omega,by omega⟩
 |k+1,x,h=>by
  simp only[I6,List.mem_append,List.mem_filter,beq_iff_eq] at h
  rcases h with h|h
  ·exact⟨h.1,by omega,by omega⟩
  ·have:=Wr h
   exact⟨this.1,this.2.1,by omega⟩
theorem Aa9{s:List Aa}(h:Ids s)(k:Int):Asc (s.filter fun h=>h.A9==k):=by
 unfold Asc
 rw[List.pairwise_filter]
 exact List.Pairwise.imp (fun {a b} hab ha hb=>by
  simp only[beq_iff_eq] at ha hb
  exact .inr ⟨by omega,hab⟩) h
theorem Wi{s:List Aa}(h:Ids s): ∀k:Nat,Asc (I6 s k)
 |0=>Aa9 h 0
 |k+1=>by
  refine Vy (Aa9 h _) (Wi h k) (fun x hx y hy=>?_)
  have hy:=Wr hy
  simp only[List.mem_filter,beq_iff_eq] at hx
  exact .inl (by omega)
theorem U7(s:List Aa): ∀k:Nat,(I6 s k).Perm (s.filter fun h=>decide (0≤h.A9∧h.A9≤(k:Int)))
 |0=>by
  have:(fun h:Aa=>h.A9==0)=fun h=>decide (0≤h.A9∧h.A9≤((0:Nat):Int)):=by
   funext h
   rw[Bool.eq_iff_iff]
   simp
   omega
  rw[I6,this]
 |k+1=>by
  rw[I6]
  refine(List.Perm.append_left _ (U7 s k)).trans ?_
  have h1:(s.filter fun h=>h.A9==((k+1:Nat):Int))=(s.filter fun h=>decide (0≤h.A9∧h.A9≤((k+1:Nat):Int))).filter fun h=>h.A9==((k+1:Nat):Int):=by
   rw[List.filter_filter]
   congr 1
   funext h
   rw[Bool.eq_iff_iff]
   simp
   omega
  have h2:(s.filter fun h=>decide (0≤h.A9∧h.A9≤(k:Int)))=(s.filter fun h=>decide (0≤h.A9∧h.A9≤((k+1:Nat):Int))).filter fun h=> !(h.A9==((k+1:Nat):Int)):=by
   rw[List.filter_filter]
   congr 1
   funext h
   rw[Bool.eq_iff_iff]
   simp
   omega
  rw[h1,h2]
  exact List.filter_append_perm _ _
theorem Acn{l:List Aa}{acc cur now:Int}{x:Aa}(h:x∈l.filter (Hs acc cur now)):0≤x.A9∧x.A9≤9:=by
 rw[List.mem_filter] at h
 have:=h.2
 unfold Hs at this
 simp only[Bool.and_eq_true] at this
 have:=Mp (Qz this.2.2)
 omega
theorem Wq{s:List Aa}(h: ∀x∈s,0≤x.A9∧x.A9≤9):(I6 s 9).Perm s:=by
 refine(U7 s 9).trans ?_
 rw[List.filter_eq_self.2 (fun x hx=>by have:=h x hx;simp;omega)]
theorem Aim{l:List Aa}(hg:Ll l){funds:Int}(hf:funds<9223372036854775808)(acc cur now:Int):
  Ki l acc cur now funds=some (Nr now (if 0>funds then 0 else funds) (I6 (l.filter (Hs acc cur now)) 9),0):=by
 have hfew:=hg.few
 have hids:Ids (l.filter (Hs acc cur now)):=List.Pairwise.sublist List.filter_sublist (Abw hg.rise)
 have hfl:=List.length_filter_le (Hs acc cur now) l
 obtain⟨r,r1,r2,r3⟩:=Acy (l:=l.filter (Hs acc cur now)) (by omega) hids
 have hr:r=I6 (l.filter (Hs acc cur now)) 9:=Wj (r2.trans (Wq (fun x hx=>Acn hx)).symm) r3 (Wi hids 9)
 have hlr:=r2.length_eq
 unfold Ki
 rw[Nn l (by omega),Io.2 hg]
 simp only[Option.bind_some,bne_self_eq_false,Bool.false_eq_true,if_false,Adw (show l.length≤500 by omega),r1]
 have h0:0≤(if 0>funds then 0 else funds)∧(if 0>funds then 0 else funds)<9223372036854775808:=by split<;>omega
 have:=Ail (now:=now) (r:=r) (by omega) r [] (if 0>funds then 0 else funds) [] rfl h0.1 h0.2 rfl
 simp only[List.length_nil,Int.natCast_zero,List.nil_append] at this
 have e0:((0:Nat):Int)=0:=rfl
 try rw[e0] at this
 rw[this]
 simp only[Option.bind_some,hr]
def Bi9(h:Aa)(a:A5)(last:Bool):Aa:=⟨h.Bc,h.Az,h.Ak,h.A9,h.B5,h.Cb,h.Bo+a.Ao,(last||(h.Bo+a.Ao==h.Ak.Ao))⟩
def Ri(l:List Aa)(i:Nat)(h:Aa)(a:A5)(now:Int)(last:Bool):List Aa×Int:=
 if H4 h now=false then([],27) else if a.Bb≠h.Ak.Bb then([],12) else if (!okM a||decide (a.Ao≤0))=true then([],1) else if Em h now<a.Ao then([],17) else(l.set i (Bi9 h a last),0)
theorem Aik{l:List Aa}(hg:Ll l){id:Int}(h: ∀x∈l,x.Bc≠id)(a:A5)(now:Int)(last:Bool):Hn l id a now last=some ([],8):=by
 have hf:=hg.few
 obtain⟨k,hk,e,_⟩:=Xd hg h
 unfold Hn
 rw[Nn l (by omega),Io.2 hg]
 simp only[Option.bind_some,bne_self_eq_false,Bool.false_eq_true,if_false,e,Bool.not_false,if_true]
theorem Y0{h:Aa}{a:A5}{now:Int}(hl:H4 h now=true)(hp:0<a.Ao)(hr: ¬Em h now<a.Ao):IntKind.wrap .i64 (h.Bo+a.Ao)=h.Bo+a.Ao:=by
 have:=Mp (Qz hl)
 unfold Em at hr
 rw[if_pos hl] at hr
 rw[Df (by omega) (by omega)]
theorem Axe{l:List Aa}(hg:Ll l){i:Nat}(hi:i<l.length)(a:A5)(now:Int)(last:Bool):Hn l l[i].Bc a now last=some (Ri l i l[i] a now last):=by
 have hf:=hg.few
 unfold Hn Ri
 rw[Nn l (by omega),Io.2 hg]
 simp only[Option.bind_some,bne_self_eq_false,Bool.false_eq_true,if_false,Aca hg hi rfl,Bool.not_true,Cm hi,Aaf,R0,Aao]
 cases hl:H4 l[i] now with
 |false=>rfl
 |true=>
  simp only[Bool.not_true,Bool.false_eq_true,if_false,Bool.true_eq_false,bne_iff_ne,ne_eq]
  split
  ·rfl
  ·split
   ·rfl
   ·rename_i h2
    simp only[decide_eq_true_eq]
    by_cases h3:Em l[i] now<a.Ao
    ·rw[if_pos h3,if_pos h3]
    ·rw[if_neg h3,if_neg h3,Abg (by omega)]
     have hp:0<a.Ao:=by
      simp only[Bool.or_eq_true,decide_eq_true_eq,not_or] at h2
      omega
     have hw:=Y0 hl hp h3
     have hr: ∀y,rdO (l.set i y) (i:Int)=some y:=fun y=>by
      rw[Cm (by simpa using hi)];simp
     simp only[Option.bind_some,Cm hi,Int.toNat_natCast,hr,Hb,hw,List.set_set]
     cases last<;>rfl
end Go.Av.G
end
section
set_option linter.unusedVariables false
set_option linter.unusedSimpArgs false
set_option maxRecDepth 4000
set_option maxHeartbeats 4000000
namespace Go.Av.G
open Go Go.Av Go.Proofs
theorem Ad1{l:List Aa}(hg:Ll l){i:Nat}(hi:i<l.length):Du l l[i].Bc=some (i:Int):=by
 have hf:=hg.few
 unfold Du
 rw[Gl (l:=l) (fun x=>x.Bc==l[i].Bc) (o:=fun i=>(Sum.inr (i:Int):Unit⊕Int)) (e:=Sum.inl ()) (by omega)]
 ·have:Dr l (fun x=>x.Bc==l[i].Bc)=some i:=by
   cases h:Dr l (fun x=>x.Bc==l[i].Bc) with
   |none=>
    have:=Le h _ (List.getElem_mem hi)
    simp at this
   |some j=>
    obtain⟨hj,hp,_⟩:=Fk h
    have:=hg.rise.inj hj hi (by simpa using hp)
    rw[this]
  rw[this]
  rfl
 ·intro j h
  simp only[decide_eq_true_eq]
  rw[if_pos (by omega),Cm h]
  simp only[Option.bind_some,Ln]
  split<;>rfl
 ·intro j h
  simp only[decide_eq_true_eq]
  rw[if_neg (by omega)]
theorem Agi(l:List Aq)(id:Int)(hn:l.length<4611686018427387904):C7 l id=some (match Dr l (fun x=>x.Bc==id) with|some i=>((i:Nat):Int)|none=> -1):=by
 unfold C7
 rw[Gl (l:=l) (fun x=>x.Bc==id) (o:=fun i=>(Sum.inr (i:Int):Unit⊕Int)) (e:=Sum.inl ()) hn]
 ·cases Dr l (fun x=>x.Bc==id)<;>rfl
 ·intro i h
  simp only[decide_eq_true_eq]
  rw[if_pos (by omega),Cm h]
  simp only[Option.bind_some,Lo]
  split<;>rfl
 ·intro i h
  simp only[decide_eq_true_eq]
  rw[if_neg (by omega)]
def S2(t:Ah)(acc now:Int):List Aq:=
 Nr now (if 0>Gi t acc now+Ly t.A6 acc then 0 else Gi t acc now+Ly t.A6 acc) (I6 (t.A7.filter (Hs acc (Hq t acc).Bb now)) 9)
def Ab8(t:Ah)(acc now id:Int):Option Int:=(Dr (S2 t acc now) (fun x=>x.Bc==id)).map fun j=>(((S2 t acc now)[j]?).getD default).Kg
theorem Abj(t:Ah)(acc now:Int):(S2 t acc now).length≤t.A7.length:=by
 unfold S2
 rw[P4,(Wq (fun x hx=>Acn hx)).length_eq]
 exact List.length_filter_le _ _
def Ajj(t:Ah)(i:Nat)(h:Aa)(a:A5)(now:Int)(last:Bool):Ah×Bool×Int:=
 if (Ri t.A7 i h a now last).2≠0 then(noT,false,(Ri t.A7 i h a now last).2)
 else if Ij t h.Az now≠0 then(noT,false,Ij t h.Az now)
 else if h.Ak.Bb≠(Hq t h.Az).Bb then(noT,false,12)
 else if (match Ab8 t h.Az now h.Bc with|some m=>decide (m<a.Ao)|none=>true)=true then(t,false,0)
 else(Xy t (Ri t.A7 i h a now last).1,true,0)
theorem Abd(l:List Aa)(i:Nat)(h:Aa)(a:A5)(now:Int)(last:Bool):(Ri l i h a now last).1.length≤l.length:=by
 unfold Ri
 split
 ·simp
 ·split
  ·simp
  ·split
   ·simp
   ·split
    ·simp
    ·simp
theorem Ahs{t:Ah}(hf:Ka t)(hr: ¬F5 t)(id:Int)(a:A5)(now:Int)(last:Bool):F6 t id a now last=some (noT,false,1):=by
 unfold F6
 rw[V4 hf hr]
 rfl
theorem Yq{t:Ah}(hf:Ka t)(hr:F5 t){id:Int}(h: ∀x∈t.A7,x.Bc≠id)(a:A5)(now:Int)(last:Bool):F6 t id a now last=some (noT,false,8):=by
 unfold F6
 rw[Qn hf hr]
 simp only[Option.bind_some,Bool.not_true,Bool.false_eq_true,if_false,Aik hr.holds h]
 rfl
theorem Ae9{t:Ah}(hf:Ka t)(hr:F5 t){i:Nat}(hi:i<t.A7.length)(a:A5)(now:Int)(last:Bool):F6 t t.A7[i].Bc a now last=some (Ajj t i t.A7[i] a now last):=by
 obtain⟨q,ha,hv⟩:=Wk hf hr t.A7[i].Az now
 have hh:=hf.holds
 have hl:=Abd t.A7 i t.A7[i] a now last
 have hct:=Abj t t.A7[i].Az now
 unfold F6 Ajj
 rw[Qn hf hr]
 simp only[Option.bind_some,Bool.not_true,Bool.false_eq_true,if_false,Axe hr.holds hi]
 by_cases hb:(Ri t.A7 i t.A7[i] a now last).2=0
 ·have hb':((Ri t.A7 i t.A7[i] a now last).2 !=0)=false:=by simpa using hb
  rw[if_neg (not_not_intro hb)]
  simp only[hb',Bool.false_eq_true,if_false,Ad1 hr.holds hi,Option.bind_some,Cm hi,ha]
  by_cases hw:Ij t t.A7[i].Az now=0
  ·obtain rfl:=hv hw
   rw[if_pos hw,if_neg (not_not_intro hw)]
   simp only[Option.isSome_none,Bool.false_eq_true,if_false]
   by_cases hc:t.A7[i].Ak.Bb=(Hq t t.A7[i].Az).Bb
   ·have hc':(t.A7[i].Ak.Bb !=(Hq t t.A7[i].Az).Bb)=false:=by simpa using hc
    rw[if_neg (not_not_intro hc)]
    have hlim:=Ml hf hr hw 0
    have e1:IntKind.wrap .i64 (Gi t t.A7[i].Az now+Ly t.A6 t.A7[i].Az)=Gi t t.A7[i].Az now+Ly t.A6 t.A7[i].Az:=Df (by omega) (by omega)
    have hcov:=Aim hr.holds (funds:=Gi t t.A7[i].Az now+Ly t.A6 t.A7[i].Az) (by omega) t.A7[i].Az (Hq t t.A7[i].Az).Bb now
    have hcov':Ki t.A7 t.A7[i].Az (Hq t t.A7[i].Az).Bb now (Gi t t.A7[i].Az now+Ly t.A6 t.A7[i].Az)=some (S2 t t.A7[i].Az now,0):=hcov
    simp only[hc',Bool.false_eq_true,if_false,e1,hcov',Option.bind_some,Agi _ _ (show(S2 t t.A7[i].Az now).length<4611686018427387904 by omega)]
    unfold Ab8
    cases hx:Dr (S2 t t.A7[i].Az now) (fun x=>x.Bc==t.A7[i].Bc) with
    |none=>
     simp only[Option.map_none,if_true]
     have e2:decide ((-1:Int)<0)=true:=by decide
     simp only[e2,Bool.not_true,gdO,Option.bind_some,Bool.true_or,if_true,T6 hf hr (show t.A7.length≤200 by omega)]
     rfl
    |some j=>
     obtain⟨hj,_,_⟩:=Fk hx
     have e2:decide (((j:Nat):Int)<0)=false:=decide_eq_false (by omega)
     simp only[Option.map_some,e2,Bool.not_false,gdO,Cm hj,Option.bind_some,Bool.false_or,List.getElem?_eq_getElem hj,Option.getD_some]
     by_cases hm:((S2 t t.A7[i].Az now)[j]).Kg<a.Ao
     ·simp only[decide_eq_true hm,if_true,T6 hf hr (show t.A7.length≤200 by omega),Option.bind_some]
      rfl
     ·simp only[decide_eq_false hm,Bool.false_eq_true,if_false,T6 hf hr (show(Ri t.A7 i t.A7[i] a now last).1.length≤200 by omega),Option.bind_some]
   ·have hc':(t.A7[i].Ak.Bb !=(Hq t t.A7[i].Az).Bb)=true:=by simpa using hc
    rw[if_pos hc]
    simp only[hc',if_true]
    rfl
  ·rw[if_neg hw,if_pos hw]
   simp only[Option.isSome_some,if_true,Jd,Option.getD_some,Option.bind_some]
   rfl
 ·have hb':((Ri t.A7 i t.A7[i] a now last).2 !=0)=true:=by simpa using hb
  rw[if_pos hb]
  simp only[hb',if_true]
  rfl
end Go.Av.G
end
section
set_option linter.unusedVariables false
set_option linter.unusedSimpArgs false
set_option maxRecDepth 4000
set_option maxHeartbeats 4000000
namespace Go.Av.G
open Go Go.Av Go.Proofs
theorem Xf(x:Ac)(hl:x.Di.length≤9223372036854775807):Ep x=some (okC x):=by
 unfold Ep
 rw[Agp (l:=x.Di) (fun b=>decide (b.toNat<32)||decide (126<b.toNat)) (o:=Sum.inr false) (e:=Sum.inl ()) hl]
 ·generalize hB:(x.Di.any fun b=>decide (b.toNat<32)||decide (126<b.toNat))=B
  cases B with
  |true=>simp[okC,hB]
  |false=>
   simp only[okC,hB,Option.bind_some,Option.some.injEq,Bool.false_eq_true,if_false]
   rw[Bool.eq_iff_iff]
   simp
   omega
 ·intro i h
  simp only[decide_eq_true_eq,Axd h,Option.bind_some,Hb]
  rw[if_pos (by omega)]
  generalize (x.Di[i]).toNat=v
  by_cases h1:v<32
  ·have h1':(v:Int)<32:=by omega
   simp[h1,h1']
  ·have h1': ¬(v:Int)<32:=by omega
   by_cases h2:126<v
   ·have h2':126<(v:Int):=by omega
    simp[h1,h1',h2,h2']
   ·have h2': ¬126<(v:Int):=by omega
    simp[h1,h1',h2,h2']
 ·intro i h
  simp only[decide_eq_true_eq]
  rw[if_neg (by omega)]
theorem Aal(r:Ad):((Dy r).bind fun a=>(Er r).bind fun b=>some (a&&b))=some (okR r):=by
 simp only[Dy,Er,C2,S7,Option.bind_some,okR]
 split
 ·rename_i h
  simp only[Option.bind_some,Option.some.injEq]
  rw[Bool.eq_iff_iff]
  simp at h⊢
  omega
 ·rename_i h
  simp only[Option.bind_some,Option.some.injEq]
  rw[Bool.eq_iff_iff]
  simp at h⊢
  omega
theorem Aea(l:List Ac)(n:Int)(hn:l.length<4611686018427387904):Fb l n=some (match Dr l (fun x=>x.Bc==n) with|some i=>((i:Nat):Int)|none=> -1):=by
 unfold Fb
 rw[Gl (l:=l) (fun x=>x.Bc==n) (o:=fun i=>(Sum.inr (i:Int):Unit⊕Int)) (e:=Sum.inl ()) hn]
 ·cases Dr l (fun x=>x.Bc==n)<;>rfl
 ·intro i h
  simp only[decide_eq_true_eq]
  rw[if_pos (by omega),Cm h]
  simp only[Option.bind_some]
  split<;>rfl
 ·intro i h
  simp only[decide_eq_true_eq]
  rw[if_neg (by omega)]
theorem Zl(l:List Ad)(n:Int)(hn:l.length<4611686018427387904):E1 l n=some (match Dr l (fun x=>x.Az==n) with|some i=>((i:Nat):Int)|none=> -1):=by
 unfold E1
 rw[Gl (l:=l) (fun x=>x.Az==n) (o:=fun i=>(Sum.inr (i:Int):Unit⊕Int)) (e:=Sum.inl ()) hn]
 ·cases Dr l (fun x=>x.Az==n)<;>rfl
 ·intro i h
  simp only[decide_eq_true_eq]
  rw[if_pos (by omega),Cm h]
  simp only[Option.bind_some]
  split<;>rfl
 ·intro i h
  simp only[decide_eq_true_eq]
  rw[if_neg (by omega)]
theorem Aef(r:Ad): ∃a b,Dy r=some a∧Er r=some b∧okR r=(a&&b):=by
 have h:=Aal r
 cases ha:Dy r with
 |none=>rw[ha] at h;cases h
 |some a=>
  cases hb:Er r with
  |none=>rw[ha,hb] at h;cases h
  |some b=>
   rw[ha,hb] at h
   simp only[Option.bind_some,Option.some.injEq] at h
   exact⟨a,b,rfl,rfl,h.symm⟩
theorem Air{l:List Ac}{p:Ac→Bool}:decide ((match Dr l p with|some i=>((i:Nat):Int)|none=> -1)<0)= !(l.any p):=by
 rw[←V0]
 cases Dr l p with
 |some i=>simp
 |none=>rfl
theorem R4(c:A4)(hc:c.As.length<4611686018427387904)(hn:c.Au.length<4611686018427387904)(hN: ∀x∈c.As,x.Di.length≤9223372036854775807): ∃b,Dv c=some b∧(b=true↔Kb c):=by
 unfold Dv
 rw[Mm (n:=c.As.length) (q:=fun i=>((c.As[i]?).any fun x=> !okC x)||(decide (0<i)&&Fc (fun x:Ac=>x.Bc) c.As i)) (o:=(Sum.inr false:Unit⊕Bool)) (e:=Sum.inl ()) hc]
 ·rw[Mm (n:=c.Au.length) (q:=fun i=>((c.Au[i]?).any (X9 c))||(decide (0<i)&&Fc (fun x:Ad=>x.Az) c.Au i)) (o:=(Sum.inr false:Unit⊕Bool)) (e:=Sum.inl ()) hn]
  ·by_cases h1:(List.range' 0 c.As.length).any (fun i=>((c.As[i]?).any fun x=> !okC x)||(decide (0<i)&&Fc (fun x:Ac=>x.Bc) c.As i))=true
   ·rw[if_pos h1]
    refine⟨false,rfl,by simp,fun h=>?_⟩
    obtain⟨i,hi,hq⟩:=List.any_eq_true.1 h1
    have hi':i<c.As.length:=by simpa using hi
    rw[(Hu.2 h.2.2.1) i hi',List.getElem?_eq_getElem hi',Bool.or_false] at hq
    have:=h.2.2.2.2.1 _ (List.getElem_mem hi')
    simp[this] at hq
   ·rw[if_neg h1]
    simp only[Option.bind_some]
    have h1':=Z8.1 (Bool.eq_false_iff.2 h1)
    have hR1:Lm (fun x:Ac=>x.Bc) c.As:=Hu.1 fun i hi=>by have:=h1' i hi;simp only[Bool.or_eq_false_iff] at this;exact this.2
    have hO1: ∀x∈c.As,okC x=true:=by
     intro x hx
     obtain⟨i,hi,rfl⟩:=List.getElem_of_mem hx
     have:=h1' i hi
     rw[List.getElem?_eq_getElem hi] at this
     simp at this
     exact this.1
    by_cases h2:(List.range' 0 c.Au.length).any (fun i=>((c.Au[i]?).any (X9 c))||(decide (0<i)&&Fc (fun x:Ad=>x.Az) c.Au i))=true
    ·rw[if_pos h2]
     refine⟨false,rfl,by simp,fun h=>?_⟩
     obtain⟨i,hi,hq⟩:=List.any_eq_true.1 h2
     have hi':i<c.Au.length:=by simpa using hi
     rw[(Hu.2 h.2.2.2.1) i hi',List.getElem?_eq_getElem hi',Bool.or_false] at hq
     have:=h.2.2.2.2.2 _ (List.getElem_mem hi')
     simp[this] at hq
    ·rw[if_neg h2]
     have h2':=Z8.1 (Bool.eq_false_iff.2 h2)
     have hR2:Lm (fun x:Ad=>x.Az) c.Au:=Hu.1 fun i hi=>by have:=h2' i hi;simp only[Bool.or_eq_false_iff] at this;exact this.2
     have hO2: ∀x∈c.Au,X9 c x=false:=by
      intro x hx
      obtain⟨i,hi,rfl⟩:=List.getElem_of_mem hx
      have:=h2' i hi
      rw[List.getElem?_eq_getElem hi] at this
      simp only[Option.any_some,Bool.or_eq_false_iff] at this
      exact this.1
     refine⟨_,rfl,?_⟩
     unfold Kb
     simp only[hR1,hR2,true_and]
     simp
     constructor
     ·rintro⟨a,b⟩;exact⟨by omega,by omega,hO1,hO2⟩
     ·rintro⟨a,b,_⟩;exact⟨by omega,by omega⟩
  ·intro i h
   obtain⟨a,b,ea,eb,ek⟩:=Aef c.Au[i]
   simp only[decide_eq_true_eq]
   rw[if_pos (by omega),Cm h,List.getElem?_eq_getElem h]
   simp only[Option.bind_some,ea,eb,S7,Aea _ _ hc,Hb]
   simp only[Option.any_some,X9,←Air (l:=c.As)]
   generalize (match Dr c.As (fun x=>x.Bc==(c.Au[i]).Bt) with|some i=>((i:Nat):Int)|none=> -1)=pl
   by_cases hk:okR c.Au[i]=true
   ·obtain⟨rfl,rfl⟩:a=true∧b=true:=by rw[hk] at ek;simpa using ek.symm
    cases i with
    |zero=>
     by_cases h22:(0:Int)<(c.Au[0]).Bt<;>simp[hk,gdO,h22]<;>(try (split<;>simp_all))
    |succ i=>
     have e1:IntKind.wrap .i64 (((i+1:Nat):Int)-1)=(i:Int):=by rw[Df (by omega) (by omega)];omega
     have e2:decide (((i+1:Nat):Int)>0)=true:=decide_eq_true (by omega)
     rw[e1,e2,Cm (by omega),E6 (by omega) h]
     by_cases hd:(c.Au[i]).Az≥(c.Au[i+1]).Az
     ·simp[hk,gdO,hd]
     ·by_cases h22:0<(c.Au[i+1]).Bt<;>simp[hk,gdO,hd,h22]<;>(try (split<;>simp_all))
   ·have hk':okR c.Au[i]=false:=by simpa using hk
    rw[hk'] at ek
    cases a<;>cases b<;>simp[hk',gdO] at ek⊢
  ·intro i h
   simp only[decide_eq_true_eq]
   rw[if_neg (by omega)]
 ·intro i h
  simp only[decide_eq_true_eq]
  rw[if_pos (by omega),Cm h,List.getElem?_eq_getElem h]
  simp only[Option.bind_some,Xf _ (hN _ (List.getElem_mem h)),Option.any_some]
  by_cases hk:okC c.As[i]=true
  ·cases i with
   |zero=>simp[gdO,hk]
   |succ i=>
    have e1:IntKind.wrap .i64 (((i+1:Nat):Int)-1)=(i:Int):=by rw[Df (by omega) (by omega)];omega
    have e2:decide (((i+1:Nat):Int)>0)=true:=decide_eq_true (by omega)
    rw[e1,e2,Cm (by omega),E6 (by omega) h]
    by_cases hd:(c.As[i]).Bc≥(c.As[i+1]).Bc<;>simp[hk,gdO,hd]
  ·have hk':okC c.As[i]=false:=by simpa using hk
   simp[gdO,hk']
 ·intro i h
  simp only[decide_eq_true_eq]
  rw[if_neg (by omega)]
theorem Va{c:A4}(hf:Ac8 c)(h:Kb c):Dv c=some true:=by
 obtain⟨b,e,hb⟩:=R4 c (by have:=hf.1;omega) (by have:=hf.2.1;omega) (fun x hx=>by have:=hf.2.2 x hx;omega)
 rw[e,hb.2 h]
theorem Aam{c:A4}(hf:Ac8 c)(h: ¬Kb c):Dv c=some false:=by
 obtain⟨b,e,hb⟩:=R4 c (by have:=hf.1;omega) (by have:=hf.2.1;omega) (fun x hx=>by have:=hf.2.2 x hx;omega)
 cases b with
 |true=>exact absurd (hb.1 rfl) h
 |false=>exact e
theorem U9(m:A5):E0 m=some (okM m):=by
 have hn:F7 m.Bb=some (if m.Bb=0 then [69,85,82] else if m.Bb=1 then [74,80,89] else if m.Bb=2 then [66,72,68] else if m.Bb=3 then [85,83,68] else []):=by
  simp only[F7,beq_iff_eq]
  split
  ·rfl
  ·split
   ·rfl
   ·split
    ·rfl
    ·split<;>rfl
 simp only[E0,hn,Option.bind_some,Option.some.injEq,okM]
 have:(!((if m.Bb=0 then([69,85,82]:List UInt8) else if m.Bb=1 then [74,80,89] else if m.Bb=2 then [66,72,68] else if m.Bb=3 then [85,83,68] else [])==[]))=decide (0≤m.Bb∧m.Bb<4):=by
  by_cases h0:m.Bb=0
  ·simp[h0]
  ·by_cases h1:m.Bb=1
   ·simp[h1]
   ·by_cases h2:m.Bb=2
    ·simp[h2]
    ·by_cases h3:m.Bb=3
     ·simp[h3]
     ·simp[h0,h1,h2,h3];omega
 rw[this,Bool.eq_iff_iff]
 simp
 omega
theorem Qk(h:Aa):D7 h=some (okH h):=by
 simp only[D7,U9,C2,Option.bind_some,okH,okM]
 split
 ·rename_i hc
  simp only[Option.some.injEq]
  symm
  rw[decide_eq_false_iff_not]
  simp at hc
  omega
 ·rename_i hc
  simp only[Option.some.injEq]
  rw[Bool.eq_iff_iff]
  simp at hc⊢
  omega
theorem Oz(h:Aa)(now:Int):Dp h now=some (H4 h now):=by
 simp only[Dp,Qk,Option.bind_some,Option.some.injEq,H4]
 rw[Bool.eq_iff_iff]
 simp[and_assoc]
theorem U8(l:List Aa)(hn:l.length<4611686018427387904):Fs l=some (Agb l):=by
 unfold Fs
 rw[Zg (l:=l) (fun x=> !okH x) (o:=(Sum.inr 1:Unit⊕Int)) (e:=Sum.inl ()) hn]
 ·unfold Agb
  cases l.any fun x=> !okH x with
  |true=>rfl
  |false=>
   simp only[Bool.false_eq_true,if_false,Option.bind_some]
   rw[Ou (n:=l.length) (o:=(Sum.inr 20:Unit⊕Int)) (e:=Sum.inl ()) (q:=Fc (fun x:Aa=>x.Bc) l) hn]
   ·unfold Ala
    cases (List.range' 1 (l.length-1)).any (Fc (fun x:Aa=>x.Bc) l) with
    |true=>rfl
    |false=>
     simp only[Bool.false_eq_true,if_false,Option.bind_some,decide_eq_true_eq]
     by_cases h:200<l.length
     ·rw[if_pos h,if_pos (by omega)]
     ·rw[if_neg h,if_neg (by omega)]
   ·intro i h0 h
    have e1:IntKind.wrap .i64 ((i:Int)-1)=((i-1:Nat):Int):=by rw[Df (by omega) (by omega)];omega
    simp only[decide_eq_true_eq,e1]
    rw[if_pos (by omega),Cm h,Cm (show i-1<l.length by omega),E6 h0 h]
    simp only[Option.bind_some,decide_eq_true_eq,ge_iff_le]
    split<;>rfl
   ·intro i h
    simp only[decide_eq_true_eq]
    rw[if_neg (by omega)]
 ·intro i h
  simp only[decide_eq_true_eq]
  rw[if_pos (by omega),Cm h]
  simp only[Option.bind_some,Qk]
  split<;>rfl
 ·intro i h
  simp only[decide_eq_true_eq]
  rw[if_neg (by omega)]
theorem Xg(h:Aa)(now:Int):Dq h now=some (Em h now):=by
 simp only[Dq,Oz,Option.bind_some]
 unfold Em
 cases hl:H4 h now with
 |false=>rfl
 |true=>
  have:=Mp (Qz hl)
  simp only[Bool.not_true,Bool.false_eq_true,if_false,if_true]
  rw[Df (by omega) (by omega)]
theorem Aci{l:List Aa}{acc cur now rank:Int}(hn:l.length≤1000): ∀(t pre:List Aa) (n:Int),l=pre++t→0≤n→n+t.length*1000000000000000≤4000000000000000000→
  loopO (fun(qj6:Int×Int)=>match qj6 with
  |(n7,i8)=>(
   if (decide (i8<(l.length:Int)))=true then
    (rdO l i8).bind fun x9=>
    (some (x9.Az==acc)).bind fun c10=>
    (gdO c10 (rdO l i8) (default:Aa)).bind fun x11=>
    (some (c10&&(x11.Ak.Bb==cur))).bind fun c12=>
    (gdO c12 (rdO l i8) (default:Aa)).bind fun x13=>
    ((if (c12&&(decide (x13.A9≥rank)))=true then
      (rdO l i8).bind fun x15=>
      (Dq x15 now).bind fun x16=>
      some (IntKind.wrap .i64 (n7+x16))
    else
     some n7):Option Int).bind fun j14=>
    some (.inl (j14,IntKind.wrap .i64 (i8+1)))
   else
    some (.inr n7):Option ((Int×Int)⊕Int))) (n,(pre.length:Int))=some (n+Nf t acc cur now rank):=by
 intro t
 induction t with
 |nil=>
  intro pre n hl _ _
  rw[Bz (o:=n)]
  ·simp[Nf]
  ·have:decide ((pre.length:Int)<(l.length:Int))=false:=by rw[hl];simp
   simp only[this,Bool.false_eq_true,if_false]
 |cons h t ih=>
  intro pre n hl h0 h1
  have hlen:l.length=pre.length+(t.length+1):=by rw[hl];simp
  simp only[List.length_cons] at h1
  have hr:=Ji h now
  have hw:=Ac5 acc cur now rank h
  have hd:decide ((pre.length:Int)<(l.length:Int))=true:=by simp;omega
  have hx:rdO l (pre.length:Int)=some h:=by rw[hl];exact Gy rfl
  have e1:IntKind.wrap .i64 ((pre.length:Int)+1)=(((pre++[h]).length:Nat):Int):=wN (by simp) (by simp;omega)
  have e:Nf (h::t) acc cur now rank=wH acc cur now rank h+Nf t acc cur now rank:=by simp[Nf]
  have:=ih (pre++[h]) (n+wH acc cur now rank h) (by simp[hl]) (by omega) (by omega)
  rw[Cj (s':=(n+wH acc cur now rank h,(((pre++[h]).length:Nat):Int))),this,e,Int.add_assoc]
  have ew:IntKind.wrap .i64 (n+Em h now)=n+Em h now:=Df (by omega) (by omega)
  simp only[hd,if_true,hx,Option.bind_some,Hb,Xg,ew,e1]
  unfold wH
  by_cases ha:h.Az=acc
  ·have ba:(h.Az==acc)=true:=by simpa using ha
   simp only[ba,cond_true,Bool.true_and]
   by_cases hc:h.Ak.Bb=cur
   ·have bc:(h.Ak.Bb==cur)=true:=by simpa using hc
    simp only[bc,cond_true,Bool.true_and,decide_eq_true_eq]
    by_cases hk:rank≤h.A9
    ·rw[if_pos hk,if_pos ⟨ha,hc,hk⟩]
     rfl
    ·rw[if_neg hk,if_neg (fun q=>hk q.2.2)]
     simp
   ·have bc:(h.Ak.Bb==cur)=false:=by simpa using hc
    simp only[bc,cond_false,Bool.false_and,Bool.false_eq_true,if_false]
    rw[if_neg (fun q=>hc q.2.1)]
    simp
  ·have ba:(h.Az==acc)=false:=by simpa using ha
   simp only[ba,cond_false,Bool.false_and,Bool.false_eq_true,if_false]
   rw[if_neg (fun q=>ha q.1)]
   simp
theorem Ag3{l:List Aa}(hn:l.length≤1000)(acc cur now rank:Int):Gr l acc cur now rank=some (Nf l acc cur now rank):=by
 unfold Gr
 have:=Aci (l:=l) (acc:=acc) (cur:=cur) (now:=now) (rank:=rank) hn l [] 0 rfl (by omega) (by omega)
 simp only[List.length_nil,Option.bind_some] at this⊢
 have e0:((0:Nat):Int)=0:=rfl
 rw[e0] at this
 rw[this,Int.zero_add]
 rfl
end Go.Av.G
end
section
set_option linter.unusedVariables false
set_option linter.unusedSimpArgs false
set_option maxRecDepth 4000
set_option maxHeartbeats 4000000
namespace Go.Av.G
open Go Go.Av Go.Proofs
theorem Bd1(x:Aa):Aa.same x x=true:=by rw[Aa.same_iff];simp
theorem Ad0(a:List Aa)(hn:a.length<4611686018427387904):F9 a a=some true:=by
 unfold F9
 rw[if_neg (by simp),Zg (l:=a) (fun _=>false) (o:=(Sum.inr false:Unit⊕Bool)) (e:=Sum.inl ()) hn]
 ·have:(a.any fun _=>false)=false:=by simp
  rw[this]
  rfl
 ·intro i h
  simp only[decide_eq_true_eq]
  rw[if_pos (by omega),Cm h]
  simp only[Option.bind_some,Bd1]
  rfl
 ·intro i h
  simp only[decide_eq_true_eq]
  rw[if_neg (by omega)]
theorem Afg(l:List Aa)(n:Int)(hn:l.length<4611686018427387904):Dz l n=some (match Dr l (fun x=>x.Bc==n) with|some i=>((i:Nat):Int)|none=> -1):=by
 unfold Dz
 rw[Gl (l:=l) (fun x=>x.Bc==n) (o:=fun i=>(Sum.inr ((i:Nat):Int):Unit⊕Int)) (e:=Sum.inl ()) hn]
 ·cases Dr l fun x=>x.Bc==n<;>rfl
 ·intro i h
  simp only[decide_eq_true_eq]
  rw[if_pos (by omega),Cm h]
  simp only[Option.bind_some]
  split<;>rfl
 ·intro i h
  simp only[decide_eq_true_eq]
  rw[if_neg (by omega)]
theorem Aff{l:List Aa}(hg:Ll l){i:Nat}(hi:i<l.length):Dz l l[i].Bc=some (i:Int):=by
 have hf:=hg.few
 rw[Afg _ _ (by omega)]
 cases h:Dr l fun x=>x.Bc==l[i].Bc with
 |some j=>
  obtain⟨hj,h1,_⟩:=Fk h
  have:=hg.rise.inj hj hi (by simpa using h1)
  rw[this]
 |none=>
  have:=Le h l[i] (List.getElem_mem hi)
  simp at this
theorem Y5{l:List Aa}(hg:Ll l){n:Int}(hx: ∀x∈l,x.Bc≠n):Dz l n=some (-1):=by
 have hf:=hg.few
 rw[Afg _ _ (by omega)]
 cases h:Dr l fun x=>x.Bc==n with
 |some j=>
  obtain⟨hj,h1,_⟩:=Fk h
  exact absurd (by simpa using h1) (hx _ (List.getElem_mem hj))
 |none=>rfl
theorem Aiu{l:List Aa}(hn:l.length≤1000){i:Nat}(hi:i<l.length)(h:Aa):Ga l (i:Int) h=some (l.set i h):=by
 unfold Ga
 have:=Bdt (f:=fun(qj4:Int×(List Aa))=>match qj4 with
  |(i5,row6)=>(
   if (decide (i5<(l.length:Int)))=true then
    ((if (i5==(i:Int))=true then
      (apO 64 row6 [h]).bind fun x8=>
      some x8
    else
     (rdO l i5).bind fun x9=>
     (apO 64 row6 [x9]).bind fun x10=>
     some x10):Option (List Aa)).bind fun j7=>
    some (.inl (IntKind.wrap .i64 (i5+1),j7))
   else
    some (.inr row6):Option ((Int×(List Aa))⊕(List Aa)))) (n:=l.length) (fun k=>((k:Int),(l.set i h).take k)) (o:=l.set i h) (by
   intro k hk
   have hd:decide ((k:Int)<(l.length:Int))=true:=by simp;omega
   have hs:k<(l.set i h).length:=by simpa using hk
   have e1:IntKind.wrap .i64 ((k:Int)+1)=((k+1:Nat):Int):=wN (by omega) (by omega)
   have ha: ∀x:Aa,apO 64 ((l.set i h).take k) [x]=some ((l.set i h).take k++[x]):=fun x=>Md (by simp[List.length_take];omega)
   simp only[hd,if_true,Cm hk,Option.bind_some,ha,e1]
   rw[List.take_succ_eq_append_getElem hs]
   by_cases e:k=i
   ·subst e
    simp
   ·have:((k:Int)==(i:Int))=false:=by simp;omega
    rw[this,List.getElem_set_ne (by omega)]
    simp) (by
   have hd:decide ((l.length:Int)<(l.length:Int))=false:=by simp
   have ht:(l.set i h).take l.length=l.set i h:=List.take_of_length_le (by simp)
   simp only[hd,Bool.false_eq_true,if_false,ht])
 have e0:((0:Nat):Int)=0:=rfl
 simp only[e0,List.take_zero] at this
 rw[this]
 rfl
theorem Abz{h:Aa}: ∀{t:List Aa},(t.any fun x=>decide (h.Bc<x.Bc))=false→Qe h t=t++[h]
 |[],_=>rfl
 |x::t,hx=>by
  simp only[List.any_cons,Bool.or_eq_false_iff,decide_eq_false_iff_not] at hx
  show(if h.Bc<x.Bc then h::x::t else x::Qe h t)=x::(t++[h])
  rw[if_neg hx.1,Abz hx.2]
theorem Acf{l:List Aa}{h:Aa}(hn:l.length≤1000): ∀(t pre row:List Aa) (d:Bool),l=pre++t→row.length=pre.length+(if d=true then 1 else 0)→
  loopO (fun(qj7:Bool×Int×(List Aa))=>match qj7 with
     |(done8,i9,row10)=>(
      if (decide (i9<(l.length:Int)))=true then
       (some (!done8)).bind fun c11=>
       (gdO c11 (rdO l i9) (default:Aa)).bind fun x12=>
       ((if (c11&&(decide (x12.Bc>h.Bc)))=true then
         (apO 64 row10 [h]).bind fun x14=>
         some (true,x14)
       else
        some (done8,row10)):Option (Bool×(List Aa))).bind fun(done15,row16)=>
       (rdO l i9).bind fun x17=>
       (apO 64 row16 [x17]).bind fun x18=>
       some (.inl (done15,IntKind.wrap .i64 (i9+1),x18))
      else
       some (.inr (done8,row10)):Option ((Bool×Int×(List Aa))⊕(Bool×(List Aa))))) (d,(pre.length:Int),row)=some (if d=true then(true,row++t) else if (t.any fun x=>decide (h.Bc<x.Bc))=true then(true,row++Qe h t) else(false,row++t)):=by
 intro t
 induction t with
 |nil=>
  intro pre row d hl hr
  rw[Bz (o:=(d,row))]
  ·cases d<;>simp
  ·have:decide ((pre.length:Int)<(l.length:Int))=false:=by rw[hl];simp
   simp only[this,Bool.false_eq_true,if_false]
 |cons x t ih=>
  intro pre row d hl hr
  have hlen:l.length=pre.length+(t.length+1):=by rw[hl];simp
  have hd:decide ((pre.length:Int)<(l.length:Int))=true:=by simp;omega
  have hx:rdO l (pre.length:Int)=some x:=by rw[hl];exact Gy rfl
  have e1:IntKind.wrap .i64 ((pre.length:Int)+1)=(((pre++[x]).length:Nat):Int):=wN (by simp) (by simp;omega)
  have hrl:row.length≤pre.length+1:=by rw[hr];split<;>omega
  have a1: ∀y:Aa,apO 64 row [y]=some (row++[y]):=fun y=>Md (by simp;omega)
  have a2: ∀y z:Aa,apO 64 (row++[y]) [z]=some (row++[y]++[z]):=fun y z=>Md (by simp;omega)
  cases d with
  |true=>
   have:=ih (pre++[x]) (row++[x]) true (by simp[hl]) (by simp at hr⊢;omega)
   rw[Cj (s':=(true,(((pre++[x]).length:Nat):Int),row++[x])),this]
   ·simp
   ·simp only[hd,if_true,Option.bind_some,Bool.not_true,gdO,Bool.false_and,Bool.false_eq_true,if_false,hx,a1,e1]
  |false=>
   by_cases hc:h.Bc<x.Bc
   ·have:=ih (pre++[x]) (row++[h]++[x]) true (by simp[hl]) (by simp at hr⊢;omega)
    rw[Cj (s':=(true,(((pre++[x]).length:Nat):Int),row++[h]++[x])),this]
    ·have:Qe h (x::t)=h::x::t:=by show(if h.Bc<x.Bc then h::x::t else x::Qe h t)=_;rw[if_pos hc]
     simp only[if_true,Bool.false_eq_true,if_false,List.any_cons,hc,decide_true,Bool.true_or,this]
     simp
    ·simp only[hd,if_true,Option.bind_some,Bool.not_false,gdO,Bool.true_and,hx,gt_iff_lt,hc,decide_true,a1,a2,e1]
   ·have:=ih (pre++[x]) (row++[x]) false (by simp[hl]) (by simp at hr⊢;omega)
    rw[Cj (s':=(false,(((pre++[x]).length:Nat):Int),row++[x])),this]
    ·simp only[Bool.false_eq_true,if_false,List.any_cons,hc,decide_false,Bool.false_or]
     have:Qe h (x::t)=x::Qe h t:=by show(if h.Bc<x.Bc then h::x::t else x::Qe h t)=_;rw[if_neg hc]
     rw[this]
     simp
    ·simp only[hd,if_true,Option.bind_some,Bool.not_false,gdO,Bool.true_and,hx,gt_iff_lt,hc,decide_false,Bool.false_eq_true,if_false,a1,e1]
theorem Ag1{l:List Aa}(hg:Ll l)(h:Aa):Gq l h=some (Uf l h):=by
 have hf:=hg.few
 unfold Gq Uf
 simp only[Qk,Option.bind_some]
 have hc:(!okH h||h.Bo !=0||h.C4)=(!okH h||decide (0<h.Bo)||h.C4):=by
  cases hk:okH h with
  |false=>rfl
  |true=>
   have:=Mp hk
   have:(h.Bo !=0)=decide (0<h.Bo):=by rw[Bool.eq_iff_iff];simp;omega
   rw[this]
 rw[hc]
 split
 ·rfl
 ·cases ha:l.any fun x=>x.Bc==h.Bc with
  |true=>
   obtain⟨i,hi,he⟩:=Al9 ha
   have:=Aff hg hi
   rw[he] at this
   rw[this]
   simp only[Option.bind_some,if_true]
   rw[if_pos (by simp)]
  |false=>
   rw[Y5 hg (Aid.1 ha)]
   simp only[Option.bind_some,Bool.false_eq_true,if_false]
   have e1:IntKind.wrap .i64 ((l.length:Int)+1)=((l.length+1:Nat):Int):=wN (by omega) (by omega)
   rw[if_neg (by decide),e1]
   by_cases h2:200≤l.length
   ·rw[if_pos (by rw[decide_eq_true_eq];omega),if_pos h2]
   ·rw[if_neg (by rw[decide_eq_true_eq];omega),if_neg h2]
    have:=Acf (l:=l) (h:=h) (by omega) l [] [] false rfl rfl
    simp only[List.length_nil,Bool.false_eq_true,if_false,List.nil_append,Option.bind_some] at this
    have e0:((0:Nat):Int)=0:=rfl
    rw[e0] at this
    rw[this]
    simp only[Option.bind_some]
    cases hq:l.any fun x=>decide (h.Bc<x.Bc) with
    |true=>simp only[if_true,Bool.not_true,Bool.false_eq_true,if_false,Option.bind_some]
    |false=>
     have:apO 64 l [h]=some (l++[h]):=Md (by simp;omega)
     simp only[Bool.false_eq_true,if_false,Bool.not_false,if_true,this,Option.bind_some,Abz hq]
theorem Acg{l:List Aa}(hg:Ll l){id:Int}(h: ∀x∈l,x.Bc≠id)(a:A5)(now:Int)(last:Bool):Da l id a now last=some ([],8):=by
 unfold Da
 rw[Y5 hg h]
 rfl
theorem Ag2{l:List Aa}(hg:Ll l){i:Nat}(hi:i<l.length)(a:A5)(now:Int)(last:Bool):Da l l[i].Bc a now last=some (Ri l i l[i] a now last):=by
 have hf:=hg.few
 unfold Da Ri
 rw[Aff hg hi]
 have hneg:decide (((i:Nat):Int)<0)=false:=by simp
 simp only[Option.bind_some,hneg,Bool.false_eq_true,if_false,Cm hi,Oz,U9]
 cases hl:H4 l[i] now with
 |false=>rfl
 |true=>
  simp only[Bool.not_true,Bool.false_eq_true,if_false,Bool.true_eq_false,bne_iff_ne,ne_eq]
  split
  ·rfl
  ·have hm:decide (a.Ao<1)=decide (a.Ao≤0):=by rw[Bool.eq_iff_iff];simp;omega
   rw[hm]
   split
   ·rfl
   ·rename_i h2
    have ho:=Mp (Qz hl)
    have hr:Em l[i] now=l[i].Ak.Ao-l[i].Bo:=by unfold Em;rw[if_pos hl]
    have e1:IntKind.wrap .i64 (l[i].Ak.Ao-l[i].Bo)=Em l[i] now:=by rw[hr,Df (by omega) (by omega)]
    simp only[e1,decide_eq_true_eq,gt_iff_lt]
    by_cases h3:Em l[i] now<a.Ao
    ·rw[if_pos h3,if_pos h3]
    ·rw[if_neg h3,if_neg h3]
     have hp:0<a.Ao:=by
      simp only[Bool.or_eq_true,decide_eq_true_eq,not_or] at h2
      omega
     rw[Y0 hl hp h3,Aiu (by omega) hi]
     rfl
theorem Zm{l:List Aa}{acc cur now:Int}{k:Int}(hn:l.length≤1000): ∀(t pre:List Aa) (left:Int) (row:List Aq),l=pre++t→0≤left→left<9223372036854775808→row.length+t.length≤1000000→
  loopO (fun(qj10:Int×Int×(List Aq))=>match qj10 with
     |(left11,i12,row13)=>(
      if (decide (i12<(l.length:Int)))=true then
       (rdO l i12).bind fun x14=>
       (Dp x14 now).bind fun x15=>
       (gdO x15 (rdO l i12) (default:Aa)).bind fun x16=>
       (some (x15&&(x16.A9==k))).bind fun c17=>
       (gdO c17 (rdO l i12) (default:Aa)).bind fun x18=>
       (some (c17&&(x18.Az==acc))).bind fun c19=>
       (gdO c19 (rdO l i12) (default:Aa)).bind fun x20=>
       ((if (c19&&(x20.Ak.Bb==cur))=true then
         (rdO l i12).bind fun x22=>
         (Dq x22 now).bind fun x23=>
         (rdO l i12).bind fun x24=>
         (apO 16 row13 [(⟨x24.Bc,(if x23<left11 then x23 else left11)⟩:Aq)]).bind fun x25=>
         some (IntKind.wrap .i64 (left11-(if x23<left11 then x23 else left11)),x25)
       else
        some (left11,row13)):Option (Int×(List Aq))).bind fun(left26,row27)=>
       some (.inl (left26,IntKind.wrap .i64 (i12+1),row27))
      else
       some (.inr (left11,row13)):Option ((Int×Int×(List Aq))⊕(Int×(List Aq))))) (left,(pre.length:Int),row)=some (Vp now left ((t.filter (Hs acc cur now)).filter fun h=>h.A9==k),row++Nr now left ((t.filter (Hs acc cur now)).filter fun h=>h.A9==k)):=by
 intro t
 induction t with
 |nil=>
  intro pre left row hl _ _ _
  rw[Bz (o:=(left,row))]
  ·simp[Nr,Vp]
  ·have:decide ((pre.length:Int)<(l.length:Int))=false:=by rw[hl];simp
   simp only[this,Bool.false_eq_true,if_false]
 |cons h t ih=>
  intro pre left row hl h0 h1 hrow
  have hlen:l.length=pre.length+(t.length+1):=by rw[hl];simp
  simp only[List.length_cons] at hrow
  have hd:decide ((pre.length:Int)<(l.length:Int))=true:=by simp;omega
  have hx:rdO l (pre.length:Int)=some h:=by rw[hl];exact Gy rfl
  have e1:IntKind.wrap .i64 ((pre.length:Int)+1)=(((pre++[h]).length:Nat):Int):=wN (by simp) (by simp;omega)
  have hq:=Ot (Ji h now).1 h0
  have e2:IntKind.wrap .i64 (left-E7 (Em h now) left)=left-E7 (Em h now) left:=Df (by omega) (by omega)
  have ea:apO 16 row [(⟨h.Bc,E7 (Em h now) left⟩:Aq)]=some (row++[⟨h.Bc,E7 (Em h now) left⟩]):=Md (by simp;omega)
  by_cases hs:(H4 h now&&(h.A9==k)&&(h.Az==acc)&&(h.Ak.Bb==cur))=true
  ·have hf:((h::t).filter (Hs acc cur now)).filter (fun h=>h.A9==k)=h::((t.filter (Hs acc cur now)).filter fun h=>h.A9==k):=by
    simp only[Bool.and_eq_true] at hs
    have:Hs acc cur now h=true:=by unfold Hs;simp only[hs.1.1.1,hs.1.2,hs.2,Bool.and_self]
    rw[List.filter_cons,if_pos this,List.filter_cons,if_pos hs.1.1.2]
   rw[hf]
   have:=ih (pre++[h]) (left-E7 (Em h now) left) (row++[⟨h.Bc,E7 (Em h now) left⟩]) (by simp[hl]) (by omega) (by omega) (by simp;omega)
   rw[Cj (s':=(left-E7 (Em h now) left,(((pre++[h]).length:Nat):Int),row++[⟨h.Bc,E7 (Em h now) left⟩])),this]
   ·simp[Nr,Vp]
   ·simp only[Bool.and_eq_true] at hs
    unfold E7 at ea e2
    simp only[hd,if_true,hx,Option.bind_some,Hb,Oz,Xg,hs.1.1.1,hs.1.1.2,hs.1.2,hs.2,cond_true,Bool.and_self,ea,e1,e2]
    unfold E7
    rfl
  ·have hf:((h::t).filter (Hs acc cur now)).filter (fun h=>h.A9==k)=(t.filter (Hs acc cur now)).filter fun h=>h.A9==k:=by
    rw[List.filter_cons]
    split
    ·rename_i hsel
     rw[List.filter_cons,if_neg]
     intro hk
     apply hs
     unfold Hs at hsel
     simp only[Bool.and_eq_true] at hsel⊢
     exact⟨⟨⟨hsel.2.2,hk⟩,hsel.1⟩,hsel.2.1⟩
    ·rfl
   rw[hf]
   have:=ih (pre++[h]) left row (by simp[hl]) h0 h1 (by omega)
   rw[Cj (s':=(left,(((pre++[h]).length:Nat):Int),row)),this]
   simp only[hd,if_true,hx,Option.bind_some,Hb,Oz,e1]
   have hfalse:((H4 h now&&((bif H4 h now then h else default).A9==k))&&((bif (H4 h now&&((bif H4 h now then h else default).A9==k)) then h else default).Az==acc)&&((bif ((H4 h now&&((bif H4 h now then h else default).A9==k))&&((bif (H4 h now&&((bif H4 h now then h else default).A9==k)) then h else default).Az==acc)) then h else default).Ak.Bb==cur))=false:=by
    rw[Bool.eq_false_iff]
    intro hc
    apply hs
    cases hv:H4 h now with
    |false=>rw[hv] at hc;simp at hc
    |true=>
     rw[hv] at hc
     simp only[cond_true,Bool.true_and] at hc⊢
     cases hk:h.A9==k with
     |false=>rw[hk] at hc;simp at hc
     |true=>
      rw[hk] at hc
      simp only[cond_true,Bool.true_and] at hc⊢
      cases hA:h.Az==acc with
      |false=>rw[hA] at hc;simp at hc
      |true=>
       rw[hA] at hc
       simpa using hc
   simp only[hfalse,Bool.false_eq_true,if_false,Option.bind_some]
theorem Aeg{l:List Aa}{acc cur now:Int}(hn:l.length≤1000): ∀(k:Nat) (left:Int) (row:List Aq),k≤9→0≤left→left<9223372036854775808→row.length≤(9-k)*1000→
  loopO (fun(qj6:Int×Int×(List Aq))=>match qj6 with
  |(left7,rank8,row9)=>(
   if (decide (rank8≥0))=true then
    ((loopO (fun(qj10:Int×Int×(List Aq))=>match qj10 with
      |(left11,i12,row13)=>(
       if (decide (i12<(l.length:Int)))=true then
        (rdO l i12).bind fun x14=>
        (Dp x14 now).bind fun x15=>
        (gdO x15 (rdO l i12) (default:Aa)).bind fun x16=>
        (some (x15&&(x16.A9==rank8))).bind fun c17=>
        (gdO c17 (rdO l i12) (default:Aa)).bind fun x18=>
        (some (c17&&(x18.Az==acc))).bind fun c19=>
        (gdO c19 (rdO l i12) (default:Aa)).bind fun x20=>
        ((if (c19&&(x20.Ak.Bb==cur))=true then
          (rdO l i12).bind fun x22=>
          (Dq x22 now).bind fun x23=>
          (rdO l i12).bind fun x24=>
          (apO 16 row13 [(⟨x24.Bc,(if x23<left11 then x23 else left11)⟩:Aq)]).bind fun x25=>
          some (IntKind.wrap .i64 (left11-(if x23<left11 then x23 else left11)),x25)
        else
         some (left11,row13)):Option (Int×(List Aq))).bind fun(left26,row27)=>
        some (.inl (left26,IntKind.wrap .i64 (i12+1),row27))
       else
        some (.inr (left11,row13)):Option ((Int×Int×(List Aq))⊕(Int×(List Aq))))) (left7,0,row9)):Option (Int×(List Aq))).bind fun(left28,row29)=>
    some (.inl (left28,IntKind.wrap .i64 (rank8-1),row29))
   else
    some (.inr row9):Option ((Int×Int×(List Aq))⊕(List Aq)))) (left,(k:Int),row)=some (row++Nr now left (I6 (l.filter (Hs acc cur now)) k)):=by
 intro k
 induction k with
 |zero=>
  intro left row _ h0 h1 hrow
  have hi:=Zm (l:=l) (acc:=acc) (cur:=cur) (now:=now) (k:=((0:Nat):Int)) hn l [] left row rfl h0 h1 (by omega)
  have e0:(([]:List Aa).length:Int)=0:=rfl
  rw[e0] at hi
  rw[Cj (s':=(Vp now left ((l.filter (Hs acc cur now)).filter fun h=>h.A9==((0:Nat):Int)),(-1),row++Nr now left ((l.filter (Hs acc cur now)).filter fun h=>h.A9==((0:Nat):Int)))),Bz]
  ·rfl
  ·have hd:decide (((0:Nat):Int)≥0)=true:=rfl
   simp only[hd,if_true]
   rw[hi]
   rfl
 |succ k ih=>
  intro left row hk h0 h1 hrow
  have hi:=Zm (l:=l) (acc:=acc) (cur:=cur) (now:=now) (k:=((k+1:Nat):Int)) hn l [] left row rfl h0 h1 (by omega)
  have e0:(([]:List Aa).length:Int)=0:=rfl
  rw[e0] at hi
  have hr:=Wu now ((l.filter (Hs acc cur now)).filter fun h=>h.A9==((k+1:Nat):Int)) left h0
  have hll:((l.filter (Hs acc cur now)).filter fun h=>h.A9==((k+1:Nat):Int)).length≤1000:=Nat.le_trans (List.length_filter_le _ _) (Nat.le_trans (List.length_filter_le _ _) hn)
  have:=ih (Vp now left ((l.filter (Hs acc cur now)).filter fun h=>h.A9==((k+1:Nat):Int))) (row++Nr now left ((l.filter (Hs acc cur now)).filter fun h=>h.A9==((k+1:Nat):Int))) (by omega) hr.1 (by omega) (by rw[List.length_append,P4];omega)
  rw[Cj (s':=(Vp now left ((l.filter (Hs acc cur now)).filter fun h=>h.A9==((k+1:Nat):Int)),(k:Int),row++Nr now left ((l.filter (Hs acc cur now)).filter fun h=>h.A9==((k+1:Nat):Int)))),this]
  ·rw[I6,U2,List.append_assoc]
  ·have hd:decide (((k+1:Nat):Int)≥0)=true:=by simp;omega
   have ew:IntKind.wrap .i64 (((k+1:Nat):Int)-1)=(k:Int):=wN (by omega) (by omega)
   simp only[hd,if_true,ew]
   rw[hi]
   rfl
theorem Ach{l:List Aa}(hn:l.length≤1000){funds:Int}(hf:funds<9223372036854775808)(acc cur now:Int):
  Ft l acc cur now funds=some (Nr now (if 0>funds then 0 else funds) (I6 (l.filter (Hs acc cur now)) 9)):=by
 unfold Ft
 have e:(if funds>0 then funds else 0)=(if 0>funds then 0 else funds):=by split<;>split<;>omega
 have h0:0≤(if 0>funds then 0 else funds)∧(if 0>funds then 0 else funds)<9223372036854775808:=by split<;>omega
 have:=Aeg (l:=l) (acc:=acc) (cur:=cur) (now:=now) hn 9 (if 0>funds then 0 else funds) [] (by omega) h0.1 h0.2 (by simp)
 have e9:((9:Nat):Int)=9:=rfl
 rw[e9] at this
 rw[e,this]
 rfl
end Go.Av.G
end
section
set_option linter.unusedVariables false
set_option linter.unusedSimpArgs false
set_option maxRecDepth 4000
set_option maxHeartbeats 4000000
namespace Go.Av.G
open Go Go.Av Go.Proofs
end Go.Av.G
end
