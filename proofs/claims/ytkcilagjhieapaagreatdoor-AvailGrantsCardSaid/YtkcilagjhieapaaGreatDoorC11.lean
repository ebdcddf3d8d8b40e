import Derived.WalkKit
import Derived.Deep.LoopGhost
import Derived.Lib.Walk
import Derived.Lib.SliceRun
import Derived.Test.YtkcilagjhieapaaGreatDoorC10
section
set_option linter.unusedVariables false
set_option linter.unusedSimpArgs false
namespace Go.Av.G
open Go Go.Av Go.Proofs Go.Shelf Go.RowKit Go.Lib
theorem hm:Tryz.prog.follows .mixedOrders=true:=by kernel_rfl
theorem Mc{w w':World}{ok:Nat→Prop}{γ δ:Nat→Blk}{x:SV}{v:Value}(hb:Below w.heap.size w w')(hv:Br w' (okB ⟨w,[],γ,0,ok,[]⟩ (Gh γ δ) (D1 [] []) w') (Gh γ δ) (D1 [] []) x v):Ss ⟨w,[],γ,0,ok,[]⟩ w' ⟨x,[],[]⟩ v δ:=by
 have no: ∀k o,D1 [] [] k=some o→False:=by intro k o h;cases k<;>simp[D1] at h
 exact⟨hb.size,fun b hb' _=>hb.block b hb',fun k k' o o' b h=>(no _ _ h).elim,fun k o b h=>(no _ _ h).elim,rfl,fun i o h=>(no _ _ h).elim,fun k o h=>(no _ _ h).elim,hv,⟨hb.os,hb.tape,hb.output⟩⟩
theorem Yt{w w':World}{ok:Nat→Prop}{γ:Nat→Blk}{sz:Nat}{xs:List PV}{B:Blk}{v:Value}(hb:Below w.heap.size w w')(hge: ∀g,B.b=some g→w.heap.size≤g)(hO: ∀okk:Nat→Prop,(∀b,ok b→b<w.heap.size→okk b)→Gz w' okk (Gh γ (fun _=>B)) (D1 [] [some (.row sz xs)]) (.row sz xs) B)
  (hok: ∀b,ok b→b<w.heap.size)(hv: ∀okk:Nat→Prop,Br w' okk (Gh γ (fun _=>B)) (D1 [] [some (.row sz xs)]) (.own (.res 0)) v):Ss ⟨w,[],γ,0,ok,[]⟩ w' ⟨.own (.res 0),[some (.row sz xs)],[]⟩ v (fun _=>B):=by
 have one: ∀k o,D1 [] [some (Ba.row sz xs)] k=some o→k= .res 0∧o= .row sz xs:=by
  intro k o h
  cases k with
  |loc=>simp[D1] at h
  |ext i=>simp[D1] at h
  |res i=>cases i with
   |zero=>simp[D1] at h;exact⟨rfl,h.symm⟩
   |succ i=>simp[D1] at h
 refine⟨hb.size,fun b hb' _=>hb.block b hb',fun k k' o o' b h h' _ _=>by rw[(one _ _ h).1,(one _ _ h').1],fun k o b h e=>?_,rfl,fun i o h=>(by cases (one _ _ h).1),fun k o h=>?_,hv _,⟨hb.os,hb.tape,hb.output⟩⟩
 ·obtain⟨rfl,rfl⟩:=one _ _ h
  exact .inl (hge b e)
 ·obtain⟨rfl,rfl⟩:=one _ _ h
  refine hO _ (fun b hb1 hb2=>⟨Nat.lt_of_lt_of_le hb2 hb.size,fun k o h' e=>?_,fun _=> .inl hb1⟩)
  obtain⟨rfl,rfl⟩:=one _ _ h'
  have:=hge b e
  omega
noncomputable def Ej(f:Int→Option Bool)(s:List UInt8):Option Bool:=
 open Classical in if h: ∃p:Nat→Bool,∀x:Nat,f x=some (p x) then some (decide (0≤Lib.idxFunc h.choose true ⟨s.toArray⟩)) else none
theorem N2{f:Int→Option Bool}{s:List UInt8}(p:Nat→Bool)(hp: ∀x:Nat,f x=some (p x)):Ej f s=some (decide (0≤Lib.idxFunc p true ⟨s.toArray⟩)):=by
 unfold Ej
 have h: ∃p:Nat→Bool,∀x:Nat,f x=some (p x):=⟨p,hp⟩
 rw[dif_pos h]
 have e:h.choose=p:=funext fun x=>by
  have:=h.choose_spec x
  rw[hp x] at this
  exact(Option.some.inj this).symm
 rw[e]
theorem Als{g:FuncId}{f:Int→Option Bool}(hf: ∀x r,f x=some r→A3 Tryz.prog g [.pv (.int .i32 x)] [] ⟨.pv (.bool r),[],[]⟩){p:Nat→Bool}(hp: ∀x:Nat,f x=some (p x))(w:World){ok:Nat→Prop}(hok: ∀b,ok b→b<w.heap.size)(hG:GOK w ok):PredGrows Tryz.prog g #[] p w:=by
 intro W x _ hgr
 refine((hf x _ (hp x)).2 W [encR x] (fun _=>⟨none,0⟩) ok (fun b hb=>⟨Nat.lt_of_lt_of_le (hok b hb) hgr.size,by simp⟩) (Nv hG fun b hb hlt=>⟨hgr.block b hlt,hb⟩) (by simp) (by simp) rfl ?_).mono ?_
 ·intro j x' v hx hv
  cases j with
  |zero=>simp at hx hv;subst hx;subst hv;exact .pv _ _ (.int _ _)
  |succ j=>simp at hx
 ·rintro e w' ⟨v,δ,rfl,ha⟩
  have hv:=Qy (Cl ha.val)
  subst hv
  exact⟨rfl,ha.quiet.os,ha.quiet.tape,ha.quiet.out,ha.size,fun k hk=>ha.frame k hk (fun⟨i,hi,_⟩=>by cases hi)⟩
theorem Ms{g:FuncId}{f:Int→Option Bool}{s:List UInt8}{r:Bool}(hf: ∀x r,f x=some r→A3 Tryz.prog g [.pv (.int .i32 x)] [] ⟨.pv (.bool r),[],[]⟩)(h:Ej f s=some r):A3 Tryz.prog 120 [.pv (.str s),.pv (.fn g)] [] ⟨.pv (.bool r),[],[]⟩:=by
 unfold Ej at h
 split at h
 ·rename_i hx
  simp only[Option.some.injEq] at h
  have hp:=hx.choose_spec
  refine⟨⟨Tryz.f120,Tryz.func120,by kernel_rfl,by kernel_rfl⟩,fun w vs γ ok h1 hG h2 h3 h4 h5=>?_⟩
  match vs,h4 with
  |[v1,v2],_=>
   have e1:=Th (Cl (h5 0 _ _ rfl rfl))
   have e2:v2= .func (.func g) #[] #[]:=by
    have:=Cl (h5 1 _ _ rfl rfl)
    cases this;rfl
   subst e1;subst e2
   obtain⟨fn,hfn,hne,hbd⟩:=(hf 0 _ (hp 0)).1
   obtain⟨c,hc⟩: ∃c,fn.body=some c:=by
    cases hb:fn.body with
    |none=>rw[hb] at hbd;cases hbd
    |some c=>exact⟨c,rfl⟩
   refine(Any.strings_ContainsFunc_grows X5 g #[] (enters_of hfn hne hc) hx.choose ⟨s.toArray⟩ w (Als hf hp w (fun b hb=>(h1 b hb).1) hG)).mono ?_
   rintro e w' ⟨rfl,hb⟩
   exact⟨_,fun _=>⟨none,0⟩,rfl,Mc hb (.pv _ _ (by rw[←h];exact .bool _))⟩
 ·cases h
section
variable {P:Program} {ρ:Ren}
theorem Agd(L:SlLaysE0.n41 P ρ)(i0:TypeInfo)(z:Value)(size bytes:Nat)(hi:P.info? (ρ.t 23)=some i0)(hz0:i0.zero=some z)(hz1:i0.size=size)(hz2:i0.bytes=bytes)(hzs:z.cells.size=size)(hsz:0<size)
  (z23: ∀w,(Go.sizeOf (ρ.t 23)).run P w= .ok size w)(hent:Av.Enters P (ρ.f 41)){α:Type}{f:α→PV}{l:List α}(hf: ∀x,(f x).cells.length=size)(hb:l.length*bytes≤140737488355328)(hb1:1≤bytes)(hne:l≠[]):
  A3 P (ρ.f 41) [.pv (.slice (l.map f))] [] ⟨.own (.res 0),[some (.row size (l.map f))],[]⟩:=by
 refine⟨hent,fun w vs γ ok h1 hG h2 h3 h4 h5=>?_⟩
 match vs,h4 with
 |[v],_=>
  have hR:=S5 (nt:=1) h1 hG h2 h3 rfl h5 (by simp)
  have ha:It size (l.map f)=true:=Sb hf
  obtain⟨ad,c,news,hv,n1,n2,n3,n4⟩:=P6 hR (x:= .pv (.slice (l.map f))) (v:=v) (by have:=hR.slots 0;simpa [enter,St.get,Rf,Kh] using this) (ys:=l.map f) rfl ha (by omega)
  have hlen:0<l.length:=List.length_pos_iff.2 hne
  obtain⟨b,rfl,hcell⟩:=n4 (by simpa using hlen)
  have hlie:=Cl (h5 0 _ _ rfl rfl)
  obtain⟨ad',c',sz',us',e1,_,_,hfine,_,hsp,_⟩:=Kl hlie
  rw[hv] at e1
  injection e1 with q1 q2 q3
  subst q1
  obtain⟨b',eb,hspot⟩:=hsp (by simpa using hlen)
  cases eb
  have hbe:b=⟨b.block,b.off,none⟩:=by rw[←hspot]
  have hll:(l.map f).length=l.length:=by simp
  rw[hll] at hv n1
  subst hv
  have hcount:l.length≤140737488355328:=by
   have:l.length*1≤l.length*bytes:=Nat.mul_le_mul_left _ hb1
   omega
  rw[hbe]
  refine(AnyE.slices_Clone L i0 z size bytes hi hz0 hz1 hz2 hzs hsz z23 b.block b.off l.length c news w n1 (by unfold maxLen;omega) hb (fun j u hj=>?_) n2).mono ?_
  ·have:=hcell j u hj
   rw[hbe] at this
   simpa [K3] using this
  ·rintro e w' ⟨v',rfl,hown,hnil,hbel⟩
   obtain⟨_,hown⟩:=hown
   rcases hown with⟨rfl,h0⟩|⟨g,cap,cur,rfl,hge,hcur,hle,hmax,hsize,htake⟩
   ·omega
   ·have hkeep: ∀okk:Nat→Prop,(∀b,ok b→b<w.heap.size→okk b)→ ∀{x:PV} {u:Value},Cn w (okB ⟨w,[],γ,1,ok,[]⟩ (O5 γ) (enter [SV.pv (PV.slice (List.map f l))] []).look w) x u→Cn w' okk x u:=fun okk hokk x u hL=>by
     refine hL.mono (fun b' hb' off u hu=>?_) (fun b' hb'=>?_)
     ·have:=hbel.block b' hb'.1
      simpa only[World.cell?,this] using hu
     ·rcases hb'.2.2 hb'.1 with q|⟨i,hi,_⟩
      ·exact hokk b' q hb'.1
      ·cases hi
    refine⟨_,fun _=>⟨some g,cap⟩,rfl,Yt hbel (fun g' e=>by cases e;exact hge) (fun okk hokk=> .inr ⟨g,cur,ρ.t 23,rfl,hcur,by simpa using hle,hsize,fun x hx=>⟨F0 ha x hx,hfine x hx⟩,fun i j x y hx hy=>?_⟩) (fun b hb'=>(h1 b hb').1) (fun okk=>?_)⟩
    ·obtain⟨u,hu,hL⟩:=n3 i j x y hx hy
     refine⟨u,?_,hkeep okk hokk hL⟩
     rw[←htake] at hu
     rw[List.getElem?_take] at hu
     split at hu
     ·simpa using hu
     ·cases hu
    ·have:=Br.own (w:=w') (ok:=okk) (β:=Gh γ (fun _=>⟨some g,cap⟩)) (lk:=D1 [] [some (.row size (l.map f))]) (.res 0) size (l.map f) g rfl rfl
     simpa [Gh] using this
theorem Sq(w:World){ops:Array Oper}{rest:List Oper}{o:Oper}{a:Act}{Q:Exit→Act→World→Prop}(hgd:o.guard=none)(d s:Operand)(t e:TypeId){i:TypeInfo}(ht:P.underlying t=some (.slice e))(hi:P.info? e=some i)
  (ho:o.op= .call {callee:= .builtin .append,args:= #[d,s],argTypes:= #[t,t]})(ax ad:Option Addr)(c:Nat)(hd:a.eval d= .slice ax 0 0)(hs:a.eval s= .slice ad 0 c)(h:wpList P ops Q rest (a.put o.dst (.slice ax 0 0)) w):wpList P ops Q (o::rest) a w:=by
 refine wpList_plain hgd fun K hK=>?_
 have hr:(Builtin.append_ #[t,t] o.type #[a.eval d,a.eval s]).run P w= .ok (.slice ax 0 0) w:=by
  rw[hd,hs]
  have hf:(Builtin.firstCells i.size 0 (.slice ad 0 c)).run P w= .ok #[] w:=by
   cases ad with
   |none=>rfl
   |some b=>simp[Builtin.firstCells,loadCells,loadCellsFrom]
  cases ax<;>simp[Builtin.append_,run_underlying ht,sizeOf,typeInfo,hi,Builtin.lenOf,hf,storeCells]
 exact Kp (I1 ho rfl rfl rfl hr) (hK _ _ h)
set_option maxHeartbeats 2000000 in
set_option maxRecDepth 100000 in
theorem Adv(L:SlLaysE0.n41 P ρ)(i0:TypeInfo)(hi:P.info? (ρ.t 23)=some i0)(z23: ∀w,(Go.sizeOf (ρ.t 23)).run P w= .ok i0.size w)(a:Addr)(c:Nat)(w:World):
  Calls P (ρ.f 41) #[.slice (some a) 0 c] w fun e w'=>(∃ad,e= .returned (.slice ad 0 0))∧Below w.heap.size w w':=by
 have mixed:=L.mixed;have t4:=L.t4;have a4:=L.a4;have z4:=L.z4;have v4:=L.v4;have t22:=L.t22;have a22:=L.a22;have z22:=L.z22;have v22:=L.v22
 have q22: ∀(w:World) (a:Option Addr) (n c n' c':Nat),(binOp .eql (ρ.t 22) (.slice a n c) (.slice none n' c')).run P w= .ok (.bool a.isNone) w:=fun w a n c n' c'=>Lib.run_eql_slice_nil w _ _ a n c n' c' L.t22
 have u22: ∀w,Sem.run P (underlying (ρ.t 22)) w= .ok (TypeDesc.slice (ρ.t 23)) w:=run_underlying t22
 obtain⟨_,_,FG⟩:=L.f41
 go_enter FG,SlBodyN.n41_ntmps ρ
 go_wp2_with (at_builtin;refine Sq _ rfl _ _ (ρ.t 22) (ρ.t 23) t22 hi rfl _ _ _ rfl rfl ?_)
 go_wp2
 go_ret
 exact⟨⟨_,rfl⟩,(Below.refl _ w).alloc (Nat.le_refl _) _⟩
theorem Agc(L:SlLaysE0.n41 P ρ)(i0:TypeInfo)(size:Nat)(hi:P.info? (ρ.t 23)=some i0)(z23: ∀w,(Go.sizeOf (ρ.t 23)).run P w= .ok i0.size w)(hent:Av.Enters P (ρ.f 41)):A3 P (ρ.f 41) [.pv (.slice [])] [] ⟨.own (.res 0),[some (.row size [])],[]⟩:=by
 refine⟨hent,fun w vs γ ok h1 hG h2 h3 h4 h5=>?_⟩
 have fin: ∀{w':World} {ad:Option Addr},Below w.heap.size w w'→Ss ⟨w,[],γ,0,ok,[]⟩ w' ⟨.own (.res 0),[some (.row size [])],[]⟩ (.slice ad 0 0) (fun _=>⟨none,0⟩):=fun hb=>
  Yt hb (fun g e=>by cases e) (fun okk _=> .inl ⟨rfl,rfl,rfl⟩) (fun b hb'=>(h1 b hb').1) (fun okk=> .ownN (.res 0) size _ rfl rfl)
 match vs,h4 with
 |[v],_=>
  obtain⟨ad,c,sz,us,e1,_⟩:=Kl (Cl (h5 0 _ _ rfl rfl))
  subst e1
  cases ad with
  |none=>
   refine(AnyE.slices_Clone_nil L 0 c w).mono ?_
   rintro e w' ⟨rfl,rfl⟩
   exact⟨_,fun _=>⟨none,0⟩,rfl,fin (Below.refl _ _)⟩
  |some a=>
   refine(Adv L i0 hi z23 a c w).mono ?_
   rintro e w' ⟨⟨ad,rfl⟩,hb⟩
   exact⟨_,fun _=>⟨none,0⟩,rfl,fin hb⟩
theorem Np(L:SlLaysE0.n41 P ρ)(i0:TypeInfo)(z:Value)(size bytes:Nat)(hi:P.info? (ρ.t 23)=some i0)(hz0:i0.zero=some z)(hz1:i0.size=size)(hz2:i0.bytes=bytes)(hzs:z.cells.size=size)(hsz:0<size)
  (z23: ∀w,(Go.sizeOf (ρ.t 23)).run P w= .ok size w)(hent:Av.Enters P (ρ.f 41)){α:Type}{f:α→PV}{l:List α}(hf: ∀x,(f x).cells.length=size)(hb:l.length*bytes≤140737488355328)(hb1:1≤bytes):
  A3 P (ρ.f 41) [.pv (.slice (l.map f))] [] ⟨.own (.res 0),[some (.row size (l.map f))],[]⟩:=by
 by_cases hne:l=[]
 ·subst hne
  exact Agc L i0 size hi (by rw[hz1];exact z23) hent
 ·exact Agd L i0 z size bytes hi hz0 hz1 hz2 hzs hsz z23 hent hf hb hb1 hne
end
end Go.Av.G
end
