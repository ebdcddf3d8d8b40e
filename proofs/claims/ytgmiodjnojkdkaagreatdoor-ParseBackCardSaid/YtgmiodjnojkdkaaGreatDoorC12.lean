import Derived.WalkKit
import Derived.Deep.LoopGhost
import Derived.Lib.Walk
import Derived.Lib.SliceRun
import Derived.Test.YtgmiodjnojkdkaaGreatDoorC11
set_option linter.all false
section
namespace Go.Av.G
open Go Go.Av Go.Proofs Go.Shelf Go.RowKit Go.Lib
theorem hm:Tryz.prog.follows .mixedOrders=true:=by kernel_rfl
theorem G5{w w':World}{ok:Nat→Prop}{γ δ:Nat→Blk}{x:SV}{v:Value}(hb:Below w.heap.size w w')(hv:As w' (okB ⟨w,[],γ,0,ok,[]⟩ (Fb γ δ) (Ci [] []) w') (Fb γ δ) (Ci [] []) x v):After ⟨w,[],γ,0,ok,[]⟩ w' ⟨x,[],[]⟩ v δ:=by
 have no: ∀k o,Ci [] [] k=some o→False:=by intro k o h;cases k<;>simp[Ci] at h
 exact⟨hb.size,fun b hb' _=>hb.block b hb',fun k k' o o' b h=>(no _ _ h).elim,fun k o b h=>(no _ _ h).elim,rfl,fun i o h=>(no _ _ h).elim,fun k o h=>(no _ _ h).elim,hv,⟨hb.os,hb.tape,hb.output⟩⟩
theorem E9{P:Program}{f:FuncId}(hE:Enters P f){ps:List PV}{r:SV}(h: ∀(w:World) (ok:Nat→Prop) (vs:List Value),GOK w ok→ps.length=vs.length→(∀(j:Nat) (x:PV) (v:Value),ps[j]? =some x→vs[j]? =some v→Be w ok x v)→
  Calls P f vs.toArray w fun e w'=> ∃v,e= .returned v∧Below w.heap.size w w'∧ ∀W ok' β lk,As W ok' β lk r v):Bo P f (ps.map .pv) [] ⟨r,[],[]⟩:=by
 refine⟨hE,fun w vs γ ok h1 hG h2 h3 h4 h5=>?_⟩
 refine(h w ok vs hG (by simpa using h4) (fun j x v hx hv=>Bb (h5 j (.pv x) v (by simp[hx]) hv))).mono ?_
 rintro e w' ⟨v,rfl,hb,hs⟩
 exact⟨v,fun _=>⟨none,0⟩,rfl,G5 hb (hs _ _ _ _)⟩
theorem Bdm(w:World): ∀n,Below w.heap.size w (w.drewN n):=below_drewNg w
def B6(s c:List UInt8):Option (List UInt8):=if c.length<4294967281∧c.all (fun b=>decide (b.toNat<128))=true then some (Lib.trimLeftS s c) else none
def strings_HasPrefix(s p:List UInt8):Option Bool:=some (Lib.hasPrefix s p)
def strings_Cut(s p:List UInt8):Option (List UInt8×List UInt8×Bool):=if s.length<4294967281 then some (Lib.cut s p) else none
def strings_Count(s p:List UInt8):Option Int:=match p with|[c]=>some (Lib.countByte s c)|_=>none
def strings_LastIndexByte(s:List UInt8)(c:Int):Option Int:=if s.length<4611686018427387904 then some (Lib.lastIndexByte ⟨s.toArray⟩ c) else none
def strings_IndexByte(s:List UInt8)(c:Int):Option Int:=some (Lib.indexByte s c.toNat.toUInt8)
def strings_Contains(s p:List UInt8):Option Bool:=if s.length<4294967281 then some (Lib.contains s p) else none
theorem two{ps:List PV}{a b:PV}(hp:ps=[a,b]){vs:List Value}{w:World}{ok:Nat→Prop}(hl:ps.length=vs.length)(h: ∀(j:Nat) (x:PV) (v:Value),ps[j]? =some x→vs[j]? =some v→Be w ok x v): ∃v1 v2,vs=[v1,v2]∧Be w ok a v1∧Be w ok b v2:=by
 subst hp
 match vs,hl with
 |[v1,v2],_=>exact⟨v1,v2,rfl,h 0 _ _ rfl rfl,h 1 _ _ rfl rfl⟩
theorem Ak1{s c r:List UInt8}(h:B6 s c=some r):Bo Tryz.prog 108 [.pv (.str s),.pv (.str c)] [] ⟨.pv (.str r),[],[]⟩:=by
 unfold B6 at h
 split at h
 ·rename_i hc
  cases h
  refine E9 (ps:=[.str s,.str c]) ⟨Tryz.f108,Tryz.func108,by kernel_rfl,by kernel_rfl⟩ fun w ok vs hG hl hv=>?_
  obtain⟨v1,v2,rfl,l1,l2⟩:=two rfl hl hv
  obtain rfl:=Cz l1
  obtain rfl:=Cz l2
  refine(Any.strings_TrimLeft_laid A31 (by kernel_rfl) ⟨s.toArray⟩ ⟨c.toArray⟩ w (by rw[G8];exact hc.1) (fun j b hj=>?_)).mono ?_
  ·have:=List.all_eq_true.1 hc.2 b (List.mem_of_getElem? hj)
   simpa using this
  ·rintro e w' ⟨rfl,hb⟩
   exact⟨_,rfl,hb,fun _ _ _ _=> .pv _ _ (.str _)⟩
 ·cases h
theorem Ai4{s p:List UInt8}{r:Bool}(h:strings_HasPrefix s p=some r):Bo Tryz.prog 109 [.pv (.str s),.pv (.str p)] [] ⟨.pv (.bool r),[],[]⟩:=by
 cases h
 refine E9 (ps:=[.str s,.str p]) ⟨Tryz.f109,Tryz.func109,by kernel_rfl,by kernel_rfl⟩ fun w ok vs hG hl hv=>?_
 obtain⟨v1,v2,rfl,l1,l2⟩:=two rfl hl hv
 obtain rfl:=Cz l1
 obtain rfl:=Cz l2
 refine(Any.strings_HasPrefix A8e ⟨s.toArray⟩ ⟨p.toArray⟩ w).mono ?_
 rintro e w' ⟨rfl,rfl⟩
 exact⟨_,rfl,Below.refl _ _,fun _ _ _ _=> .pv _ _ (.bool _)⟩
theorem Ayp{s p:List UInt8}{r:List UInt8×List UInt8×Bool}(h:strings_Cut s p=some r):Bo Tryz.prog 110 [.pv (.str s),.pv (.str p)] [] ⟨.tup [.pv (.str r.1),.pv (.str r.2.1),.pv (.bool r.2.2)],[],[]⟩:=by
 unfold strings_Cut at h
 split at h
 ·rename_i hs
  cases h
  refine E9 (ps:=[.str s,.str p]) ⟨Tryz.f110,Tryz.func110,by kernel_rfl,by kernel_rfl⟩ fun w ok vs hG hl hv=>?_
  obtain⟨v1,v2,rfl,l1,l2⟩:=two rfl hl hv
  obtain rfl:=Cz l1
  obtain rfl:=Cz l2
  obtain⟨m,hm⟩:=hG.2
  refine(Any.strings_Cut A3z ⟨s.toArray⟩ ⟨p.toArray⟩ m w (by rw[G8];exact hs) hm).mono ?_
  rintro e w' ⟨rfl,n,rfl⟩
  refine⟨_,rfl,Bdm _ _,fun _ _ _ _=> .tup _ [_,_,_] rfl fun j x u hx hu=>?_⟩
  match j with
  |0=>cases hx;cases hu;exact .pv _ _ (.str _)
  |1=>cases hx;cases hu;exact .pv _ _ (.str _)
  |2=>cases hx;cases hu;exact .pv _ _ (.bool _)
  |j+3=>simp at hx
 ·cases h
theorem Aq8{s p:List UInt8}{r:Int}(h:strings_Count s p=some r):Bo Tryz.prog 112 [.pv (.str s),.pv (.str p)] [] ⟨.pv (.int .i64 r),[],[]⟩:=by
 unfold strings_Count at h
 split at h
 ·rename_i c
  cases h
  refine E9 (ps:=[.str s,.str [c]]) ⟨Tryz.f112,Tryz.func112,by kernel_rfl,by kernel_rfl⟩ fun w ok vs hG hl hv=>?_
  obtain⟨v1,v2,rfl,l1,l2⟩:=two rfl hl hv
  obtain rfl:=Cz l1
  obtain rfl:=Cz l2
  refine(Any.strings_Count_one A3x ⟨s.toArray⟩ c w).mono ?_
  rintro e w' ⟨rfl,rfl⟩
  exact⟨_,rfl,Below.refl _ _,fun _ _ _ _=> .pv _ _ (.int _ _)⟩
 ·cases h
theorem Wi{s:List UInt8}{c r:Int}(h:strings_LastIndexByte s c=some r):Bo Tryz.prog 113 [.pv (.str s),.pv (.int .u8 c)] [] ⟨.pv (.int .i64 r),[],[]⟩:=by
 unfold strings_LastIndexByte at h
 split at h
 ·rename_i hs
  cases h
  refine E9 (ps:=[.str s,.int .u8 c]) ⟨Tryz.f113,Tryz.func113,by kernel_rfl,by kernel_rfl⟩ fun w ok vs hG hl hv=>?_
  obtain⟨v1,v2,rfl,l1,l2⟩:=two rfl hl hv
  obtain rfl:=Cz l1
  cases l2
  refine(Any.strings_LastIndexByte A30 ⟨s.toArray⟩ c (by rw[G8];exact hs) w).mono ?_
  rintro e w' ⟨rfl,rfl⟩
  exact⟨_,rfl,Below.refl _ _,fun _ _ _ _=> .pv _ _ (.int _ _)⟩
 ·cases h
theorem Ai5{s:List UInt8}{c r:Int}(h:strings_IndexByte s c=some r):Bo Tryz.prog 147 [.pv (.str s),.pv (.int .u8 c)] [] ⟨.pv (.int .i64 r),[],[]⟩:=by
 cases h
 refine E9 (ps:=[.str s,.int .u8 c]) ⟨Tryz.f147,Tryz.func147,by kernel_rfl,by kernel_rfl⟩ fun w ok vs hG hl hv=>?_
 obtain⟨v1,v2,rfl,l1,l2⟩:=two rfl hl hv
 obtain rfl:=Cz l1
 cases l2
 refine(Tryz.strings_IndexByte ⟨s.toArray⟩ c w).mono ?_
 rintro e w' ⟨rfl,rfl⟩
 exact⟨_,rfl,Below.refl _ _,fun _ _ _ _=> .pv _ _ (.int _ _)⟩
theorem Ak0{s p:List UInt8}{r:Bool}(h:strings_Contains s p=some r):Bo Tryz.prog 149 [.pv (.str s),.pv (.str p)] [] ⟨.pv (.bool r),[],[]⟩:=by
 unfold strings_Contains at h
 split at h
 ·rename_i hs
  cases h
  refine E9 (ps:=[.str s,.str p]) ⟨Tryz.f149,Tryz.func149,by kernel_rfl,by kernel_rfl⟩ fun w ok vs hG hl hv=>?_
  obtain⟨v1,v2,rfl,l1,l2⟩:=two rfl hl hv
  obtain rfl:=Cz l1
  obtain rfl:=Cz l2
  obtain⟨m,hm⟩:=hG.2
  refine(Any.strings_Contains A3y ⟨s.toArray⟩ ⟨p.toArray⟩ m w (by rw[G8];exact hs) hm).mono ?_
  rintro e w' ⟨rfl,rfl⟩
  exact⟨_,rfl,Below.refl _ _,fun _ _ _ _=> .pv _ _ (.bool _)⟩
 ·cases h
noncomputable def strings_IndexFunc(f:Int→Option Bool)(s:List UInt8):Option Int:=
 open Classical in if h: ∃p:Nat→Bool,∀x:Nat,f x=some (p x) then some (Lib.idxFunc h.choose true ⟨s.toArray⟩) else none
theorem Ai6{f:Int→Option Bool}{s:List UInt8}(p:Nat→Bool)(hp: ∀x:Nat,f x=some (p x)):strings_IndexFunc f s=some (Lib.idxFunc p true ⟨s.toArray⟩):=by
 unfold strings_IndexFunc
 have h: ∃p:Nat→Bool,∀x:Nat,f x=some (p x):=⟨p,hp⟩
 rw[dif_pos h]
 have e:h.choose=p:=funext fun x=>by
  have:=h.choose_spec x
  rw[hp x] at this
  exact(Option.some.inj this).symm
 rw[e]
theorem Bpp{g:FuncId}{caps:List SV}{f:Int→Option Bool}(hf: ∀x r,f x=some r→Bo Tryz.prog g ([.pv (.int .i32 x)]++caps) [] ⟨.pv (.bool r),[],[]⟩){p:Nat→Bool}(hp: ∀x:Nat,f x=some (p x))(w:World){ok:Nat→Prop}(hok: ∀b,ok b→b<w.heap.size)(hG:GOK w ok)
  {us:List Value}(hl:caps.length=us.length){γ:Nat→Blk}(hc: ∀(j:Nat) (x:SV) (u:Value),caps[j]? =some x→us[j]? =some u→As w ok (Anx γ) (Ak6 []) x u):PredGrows Tryz.prog g us.toArray p w:=by
 intro W x _ hgr
 have e: #[encR x]++us.toArray=(encR x::us).toArray:=by simp
 rw[e]
 have hkeep:H5 ok w W:=fun b hb off u hu=>by
  have:=hgr.block b (hok b hb)
  simpa only[World.cell?,this] using hu
 refine((hf x _ (hp x)).2 W (encR x::us) γ ok (fun b hb=>⟨Nat.lt_of_lt_of_le (hok b hb) hgr.size,by simp⟩) (Auy hG fun b hb hlt=>⟨hgr.block b hlt,hb⟩) (by simp) (by simp) (by simp[hl]) ?_).mono ?_
 ·intro j x' v hx hv
  cases j with
  |zero=>simp at hx hv;subst hx;subst hv;exact .pv _ _ (.int _ _)
  |succ j=>
   refine(hc j x' v (by simpa using hx) (by simpa using hv)).mono hkeep (fun _ h=>h) (fun k o h=>?_)
   exact⟨o,h,Ah.sim_refl _,rfl⟩
 ·rintro e w' ⟨v,δ,rfl,ha⟩
  have hv:=Ajo (Bb ha.val)
  subst hv
  exact⟨rfl,ha.quiet.os,ha.quiet.tape,ha.quiet.out,ha.size,fun k hk=>ha.frame k hk (fun⟨i,hi,_⟩=>by cases hi)⟩
theorem Hn{g:FuncId}{caps:List SV}{f:Int→Option Bool}{s:List UInt8}{r:Int}(hf: ∀x r,f x=some r→Bo Tryz.prog g ([.pv (.int .i32 x)]++caps) [] ⟨.pv (.bool r),[],[]⟩)(h:strings_IndexFunc f s=some r){c:SV}(hcl: ∀w ok β lk v,As w ok β lk c v→ ∃us:List Value,v= .func (.func g) #[] us.toArray∧caps.length=us.length∧ ∀(j:Nat) (x:SV) (u:Value),caps[j]? =some x→us[j]? =some u→As w ok β lk x u):
  Bo Tryz.prog 156 [.pv (.str s),c] [] ⟨.pv (.int .i64 r),[],[]⟩:=by
 unfold strings_IndexFunc at h
 split at h
 ·rename_i hx
  simp only[Option.some.injEq] at h
  have hp:=hx.choose_spec
  refine⟨⟨Tryz.f156,Tryz.func156,by kernel_rfl,by kernel_rfl⟩,fun w vs γ ok h1 hG h2 h3 h4 h5=>?_⟩
  match vs,h4 with
  |[v1,v2],_=>
   have e1:=Cz (Bb (h5 0 _ _ rfl rfl))
   obtain⟨us,e2,hul,huc⟩:=hcl _ _ _ _ _ (h5 1 _ _ rfl rfl)
   subst e1;subst e2
   obtain⟨fn,hfn,hne,hbd⟩:=(hf 0 _ (hp 0)).1
   obtain⟨c',hc'⟩: ∃c,fn.body=some c:=by
    cases hb:fn.body with
    |none=>rw[hb] at hbd;cases hbd
    |some c=>exact⟨c,rfl⟩
   refine(Tryz.strings_IndexFunc_grows g us.toArray (enters_of hfn hne hc') hx.choose ⟨s.toArray⟩ w (Bpp hf hp w (fun b hb=>(h1 b hb).1) hG hul huc)).mono ?_
   rintro e w' ⟨rfl,hb⟩
   exact⟨_,fun _=>⟨none,0⟩,rfl,G5 hb (.pv _ _ (by rw[←h];exact .int _ _))⟩
 ·cases h
theorem A4i{g:FuncId}{caps:List SV}: ∀w ok β lk v,As w ok β lk (.fn g caps) v→ ∃us:List Value,v= .func (.func g) #[] us.toArray∧caps.length=us.length∧ ∀(j:Nat) (x:SV) (u:Value),caps[j]? =some x→us[j]? =some u→As w ok β lk x u:=by
 intro w ok β lk v h
 cases h
 rename_i us hl h
 exact⟨us,rfl,hl,h⟩
def strings_Join(l:List (List UInt8))(sep:List UInt8):Option (List UInt8):=if l.length≤140737488355328∧(Lib.join l sep).length≤140737488355328 then some (Lib.join l sep) else none
theorem Aty{l:List (List UInt8)}{sep r:List UInt8}(h:strings_Join l sep=some r):Bo Tryz.prog 38 [.pv (.slice (List.map Blg l)),.pv (.str sep)] [] ⟨.pv (.str r),[],[]⟩:=by
 unfold strings_Join at h
 split at h
 ·rename_i hb
  cases h
  refine⟨⟨Tryz.f38,Tryz.func38,by kernel_rfl,by kernel_rfl⟩,fun w vs γ ok h1 hG h2 h3 h4 h5=>?_⟩
  match vs,h4 with
  |[v1,v2],_=>
   have l1:=Bb (h5 0 _ _ rfl rfl)
   have e2:=Cz (Bb (h5 1 _ _ rfl rfl))
   subst e2
   obtain⟨ad,c,sz,us,rfl,hc,hsz,_,hat,hp,hlie⟩:=Lj l1
   cases l with
   |nil=>
    refine(Any.strings_Join_none Ant Jg ad c ⟨sep.toArray⟩ w).mono ?_
    rintro e w' ⟨rfl,rfl⟩
    exact⟨_,fun _=>⟨none,0⟩,rfl,G5 (Below.refl _ _) (.pv _ _ (.str _))⟩
   |cons x t=>
    have hmap:((x::t).map Blg).length=(x::t).length:=List.length_map ..
    obtain⟨b,rfl,hbs⟩:=hp (by simp)
    have hbe:b=⟨b.block,b.off,none⟩:=by rw[←hbs]
    have hz:sz=1:=by rw[←hsz (Blg x) (by simp)];rfl
    subst hz
    have hbk:b.block<w.heap.size:=by
     obtain⟨b',e,_,hok,_⟩:=hat 0 0 (by simp) (by omega)
     cases e
     exact(h1 _ hok).1
    have hcells: ∀(j:Nat) y,((x::t).map fun s=>(⟨s.toArray⟩:ByteArray))[j]? =some y→w.cell? ⟨b.block,b.off+j,none⟩=some (.string y):=by
     intro j y hy
     rw[List.getElem?_map,Option.map_eq_some_iff] at hy
     obtain⟨s,hs,rfl⟩:=hy
     have hj:=(List.getElem?_eq_some_iff.1 hs).1
     obtain⟨b',e,_,_,hcell⟩:=hat j 0 (by rw[hmap];exact hj) (by omega)
     cases e
     have hl:=hlie j 0 (Blg s) (.str s) (by rw[List.getElem?_map,hs];rfl) rfl
     have:=Cz hl
     rw[this] at hcell
     simpa using hcell
    have hid:((x::t).map fun s=>(⟨s.toArray⟩:ByteArray)).map (·.data.toList)=x::t:=by simp[List.map_map,Function.comp_def]
    have hlen2:((x::t).map fun s=>(⟨s.toArray⟩:ByteArray)).length=(x::t).length:=List.length_map ..
    have hj:=Any.strings_Join Ant Jg b.block b.off c ((x::t).map fun s=>(⟨s.toArray⟩:ByteArray)) ⟨sep.toArray⟩ w hcells hbk (by rw[hlen2];exact hb.1) (by rw[hlen2,←hmap];exact hc) (by rw[hid];exact hb.2)
    rw[hid,hlen2,←hmap,←hbe] at hj
    refine hj.mono ?_
    rintro e w' ⟨rfl,hb'⟩
    exact⟨_,fun _=>⟨none,0⟩,rfl,G5 hb' (.pv _ _ (.str _))⟩
 ·cases h
end Go.Av.G
end
section
namespace Go.Av.G
open Go Go.Av Go.Proofs
def Bfn(p:List UInt8×Int×Int):PV×PV:=(.str p.1,.agg [.int .i64 p.2.1,.int .i64 p.2.2])
def Ahp(k:Int):Option (Int×List UInt8×Int×Int):=some (placeOf k)
theorem Bb2{w:World}{ok:Nat→Prop}{k l:Int}{v:Value}(h:Be w ok (.agg [.int .i64 k,.int .i64 l]) v):v= .agg #[.int .i64 k,.int .i64 l]:=by
 cases h with
 |agg _ us hl _ hj=>
  match us,hl,hj with
  |[u1,u2],_,hj=>
   have a:=W0 (hj 0 _ _ rfl rfl)
   have b:=W0 (hj 1 _ _ rfl rfl)
   subst a;subst b;rfl
theorem Avy{kind:Int}{es:List (PV×PV)}(hes:es=Ca.map Bfn)(hs:Bo Tryz.prog 98 [] [] ⟨.mp (.res 0),[some (.map .s es)],[]⟩):
  Bo Tryz.prog 67 [.pv (.int .i64 kind)] [] ⟨.tup [.pv (.int .i64 (placeOf kind).1),.pv (.str (placeOf kind).2.1),.pv (.int .i64 (placeOf kind).2.2.1),.pv (.int .i64 (placeOf kind).2.2.2)],[],[]⟩:=by
 subst hes
 refine⟨⟨Tryz.f67,Tryz.func67,by kernel_rfl,by kernel_rfl⟩,fun w vs γ ok h1 hG h2 h3 h4 h5=>?_⟩
 match vs,h4 with
 |[v],_=>
  obtain rfl:v= .int .i64 kind:=W0 (Bb (h5 0 _ _ rfl rfl))
  refine(Bem kind w ?_).mono ?_
  ·refine(hs.2 w [] γ ok h1 hG (fun i j b hi=>by cases hi) (fun i o h=>by simp at h) rfl (fun j x v h=>by simp at h)).mono ?_
   rintro e w1 ⟨v,δ,rfl,ha⟩
   obtain⟨b,ents,clock,g0,g1,gE,gB⟩:=ha.objs (.res 0) _ rfl
   have hv:v= .map (some b):=by
    have:=ha.val
    cases this with
    |mp _ kk es' b' hk' hb'=>rw[hb'] at g0;cases g0;rfl
   subst hv
   have hlo:w.heap.size≤b:=by
    rcases ha.lo (.res 0) _ b rfl g0 with h|⟨i,hi,_⟩
    ·exact h
    ·cases hi
   refine⟨b,ents,clock,rfl,⟨ha.quiet.os,ha.quiet.tape,ha.quiet.out,ha.size,fun k hk=>ha.frame k hk (fun⟨i,hi,_⟩=>by cases hi)⟩,hlo,g1,gB,fun x hx=>?_,fun p hp=>?_⟩
   ·obtain⟨j,hj⟩:=List.getElem?_of_mem hx
    have hjl:j<ents.toList.length:=(List.getElem?_eq_some_iff.1 hj).1
    rw[←gE.1,List.length_map] at hjl
    have hp:=List.getElem?_eq_getElem hjl
    obtain⟨_,l1,l2⟩:=gE.2 j (Bfn Ca[j]) x (by rw[List.getElem?_map,hp];rfl) hj
    exact⟨Ca[j],List.getElem_mem hjl,Cz l1,Bb2 l2⟩
   ·obtain⟨j,hj⟩:=List.getElem?_of_mem hp
    have hjl:j<Ca.length:=(List.getElem?_eq_some_iff.1 hj).1
    have hjl2:j<ents.toList.length:=by rw[←gE.1,List.length_map];exact hjl
    have hx:=List.getElem?_eq_getElem hjl2
    obtain⟨_,l1,l2⟩:=gE.2 j (Bfn p) _ (by rw[List.getElem?_map,hj];rfl) hx
    exact⟨_,List.getElem_mem hjl2,Cz l1,Bb2 l2⟩
  ·rintro e w' ⟨rfl,hb⟩
   refine⟨_,fun _=>⟨none,0⟩,rfl,G5 hb (.tup _ [_,_,_,_] rfl fun j x u hx hu=>?_)⟩
   match j with
   |0=>cases hx;cases hu;exact .pv _ _ (.int _ _)
   |1=>cases hx;cases hu;exact .pv _ _ (.str _)
   |2=>cases hx;cases hu;exact .pv _ _ (.int _ _)
   |3=>cases hx;cases hu;exact .pv _ _ (.int _ _)
   |j+4=>simp at hx
end Go.Av.G
end
