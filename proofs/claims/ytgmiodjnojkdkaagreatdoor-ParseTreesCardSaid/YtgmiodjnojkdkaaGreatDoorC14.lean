import Derived.Shelf.Spec.SlicesGrow
import Derived.Test.YtgmiodjnojkdkaaGreatDoorC13
set_option linter.all false
section
set_option linter.unusedVariables false
set_option linter.unusedSimpArgs false
namespace Go.Av.G
open Go Go.Av Go.Proofs Go.Shelf Go.RowKit Go.Lib
def Aiq:Go.Shelf.Ren:=⟨fun|4=>100|n=>n,fun|22=>48|25=>9|20=>20|0=>0|n=>n,fun|n=>n⟩
theorem Asx:Go.Proofs.Lays8.n4 Tryz.prog Aiq:={
 mixed:=by kernel_rfl
 f4:=⟨Tryz.f100.name,by decide,Tryz.func100.trans (congrArg some (by kernel_rfl))⟩
 t0:=Tryz.underlying0
 a0:=Tryz.isAgg0
 z0:=Tryz.sizeOf0
 v0:=Tryz.zeroValue0
 t3:=Tryz.underlying3
 a3:=Tryz.isAgg3
 z3:=Tryz.sizeOf3
 v3:=Tryz.zeroValue3
 t4:=Tryz.underlying4
 a4:=Tryz.isAgg4
 z4:=Tryz.sizeOf4
 v4:=Tryz.zeroValue4
 t9:=Tryz.underlying9
 a9:=Tryz.isAgg9
 z9:=Tryz.sizeOf9
 v9:=Tryz.zeroValue9
 t20:=Tryz.underlying20
 a20:=Tryz.isAgg20
 z20:=Tryz.sizeOf20
 v20:=Tryz.zeroValue20
 t22:=Tryz.underlying48
 a22:=Tryz.isAgg48
 z22:=Tryz.sizeOf48
 v22:=Tryz.zeroValue48}
def Air:Go.Shelf.Ren:=⟨fun|4=>114|n=>n,fun|22=>23|25=>52|20=>20|0=>0|n=>n,fun|n=>n⟩
theorem Asy:Go.Proofs.Lays8.n4 Tryz.prog Air:={
 mixed:=by kernel_rfl
 f4:=⟨Tryz.f114.name,by decide,Tryz.func114.trans (congrArg some (by kernel_rfl))⟩
 t0:=Tryz.underlying0
 a0:=Tryz.isAgg0
 z0:=Tryz.sizeOf0
 v0:=Tryz.zeroValue0
 t3:=Tryz.underlying3
 a3:=Tryz.isAgg3
 z3:=Tryz.sizeOf3
 v3:=Tryz.zeroValue3
 t4:=Tryz.underlying4
 a4:=Tryz.isAgg4
 z4:=Tryz.sizeOf4
 v4:=Tryz.zeroValue4
 t9:=Tryz.underlying9
 a9:=Tryz.isAgg9
 z9:=Tryz.sizeOf9
 v9:=Tryz.zeroValue9
 t20:=Tryz.underlying20
 a20:=Tryz.isAgg20
 z20:=Tryz.sizeOf20
 v20:=Tryz.zeroValue20
 t22:=Tryz.underlying23
 a22:=Tryz.isAgg23
 z22:=Tryz.sizeOf23
 v22:=Tryz.zeroValue23}
theorem A4e{w w':World}{ok:Nat→Prop}{γ:Nat→Blk}{sz:Nat}{xs:List PV}{B:Blk}{v:Value}(hb:Below w.heap.size w w')(hge: ∀g,B.b=some g→w.heap.size≤g)(hO: ∀okk:Nat→Prop,(∀b,ok b→b<w.heap.size→okk b)→E6 w' okk (E8 γ (fun _=>B)) (B6 [] [some (.row sz xs)]) (.row sz xs) B)
  (hok: ∀b,ok b→b<w.heap.size)(hv: ∀okk:Nat→Prop,As w' okk (E8 γ (fun _=>B)) (B6 [] [some (.row sz xs)]) (.own (.res 0)) v):After ⟨w,[],γ,0,ok,[]⟩ w' ⟨.own (.res 0),[some (.row sz xs)],[]⟩ v (fun _=>B):=by
 have one: ∀k o,B6 [] [some (Ag.row sz xs)] k=some o→k= .res 0∧o= .row sz xs:=by
  intro k o h
  cases k with
  |loc=>simp[B6] at h
  |ext i=>simp[B6] at h
  |res i=>cases i with
   |zero=>simp[B6] at h;exact⟨rfl,h.symm⟩
   |succ i=>simp[B6] at h
 refine⟨hb.size,fun b hb' _=>hb.block b hb',fun k k' o o' b h h' _ _=>by rw[(one _ _ h).1,(one _ _ h').1],fun k o b h e=>?_,rfl,fun i o h=>(by cases (one _ _ h).1),fun k o h=>?_,hv _,⟨hb.os,hb.tape,hb.output⟩⟩
 ·obtain⟨rfl,rfl⟩:=one _ _ h
  exact .inl (hge b e)
 ·obtain⟨rfl,rfl⟩:=one _ _ h
  refine hO _ (fun b hb1 hb2=>⟨Nat.lt_of_lt_of_le hb2 hb.size,fun k o h' e=>?_,fun _=> .inl hb1⟩)
  obtain⟨rfl,rfl⟩:=one _ _ h'
  have:=hge b e
  omega
section
variable {P:Program} {ρ:Ren}
def D2(bytes:Nat)(n:Int):Option Unit:=if 0≤n∧n*bytes≤140737488355328 then some () else none
def Cy(α:Type)(bytes:Nat)(n:Int):Option (List α):=(D2 bytes n).map fun _=>[]
theorem Aag{α:Type}{bytes:Nat}{n:Int}{r:List α}(h:Cy α bytes n=some r):r=[]∧D2 bytes n=some ():=by
 unfold Cy at h
 cases e:D2 bytes n with
 |none=>rw[e] at h;cases h
 |some u=>rw[e] at h;cases h;exact⟨rfl,rfl⟩
theorem Bbm(L:Lays8.n4 P ρ)(i0:TypeInfo)(z:Value)(size bytes:Nat)(hi:P.info? (ρ.t 25)=some i0)(hz0:i0.zero=some z)(hz1:i0.size=size)(hz2:i0.bytes=bytes)(hzs:z.cells.size=size)(hsz:0<size)(hb1:1≤bytes)(hent:Av.Enters P (ρ.f 4)){n:Int}(h:D2 bytes n=some ()):
  Bm P (ρ.f 4) [.nils,.pv (.int .i64 n)] [] ⟨.own (.res 0),[some (.row size [])],[]⟩:=by
 unfold D2 at h
 split at h
 ·rename_i hc
  obtain⟨h0,hb⟩:=hc
  obtain⟨m,rfl⟩: ∃m:Nat,n=m:=⟨n.toNat,by omega⟩
  have hbn:m*bytes≤140737488355328:=by rw[←Int.natCast_mul] at hb;exact Int.ofNat_le.1 hb
  have hm:m≤140737488355328:=by
   have:m*1≤m*bytes:=Nat.mul_le_mul_left _ hb1
   omega
  refine⟨hent,fun w vs γ ok h1 hG h2 h3 h4 h5=>?_⟩
  match vs,h4 with
  |[v1,v2],_=>
   have l1:=h5 0 _ _ rfl rfl
   have l2:=Bb (h5 1 _ _ rfl rfl)
   cases l2
   cases l1 with
   |nils ad=>
   by_cases hm0:m=0
   ·subst hm0
    refine(Any8.slices_Grow_room L ad 0 0 0 w (by omega) (by omega) (by omega) (by omega)).mono ?_
    rintro e w' ⟨rfl,rfl⟩
    exact⟨_,fun _=>⟨none,0⟩,rfl,A4e (Below.refl _ _) (fun g e=>by cases e) (fun okk _=> .inl ⟨rfl,rfl,rfl⟩) (fun b hb'=>(h1 b hb').1) (fun okk=> .ownN (.res 0) size _ rfl rfl)⟩
   ·refine(Any8.slices_Grow_grow L i0 z hi hz0 (by omega) ad 0 0 m [] w (by omega) (by omega) (by rw[hz2,Nat.zero_add];exact hbn) (by omega) (by simp) (fun _=>rfl) (fun a _ j v hj=>by simp at hj)).mono ?_
    rintro e w' ⟨rfl,rfl⟩
    have hge:=grownCap_ge w (0+m) 0 (ρ.t 25)
    have hle:=grownCap_le_maxLen w (0+m) 0 (ρ.t 25) (by unfold maxLen;omega)
    refine⟨_,fun _=>⟨some w.heap.size,grownCap w (0+m) 0 (ρ.t 25)⟩,rfl,A4e (((Below.refl _ w).drew).alloc (Nat.le_refl _) _) (fun g e=>by cases e;exact Nat.le_refl _) (fun okk hokk=> .inr ⟨w.heap.size,_,ρ.t 25,rfl,heap_alloc_new _ _,Nat.zero_le _,?_,?_,?_⟩) (fun b hb'=>(h1 b hb').1) (fun okk=>?_)⟩
    ·simp only[Array.size_append,size_zeroCells,hzs]
     show 0+(0+m-0)*size+(grownCap w (0+m) 0 (ρ.t 25)-(0+m))*size=grownCap w (0+m) 0 (ρ.t 25)*size
     rw[Nat.zero_add,←Nat.add_mul]
     congr 1
     omega
    ·intro x hx;cases hx
    ·intro i j x y hx;simp at hx
    ·exact As.own (.res 0) size [] w.heap.size rfl rfl
 ·cases h
end
theorem Asi{n:Int}(h:D2 16 n=some ()):Bm Tryz.prog 100 [.nils,.pv (.int .i64 n)] [] ⟨.own (.res 0),[some (.row 1 [])],[]⟩:=
 Bbm (P:=Tryz.prog) Asx ((Tryz.prog.info? 9).getD default) ((((Tryz.prog.info? 9).getD default).zero).getD undef) 1 16 (by kernel_rfl) (by kernel_rfl) (by kernel_rfl) (by kernel_rfl) (by kernel_rfl) (by decide) (by decide) ⟨Tryz.f100,Tryz.func100,by kernel_rfl,by kernel_rfl⟩ h
theorem Asj{n:Int}(h:D2 24 n=some ()):Bm Tryz.prog 114 [.nils,.pv (.int .i64 n)] [] ⟨.own (.res 0),[some (.row 2 [])],[]⟩:=
 Bbm (P:=Tryz.prog) Asy ((Tryz.prog.info? 52).getD default) ((((Tryz.prog.info? 52).getD default).zero).getD undef) 2 24 (by kernel_rfl) (by kernel_rfl) (by kernel_rfl) (by kernel_rfl) (by kernel_rfl) (by decide) (by decide) ⟨Tryz.f114,Tryz.func114,by kernel_rfl,by kernel_rfl⟩ h
end Go.Av.G
end
section
set_option linter.unusedVariables false
set_option linter.unusedSimpArgs false
set_option maxRecDepth 100000
set_option maxHeartbeats 8000000
namespace Go.Av.G
open Go Go.Av Go.Proofs
structure Bo where
 G8:Nat
 Qf:Nat
 deriving DecidableEq,Inhabited
def Bo.cl(x:Bo):List PV:=[.fn x.G8,.fn x.Qf]
def Bo.pv(x:Bo):PV:= .agg x.cl
structure Bu where
 f_0:Bo
 f_1:Bo
 f_2:Bo
 f_3:Bo
 deriving DecidableEq,Inhabited
def Bu.cl(x:Bu):List PV:=[.fn x.f_0.G8,.fn x.f_0.Qf,.fn x.f_1.G8,.fn x.f_1.Qf,.fn x.f_2.G8,.fn x.f_2.Qf,.fn x.f_3.G8,.fn x.f_3.Qf]
def Bu.pv(x:Bu):PV:= .agg x.cl
structure Ac where
 Ae:Int
 Qe:Int
 Aix:Int
 Af:List UInt8
 deriving DecidableEq,Inhabited
def Ac.cl(x:Ac):List PV:=[.int .i64 x.Ae,.int .i64 x.Qe,.int .i64 x.Aix,.str x.Af]
def Ac.pv(x:Ac):PV:= .agg x.cl
def Ac.same(x y:Ac):Bool:=((x.Ae==y.Ae)&&((x.Qe==y.Qe)&&((x.Aix==y.Aix)&&((x.Af==y.Af)&&true))))
theorem Ac.same_iff(x y:Ac):Ac.same x y=decide (x=y):=by
 rw[Bool.eq_iff_iff];rcases x with⟨_,_,_,_⟩;rcases y with⟨_,_,_,_⟩;simp[Ac.same,Ac.mk.injEq,and_assoc]
def Ac.tt:TT:= .struct (.field (.int .i64) (.field (.int .i64) (.field (.int .i64) (.field .str .unit))))
def Ac.wf(x:Ac):Prop:=inR .i64 x.Ae∧inR .i64 x.Qe∧inR .i64 x.Aix∧x.Af.length≤maxLen
theorem Ac.of{xs:List PV}(hh:Ac.tt.Of xs): ∃x:Ac,x.wf∧Ac.tt.pack xs=Ac.pv x:=by
 obtain⟨a0,b0,rfl,h0,hh⟩:=hh
 obtain⟨a1,b1,rfl,h1,hh⟩:=hh
 obtain⟨a2,b2,rfl,h2,hh⟩:=hh
 obtain⟨a3,b3,rfl,h3,hh⟩:=hh
 obtain rfl:_=[]:=hh
 obtain⟨n0,rfl,w0⟩:=h0
 obtain⟨n1,rfl,w1⟩:=h1
 obtain⟨n2,rfl,w2⟩:=h2
 obtain⟨n3,rfl,w3⟩:=h3
 exact⟨⟨n0,n1,n2,n3⟩,⟨w0,w1,w2,w3⟩,rfl⟩
structure Ab where
 Jg:List Ac
 Cr:Int
 B5:Bool
 deriving DecidableEq,Inhabited
def Ab.cl(x:Ab):List PV:=[.slice (List.map Ac.pv x.Jg),.int .i64 x.Cr,.bool x.B5]
def Ab.pv(x:Ab):PV:= .agg x.cl
def Ab.tt:TT:= .struct (.field (.slice Ac.tt) (.field (.int .i64) (.field .bool .unit)))
def Ab.wf(x:Ab):Prop:=(x.Jg.length≤maxLen∧ ∀x'∈x.Jg,Ac.wf x')∧inR .i64 x.Cr∧True
theorem Ab.of{xs:List PV}(hh:Ab.tt.Of xs): ∃x:Ab,x.wf∧Ab.tt.pack xs=Ab.pv x:=by
 obtain⟨a0,b0,rfl,h0,hh⟩:=hh
 obtain⟨a1,b1,rfl,h1,hh⟩:=hh
 obtain⟨a2,b2,rfl,h2,hh⟩:=hh
 obtain rfl:_=[]:=hh
 obtain⟨n0,w0,rfl⟩:=of_slice (f:=Ac.pv) (wf:=Ac.wf) (fun xs h=>Ac.of h) h0
 obtain⟨n1,rfl,w1⟩:=h1
 obtain⟨n2,rfl⟩:=h2
 exact⟨⟨n0,n1,n2⟩,⟨w0,w1,trivial⟩,rfl⟩
structure Aa where
 Ae:Int
 Af:List UInt8
 deriving DecidableEq,Inhabited
def Aa.cl(x:Aa):List PV:=[.int .i64 x.Ae,.str x.Af]
def Aa.pv(x:Aa):PV:= .agg x.cl
def Aa.same(x y:Aa):Bool:=((x.Ae==y.Ae)&&((x.Af==y.Af)&&true))
theorem Aa.same_iff(x y:Aa):Aa.same x y=decide (x=y):=by
 rw[Bool.eq_iff_iff];rcases x with⟨_,_⟩;rcases y with⟨_,_⟩;simp[Aa.same,Aa.mk.injEq,and_assoc]
def Aa.tt:TT:= .struct (.field (.int .i64) (.field .str .unit))
def Aa.wf(x:Aa):Prop:=inR .i64 x.Ae∧x.Af.length≤maxLen
theorem Aa.of{xs:List PV}(hh:Aa.tt.Of xs): ∃x:Aa,x.wf∧Aa.tt.pack xs=Aa.pv x:=by
 obtain⟨a0,b0,rfl,h0,hh⟩:=hh
 obtain⟨a1,b1,rfl,h1,hh⟩:=hh
 obtain rfl:_=[]:=hh
 obtain⟨n0,rfl,w0⟩:=h0
 obtain⟨n1,rfl,w1⟩:=h1
 exact⟨⟨n0,n1⟩,⟨w0,w1⟩,rfl⟩
structure Aq where
 Ao6:Int
 Aa1:Int
 deriving DecidableEq,Inhabited
def Aq.cl(x:Aq):List PV:=[.int .i64 x.Ao6,.int .i64 x.Aa1]
def Aq.pv(x:Aq):PV:= .agg x.cl
def Aq.same(x y:Aq):Bool:=((x.Ao6==y.Ao6)&&((x.Aa1==y.Aa1)&&true))
theorem Aq.same_iff(x y:Aq):Aq.same x y=decide (x=y):=by
 rw[Bool.eq_iff_iff];rcases x with⟨_,_⟩;rcases y with⟨_,_⟩;simp[Aq.same,Aq.mk.injEq,and_assoc]
def Aq.tt:TT:= .struct (.field (.int .i64) (.field (.int .i64) .unit))
def Aq.wf(x:Aq):Prop:=inR .i64 x.Ao6∧inR .i64 x.Aa1
theorem Aq.of{xs:List PV}(hh:Aq.tt.Of xs): ∃x:Aq,x.wf∧Aq.tt.pack xs=Aq.pv x:=by
 obtain⟨a0,b0,rfl,h0,hh⟩:=hh
 obtain⟨a1,b1,rfl,h1,hh⟩:=hh
 obtain rfl:_=[]:=hh
 obtain⟨n0,rfl,w0⟩:=h0
 obtain⟨n1,rfl,w1⟩:=h1
 exact⟨⟨n0,n1⟩,⟨w0,w1⟩,rfl⟩
structure Ap where
 Je:List UInt8
 Jf:List UInt8
 deriving DecidableEq,Inhabited
def Ap.cl(x:Ap):List PV:=[.str x.Je,.str x.Jf]
def Ap.pv(x:Ap):PV:= .agg x.cl
def Ap.same(x y:Ap):Bool:=((x.Je==y.Je)&&((x.Jf==y.Jf)&&true))
theorem Ap.same_iff(x y:Ap):Ap.same x y=decide (x=y):=by
 rw[Bool.eq_iff_iff];rcases x with⟨_,_⟩;rcases y with⟨_,_⟩;simp[Ap.same,Ap.mk.injEq,and_assoc]
def Ap.tt:TT:= .struct (.field .str (.field .str .unit))
def Ap.wf(x:Ap):Prop:=x.Je.length≤maxLen∧x.Jf.length≤maxLen
theorem Ap.of{xs:List PV}(hh:Ap.tt.Of xs): ∃x:Ap,x.wf∧Ap.tt.pack xs=Ap.pv x:=by
 obtain⟨a0,b0,rfl,h0,hh⟩:=hh
 obtain⟨a1,b1,rfl,h1,hh⟩:=hh
 obtain rfl:_=[]:=hh
 obtain⟨n0,rfl,w0⟩:=h0
 obtain⟨n1,rfl,w1⟩:=h1
 exact⟨⟨n0,n1⟩,⟨w0,w1⟩,rfl⟩
structure Ai where
 G7:List UInt8
 Ms:List UInt8
 Ey:List UInt8
 Db:List UInt8
 A6:List Ap
 Gx:List Aa
 Cv:List UInt8
 Bz:List UInt8
 C1:List UInt8
 deriving DecidableEq,Inhabited
def Ai.cl(x:Ai):List PV:=[.str x.G7,.str x.Ms,.str x.Ey,.str x.Db,.slice (List.map Ap.pv x.A6),.slice (List.map Aa.pv x.Gx),.str x.Cv,.str x.Bz,.str x.C1]
def Ai.pv(x:Ai):PV:= .agg x.cl
def Ai.tt:TT:= .struct (.field .str (.field .str (.field .str (.field .str (.field (.slice Ap.tt) (.field (.slice Aa.tt) (.field .str (.field .str (.field .str .unit)))))))))
def Ai.wf(x:Ai):Prop:=x.G7.length≤maxLen∧x.Ms.length≤maxLen∧x.Ey.length≤maxLen∧x.Db.length≤maxLen∧(x.A6.length≤maxLen∧ ∀x'∈x.A6,Ap.wf x')∧(x.Gx.length≤maxLen∧ ∀x'∈x.Gx,Aa.wf x')∧x.Cv.length≤maxLen∧x.Bz.length≤maxLen∧x.C1.length≤maxLen
theorem Ai.of{xs:List PV}(hh:Ai.tt.Of xs): ∃x:Ai,x.wf∧Ai.tt.pack xs=Ai.pv x:=by
 obtain⟨a0,b0,rfl,h0,hh⟩:=hh
 obtain⟨a1,b1,rfl,h1,hh⟩:=hh
 obtain⟨a2,b2,rfl,h2,hh⟩:=hh
 obtain⟨a3,b3,rfl,h3,hh⟩:=hh
 obtain⟨a4,b4,rfl,h4,hh⟩:=hh
 obtain⟨a5,b5,rfl,h5,hh⟩:=hh
 obtain⟨a6,b6,rfl,h6,hh⟩:=hh
 obtain⟨a7,b7,rfl,h7,hh⟩:=hh
 obtain⟨a8,b8,rfl,h8,hh⟩:=hh
 obtain rfl:_=[]:=hh
 obtain⟨n0,rfl,w0⟩:=h0
 obtain⟨n1,rfl,w1⟩:=h1
 obtain⟨n2,rfl,w2⟩:=h2
 obtain⟨n3,rfl,w3⟩:=h3
 obtain⟨n4,w4,rfl⟩:=of_slice (f:=Ap.pv) (wf:=Ap.wf) (fun xs h=>Ap.of h) h4
 obtain⟨n5,w5,rfl⟩:=of_slice (f:=Aa.pv) (wf:=Aa.wf) (fun xs h=>Aa.of h) h5
 obtain⟨n6,rfl,w6⟩:=h6
 obtain⟨n7,rfl,w7⟩:=h7
 obtain⟨n8,rfl,w8⟩:=h8
 exact⟨⟨n0,n1,n2,n3,n4,n5,n6,n7,n8⟩,⟨w0,w1,w2,w3,w4,w5,w6,w7,w8⟩,rfl⟩
structure Ad where
 Ae:Int
 N2:Int
 f_E:Int
 deriving DecidableEq,Inhabited
def Ad.cl(x:Ad):List PV:=[.int .i64 x.Ae,.int .i64 x.N2,.int .i64 x.f_E]
def Ad.pv(x:Ad):PV:= .agg x.cl
def Ad.same(x y:Ad):Bool:=((x.Ae==y.Ae)&&((x.N2==y.N2)&&((x.f_E==y.f_E)&&true)))
theorem Ad.same_iff(x y:Ad):Ad.same x y=decide (x=y):=by
 rw[Bool.eq_iff_iff];rcases x with⟨_,_,_⟩;rcases y with⟨_,_,_⟩;simp[Ad.same,Ad.mk.injEq,and_assoc]
def Ad.tt:TT:= .struct (.field (.int .i64) (.field (.int .i64) (.field (.int .i64) .unit)))
def Ad.wf(x:Ad):Prop:=inR .i64 x.Ae∧inR .i64 x.N2∧inR .i64 x.f_E
theorem Ad.of{xs:List PV}(hh:Ad.tt.Of xs): ∃x:Ad,x.wf∧Ad.tt.pack xs=Ad.pv x:=by
 obtain⟨a0,b0,rfl,h0,hh⟩:=hh
 obtain⟨a1,b1,rfl,h1,hh⟩:=hh
 obtain⟨a2,b2,rfl,h2,hh⟩:=hh
 obtain rfl:_=[]:=hh
 obtain⟨n0,rfl,w0⟩:=h0
 obtain⟨n1,rfl,w1⟩:=h1
 obtain⟨n2,rfl,w2⟩:=h2
 exact⟨⟨n0,n1,n2⟩,⟨w0,w1,w2⟩,rfl⟩
structure Az where
 f_L:List Ac
 Btf:Int
 Bsi:Bool
 deriving DecidableEq,Inhabited
def Az.cl(x:Az):List PV:=[.slice (List.map Ac.pv x.f_L),.int .i64 x.Btf,.bool x.Bsi]
def Az.pv(x:Az):PV:= .agg x.cl
def Az.tt:TT:= .struct (.field (.slice Ac.tt) (.field (.int .i64) (.field .bool .unit)))
def Az.wf(x:Az):Prop:=(x.f_L.length≤maxLen∧ ∀x'∈x.f_L,Ac.wf x')∧inR .i64 x.Btf∧True
theorem Az.of{xs:List PV}(hh:Az.tt.Of xs): ∃x:Az,x.wf∧Az.tt.pack xs=Az.pv x:=by
 obtain⟨a0,b0,rfl,h0,hh⟩:=hh
 obtain⟨a1,b1,rfl,h1,hh⟩:=hh
 obtain⟨a2,b2,rfl,h2,hh⟩:=hh
 obtain rfl:_=[]:=hh
 obtain⟨n0,w0,rfl⟩:=of_slice (f:=Ac.pv) (wf:=Ac.wf) (fun xs h=>Ac.of h) h0
 obtain⟨n1,rfl,w1⟩:=h1
 obtain⟨n2,rfl⟩:=h2
 exact⟨⟨n0,n1,n2⟩,⟨w0,w1,trivial⟩,rfl⟩
structure Ao where
 Aq2:Int
 Af:List UInt8
 deriving DecidableEq,Inhabited
def Ao.cl(x:Ao):List PV:=[.int .i64 x.Aq2,.str x.Af]
def Ao.pv(x:Ao):PV:= .agg x.cl
def Ao.same(x y:Ao):Bool:=((x.Aq2==y.Aq2)&&((x.Af==y.Af)&&true))
theorem Ao.same_iff(x y:Ao):Ao.same x y=decide (x=y):=by
 rw[Bool.eq_iff_iff];rcases x with⟨_,_⟩;rcases y with⟨_,_⟩;simp[Ao.same,Ao.mk.injEq,and_assoc]
def Ao.tt:TT:= .struct (.field (.int .i64) (.field .str .unit))
def Ao.wf(x:Ao):Prop:=inR .i64 x.Aq2∧x.Af.length≤maxLen
theorem Ao.of{xs:List PV}(hh:Ao.tt.Of xs): ∃x:Ao,x.wf∧Ao.tt.pack xs=Ao.pv x:=by
 obtain⟨a0,b0,rfl,h0,hh⟩:=hh
 obtain⟨a1,b1,rfl,h1,hh⟩:=hh
 obtain rfl:_=[]:=hh
 obtain⟨n0,rfl,w0⟩:=h0
 obtain⟨n1,rfl,w1⟩:=h1
 exact⟨⟨n0,n1⟩,⟨w0,w1⟩,rfl⟩
instance dicS:Str where
 S:=fun i=>match i with
  |0=>Bo
  |1=>Bu
  |2=>Ac
  |3=>Ab
  |4=>Aa
  |5=>Aq
  |6=>Ap
  |7=>Ai
  |8=>Ad
  |9=>Az
  |10=>Ao
  |_=>Unit
instance dicC:Cel where
 ts:=fun i=>match i with
  |0=>[.fn,.fn]
  |1=>[.fn,.fn,.fn,.fn,.fn,.fn,.fn,.fn]
  |2=>[(.int .i64),(.int .i64),(.int .i64),.str]
  |3=>[(.sl (.st 2)),(.int .i64),.bool]
  |4=>[(.int .i64),.str]
  |5=>[(.int .i64),(.int .i64)]
  |6=>[.str,.str]
  |7=>[.str,.str,.str,.str,(.sl (.st 6)),(.sl (.st 4)),.str,.str,.str]
  |8=>[(.int .i64),(.int .i64),(.int .i64)]
  |9=>[(.sl (.st 2)),(.int .i64),.bool]
  |10=>[(.int .i64),.str]
  |_+11=>[]
 get:=fun i=>match i with
  |0=>fun(x:Bo)=>(x.G8,x.Qf,())
  |1=>fun(x:Bu)=>(x.f_0.G8,x.f_0.Qf,x.f_1.G8,x.f_1.Qf,x.f_2.G8,x.f_2.Qf,x.f_3.G8,x.f_3.Qf,())
  |2=>fun(x:Ac)=>(x.Ae,x.Qe,x.Aix,x.Af,())
  |3=>fun(x:Ab)=>(x.Jg,x.Cr,x.B5,())
  |4=>fun(x:Aa)=>(x.Ae,x.Af,())
  |5=>fun(x:Aq)=>(x.Ao6,x.Aa1,())
  |6=>fun(x:Ap)=>(x.Je,x.Jf,())
  |7=>fun(x:Ai)=>(x.G7,x.Ms,x.Ey,x.Db,x.A6,x.Gx,x.Cv,x.Bz,x.C1,())
  |8=>fun(x:Ad)=>(x.Ae,x.N2,x.f_E,())
  |9=>fun(x:Az)=>(x.f_L,x.Btf,x.Bsi,())
  |10=>fun(x:Ao)=>(x.Aq2,x.Af,())
  |_+11=>fun _=>()
 put:=fun i=>match i with
  |0=>fun t=>(⟨t.1,t.2.1⟩:Bo)
  |1=>fun t=>(⟨⟨t.1,t.2.1⟩,⟨t.2.2.1,t.2.2.2.1⟩,⟨t.2.2.2.2.1,t.2.2.2.2.2.1⟩,⟨t.2.2.2.2.2.2.1,t.2.2.2.2.2.2.2.1⟩⟩:Bu)
  |2=>fun t=>(⟨t.1,t.2.1,t.2.2.1,t.2.2.2.1⟩:Ac)
  |3=>fun t=>(⟨t.1,t.2.1,t.2.2.1⟩:Ab)
  |4=>fun t=>(⟨t.1,t.2.1⟩:Aa)
  |5=>fun t=>(⟨t.1,t.2.1⟩:Aq)
  |6=>fun t=>(⟨t.1,t.2.1⟩:Ap)
  |7=>fun t=>(⟨t.1,t.2.1,t.2.2.1,t.2.2.2.1,t.2.2.2.2.1,t.2.2.2.2.2.1,t.2.2.2.2.2.2.1,t.2.2.2.2.2.2.2.1,t.2.2.2.2.2.2.2.2.1⟩:Ai)
  |8=>fun t=>(⟨t.1,t.2.1,t.2.2.1⟩:Ad)
  |9=>fun t=>(⟨t.1,t.2.1,t.2.2.1⟩:Az)
  |10=>fun t=>(⟨t.1,t.2.1⟩:Ao)
  |_+11=>fun _=>()
 cl:=fun i=>match i with
  |0=>Bo.cl
  |1=>Bu.cl
  |2=>Ac.cl
  |3=>Ab.cl
  |4=>Aa.cl
  |5=>Aq.cl
  |6=>Ap.cl
  |7=>Ai.cl
  |8=>Ad.cl
  |9=>Az.cl
  |10=>Ao.cl
  |_+11=>fun _=>[]
 z:=fun i=>match i with
  |0=>(default:Bo)
  |1=>(default:Bu)
  |2=>(default:Ac)
  |3=>(default:Ab)
  |4=>(default:Aa)
  |5=>(default:Aq)
  |6=>(default:Ap)
  |7=>(default:Ai)
  |8=>(default:Ad)
  |9=>(default:Az)
  |10=>(default:Ao)
  |_+11=>()
instance dic:Dic where
 scal:=fun i=>match i with
  |0=>rfl
  |1=>rfl
  |2=>rfl
  |3=>rfl
  |4=>rfl
  |5=>rfl
  |6=>rfl
  |7=>rfl
  |8=>rfl
  |9=>rfl
  |10=>rfl
  |_+11=>rfl
 cl_get:=fun i=>match i with
  |0=>fun _=>rfl
  |1=>fun _=>rfl
  |2=>fun _=>rfl
  |3=>fun _=>rfl
  |4=>fun _=>rfl
  |5=>fun _=>rfl
  |6=>fun _=>rfl
  |7=>fun _=>rfl
  |8=>fun _=>rfl
  |9=>fun _=>rfl
  |10=>fun _=>rfl
  |_+11=>fun _=>rfl
 cl_mk:=fun i=>match i with
  |0=>fun _=>rfl
  |1=>fun _=>rfl
  |2=>fun _=>rfl
  |3=>fun _=>rfl
  |4=>fun _=>rfl
  |5=>fun _=>rfl
  |6=>fun _=>rfl
  |7=>fun _=>rfl
  |8=>fun _=>rfl
  |9=>fun _=>rfl
  |10=>fun _=>rfl
  |_+11=>fun _=>rfl
noncomputable def Wf(s1:List UInt8):Option Int:=
 A1 (fun(qj2:List UInt8)=>match qj2 with
  |rest3=>(
   (Bw rest3 [32,9,10]).bind fun x4=>
   (strings_HasPrefix x4 [35]).bind fun x5=>
   if (!x5)=true then
    some (.inr (IntKind.wrap .i64 ((s1.length:Int)-(x4.length:Int))))
   else
    (strings_Cut x4 [10]).bind fun x6=>
    if (!x6.2.2)=true then
     some (.inr (s1.length:Int))
    else
     some (.inl x6.2.1):Option ((List UInt8)⊕Int))) s1
def Atc:Option Bu:=
 some (⟨(⟨127,128⟩:Bo),(⟨129,130⟩:Bo),(⟨131,132⟩:Bo),(⟨133,134⟩:Bo)⟩:Bu)
def Hn(b1:Int):Option Bool:=
 (some (decide (b1≥97))).bind fun c2=>
 some (c2&&(decide (b1≤122)))
def G9(b1:Int):Option Bool:=
 (some (decide (b1≥48))).bind fun c2=>
 some (c2&&(decide (b1≤57)))
def Mv(b1:Int):Option Bool:=
 some (b1==34)
def S9(x1:Int):Option Bool:=
 some true
def F0(f:Nat)(a0:Int):Option Bool:=if f=127 then Hn a0 else if f=129 then G9 a0 else if f=131 then Mv a0 else if f=133 then S9 a0 else none
def Ov(b1:Int):Option Bool:=
 (Hn b1).bind fun x2=>
 (gdO (!x2) (G9 b1) (default:Bool)).bind fun x3=>
 (some (x2||x3)).bind fun c4=>
 some (c4||(b1==95))
def P0(r1:Int):Option Bool:=
 (some (decide (r1>127))).bind fun c2=>
 (gdO (!c2) (Ov (IntKind.wrap .u8 r1)) (default:Bool)).bind fun x3=>
 some (c2||(!x3))
noncomputable def Aww(s1:List UInt8):Option Int:=
 (strings_IndexFunc P0 s1).bind fun x2=>
 if (decide (x2<0))=true then
  some (s1.length:Int)
 else
  some x2
noncomputable def Ajf(s1:List UInt8):Option (Int×Int):=
 (Aww s1).bind fun x2=>
 if (decide (x2>32))=true then
  some (0,3)
 else
  some (x2,0)
def It(r1:Int):Option Bool:=
 (some (decide (r1>127))).bind fun c2=>
 (gdO (!c2) (G9 (IntKind.wrap .u8 r1)) (default:Bool)).bind fun x3=>
 some (c2||(!x3))
noncomputable def P1(s1:List UInt8):Option Int:=
 (strings_IndexFunc It s1).bind fun x2=>
 if (decide (x2<0))=true then
  some (s1.length:Int)
 else
  some x2
noncomputable def Qi(s1:List UInt8):Option (Int×Int):=
 (P1 s1).bind fun x2=>
 (slO s1 x2 (s1.length:Int)).bind fun x3=>
 (some (decide ((x3.length:Int)>1))).bind fun c4=>
 (gdO c4 (byO x3 0) 0).bind fun x5=>
 ((if (c4&&(x5==46))=true then
   (slO x3 1 (x3.length:Int)).bind fun x7=>
   (P1 x7).bind fun x8=>
   some x8
 else
  some 0):Option Int).bind fun j6=>
 (some (decide (x2>15))).bind fun c10=>
 (some (c10||(decide (j6>9)))).bind fun c11=>
 (some (decide (x2>1))).bind fun c12=>
 (gdO (!c11&&c12) (byO s1 0) 0).bind fun x13=>
 if (c11||(c12&&(x13==48)))=true then
  some (0,3)
 else
  if (decide (j6>0))=true then
   some (IntKind.wrap .i64 ((IntKind.wrap .i64 (x2+1))+j6),0)
  else
   some (x2,0)
def Ow(b1:Int):Option Bool:=
 (some (decide (b1≥32))).bind fun c2=>
 some (c2&&(decide (b1≤126)))
def Iu(r1:Int):Option Bool:=
 (some (decide (r1>127))).bind fun c2=>
 (gdO (!c2) (Ow (IntKind.wrap .u8 r1)) (default:Bool)).bind fun x3=>
 some (c2||(!x3))
noncomputable def Al4(s1:List UInt8):Option Int:=
 (strings_IndexFunc Iu s1).bind fun x2=>
 if (decide (x2<0))=true then
  some (s1.length:Int)
 else
  some x2
noncomputable def Qj(s1:List UInt8):Option (Int×Int):=
 (slO s1 1 (s1.length:Int)).bind fun x2=>
 (strings_IndexByte x2 34).bind fun x3=>
 if (decide (x3<0))=true then
  some (0,14)
 else
  (some (decide (x3>32))).bind fun c4=>
  (gdO (!c4) (slO s1 1 (IntKind.wrap .i64 (1+x3))) (default:List UInt8)).bind fun x5=>
  (gdO (!c4) (Al4 x5) (default:Int)).bind fun x6=>
  if (c4||(decide (x6<x3)))=true then
   some (0,3)
  else
   some (IntKind.wrap .i64 (x3+2),0)
def Aje(s1:List UInt8):Option (Int×Int):=
 (some (decide ((s1.length:Int)>1))).bind fun c2=>
 (gdO c2 (slO s1 0 2) (default:List UInt8)).bind fun x3=>
 (gdO c2 (strings_Contains [60,61,32,62,61,32,46,46] x3) (default:Bool)).bind fun x4=>
 (some (c2&&x4)).bind fun c5=>
 (gdO c5 (slO s1 0 2) (default:List UInt8)).bind fun x6=>
 (gdO c5 (strings_Contains x6 [32]) (default:Bool)).bind fun x7=>
 if (c5&&(!x7))=true then
  some (2,0)
 else
  (byO s1 0).bind fun x8=>
  (strings_IndexByte [123,125,40,41,91,93,59,58,44,37,61,60,62,43,45,42,47] x8).bind fun x9=>
  if (decide (x9≥0))=true then
   some (1,0)
  else
   some (0,14)
noncomputable def F1(f:Nat)(a0:List UInt8):Option (Int×Int):=if f=128 then Ajf a0 else if f=130 then Qi a0 else if f=132 then Qj a0 else if f=134 then Aje a0 else none
noncomputable def We(s1:List UInt8):Option (Int×Int×Int):=
 (Atc).bind fun x2=>
 ((A1 (fun(qj3:Int)=>match qj3 with
   |x4=>(
    if (decide (x4<4))=true then
     (rdO [x2.f_0,x2.f_1,x2.f_2,x2.f_3] x4).bind fun x5=>
     (byO s1 0).bind fun x6=>
     (F0 x5.G8 x6).bind fun x7=>
     if x7=true then
      (F1 x5.Qf s1).bind fun x8=>
      some (.inr (.inr (x4,x8.1,x8.2)))
     else
      some (.inl (IntKind.wrap .i64 (x4+1)))
    else
     some (.inr (.inl ())):Option (Int⊕(Unit⊕(Int×Int×Int))))) 0):Option (Unit⊕(Int×Int×Int))).bind fun j3=>match j3 with
 | .inr o=>some o
 | .inl _=>
 some (0,0,14)
def Pz(s1:List UInt8):Option (Int×Int):=
 (strings_Count s1 [10]).bind fun x2=>
 (strings_LastIndexByte s1 10).bind fun x3=>
 some (IntKind.wrap .i64 (x2+1),IntKind.wrap .i64 ((s1.length:Int)-x3))
noncomputable def Aa4(text1:List UInt8):Option ((List Ac)×Int×Int):=
 if (decide ((text1.length:Int)>8000))=true then
  some (([]:List Ac),0,4)
 else
  (Wf text1).bind fun x2=>
  ((A1 (fun(qj3:Int×(List Ac))=>match qj3 with
    |(at_4,row5)=>(
     if (decide (at_4<(text1.length:Int)))=true then
      (slO text1 at_4 (text1.length:Int)).bind fun x6=>
      (We x6).bind fun x7=>
      if (x7.2.2 !=0)=true then
       some (.inr (.inr (([]:List Ac),at_4,x7.2.2)))
      else
       if ((row5.length:Int)==1500)=true then
        some (.inr (.inr (([]:List Ac),at_4,6)))
       else
        (slO text1 0 at_4).bind fun x8=>
        (Pz x8).bind fun x9=>
        (slO text1 at_4 (IntKind.wrap .i64 (at_4+x7.2.1))).bind fun x10=>
        (apO 40 row5 [(⟨x7.1,x9.1,x9.2,x10⟩:Ac)]).bind fun x11=>
        (slO text1 (IntKind.wrap .i64 (at_4+x7.2.1)) (text1.length:Int)).bind fun x12=>
        (Wf x12).bind fun x13=>
        some (.inl (IntKind.wrap .i64 ((IntKind.wrap .i64 (at_4+x7.2.1))+x13),x11))
     else
      some (.inr (.inl row5)):Option ((Int×(List Ac))⊕((List Ac)⊕((List Ac)×Int×Int))))) (x2,([]:List Ac))):Option ((List Ac)⊕((List Ac)×Int×Int))).bind fun j3=>match j3 with
  | .inr o=>some o
  | .inl out14=>
  some (out14,0,0)
def Wc(text1:List UInt8)(at_2:Int):Option (Int×Int×Int):=
 (some (decide (at_2<0))).bind fun c3=>
 if (c3||(decide (at_2>(text1.length:Int))))=true then
  some (0,0,1)
 else
  (slO text1 0 at_2).bind fun x4=>
  (Pz x4).bind fun x5=>
  some (x5.1,x5.2,0)
noncomputable def My(text1:List UInt8):Option ((Int×Int×Int×Ab)⊕(Int×Int×Int)):=
 (Aa4 text1).bind fun x2=>
 if (x2.2.2==0)=true then
  some (.inl (0,0,0,(⟨x2.1,0,false⟩:Ab)))
 else
  (Wc text1 x2.2.1).bind fun x3=>
  some (.inr (x3.1,x3.2.1,x2.2.2))
def Br(s1:List UInt8)(e2:Ab):Option Bool:=
 (some (!e2.B5)).bind fun c3=>
 (some (c3&&(decide (e2.Cr<(e2.Jg.length:Int))))).bind fun c4=>
 (gdO c4 (rdO e2.Jg e2.Cr) (default:Ac)).bind fun x5=>
 (some (c4&&(x5.Ae !=2))).bind fun c6=>
 (gdO c6 (rdO e2.Jg e2.Cr) (default:Ac)).bind fun x7=>
 some (c6&&(x7.Af==s1))
def Bc(s1:List UInt8)(e2:Ab):Option (Bool×Ab):=
 (Br s1 e2).bind fun x3=>
 if (!x3)=true then
  some (false,e2)
 else
  some (true,(⟨e2.Jg,IntKind.wrap .i64 (e2.Cr+1),e2.B5⟩:Ab))
noncomputable def Am(l1:List (List UInt8))(e2:Ab):Option Ab:=
 A1 (fun(qj3:Int×Ab)=>match qj3 with
  |(x4,r5)=>(
   if (decide (x4<(l1.length:Int)))=true then
    (rdO l1 x4).bind fun x6=>
    (Bc x6 r5).bind fun x7=>
    if (!x7.1)=true then
     some (.inr (⟨x7.2.Jg,x7.2.Cr,true⟩:Ab))
    else
     some (.inl (IntKind.wrap .i64 (x4+1),x7.2))
   else
    some (.inr r5):Option ((Int×Ab)⊕Ab))) (0,e2)
noncomputable def Ed(s1:List (List UInt8))(v2:List UInt8):Option Int:=
 ((A1 (fun(qj3:Int)=>match qj3 with
   |x4=>(
    if (decide (x4<(s1.length:Int)))=true then
     (rdO s1 x4).bind fun x5=>
     if (v2==x5)=true then
      some (.inr (.inr x4))
     else
      some (.inl (IntKind.wrap .i64 (x4+1)))
    else
     some (.inr (.inl ())):Option (Int⊕(Unit⊕Int)))) 0):Option (Unit⊕Int)).bind fun j3=>match j3 with
 | .inr o=>some o
 | .inl _=>
 some (-1)
noncomputable def Ch(s1:List (List UInt8))(v2:List UInt8):Option Bool:=
 (Ed s1 v2).bind fun x3=>
 some (decide (x3≥0))
noncomputable def Wk(s1:List UInt8)(product2:Bool):Option Bool:=
 ((if product2=true then
   (apO 16 [[105,102],[116,104,101,110],[101,108,115,101],[97,110,100],[111,114],[110,111,116],[109,105,110],[109,97,120]] [[112,114,111,100,117,99,116],[98,97,115,105,115],[112,101,114,105,111,100],[116,105,101,114,115],[102,101,101],[109,105,110,105,109,117,109],[111,118,101,114,100,114,97,102,116],[110,111,116,105,99,101]]).bind fun x4=>
   some x4
 else
  some [[105,102],[116,104,101,110],[101,108,115,101],[97,110,100],[111,114],[110,111,116],[109,105,110],[109,97,120]]):Option (List (List UInt8))).bind fun j3=>
 (Ch j3 s1).bind fun x6=>
 some x6
noncomputable def A7(kind1:Int)(product2:Bool)(e3:Ab):Option ((List UInt8)×Ab):=
 (some e3.B5).bind fun c4=>
 (some (c4||(decide (e3.Cr≥(e3.Jg.length:Int))))).bind fun c5=>
 (gdO (!c5) (rdO e3.Jg e3.Cr) (default:Ac)).bind fun x6=>
 (some (c5||(x6.Ae !=kind1))).bind fun c7=>
 (some (kind1==0)).bind fun c8=>
 (gdO (!c7&&c8) (rdO e3.Jg e3.Cr) (default:Ac)).bind fun x9=>
 (gdO (!c7&&c8) (Wk x9.Af product2) (default:Bool)).bind fun x10=>
 if (c7||(c8&&x10))=true then
  some ([],(⟨e3.Jg,e3.Cr,true⟩:Ab))
 else
  (rdO e3.Jg (IntKind.wrap .i64 ((IntKind.wrap .i64 (e3.Cr+1))-1))).bind fun x11=>
  some (x11.Af,(⟨e3.Jg,IntKind.wrap .i64 (e3.Cr+1),e3.B5⟩:Ab))
noncomputable def Dk(slices1:List (List Aa)):Option (List Aa):=
 ((A1 (fun(qj2:Int×Int)=>match qj2 with
   |(size3,x4)=>(
    if (decide (x4<(slices1.length:Int)))=true then
     (rdO slices1 x4).bind fun x5=>
     ((if (decide ((IntKind.wrap .i64 (size3+(x5.length:Int)))<0))=true then
       none
     else
      some ()):Option Unit).bind fun _=>
     some (.inl (IntKind.wrap .i64 (size3+(x5.length:Int)),IntKind.wrap .i64 (x4+1)))
    else
     some (.inr size3):Option ((Int×Int)⊕Int))) (0,0)):Option Int).bind fun j2=>
 (Cy Aa 24 j2).bind fun x8=>
 ((A1 (fun(qj9:Int×(List Aa))=>match qj9 with
   |(x10,row11)=>(
    if (decide (x10<(slices1.length:Int)))=true then
     (rdO slices1 x10).bind fun x12=>
     (apO 24 row11 x12).bind fun x13=>
     some (.inl (IntKind.wrap .i64 (x10+1),x13))
    else
     some (.inr row11):Option ((Int×(List Aa))⊕(List Aa)))) (0,x8)):Option (List Aa)).bind fun j9=>
 some j9
noncomputable def Cd(kind1:Int)(l2:List (List Aa)):Option (List Aa):=
 (Dk l2).bind fun x3=>
 (apO 24 [(⟨kind1,[]⟩:Aa)] x3).bind fun x4=>
 some x4
def Ajq:Option (List ((List UInt8)×Aq)):=
 some (mset (mset (mset (mset (mset (mset (mset (mset (mset (mset (mset ([]:List ((List UInt8)×Aq)) [111,114] (⟨13,1⟩:Aq)) [97,110,100] (⟨12,2⟩:Aq)) [60] (⟨7,4⟩:Aq)) [60,61] (⟨8,4⟩:Aq)) [61] (⟨9,4⟩:Aq)) [62] (⟨10,4⟩:Aq)) [62,61] (⟨11,4⟩:Aq)) [43] (⟨3,5⟩:Aq)) [45] (⟨4,5⟩:Aq)) [42] (⟨5,6⟩:Aq)) [47] (⟨6,6⟩:Aq))
def B2(level1:Int)(e2:Ab):Option (Int×Bool):=
 (some e2.B5).bind fun c3=>
 (some (c3||(decide (e2.Cr≥(e2.Jg.length:Int))))).bind fun c4=>
 (gdO (!c4) (rdO e2.Jg e2.Cr) (default:Ac)).bind fun x5=>
 if (c4||(x5.Ae==2))=true then
  some (0,false)
 else
  (Ajq).bind fun x6=>
  (rdO e2.Jg e2.Cr).bind fun x7=>
  (some ((A13 x6 x7.Af).isSome)).bind fun c8=>
  some (((A13 x6 x7.Af).getD ((⟨0,0⟩:Aq):Aq)).Ao6,(c8&&((((A13 x6 x7.Af).getD ((⟨0,0⟩:Aq):Aq)).Aa1)==level1)))
mutual
noncomputable def parse_reader_any:Nat→Ab→Option ((List Aa)×Ab)
 |0,_=>none
 |fuel+1,e1=>
  (Bc [105,102] e1).bind fun x2=>
  if (!x2.1)=true then
   (parse_reader_level fuel 1 x2.2).bind fun x3=>
   some (x3.1,x3.2)
  else
   (parse_reader_any fuel x2.2).bind fun x4=>
   (Am [[116,104,101,110]] x4.2).bind fun x5=>
   (parse_reader_any fuel x5).bind fun x6=>
   (Am [[101,108,115,101]] x6.2).bind fun x7=>
   (parse_reader_any fuel x7).bind fun x8=>
   (Cd 15 [x4.1,x6.1,x8.1]).bind fun x9=>
   some (x9,x8.2)
noncomputable def parse_reader_level:Nat→Int→Ab→Option ((List Aa)×Ab)
 |0,_,_=>none
 |fuel+1,n1,e2=>
  if e2.B5=true then
   some (([]:List Aa),e2)
  else
   if (n1==3)=true then
    (Bc [110,111,116] e2).bind fun x3=>
    if x3.1=true then
     (parse_reader_level fuel 3 x3.2).bind fun x4=>
     (Cd 14 [x4.1]).bind fun x5=>
     some (x5,x4.2)
    else
     (parse_reader_level fuel 4 x3.2).bind fun x6=>
     some (x6.1,x6.2)
   else
    if (n1==7)=true then
     (Bc [45] e2).bind fun x7=>
     if x7.1=true then
      (parse_reader_level fuel 7 x7.2).bind fun x8=>
      (Cd 2 [x8.1]).bind fun x9=>
      some (x9,x8.2)
     else
      (parse_reader_primary fuel x7.2).bind fun x10=>
      some (x10.1,x10.2)
    else
     (parse_reader_level fuel (IntKind.wrap .i64 (n1+1)) e2).bind fun x11=>
     (B2 n1 x11.2).bind fun x12=>
     ((A1 (fun(qj13:(List Aa)×Int×Bool×Ab)=>match qj13 with
       |(out14,kind15,is16,r17)=>(
        if is16=true then
         (parse_reader_level fuel (IntKind.wrap .i64 (n1+1)) (⟨r17.Jg,IntKind.wrap .i64 (r17.Cr+1),r17.B5⟩:Ab)).bind fun x18=>
         (Cd kind15 [out14,x18.1]).bind fun x19=>
         if (n1==4)=true then
          some (.inr (x19,x18.2))
         else
          (B2 n1 x18.2).bind fun x20=>
          some (.inl (x19,x20.1,x20.2,x18.2))
        else
         some (.inr (out14,r17)):Option (((List Aa)×Int×Bool×Ab)⊕((List Aa)×Ab)))) (x11.1,x12.1,x12.2,x11.2)):Option ((List Aa)×Ab)).bind fun(out21,r22)=>
     some (out21,r22)
noncomputable def parse_reader_primary:Nat→Ab→Option ((List Aa)×Ab)
 |0,_=>none
 |fuel+1,e1=>
  (Bc [40] e1).bind fun x2=>
  if x2.1=true then
   (parse_reader_any fuel x2.2).bind fun x3=>
   (Am [[41]] x3.2).bind fun x4=>
   some (x3.1,x4)
  else
   (Br [109,105,110] x2.2).bind fun x5=>
   (gdO (!x5) (Br [109,97,120] x2.2) (default:Bool)).bind fun x6=>
   if (x5||x6)=true then
    (Br [109,97,120] (⟨(bif !x5 then x2.2.Jg else x2.2.Jg),(bif !x5 then x2.2.Cr else x2.2.Cr),(bif !x5 then x2.2.B5 else x2.2.B5)⟩:Ab)).bind fun x7=>
    ((if x7=true then
      some 17
    else
     some 16):Option Int).bind fun j8=>
    (Am [[40]] (⟨(bif !x5 then x2.2.Jg else x2.2.Jg),IntKind.wrap .i64 ((bif !x5 then x2.2.Cr else x2.2.Cr)+1),(bif !x5 then x2.2.B5 else x2.2.B5)⟩:Ab)).bind fun x10=>
    (parse_reader_any fuel x10).bind fun x11=>
    (Am [[44]] x11.2).bind fun x12=>
    (parse_reader_any fuel x12).bind fun x13=>
    (Am [[41]] x13.2).bind fun x14=>
    (Cd j8 [x11.1,x13.1]).bind fun x15=>
    some (x15,x14)
   else
    (some (decide ((bif !x5 then x2.2.Cr else x2.2.Cr)<((bif !x5 then x2.2.Jg else x2.2.Jg).length:Int)))).bind fun c16=>
    (gdO c16 (rdO (bif !x5 then x2.2.Jg else x2.2.Jg) (bif !x5 then x2.2.Cr else x2.2.Cr)) (default:Ac)).bind fun x17=>
    if (c16&&(x17.Ae==1))=true then
     (A7 1 false (⟨(bif !x5 then x2.2.Jg else x2.2.Jg),(bif !x5 then x2.2.Cr else x2.2.Cr),(bif !x5 then x2.2.B5 else x2.2.B5)⟩:Ab)).bind fun x18=>
     (Bc [37] x18.2).bind fun x19=>
     ((if x19.1=true then
       (Bfu x18.1 [37]).bind fun x21=>
       some x21
     else
      some x18.1):Option (List UInt8)).bind fun j20=>
     some ([(⟨0,j20⟩:Aa)],x19.2)
    else
     (A7 0 false (⟨(bif !x5 then x2.2.Jg else x2.2.Jg),(bif !x5 then x2.2.Cr else x2.2.Cr),(bif !x5 then x2.2.B5 else x2.2.B5)⟩:Ab)).bind fun x23=>
     some ([(⟨1,x23.1⟩:Aa)],x23.2)
end
def Lf(kind1:Int):Option Int:=
 (some (decide (kind1<0))).bind fun c2=>
 if (c2||(decide (kind1>17)))=true then
  some (-1)
 else
  if (decide (kind1≤1))=true then
   some 0
  else
   (some (kind1==2)).bind fun c3=>
   if (c3||(kind1==14))=true then
    some 1
   else
    if (kind1==15)=true then
     some 3
    else
     some 2
def stringslite_HasSuffix(s1:List UInt8)(suffix2:List UInt8):Option Bool:=
 (some (decide ((s1.length:Int)≥(suffix2.length:Int)))).bind fun c3=>
 (gdO c3 (slO s1 (IntKind.wrap .i64 ((s1.length:Int)-(suffix2.length:Int))) (s1.length:Int)) (default:List UInt8)).bind fun x4=>
 some (c3&&(x4==suffix2))
def stringslite_TrimSuffix(s1:List UInt8)(suffix2:List UInt8):Option (List UInt8):=
 (stringslite_HasSuffix s1 suffix2).bind fun x3=>
 if x3=true then
  (slO s1 0 (IntKind.wrap .i64 ((s1.length:Int)-(suffix2.length:Int)))).bind fun x4=>
  some x4
 else
  some s1
def strings_TrimSuffix(s1:List UInt8)(suffix2:List UInt8):Option (List UInt8):=
 (stringslite_TrimSuffix s1 suffix2).bind fun x3=>
 some x3
noncomputable def Wd(t1:Ac):Option Bool:=
 if (t1.Af==[])=true then
  some false
 else
  (We t1.Af).bind fun x2=>
  (some (x2.2.2==0)).bind fun c3=>
  (some (c3&&(x2.1==t1.Ae))).bind fun c4=>
  some (c4&&(x2.2.1==(t1.Af.length:Int)))
noncomputable def Ez(s1:List UInt8):Option Bool:=
 (Wd (⟨1,0,0,s1⟩:Ac)).bind fun x2=>
 some x2
noncomputable def Lg(s1:List UInt8)(product2:Bool):Option Bool:=
 (Wd (⟨0,0,0,s1⟩:Ac)).bind fun x3=>
 (gdO x3 (Wk s1 product2) (default:Bool)).bind fun x4=>
 some (x3&&(!x4))
noncomputable def Abd(n1:Aa):Option Bool:=
 if (n1.Ae==0)=true then
  (strings_TrimSuffix n1.Af [37]).bind fun x2=>
  (Ez x2).bind fun x3=>
  some x3
 else
  if (n1.Ae==1)=true then
   (Lg n1.Af false).bind fun x4=>
   some x4
  else
   some (n1.Af==[])
noncomputable def Ii:Nat→(List Aa)→Option ((List Aa)×Int)
 |0,_=>none
 |fuel+1,l1=>
  (some ((l1.length:Int)==0)).bind fun c2=>
  (gdO (!c2) (rdO l1 0) (default:Aa)).bind fun x3=>
  (gdO (!c2) (Lf x3.Ae) (default:Int)).bind fun x4=>
  (some (c2||(decide (x4<0)))).bind fun c5=>
  (gdO (!c5) (rdO l1 0) (default:Aa)).bind fun x6=>
  (gdO (!c5) (Abd x6) (default:Bool)).bind fun x7=>
  if (c5||(!x7))=true then
   some (([]:List Aa),0)
  else
   (slO l1 1 (l1.length:Int)).bind fun x8=>
   (rdO l1 0).bind fun x9=>
   (Lf x9.Ae).bind fun x10=>
   ((A1 (fun(qj11:(List Aa)×Int×Int)=>match qj11 with
     |(rest12,deep13,x14)=>(
      if (decide (x14<x10))=true then
       (Ii fuel rest12).bind fun x15=>
       if (x15.2==0)=true then
        some (.inr (.inr (([]:List Aa),0)))
       else
        some (.inl (x15.1,(if x15.2>deep13 then x15.2 else deep13),IntKind.wrap .i64 (x14+1)))
      else
       some (.inr (.inl (rest12,deep13))):Option (((List Aa)×Int×Int)⊕(((List Aa)×Int)⊕((List Aa)×Int))))) (x8,0,0)):Option (((List Aa)×Int)⊕((List Aa)×Int))).bind fun j11=>match j11 with
   | .inr o=>some o
   | .inl (rest16,deep17)=>
   some (rest16,IntKind.wrap .i64 (deep17+1))
noncomputable def Mw(l1:List Aa):Option Int:=
 if (decide ((l1.length:Int)>200))=true then
  some 0
 else
  (Ii 100000 l1).bind fun x2=>
  (some (decide ((x2.1.length:Int)>0))).bind fun c3=>
  if (c3||(decide (x2.2>24)))=true then
   some 0
  else
   some x2.2
noncomputable def D4(l1:List Aa):Option Bool:=
 (Mw l1).bind fun x2=>
 some (decide (x2>0))
def Fq(text1:List UInt8)(fits2:Bool)(e3:Ab):Option (Int×Int×Int):=
 if (decide (e3.Cr<(e3.Jg.length:Int)))=true then
  (rdO e3.Jg e3.Cr).bind fun x4=>
  (rdO e3.Jg e3.Cr).bind fun x5=>
  some (x4.Qe,x5.Aix,14)
 else
  if e3.B5=true then
   (Wc text1 (text1.length:Int)).bind fun x6=>
   some (x6.1,x6.2.1,14)
  else
   if (!fits2)=true then
    some (1,1,4)
   else
    some (0,0,0)
noncomputable def Dm(text1:List UInt8):Option ((List Aa)×Int×Int×Int):=
 (My text1).bind fun x2=>match x2 with
 | .inl a3=>
  if (a3.2.2.1 !=0)=true then
   some (([]:List Aa),a3.1,a3.2.1,a3.2.2.1)
  else
   (parse_reader_any 100000 a3.2.2.2).bind fun x5=>
   (D4 x5.1).bind fun x6=>
   (Fq text1 x6 x5.2).bind fun x7=>
   if (x7.2.2 !=0)=true then
    some (([]:List Aa),x7.1,x7.2.1,x7.2.2)
   else
    some (x5.1,0,0,0)
 | .inr b4=>
  if (b4.2.2 !=0)=true then
   some (([]:List Aa),b4.1,b4.2.1,b4.2.2)
  else
   none
def stringslite_CutSuffix(s1:List UInt8)(suffix2:List UInt8):Option ((List UInt8)×Bool):=
 (stringslite_HasSuffix s1 suffix2).bind fun x3=>
 if (!x3)=true then
  some (s1,false)
 else
  (slO s1 0 (IntKind.wrap .i64 ((s1.length:Int)-(suffix2.length:Int)))).bind fun x4=>
  some (x4,true)
def strings_CutSuffix(s1:List UInt8)(suffix2:List UInt8):Option ((List UInt8)×Bool):=
 (stringslite_CutSuffix s1 suffix2).bind fun x3=>
 some (x3.1,x3.2)
noncomputable def Ak(slices1:List (List (List UInt8))):Option (List (List UInt8)):=
 ((A1 (fun(qj2:Int×Int)=>match qj2 with
   |(size3,x4)=>(
    if (decide (x4<(slices1.length:Int)))=true then
     (rdO slices1 x4).bind fun x5=>
     ((if (decide ((IntKind.wrap .i64 (size3+(x5.length:Int)))<0))=true then
       none
     else
      some ()):Option Unit).bind fun _=>
     some (.inl (IntKind.wrap .i64 (size3+(x5.length:Int)),IntKind.wrap .i64 (x4+1)))
    else
     some (.inr size3):Option ((Int×Int)⊕Int))) (0,0)):Option Int).bind fun j2=>
 (Cy (List UInt8) 16 j2).bind fun x8=>
 ((A1 (fun(qj9:Int×(List (List UInt8)))=>match qj9 with
   |(x10,row11)=>(
    if (decide (x10<(slices1.length:Int)))=true then
     (rdO slices1 x10).bind fun x12=>
     (apO 16 row11 x12).bind fun x13=>
     some (.inl (IntKind.wrap .i64 (x10+1),x13))
    else
     some (.inr row11):Option ((Int×(List (List UInt8)))⊕(List (List UInt8))))) (0,x8)):Option (List (List UInt8))).bind fun j9=>
 some j9
noncomputable def Tb(n1:Aa)(s2:List UInt8)(parts3:List (List (List UInt8))):Option (List (List UInt8)):=
 if (n1.Ae==0)=true then
  (strings_CutSuffix n1.Af [37]).bind fun x4=>
  if x4.2=true then
   some [x4.1,[37]]
  else
   some [n1.Af]
 else
  if (n1.Ae==1)=true then
   some [n1.Af]
  else
   if (n1.Ae==2)=true then
    (rdO parts3 0).bind fun x5=>
    (apO 16 [[45]] x5).bind fun x6=>
    some x6
   else
    if (n1.Ae==14)=true then
     (rdO parts3 0).bind fun x7=>
     (apO 16 [[110,111,116]] x7).bind fun x8=>
     some x8
    else
     if (n1.Ae==15)=true then
      (rdO parts3 0).bind fun x9=>
      (rdO parts3 1).bind fun x10=>
      (rdO parts3 2).bind fun x11=>
      (Ak [[[105,102]],x9,[[116,104,101,110]],x10,[[101,108,115,101]],x11]).bind fun x12=>
      some x12
     else
      ((if (n1.Ae==16)=true then
        some (n1.Ae==16)
      else
       some (n1.Ae==17)):Option Bool).bind fun j13=>
      if j13=true then
       ((if (n1.Ae==17)=true then
         some [109,97,120]
       else
        some [109,105,110]):Option (List UInt8)).bind fun j15=>
       (rdO parts3 0).bind fun x17=>
       (rdO parts3 1).bind fun x18=>
       (Ak [[j15,[40]],x17,[[44]],x18,[[41]]]).bind fun x19=>
       some x19
      else
       (rdO parts3 0).bind fun x20=>
       (rdO parts3 1).bind fun x21=>
       (Ak [x20,[s2],x21]).bind fun x22=>
       some x22
noncomputable def F3:Nat→(List Aa)→Int→Option ((List (List UInt8))×(List Aa))
 |0,_,_=>none
 |fuel+1,l1,level2=>
  (rdO l1 0).bind fun x3=>
  (slO l1 1 (l1.length:Int)).bind fun x4=>
  (Ajp x3.Ae).bind fun x5=>
  ((if (x3.Ae==2)=true then
    some (7,[7])
  else
   if (x3.Ae==14)=true then
    some (3,[3])
   else
    if (x3.Ae==15)=true then
     some (0,[x5.2.2.1,x5.2.2.2,0])
    else
     some (x5.1,[x5.2.2.1,x5.2.2.2,0])):Option (Int×(List Int))).bind fun(own7,sides8)=>
  (Lf x3.Ae).bind fun x9=>
  ((A1 (fun(qj10:(List Aa)×Int×(List (List (List UInt8))))=>match qj10 with
    |(rest11,x12,row13)=>(
     if (decide (x12<x9))=true then
      (rdO sides8 x12).bind fun x14=>
      (F3 fuel rest11 x14).bind fun x15=>
      (apO 24 row13 [x15.1]).bind fun x16=>
      some (.inl (x15.2,IntKind.wrap .i64 (x12+1),x16))
     else
      some (.inr (rest11,row13)):Option (((List Aa)×Int×(List (List (List UInt8))))⊕((List Aa)×(List (List (List UInt8))))))) (x4,0,([]:List (List (List UInt8))))):Option ((List Aa)×(List (List (List UInt8))))).bind fun(rest17,parts18)=>
  (Tb x3 x5.2.1 parts18).bind fun x19=>
  ((if (decide (own7<level2))=true then
    (Ak [[[40]],x19,[[41]]]).bind fun x21=>
    some x21
  else
   some x19):Option (List (List UInt8))).bind fun j20=>
  some (j20,rest17)
noncomputable def Mx(l1:List Aa):Option ((List UInt8)×Int):=
 (D4 l1).bind fun x2=>
 if (!x2)=true then
  some ([],1)
 else
  (F3 100000 l1 0).bind fun x3=>
  (strings_Join x3.1 [32]).bind fun x4=>
  some (x4,0)
noncomputable def Ce(s1:List UInt8)(e2:Ab):Option ((List UInt8)×Ab):=
 (Am [s1] e2).bind fun x3=>
 (A7 1 true x3).bind fun x4=>
 (Am [[59]] x4.2).bind fun x5=>
 some (x4.1,x5)
noncomputable def Dd(e1:Ab):Option (Ai×Ab):=
 (Am [[112,114,111,100,117,99,116]] e1).bind fun x2=>
 (A7 0 true x2).bind fun x3=>
 (A7 0 true x3.2).bind fun x4=>
 (Am [[123],[98,97,115,105,115]] x4.2).bind fun x5=>
 (A7 0 true x5).bind fun x6=>
 (Am [[59]] x6.2).bind fun x7=>
 (Ce [112,101,114,105,111,100] x7).bind fun x8=>
 (Am [[116,105,101,114,115],[123]] x8.2).bind fun x9=>
 ((A1 (fun(qj10:Bool×Ab×(List UInt8)×(List UInt8)×(List UInt8)×(List UInt8)×(List Aa)×(List UInt8)×(List UInt8)×(List UInt8)×(List Ap))=>match qj10 with
   |(first11,r12,d13,d14,d15,d16,d17,d18,d19,d20,row21)=>(
    (some (!r12.B5)).bind fun c22=>
    (gdO (c22&& !first11) (Br [125] r12) (default:Bool)).bind fun x23=>
    if (c22&&(first11||(!x23)))=true then
     (A7 1 true (⟨(bif (c22&& !first11) then r12.Jg else r12.Jg),(bif (c22&& !first11) then r12.Cr else r12.Cr),(bif (c22&& !first11) then r12.B5 else r12.B5)⟩:Ab)).bind fun x24=>
     (Am [[58]] x24.2).bind fun x25=>
     (A7 1 true x25).bind fun x26=>
     (Am [[37],[59]] x26.2).bind fun x27=>
     (apO 32 row21 [(⟨x24.1,x26.1⟩:Ap)]).bind fun x28=>
     some (.inl (false,x27,d13,d14,d15,d16,d17,d18,d19,d20,x28))
    else
     some (.inr ((⟨(bif (c22&& !first11) then r12.Jg else r12.Jg),(bif (c22&& !first11) then r12.Cr else r12.Cr),(bif (c22&& !first11) then r12.B5 else r12.B5)⟩:Ab),(⟨d13,d14,d15,d16,row21,d17,d18,d19,d20⟩:Ai))):Option ((Bool×Ab×(List UInt8)×(List UInt8)×(List UInt8)×(List UInt8)×(List Aa)×(List UInt8)×(List UInt8)×(List UInt8)×(List Ap))⊕(Ab×Ai)))) (true,x9,x3.1,x4.1,x6.1,x8.1,([]:List Aa),[],[],[],([]:List Ap))):Option (Ab×Ai)).bind fun(r29,d30)=>
 (Am [[125],[102,101,101]] r29).bind fun x31=>
 (parse_reader_any 100000 x31).bind fun x32=>
 (Am [[59]] x32.2).bind fun x33=>
 (Ce [109,105,110,105,109,117,109] x33).bind fun x34=>
 (Ce [111,118,101,114,100,114,97,102,116] x34.2).bind fun x35=>
 (Ce [110,111,116,105,99,101] x35.2).bind fun x36=>
 (Am [[125]] x36.2).bind fun x37=>
 some ((⟨d30.G7,d30.Ms,d30.Ey,d30.Db,d30.A6,x32.1,x34.1,x35.1,x36.1⟩:Ai),x37)
noncomputable def Wi(text1:List UInt8):Option ((List Ai)×Int×Int×Int):=
 (My text1).bind fun x2=>match x2 with
 | .inl a3=>
  if (a3.2.2.1 !=0)=true then
   some (([]:List Ai),a3.1,a3.2.1,a3.2.2.1)
  else
   ((A1 (fun(qj5:Bool×Ab×(List Ai))=>match qj5 with
     |(fits6,x7,row8)=>(
      (some (!x7.B5)).bind fun c9=>
      if (c9&&(decide (x7.Cr<(x7.Jg.length:Int))))=true then
       (Dd x7).bind fun x10=>
       (some (fits6&&(decide ((x10.1.A6.length:Int)≤8)))).bind fun c11=>
       (gdO c11 (D4 x10.1.Gx) (default:Bool)).bind fun x12=>
       (apO 160 row8 [x10.1]).bind fun x13=>
       some (.inl ((c11&&x12),x10.2,x13))
      else
       some (.inr (row8,fits6,x7)):Option ((Bool×Ab×(List Ai))⊕((List Ai)×Bool×Ab)))) (true,a3.2.2.2,([]:List Ai))):Option ((List Ai)×Bool×Ab)).bind fun(out14,fits15,x16)=>
   (Fq text1 (fits15&&(decide ((out14.length:Int)≤16))) x16).bind fun x17=>
   if (x17.2.2 !=0)=true then
    some (([]:List Ai),x17.1,x17.2.1,x17.2.2)
   else
    some (out14,0,0,0)
 | .inr b4=>
  if (b4.2.2 !=0)=true then
   some (([]:List Ai),b4.1,b4.2.1,b4.2.2)
  else
   none
noncomputable def Mz(b1:Ap):Option Bool:=
 (Ez b1.Je).bind fun x2=>
 (some (!x2)).bind fun c3=>
 (gdO (!c3) (Ez b1.Jf) (default:Bool)).bind fun x4=>
 some (c3||(!x4))
noncomputable def Eb(s1:List Ap):Option Int:=
 ((A1 (fun(qj2:Int)=>match qj2 with
   |x3=>(
    if (decide (x3<(s1.length:Int)))=true then
     (rdO s1 x3).bind fun x4=>
     (Mz x4).bind fun x5=>
     if x5=true then
      some (.inr (.inr x3))
     else
      some (.inl (IntKind.wrap .i64 (x3+1)))
    else
     some (.inr (.inl ())):Option (Int⊕(Unit⊕Int)))) 0):Option (Unit⊕Int)).bind fun j2=>match j2 with
 | .inr o=>some o
 | .inl _=>
 some (-1)
noncomputable def Cf(s1:List Ap):Option Bool:=
 (Eb s1).bind fun x2=>
 some (decide (x2≥0))
noncomputable def Amb(d1:Ai):Option Bool:=
 ((A1 (fun(qj2:Int)=>match qj2 with
   |x3=>(
    if (decide (x3<([d1.G7,d1.Ms,d1.Ey].length:Int)))=true then
     (rdO [d1.G7,d1.Ms,d1.Ey] x3).bind fun x4=>
     (Lg x4 true).bind fun x5=>
     if (!x5)=true then
      some (.inr (.inr false))
     else
      some (.inl (IntKind.wrap .i64 (x3+1)))
    else
     some (.inr (.inl ())):Option (Int⊕(Unit⊕Bool)))) 0):Option (Unit⊕Bool)).bind fun j2=>match j2 with
 | .inr o=>some o
 | .inl _=>
 ((A1 (fun(qj6:Int)=>match qj6 with
   |x7=>(
    if (decide (x7<([d1.Db,d1.Cv,d1.Bz,d1.C1].length:Int)))=true then
     (rdO [d1.Db,d1.Cv,d1.Bz,d1.C1] x7).bind fun x8=>
     (Ez x8).bind fun x9=>
     if (!x9)=true then
      some (.inr (.inr false))
     else
      some (.inl (IntKind.wrap .i64 (x7+1)))
    else
     some (.inr (.inl ())):Option (Int⊕(Unit⊕Bool)))) 0):Option (Unit⊕Bool)).bind fun j6=>match j6 with
 | .inr o=>some o
 | .inl _=>
 (some (decide ((d1.A6.length:Int)≥1))).bind fun c10=>
 (some (c10&&(decide ((d1.A6.length:Int)≤8)))).bind fun c11=>
 (gdO c11 (Cf d1.A6) (default:Bool)).bind fun x12=>
 (some (c11&&(!x12))).bind fun c13=>
 (gdO c13 (D4 d1.Gx) (default:Bool)).bind fun x14=>
 some (c13&&x14)
noncomputable def Fp(d1:Ai):Option Bool:=
 (Amb d1).bind fun x2=>
 some (!x2)
noncomputable def Ec(s1:List Ai):Option Int:=
 ((A1 (fun(qj2:Int)=>match qj2 with
   |x3=>(
    if (decide (x3<(s1.length:Int)))=true then
     (rdO s1 x3).bind fun x4=>
     (Fp x4).bind fun x5=>
     if x5=true then
      some (.inr (.inr x3))
     else
      some (.inl (IntKind.wrap .i64 (x3+1)))
    else
     some (.inr (.inl ())):Option (Int⊕(Unit⊕Int)))) 0):Option (Unit⊕Int)).bind fun j2=>match j2 with
 | .inr o=>some o
 | .inl _=>
 some (-1)
noncomputable def Cg(s1:List Ai):Option Bool:=
 (Ec s1).bind fun x2=>
 some (decide (x2≥0))
noncomputable def Jo(l1:List Ai):Option ((List UInt8)×Int):=
 (some (decide ((l1.length:Int)>16))).bind fun c2=>
 (gdO (!c2) (Cg l1) (default:Bool)).bind fun x3=>
 if (c2||x3)=true then
  some ([],1)
 else
  ((A1 (fun(qj4:Int×(List (List UInt8)))=>match qj4 with
    |(x5,row6)=>(
     if (decide (x5<(l1.length:Int)))=true then
      (rdO l1 x5).bind fun x7=>
      (apO 16 row6 [[112,114,111,100,117,99,116],x7.G7,x7.Ms,[123],[98,97,115,105,115],x7.Ey,[59],[112,101,114,105,111,100],x7.Db,[59],[116,105,101,114,115],[123]]).bind fun x8=>
      ((A1 (fun(qj9:Int×(List (List UInt8)))=>match qj9 with
        |(x10,row11)=>(
         if (decide (x10<(x7.A6.length:Int)))=true then
          (rdO x7.A6 x10).bind fun x12=>
          (apO 16 row11 [x12.Je,[58],x12.Jf,[37],[59]]).bind fun x13=>
          some (.inl (IntKind.wrap .i64 (x10+1),x13))
         else
          some (.inr row11):Option ((Int×(List (List UInt8)))⊕(List (List UInt8))))) (0,x8)):Option (List (List UInt8))).bind fun j9=>
      (F3 100000 x7.Gx 0).bind fun x15=>
      (apO 16 j9 [[125],[102,101,101]]).bind fun x16=>
      (apO 16 x16 x15.1).bind fun x17=>
      (apO 16 x17 [[59],[109,105,110,105,109,117,109],x7.Cv,[59],[111,118,101,114,100,114,97,102,116],x7.Bz,[59],[110,111,116,105,99,101],x7.C1,[59],[125]]).bind fun x18=>
      some (.inl (IntKind.wrap .i64 (x5+1),x18))
     else
      some (.inr row6):Option ((Int×(List (List UInt8)))⊕(List (List UInt8))))) (0,([]:List (List UInt8)))):Option (List (List UInt8))).bind fun j4=>
  (strings_Join j4 [32]).bind fun x20=>
  some (x20,0)
noncomputable def Dr(a1:List Aa)(b2:List Aa):Option Bool:=
 if ((a1.length:Int)!=(b2.length:Int))=true then
  some false
 else
  ((A1 (fun(qj3:Int)=>match qj3 with
    |i4=>(
     if (decide (i4<(a1.length:Int)))=true then
      (rdO a1 i4).bind fun x5=>
      (rdO b2 i4).bind fun x6=>
      if (!(Aa.same x5 x6))=true then
       some (.inr (.inr false))
      else
       some (.inl (IntKind.wrap .i64 (i4+1)))
     else
      some (.inr (.inl ())):Option (Int⊕(Unit⊕Bool)))) 0):Option (Unit⊕Bool)).bind fun j3=>match j3 with
  | .inr o=>some o
  | .inl _=>
  some true
noncomputable def D0(s11:List Ap)(s22:List Ap):Option Bool:=
 if ((s11.length:Int)!=(s22.length:Int))=true then
  some false
 else
  ((A1 (fun(qj3:Int)=>match qj3 with
    |x4=>(
     if (decide (x4<(s11.length:Int)))=true then
      (rdO s11 x4).bind fun x5=>
      (rdO s22 x4).bind fun x6=>
      if (!(Ap.same x5 x6))=true then
       some (.inr (.inr false))
      else
       some (.inl (IntKind.wrap .i64 (x4+1)))
     else
      some (.inr (.inl ())):Option (Int⊕(Unit⊕Bool)))) 0):Option (Unit⊕Bool)).bind fun j3=>match j3 with
  | .inr o=>some o
  | .inl _=>
  some true
noncomputable def D1(s11:List Aa)(s22:List Aa):Option Bool:=
 if ((s11.length:Int)!=(s22.length:Int))=true then
  some false
 else
  ((A1 (fun(qj3:Int)=>match qj3 with
    |x4=>(
     if (decide (x4<(s11.length:Int)))=true then
      (rdO s11 x4).bind fun x5=>
      (rdO s22 x4).bind fun x6=>
      if (!(Aa.same x5 x6))=true then
       some (.inr (.inr false))
      else
       some (.inl (IntKind.wrap .i64 (x4+1)))
     else
      some (.inr (.inl ())):Option (Int⊕(Unit⊕Bool)))) 0):Option (Unit⊕Bool)).bind fun j3=>match j3 with
  | .inr o=>some o
  | .inl _=>
  some true
noncomputable def Ql(a1:Ai)(b2:Ai):Option Bool:=
 (D0 a1.A6 b2.A6).bind fun x3=>
 (gdO x3 (D1 a1.Gx b2.Gx) (default:Bool)).bind fun x4=>
 (some (x3&&x4)).bind fun c5=>
 (some (c5&&(a1.G7==b2.G7))).bind fun c6=>
 (some (c6&&(a1.Ms==b2.Ms))).bind fun c7=>
 (some (c7&&(a1.Ey==b2.Ey))).bind fun c8=>
 (some (c8&&(a1.Db==b2.Db))).bind fun c9=>
 (some (c9&&(a1.Cv==b2.Cv))).bind fun c10=>
 (some (c10&&(a1.Bz==b2.Bz))).bind fun c11=>
 some (c11&&(a1.C1==b2.C1))
noncomputable def Ct:Option Bool:=
 (Dm [97,45,98,32,45,32,99,42,45,50,37]).bind fun x1=>
 (Mx x1.1).bind fun x2=>
 (Dm [40,97,32,60,32,49,41,32,61,32,40,110,111,116,32,98,41]).bind fun x3=>
 (Mx x3.1).bind fun x4=>
 (Dm [97,10,32,60,32,98,32,60,32,99]).bind fun x5=>
 (Dm [40,97]).bind fun x6=>
 (Wi [112,114,111,100,117,99,116,32,115,97,118,101,32,101,117,114,32,123,32,98,97,115,105,115,32,97,99,116,51,54,53,32,59,32,112,101,114,105,111,100,32,51,32,59,32,116,105,101,114,115,32,123,32,48,32,58,32,49,46,50,53,32,37,32,59,32,53,48,48,32,58,32,50,32,37,32,59,32,125,32,102,101,101,32,105,102,32,98,97,108,97,110,99,101,32,60,32,49,48,32,116,104,101,110,32,49,32,101,108,115,101,32,48,32,59,32,109,105,110,105,109,117,109,32,53,32,59,32,111,118,101,114,100,114,97,102,116,32,48,32,59,32,110,111,116,105,99,101,32,51,48,32,59,32,125]).bind fun x7=>
 (Jo x7.1).bind fun x8=>
 (Dr x1.1 [(⟨4,[]⟩:Aa),(⟨4,[]⟩:Aa),(⟨1,[97]⟩:Aa),(⟨1,[98]⟩:Aa),(⟨5,[]⟩:Aa),(⟨1,[99]⟩:Aa),(⟨2,[]⟩:Aa),(⟨0,[50,37]⟩:Aa)]).bind fun x9=>
 if ((x7.1.length:Int)!=1)=true then
  some false
 else
  (some (x1.2.2.2==0)).bind fun c10=>
  (some (c10&&x9)).bind fun c11=>
  (some (c11&&(x2.2==0))).bind fun c12=>
  (some (c12&&(x2.1==[97,32,45,32,98,32,45,32,99,32,42,32,45,32,50,32,37]))).bind fun c13=>
  (gdO c13 (Mw x1.1) (default:Int)).bind fun x14=>
  (some (c13&&(x14==4))).bind fun c15=>
  (some (c15&&(x3.2.2.2==0))).bind fun c16=>
  (some (c16&&(x4.2==0))).bind fun c17=>
  (some (c17&&(x4.1==[40,32,97,32,60,32,49,32,41,32,61,32,40,32,110,111,116,32,98,32,41]))).bind fun c18=>
  (some (c18&&(x5.2.2.2==14))).bind fun c19=>
  (some (c19&&(x5.2.1==2))).bind fun c20=>
  (some (c20&&(x5.2.2.1==6))).bind fun c21=>
  (some (c21&&(x6.2.2.2==14))).bind fun c22=>
  (some (c22&&(x6.2.1==1))).bind fun c23=>
  (some (c23&&(x6.2.2.1==3))).bind fun c24=>
  (some (c24&&(x7.2.2.2==0))).bind fun c25=>
  (some (c25&&(x8.2==0))).bind fun c26=>
  (some (c26&&(x8.1==[112,114,111,100,117,99,116,32,115,97,118,101,32,101,117,114,32,123,32,98,97,115,105,115,32,97,99,116,51,54,53,32,59,32,112,101,114,105,111,100,32,51,32,59,32,116,105,101,114,115,32,123,32,48,32,58,32,49,46,50,53,32,37,32,59,32,53,48,48,32,58,32,50,32,37,32,59,32,125,32,102,101,101,32,105,102,32,98,97,108,97,110,99,101,32,60,32,49,48,32,116,104,101,110,32,49,32,101,108,115,101,32,48,32,59,32,109,105,110,105,109,117,109,32,53,32,59,32,111,118,101,114,100,114,97,102,116,32,48,32,59,32,110,111,116,105,99,101,32,51,48,32,59,32,125]))).bind fun c27=>
  (gdO c27 (rdO x7.1 0) (default:Ai)).bind fun x28=>
  (some (c27&&((x28.A6.length:Int)==2))).bind fun c29=>
  (gdO c29 (rdO x7.1 0) (default:Ai)).bind fun x30=>
  (gdO c29 (rdO x30.A6 1) (default:Ap)).bind fun x31=>
  (some (c29&&(x31.Jf==[50]))).bind fun c32=>
  (gdO c32 (rdO x7.1 0) (default:Ai)).bind fun x33=>
  (some (c32&&(x33.C1==[51,48]))).bind fun c34=>
  (gdO c34 (rdO x7.1 0) (default:Ai)).bind fun x35=>
  (gdO c34 (rdO x7.1 0) (default:Ai)).bind fun x36=>
  (gdO c34 (Ql x35 x36) (default:Bool)).bind fun x37=>
  (some (c34&&x37)).bind fun c38=>
  (gdO c38 (D4 [(⟨2,[]⟩:Aa)]) (default:Bool)).bind fun x39=>
  (some (c38&&(!x39))).bind fun c40=>
  (gdO c40 (D4 x1.1) (default:Bool)).bind fun x41=>
  some (c40&&x41)
noncomputable def Cu(s1:List UInt8):Option Int:=
 ((A1 (fun(qj2:Int)=>match qj2 with
   |n3=>(
    if (decide (n3<(s1.length:Int)))=true then
     (byO s1 n3).bind fun x4=>
     if (x4==35)=true then
      A1 (fun(qj5:Int)=>match qj5 with
       |n6=>(
        (some (decide (n6<(s1.length:Int)))).bind fun c7=>
        (gdO c7 (byO s1 n6) 0).bind fun x8=>
        if (c7&&(x8 !=10))=true then
         some (.inl (IntKind.wrap .i64 (n6+1)))
        else
         some (.inr (.inl n6)):Option (Int⊕(Int⊕(Int⊕Int))))) n3
     else
      (byO s1 n3).bind fun x9=>
      (some (x9==32)).bind fun c10=>
      (gdO (!c10) (byO s1 n3) 0).bind fun x11=>
      (some (c10||(x11==9))).bind fun c12=>
      (gdO (!c12) (byO s1 n3) 0).bind fun x13=>
      if (c12||(x13==10))=true then
       some (.inl (IntKind.wrap .i64 (n3+1)))
      else
       some (.inr (.inr n3))
    else
     some (.inr (.inl n3)):Option (Int⊕(Int⊕Int)))) 0):Option (Int⊕Int)).bind fun j2=>match j2 with
 | .inr o=>some o
 | .inl n14=>
 some n14
def Da(b1:Int):Option Bool:=
 (some (decide (b1≥97))).bind fun c2=>
 some (c2&&(decide (b1≤122)))
def Bx(b1:Int):Option Bool:=
 (some (decide (b1≥48))).bind fun c2=>
 some (c2&&(decide (b1≤57)))
noncomputable def Gb(s1:List UInt8):Option Ad:=
 ((A1 (fun(qj2:Int)=>match qj2 with
   |n3=>(
    (some (decide (n3<(s1.length:Int)))).bind fun c4=>
    (gdO c4 (byO s1 n3) 0).bind fun x5=>
    (gdO c4 (Da x5) (default:Bool)).bind fun x6=>
    (gdO (c4&& !x6) (byO s1 n3) 0).bind fun x7=>
    (gdO (c4&& !x6) (Bx x7) (default:Bool)).bind fun x8=>
    (some (x6||x8)).bind fun c9=>
    (gdO (c4&& !c9) (byO s1 n3) 0).bind fun x10=>
    if (c4&&(c9||(x10==95)))=true then
     some (.inl (IntKind.wrap .i64 (n3+1)))
    else
     some (.inr n3):Option (Int⊕Int))) 0):Option Int).bind fun j2=>
 if (decide (j2>32))=true then
  some (⟨0,0,3⟩:Ad)
 else
  some (⟨0,j2,0⟩:Ad)
noncomputable def Cn(s1:List UInt8):Option Int:=
 ((A1 (fun(qj2:Int)=>match qj2 with
   |n3=>(
    (some (decide (n3<(s1.length:Int)))).bind fun c4=>
    (gdO c4 (byO s1 n3) 0).bind fun x5=>
    (gdO c4 (Bx x5) (default:Bool)).bind fun x6=>
    if (c4&&x6)=true then
     some (.inl (IntKind.wrap .i64 (n3+1)))
    else
     some (.inr n3):Option (Int⊕Int))) 0):Option Int).bind fun j2=>
 some j2
noncomputable def Ep(s1:List UInt8):Option Ad:=
 (Cn s1).bind fun x2=>
 (some (decide ((IntKind.wrap .i64 (x2+1))<(s1.length:Int)))).bind fun c3=>
 (gdO c3 (byO s1 x2) 0).bind fun x4=>
 (some (c3&&(x4==46))).bind fun c5=>
 (gdO c5 (byO s1 (IntKind.wrap .i64 (x2+1))) 0).bind fun x6=>
 (gdO c5 (Bx x6) (default:Bool)).bind fun x7=>
 ((if (c5&&x7)=true then
   (slO s1 (IntKind.wrap .i64 (x2+1)) (s1.length:Int)).bind fun x9=>
   (Cn x9).bind fun x10=>
   some x10
 else
  some 0):Option Int).bind fun j8=>
 (some (decide (x2>15))).bind fun c12=>
 (some (c12||(decide (j8>9)))).bind fun c13=>
 (some (decide (x2>1))).bind fun c14=>
 (gdO (!c13&&c14) (byO s1 0) 0).bind fun x15=>
 if (c13||(c14&&(x15==48)))=true then
  some (⟨0,0,3⟩:Ad)
 else
  if (decide (j8>0))=true then
   some (⟨1,IntKind.wrap .i64 ((IntKind.wrap .i64 (x2+1))+j8),0⟩:Ad)
  else
   some (⟨1,x2,0⟩:Ad)
noncomputable def Er(s1:List UInt8):Option Ad:=
 ((A1 (fun(qj2:Int)=>match qj2 with
   |n3=>(
    (some (decide (n3<(s1.length:Int)))).bind fun c4=>
    (gdO c4 (byO s1 n3) 0).bind fun x5=>
    if (c4&&(x5 !=34))=true then
     some (.inl (IntKind.wrap .i64 (n3+1)))
    else
     some (.inr n3):Option (Int⊕Int))) 1):Option Int).bind fun j2=>
 if (j2==(s1.length:Int))=true then
  some (⟨0,0,14⟩:Ad)
 else
  ((A1 (fun(qj7:Int)=>match qj7 with
    |i8=>(
     if (decide (i8<j2))=true then
      (byO s1 i8).bind fun x9=>
      (some (decide (x9<32))).bind fun c10=>
      (gdO (!c10) (byO s1 i8) 0).bind fun x11=>
      if (c10||(decide (x11>126)))=true then
       some (.inr (.inr (⟨0,0,3⟩:Ad)))
      else
       some (.inl (IntKind.wrap .i64 (i8+1)))
     else
      some (.inr (.inl ())):Option (Int⊕(Unit⊕Ad)))) 1):Option (Unit⊕Ad)).bind fun j7=>match j7 with
  | .inr o=>some o
  | .inl _=>
  if (decide (j2>33))=true then
   some (⟨0,0,3⟩:Ad)
  else
   some (⟨2,IntKind.wrap .i64 (j2+1),0⟩:Ad)
noncomputable def Ga(s1:List UInt8):Option Ad:=
 (some (decide ((s1.length:Int)>1))).bind fun c2=>
 (gdO c2 (slO s1 0 2) (default:List UInt8)).bind fun x3=>
 (some (x3==[60,61])).bind fun c4=>
 (gdO (c2&& !c4) (slO s1 0 2) (default:List UInt8)).bind fun x5=>
 (some (c4||(x5==[62,61]))).bind fun c6=>
 (gdO (c2&& !c6) (slO s1 0 2) (default:List UInt8)).bind fun x7=>
 if (c2&&(c6||(x7==[46,46])))=true then
  some (⟨3,2,0⟩:Ad)
 else
  ((A1 (fun(qj8:Int)=>match qj8 with
    |i9=>(
     if (decide (i9<([123,125,40,41,91,93,59,58,44,37,61,60,62,43,45,42,47].length:Int)))=true then
      (byO [123,125,40,41,91,93,59,58,44,37,61,60,62,43,45,42,47] i9).bind fun x10=>
      (byO s1 0).bind fun x11=>
      if (x10==x11)=true then
       some (.inr (.inr (⟨3,1,0⟩:Ad)))
      else
       some (.inl (IntKind.wrap .i64 (i9+1)))
     else
      some (.inr (.inl ())):Option (Int⊕(Unit⊕Ad)))) 0):Option (Unit⊕Ad)).bind fun j8=>match j8 with
  | .inr o=>some o
  | .inl _=>
  some (⟨0,0,14⟩:Ad)
noncomputable def C5(s1:List UInt8):Option Ad:=
 (byO s1 0).bind fun x2=>
 (Da x2).bind fun x3=>
 if x3=true then
  (Gb s1).bind fun x4=>
  some x4
 else
  (byO s1 0).bind fun x5=>
  (Bx x5).bind fun x6=>
  if x6=true then
   (Ep s1).bind fun x7=>
   some x7
  else
   (byO s1 0).bind fun x8=>
   if (x8==34)=true then
    (Er s1).bind fun x9=>
    some x9
   else
    (Ga s1).bind fun x10=>
    some x10
noncomputable def Cc(s1:List UInt8)(at_2:Int):Option (Int×Int):=
 ((A1 (fun(qj3:Int×Int×Int)=>match qj3 with
   |(line4,col5,i6)=>(
    if (decide (i6<at_2))=true then
     (byO s1 i6).bind fun x7=>
     ((if (x7==10)=true then
       some (IntKind.wrap .i64 (line4+1),1)
     else
      some (line4,IntKind.wrap .i64 (col5+1))):Option (Int×Int)).bind fun(line9,col10)=>
     some (.inl (line9,col10,IntKind.wrap .i64 (i6+1)))
    else
     some (.inr (line4,col5)):Option ((Int×Int×Int)⊕(Int×Int)))) (1,1,0)):Option (Int×Int)).bind fun(line11,col12)=>
 some (line11,col12)
noncomputable def Cq(s1:List UInt8):Option ((List Ac)×Int×Int):=
 if (decide ((s1.length:Int)>8000))=true then
  some (([]:List Ac),0,4)
 else
  (Cu s1).bind fun x2=>
  ((A1 (fun(qj3:Int×(List Ac))=>match qj3 with
    |(at_4,row5)=>(
     if (decide (at_4<(s1.length:Int)))=true then
      (slO s1 at_4 (s1.length:Int)).bind fun x6=>
      (C5 x6).bind fun x7=>
      if (x7.f_E !=0)=true then
       some (.inr (.inr (([]:List Ac),at_4,x7.f_E)))
      else
       if ((row5.length:Int)==1500)=true then
        some (.inr (.inr (([]:List Ac),at_4,6)))
       else
        (Cc s1 at_4).bind fun x8=>
        (slO s1 at_4 (IntKind.wrap .i64 (at_4+x7.N2))).bind fun x9=>
        (apO 40 row5 [(⟨x7.Ae,x8.1,x8.2,x9⟩:Ac)]).bind fun x10=>
        (slO s1 (IntKind.wrap .i64 (at_4+x7.N2)) (s1.length:Int)).bind fun x11=>
        (Cu x11).bind fun x12=>
        some (.inl (IntKind.wrap .i64 ((IntKind.wrap .i64 (at_4+x7.N2))+x12),x10))
     else
      some (.inr (.inl row5)):Option ((Int×(List Ac))⊕((List Ac)⊕((List Ac)×Int×Int))))) (x2,([]:List Ac))):Option ((List Ac)⊕((List Ac)×Int×Int))).bind fun j3=>match j3 with
  | .inr o=>some o
  | .inl out13=>
  some (out13,0,0)
def Ba(l1:List Ac)(at_2:Int)(s3:List UInt8):Option Bool:=
 (some (decide (at_2<(l1.length:Int)))).bind fun c4=>
 (gdO c4 (rdO l1 at_2) (default:Ac)).bind fun x5=>
 (some (c4&&(x5.Ae !=2))).bind fun c6=>
 (gdO c6 (rdO l1 at_2) (default:Ac)).bind fun x7=>
 some (c6&&(x7.Af==s3))
noncomputable def Fo(l1:List (List UInt8))(s2:List UInt8):Option Bool:=
 ((A1 (fun(qj3:Int)=>match qj3 with
   |i4=>(
    if (decide (i4<(l1.length:Int)))=true then
     (rdO l1 i4).bind fun x5=>
     if (x5==s2)=true then
      some (.inr (.inr true))
     else
      some (.inl (IntKind.wrap .i64 (i4+1)))
    else
     some (.inr (.inl ())):Option (Int⊕(Unit⊕Bool)))) 0):Option (Unit⊕Bool)).bind fun j3=>match j3 with
 | .inr o=>some o
 | .inl _=>
 some false
noncomputable def Et(s1:List UInt8)(product2:Bool):Option Bool:=
 (Fo [[105,102],[116,104,101,110],[101,108,115,101],[97,110,100],[111,114],[110,111,116],[109,105,110],[109,97,120]] s1).bind fun x3=>
 (Fo [[112,114,111,100,117,99,116],[98,97,115,105,115],[112,101,114,105,111,100],[116,105,101,114,115],[102,101,101],[109,105,110,105,109,117,109],[111,118,101,114,100,114,97,102,116],[110,111,116,105,99,101]] s1).bind fun x4=>
 some (x3||(product2&&x4))
def D9(t1:Ac):Option (Int×Int):=
 if (t1.Ae==2)=true then
  some (0,0)
 else
  if (t1.Af==[111,114])=true then
   some (13,1)
  else
   if (t1.Af==[97,110,100])=true then
    some (12,2)
   else
    if (t1.Af==[60])=true then
     some (7,4)
    else
     if (t1.Af==[60,61])=true then
      some (8,4)
     else
      if (t1.Af==[61])=true then
       some (9,4)
      else
       if (t1.Af==[62])=true then
        some (10,4)
       else
        if (t1.Af==[62,61])=true then
         some (11,4)
        else
         if (t1.Af==[43])=true then
          some (3,5)
         else
          if (t1.Af==[45])=true then
           some (4,5)
          else
           if (t1.Af==[42])=true then
            some (5,6)
           else
            if (t1.Af==[47])=true then
             some (6,6)
            else
             some (0,0)
def Bp(kind1:Int)(a2:List Aa)(b3:List Aa)(c4:List Aa):Option (List Aa):=
 (apO 24 [(⟨kind1,[]⟩:Aa)] a2).bind fun x5=>
 (apO 24 x5 b3).bind fun x6=>
 (apO 24 x6 c4).bind fun x7=>
 some x7
mutual
noncomputable def cashbookref15_climb:Nat→(List Ac)→Int→Int→Option ((List Aa)×Int×Bool)
 |0,_,_,_=>none
 |fuel+1,l1,at_2,level3=>
  (cashbookref15_first fuel l1 at_2 level3).bind fun x4=>
  if (decide (x4.2.2<0))=true then
   some (([]:List Aa),x4.2.1,false)
  else
   ((A1 (fun(qj5:(List Aa)×Int×Int)=>match qj5 with
     |(out6,i7,own8)=>(
      if (decide (i7<(l1.length:Int)))=true then
       (rdO l1 i7).bind fun x9=>
       (D9 x9).bind fun x10=>
       ((if (x10.2==4)=true then
         some 5
       else
        some x10.2):Option Int).bind fun j11=>
       (some (x10.2==0)).bind fun c13=>
       (some (c13||(decide (x10.2<level3)))).bind fun c14=>
       if (c14||(decide (own8<j11)))=true then
        some (.inr (.inr (out6,i7,true)))
       else
        (cashbookref15_climb fuel l1 (IntKind.wrap .i64 (i7+1)) (IntKind.wrap .i64 (x10.2+1))).bind fun x15=>
        if (!x15.2.2)=true then
         some (.inr (.inr (([]:List Aa),x15.2.1,false)))
        else
         (Bp x10.1 out6 x15.1 ([]:List Aa)).bind fun x16=>
         some (.inl (x16,x15.2.1,x10.2))
      else
       some (.inr (.inl (out6,i7))):Option (((List Aa)×Int×Int)⊕(((List Aa)×Int)⊕((List Aa)×Int×Bool))))) (x4.1,x4.2.1,x4.2.2)):Option (((List Aa)×Int)⊕((List Aa)×Int×Bool))).bind fun j5=>match j5 with
   | .inr o=>some o
   | .inl (out17,i18)=>
   some (out17,i18,true)
noncomputable def cashbookref15_first:Nat→(List Ac)→Int→Int→Option ((List Aa)×Int×Int)
 |0,_,_,_=>none
 |fuel+1,l1,at_2,level3=>
  (some (level3==0)).bind fun c4=>
  (gdO c4 (Ba l1 at_2 [105,102]) (default:Bool)).bind fun x5=>
  if (c4&&x5)=true then
   (cashbookref15_climb fuel l1 (IntKind.wrap .i64 (at_2+1)) 0).bind fun x6=>
   (some (!x6.2.2)).bind fun c7=>
   (gdO (!c7) (Ba l1 x6.2.1 [116,104,101,110]) (default:Bool)).bind fun x8=>
   if (c7||(!x8))=true then
    some (([]:List Aa),x6.2.1,(-1))
   else
    (cashbookref15_climb fuel l1 (IntKind.wrap .i64 (x6.2.1+1)) 0).bind fun x9=>
    (some (!x9.2.2)).bind fun c10=>
    (gdO (!c10) (Ba l1 x9.2.1 [101,108,115,101]) (default:Bool)).bind fun x11=>
    if (c10||(!x11))=true then
     some (([]:List Aa),x9.2.1,(-1))
    else
     (cashbookref15_climb fuel l1 (IntKind.wrap .i64 (x9.2.1+1)) 0).bind fun x12=>
     if (!x12.2.2)=true then
      some (([]:List Aa),x12.2.1,(-1))
     else
      (Bp 15 x6.1 x9.1 x12.1).bind fun x13=>
      some (x13,x12.2.1,0)
  else
   (some (decide (level3≤3))).bind fun c14=>
   (gdO c14 (Ba l1 at_2 [110,111,116]) (default:Bool)).bind fun x15=>
   if (c14&&x15)=true then
    (cashbookref15_climb fuel l1 (IntKind.wrap .i64 (at_2+1)) 3).bind fun x16=>
    if (!x16.2.2)=true then
     some (([]:List Aa),x16.2.1,(-1))
    else
     (Bp 14 x16.1 ([]:List Aa) ([]:List Aa)).bind fun x17=>
     some (x17,x16.2.1,3)
   else
    (Ba l1 at_2 [45]).bind fun x18=>
    if x18=true then
     (cashbookref15_climb fuel l1 (IntKind.wrap .i64 (at_2+1)) 7).bind fun x19=>
     if (!x19.2.2)=true then
      some (([]:List Aa),x19.2.1,(-1))
     else
      (Bp 2 x19.1 ([]:List Aa) ([]:List Aa)).bind fun x20=>
      some (x20,x19.2.1,7)
    else
     (cashbookref15_primary fuel l1 at_2).bind fun x21=>
     some (x21.1,x21.2.1,x21.2.2)
noncomputable def cashbookref15_primary:Nat→(List Ac)→Int→Option ((List Aa)×Int×Int)
 |0,_,_=>none
 |fuel+1,l1,at_2=>
  if (decide (at_2≥(l1.length:Int)))=true then
   some (([]:List Aa),at_2,(-1))
  else
   (rdO l1 at_2).bind fun x3=>
   (Ba l1 at_2 [40]).bind fun x4=>
   if x4=true then
    (cashbookref15_climb fuel l1 (IntKind.wrap .i64 (at_2+1)) 0).bind fun x5=>
    (some (!x5.2.2)).bind fun c6=>
    (gdO (!c6) (Ba l1 x5.2.1 [41]) (default:Bool)).bind fun x7=>
    if (c6||(!x7))=true then
     some (([]:List Aa),x5.2.1,(-1))
    else
     some (x5.1,IntKind.wrap .i64 (x5.2.1+1),8)
   else
    (Ba l1 at_2 [109,105,110]).bind fun x8=>
    (gdO (!x8) (Ba l1 at_2 [109,97,120]) (default:Bool)).bind fun x9=>
    if (x8||x9)=true then
     (Ba l1 (IntKind.wrap .i64 (at_2+1)) [40]).bind fun x10=>
     if (!x10)=true then
      some (([]:List Aa),IntKind.wrap .i64 (at_2+1),(-1))
     else
      (cashbookref15_climb fuel l1 (IntKind.wrap .i64 (at_2+2)) 0).bind fun x11=>
      (some (!x11.2.2)).bind fun c12=>
      (gdO (!c12) (Ba l1 x11.2.1 [44]) (default:Bool)).bind fun x13=>
      if (c12||(!x13))=true then
       some (([]:List Aa),x11.2.1,(-1))
      else
       (cashbookref15_climb fuel l1 (IntKind.wrap .i64 (x11.2.1+1)) 0).bind fun x14=>
       (some (!x14.2.2)).bind fun c15=>
       (gdO (!c15) (Ba l1 x14.2.1 [41]) (default:Bool)).bind fun x16=>
       if (c15||(!x16))=true then
        some (([]:List Aa),x14.2.1,(-1))
       else
        if (x3.Af==[109,105,110])=true then
         (Bp 16 x11.1 x14.1 ([]:List Aa)).bind fun x17=>
         some (x17,IntKind.wrap .i64 (x14.2.1+1),8)
        else
         (Bp 17 x11.1 x14.1 ([]:List Aa)).bind fun x18=>
         some (x18,IntKind.wrap .i64 (x14.2.1+1),8)
    else
     (some (x3.Ae==1)).bind fun c19=>
     (gdO c19 (Ba l1 (IntKind.wrap .i64 (at_2+1)) [37]) (default:Bool)).bind fun x20=>
     if (c19&&x20)=true then
      (Bfu x3.Af [37]).bind fun x21=>
      some ([(⟨0,x21⟩:Aa)],IntKind.wrap .i64 (at_2+2),8)
     else
      (Et x3.Af false).bind fun x22=>
      (some (x3.Ae==1)).bind fun c23=>
      (some (x3.Ae==0)).bind fun c24=>
      if (c23||(c24&&(!x22)))=true then
       some ([(⟨IntKind.wrap .i64 (1-x3.Ae),x3.Af⟩:Aa)],IntKind.wrap .i64 (at_2+1),8)
      else
       some (([]:List Aa),at_2,(-1))
end
noncomputable def Ds(s1:List UInt8)(l2:List Ac)(at_3:Int):Option (Int×Int×Int):=
 if (decide (at_3<(l2.length:Int)))=true then
  (rdO l2 at_3).bind fun x4=>
  (rdO l2 at_3).bind fun x5=>
  some (x4.Qe,x5.Aix,14)
 else
  (Cc s1 (s1.length:Int)).bind fun x6=>
  some (x6.1,x6.2,14)
def Es(kind1:Int):Option Int:=
 (some (decide (kind1<0))).bind fun c2=>
 if (c2||(decide (kind1>17)))=true then
  some (-1)
 else
  if (decide (kind1<2))=true then
   some 0
  else
   (some (kind1==2)).bind fun c3=>
   if (c3||(kind1==14))=true then
    some 1
   else
    if (kind1==15)=true then
     some 3
    else
     some 2
noncomputable def Dp(t1:Ac):Option Bool:=
 if (t1.Af==[])=true then
  some false
 else
  (C5 t1.Af).bind fun x2=>
  (some (x2.f_E==0)).bind fun c3=>
  (some (c3&&(x2.Ae==t1.Ae))).bind fun c4=>
  some (c4&&(x2.N2==(t1.Af.length:Int)))
noncomputable def Ew(s1:List UInt8):Option Bool:=
 (Dp (⟨1,0,0,s1⟩:Ac)).bind fun x2=>
 some x2
noncomputable def Gd(s1:List UInt8)(product2:Bool):Option Bool:=
 (Dp (⟨0,0,0,s1⟩:Ac)).bind fun x3=>
 (Et s1 product2).bind fun x4=>
 some (x3&&(!x4))
noncomputable def D8(n1:Aa):Option Bool:=
 if (n1.Ae==0)=true then
  (some (decide ((n1.Af.length:Int)>0))).bind fun c2=>
  (gdO c2 (byO n1.Af (IntKind.wrap .i64 ((n1.Af.length:Int)-1))) 0).bind fun x3=>
  ((if (c2&&(x3==37))=true then
    some (IntKind.wrap .i64 ((n1.Af.length:Int)-1))
  else
   some (n1.Af.length:Int)):Option Int).bind fun j4=>
  (slO n1.Af 0 j4).bind fun x6=>
  (Ew x6).bind fun x7=>
  some x7
 else
  if (n1.Ae==1)=true then
   (Gd n1.Af false).bind fun x8=>
   some x8
  else
   some (n1.Af==[])
noncomputable def Dq(l1:List Aa):Option Int:=
 if (decide ((l1.length:Int)>200))=true then
  some 0
 else
  ((A1 (fun(qj2:(List Int)×Int)=>match qj2 with
    |(stack3,i4)=>(
     if (decide (i4≥0))=true then
      (rdO l1 i4).bind fun x5=>
      (Es x5.Ae).bind fun x6=>
      (rdO l1 i4).bind fun x7=>
      (D8 x7).bind fun x8=>
      (some (decide (x6<0))).bind fun c9=>
      (some (c9||(!x8))).bind fun c10=>
      if (c10||(decide (x6>(stack3.length:Int))))=true then
       some (.inr (.inr 0))
      else
       ((A1 (fun(qj11:Int×Int)=>match qj11 with
         |(deep12,k13)=>(
          if (decide (k13<x6))=true then
           (rdO stack3 (IntKind.wrap .i64 ((IntKind.wrap .i64 ((stack3.length:Int)-1))-k13))).bind fun x14=>
           some (.inl ((if x14>deep12 then x14 else deep12),IntKind.wrap .i64 (k13+1)))
          else
           some (.inr deep12):Option ((Int×Int)⊕Int))) (0,0)):Option Int).bind fun j11=>
       (slO stack3 0 (IntKind.wrap .i64 ((stack3.length:Int)-x6))).bind fun x16=>
       (apO 8 ([]:List Int) x16).bind fun x17=>
       (apO 8 x17 [IntKind.wrap .i64 (j11+1)]).bind fun x18=>
       some (.inl (x18,IntKind.wrap .i64 (i4-1)))
     else
      some (.inr (.inl stack3)):Option (((List Int)×Int)⊕((List Int)⊕Int)))) (([]:List Int),IntKind.wrap .i64 ((l1.length:Int)-1))):Option ((List Int)⊕Int)).bind fun j2=>match j2 with
  | .inr o=>some o
  | .inl stack19=>
  (some ((stack19.length:Int)!=1)).bind fun c20=>
  (gdO (!c20) (rdO stack19 0) (default:Int)).bind fun x21=>
  if (c20||(decide (x21>24)))=true then
   some 0
  else
   (rdO stack19 0).bind fun x22=>
   some x22
noncomputable def Gc(s1:List UInt8):Option ((List Aa)×Int×Int×Int):=
 (Cq s1).bind fun x2=>
 if (x2.2.2 !=0)=true then
  (Cc s1 x2.2.1).bind fun x3=>
  some (([]:List Aa),x3.1,x3.2,x2.2.2)
 else
  (cashbookref15_climb 100000 x2.1 0 0).bind fun x4=>
  (some (!x4.2.2)).bind fun c5=>
  if (c5||(decide (x4.2.1<(x2.1.length:Int))))=true then
   (Ds s1 x2.1 x4.2.1).bind fun x6=>
   some (([]:List Aa),x6.1,x6.2.1,x6.2.2)
  else
   (Dq x4.1).bind fun x7=>
   if (x7==0)=true then
    some (([]:List Aa),1,1,4)
   else
    some (x4.1,0,0,0)
noncomputable def C8(s1:List UInt8):Option Bool:=
 if (decide ((s1.length:Int)>9000))=true then
  (Ct).bind fun x2=>
  some x2
 else
  (Dm s1).bind fun x3=>
  (Gc s1).bind fun x4=>
  (Dr x3.1 x4.1).bind fun x5=>
  (Ct).bind fun x6=>
  (some (x6&&x5)).bind fun c7=>
  (some (c7&&(x3.2.1==x4.2.1))).bind fun c8=>
  (some (c8&&(x3.2.2.1==x4.2.2.1))).bind fun c9=>
  some (c9&&(x3.2.2.2==x4.2.2.2))
end Go.Av.G
end
section
set_option linter.unusedVariables false
set_option linter.unusedSimpArgs false
set_option maxRecDepth 100000
set_option maxHeartbeats 8000000
namespace Go.Av.G
open Go Go.Av Go.Proofs
def Rg:Ent:=⟨[.ty .str,.ty .str],[],[.str,.str],⟨(.ty .str),[],[],[.str],[],[]⟩,none,fun p=>Bw p.1 p.2⟩
theorem Aim:Rg.ok Tryz.prog 108:=fun p r h=>An0 (show Bw _ _=some _ from h)
def Om:Ent:=⟨[.ty .str,.ty .str],[],[.str,.str],⟨(.ty .bool),[],[],[.bool],[],[]⟩,none,fun p=>strings_HasPrefix p.1 p.2⟩
theorem Afd:Om.ok Tryz.prog 109:=fun p r h=>Aln (show strings_HasPrefix _ _=some _ from h)
def Aow:Ent:=⟨[.ty .str,.ty .str],[],[.str,.str],⟨(.tup [(.ty .str),(.ty .str),(.ty .bool)]),[],[],[.str,.str,.bool],[],[]⟩,none,fun p=>strings_Cut p.1 p.2⟩
theorem At4:Aow.ok Tryz.prog 110:=fun p r h=>A1a (show strings_Cut _ _=some _ from h)
def Bdd:List TOp:=[oo 2 (.mov (.cst (.int .i64 0)))]
def Bde:List TOp:=[oo 7 (.mov (.tmp 0)),oo 3 (.mov (.tmp 7))]
def Bdf:List TOp:=[oo 8 (.mov (.tmp 3)),oo 9 (.call 0 0 (.cst (.fn 108)) [(.tmp 8),(.cst (.str [32,9,10]))] [] []),oo 3 (.mov (.tmp 9))]
def Bdg:List TOp:=[oo 10 (.mov (.tmp 3)),oo 11 (.call 0 0 (.cst (.fn 109)) [(.tmp 10),(.cst (.str [35]))] [] []),oo 12 (.un .not (.tmp 11))]
def Bdh:List TOp:=[oo 13 (.mov (.tmp 0)),oo 14 (.len true (.tmp 13)),oo 15 (.mov (.tmp 3)),oo 16 (.len true (.tmp 15)),oo 17 (.bin false .sub (.tmp 14) (.tmp 16)),oo 2 (.mov (.tmp 17))]
def Auw:Kp:=⟨[],[(2,false)],[],[],[]⟩
def Bdi:List TOp:=[oo 19 (.mov (.tmp 3)),oo 20 (.call 0 0 (.cst (.fn 110)) [(.tmp 19),(.cst (.str [10]))] [] []),oo 18 (.mov (.tmp 20)),oo 21 (.ext 0 (.tmp 18)),oo 22 (.ext 1 (.tmp 18)),oo 23 (.ext 2 (.tmp 18)),oo 4 (.mov (.tmp 21)),oo 5 (.mov (.tmp 22)),oo 6 (.mov (.tmp 23))]
def Bdj:List TOp:=[oo 24 (.mov (.tmp 6)),oo 25 (.un .not (.tmp 24))]
def Bdk:List TOp:=[oo 26 (.mov (.tmp 0)),oo 27 (.len true (.tmp 26)),oo 2 (.mov (.tmp 27))]
def Bdl:List TOp:=[oo 28 (.mov (.tmp 5)),oo 3 (.mov (.tmp 28))]
def A8u:DC:=(.pass 1 (.seq (.ops Bdf) (.seq (.seq (.ops Bdg) (.cond (.tmp 12) (.free (.seq (.ops Bdh) (.keep Auw .ret))) .skip)) (.seq (.ops Bdi) (.seq (.seq (.ops Bdj) (.cond (.tmp 25) (.free (.seq (.ops Bdk) (.keep Auw .ret))) .skip)) (.ops Bdl))))))
def A8t:Kp:=⟨[],[(0,false),(3,false)],[],[],[]⟩
def A8v:Sig:=⟨[(0,none),(3,some (.ty .str))],[],[.str],[],[]⟩
def Blq:TFd:=⟨1,[(.tmp 2,.bool)],[],(.seq (.ops Bdd) (.seq (.ops Bde) (.pass 0 (.loop [0,3] [] A8t A8v A8u))))⟩
noncomputable def Ax3:Ent:=⟨[.ty .str],[],[.str],⟨(.ty (.int .i64)),[],[],[(.int .i64)],[],[]⟩,none,fun p=>Wf p⟩
theorem Bbx:Ax3.ok Tryz.prog 88:=Ar hm Tryz.func88 (fd:=Blq) (by kernel_rfl) (Ah (l:=[(108,Rg),(109,Om),(110,Aow)]) (y:=[]) ⟨Aim,Afd,At4,trivial⟩ trivial) (by kernel_rfl) (fun p=>by kernel_rfl)
def A72:List TOp:=[oo 0 (.alloc [.pv .nilFn,.pv .nilFn,.pv .nilFn,.pv .nilFn,.pv .nilFn,.pv .nilFn,.pv .nilFn,.pv .nilFn])]
def A73:List TOp:=[ot 1 (.st 0) (.build [.pv .nilFn,.pv .nilFn] [(0,1,(.cst (.fn 127))),(1,1,(.cst (.fn 128)))]),ot 2 (.st 0) (.build [.pv .nilFn,.pv .nilFn] [(0,1,(.cst (.fn 129))),(1,1,(.cst (.fn 130)))]),ot 3 (.st 0) (.build [.pv .nilFn,.pv .nilFn] [(0,1,(.cst (.fn 131))),(1,1,(.cst (.fn 132)))]),ot 4 (.st 0) (.build [.pv .nilFn,.pv .nilFn] [(0,1,(.cst (.fn 133))),(1,1,(.cst (.fn 134)))]),ot 5 (.st 1) (.build [.pv .nilFn,.pv .nilFn,.pv .nilFn,.pv .nilFn,.pv .nilFn,.pv .nilFn,.pv .nilFn,.pv .nilFn] [(0,2,(.tmp 1)),(2,2,(.tmp 2)),(4,2,(.tmp 3)),(6,2,(.tmp 4))]),on (.store 8 (.tmp 0) (.tmp 5))]
def A71:Kp:=⟨[],[(0,false)],[(.loc 0 0,false)],[],[]⟩
def Bhg:TFd:=⟨0,[(.cell 0 true 8,(.st 1))],[],(.seq (.ops A72) (.seq (.ops A73) (.keep A71 .ret)))⟩
def Auo:Ent:=⟨[],[],[],⟨(.ty (.st 1)),[],[],[(.st 1)],[],[]⟩,none,fun p=>Atc⟩
theorem A62:Auo.ok Tryz.prog 111:=Ar hm Tryz.func111 (fd:=Bhg) (by kernel_rfl) (Ah (l:=[]) (y:=[]) trivial trivial) (by kernel_rfl) (fun p=>by kernel_rfl)
def Au9:List TOp:=[oo 2 (.mov (.cst (.bool false)))]
def Ava:List TOp:=[oo 3 (.mov (.tmp 0)),oo 4 (.bin false .geq (.tmp 3) (.cst (.int .u8 97))),oo 5 (.mov (.tmp 4)),og 6 5 true .bool (.mov (.tmp 0)),og 7 5 true .bool (.bin false .leq (.tmp 6) (.cst (.int .u8 122))),oo 8 (.pick (.tmp 5) (.tmp 7) (.cst (.bool false))),oo 2 (.mov (.tmp 8))]
def Au8:Kp:=⟨[],[(2,false)],[],[],[]⟩
def A16:TFd:=⟨1,[(.tmp 2,.bool)],[],(.seq (.ops Au9) (.seq (.ops Ava) (.keep Au8 .ret)))⟩
def Aja:Ent:=⟨[.ty (.int .u8)],[],[(.int .u8)],⟨(.ty .bool),[],[],[.bool],[],[]⟩,none,fun p=>Hn p⟩
theorem Afh:Aja.ok Tryz.prog 127:=Ar hm Tryz.func127 (fd:=A16) (by kernel_rfl) (Ah (l:=[]) (y:=[]) trivial trivial) (by kernel_rfl) (fun p=>by kernel_rfl)
def Ayp:List TOp:=[oo 2 (.mov (.cst (.bool false)))]
def Ayq:List TOp:=[oo 3 (.mov (.tmp 0)),oo 4 (.bin false .geq (.tmp 3) (.cst (.int .u8 48))),oo 5 (.mov (.tmp 4)),og 6 5 true .bool (.mov (.tmp 0)),og 7 5 true .bool (.bin false .leq (.tmp 6) (.cst (.int .u8 57))),oo 8 (.pick (.tmp 5) (.tmp 7) (.cst (.bool false))),oo 2 (.mov (.tmp 8))]
def Ayo:Kp:=⟨[],[(2,false)],[],[],[]⟩
def A7y:TFd:=⟨1,[(.tmp 2,.bool)],[],(.seq (.ops Ayp) (.seq (.ops Ayq) (.keep Ayo .ret)))⟩
def To:Ent:=⟨[.ty (.int .u8)],[],[(.int .u8)],⟨(.ty .bool),[],[],[.bool],[],[]⟩,none,fun p=>G9 p⟩
theorem Qh:To.ok Tryz.prog 129:=Ar hm Tryz.func129 (fd:=A7y) (by kernel_rfl) (Ah (l:=[]) (y:=[]) trivial trivial) (by kernel_rfl) (fun p=>by kernel_rfl)
def Ays:List TOp:=[oo 2 (.mov (.cst (.bool false)))]
def Ayt:List TOp:=[oo 3 (.mov (.tmp 0)),oo 4 (.bin false .eql (.tmp 3) (.cst (.int .u8 34))),oo 2 (.mov (.tmp 4))]
def Ayr:Kp:=⟨[],[(2,false)],[],[],[]⟩
def A7z:TFd:=⟨1,[(.tmp 2,.bool)],[],(.seq (.ops Ays) (.seq (.ops Ayt) (.keep Ayr .ret)))⟩
def A1w:Ent:=⟨[.ty (.int .u8)],[],[(.int .u8)],⟨(.ty .bool),[],[],[.bool],[],[]⟩,none,fun p=>Mv p⟩
theorem Axz:A1w.ok Tryz.prog 131:=Ar hm Tryz.func131 (fd:=A7z) (by kernel_rfl) (Ah (l:=[]) (y:=[]) trivial trivial) (by kernel_rfl) (fun p=>by kernel_rfl)
def Ayv:List TOp:=[oo 2 (.mov (.cst (.bool false)))]
def Ayw:List TOp:=[oo 2 (.mov (.cst (.bool true)))]
def Ayu:Kp:=⟨[],[(2,false)],[],[],[]⟩
def A70:TFd:=⟨1,[(.tmp 2,.bool)],[],(.seq (.ops Ayv) (.seq (.ops Ayw) (.keep Ayu .ret)))⟩
def A1x:Ent:=⟨[.ty (.int .u8)],[],[(.int .u8)],⟨(.ty .bool),[],[],[.bool],[],[]⟩,none,fun p=>S9 p⟩
theorem Ax0:A1x.ok Tryz.prog 133:=Ar hm Tryz.func133 (fd:=A70) (by kernel_rfl) (Ah (l:=[]) (y:=[]) trivial trivial) (by kernel_rfl) (fun p=>by kernel_rfl)
def Aod:Dyn:=⟨[.ty (.int .u8)],[(.int .u8)],⟨(.ty .bool),[],[],[.bool],[],[]⟩,fun f p=>F0 f p⟩
theorem Ata(g:Nat):(Aod.ent g).ok Tryz.prog g:=by
 intro p r h
 have h:F0 g p=some r:=h
 unfold F0 at h
 split at h
 ·rename_i e;subst e;exact Afh p r h
 split at h
 ·rename_i e;subst e;exact Qh p r h
 split at h
 ·rename_i e;subst e;exact Axz p r h
 split at h
 ·rename_i e;subst e;exact Ax0 p r h
 cases h
def Avc:List TOp:=[oo 2 (.mov (.cst (.bool false)))]
def Avd:List TOp:=[oo 3 (.mov (.tmp 0)),oo 4 (.call 0 0 (.cst (.fn 127)) [(.tmp 3)] [] []),oo 5 (.mov (.tmp 4)),og 6 5 false .bool (.mov (.tmp 0)),og 7 5 false .bool (.call 0 0 (.cst (.fn 129)) [(.tmp 6)] [] []),oo 8 (.pick (.tmp 5) (.cst (.bool true)) (.tmp 7)),oo 9 (.mov (.tmp 8)),og 10 9 false .bool (.mov (.tmp 0)),og 11 9 false .bool (.bin false .eql (.tmp 10) (.cst (.int .u8 95))),oo 12 (.pick (.tmp 9) (.cst (.bool true)) (.tmp 11)),oo 2 (.mov (.tmp 12))]
def Avb:Kp:=⟨[],[(2,false)],[],[],[]⟩
def A17:TFd:=⟨1,[(.tmp 2,.bool)],[],(.seq (.ops Avc) (.seq (.ops Avd) (.keep Avb .ret)))⟩
def Ajb:Ent:=⟨[.ty (.int .u8)],[],[(.int .u8)],⟨(.ty .bool),[],[],[.bool],[],[]⟩,none,fun p=>Ov p⟩
theorem Au6:Ajb.ok Tryz.prog 146:=Ar hm Tryz.func146 (fd:=A17) (by kernel_rfl) (Ah (l:=[(127,Aja),(129,To)]) (y:=[]) ⟨Afh,Qh,trivial⟩ trivial) (by kernel_rfl) (fun p=>by kernel_rfl)
def A8f:List TOp:=[oo 3 (.mov (.cst (.bool false)))]
def A8g:List TOp:=[oo 4 (.mov (.tmp 0)),oo 5 (.bin false .gtr (.tmp 4) (.cst (.int .i32 127))),oo 6 (.mov (.tmp 5)),og 7 6 false .bool (.load false 1 (.tmp 1)),og 8 6 false .bool (.mov (.tmp 0)),og 9 6 false .bool (.conv .u8 (.tmp 8)),og 10 6 false .bool (.call 0 0 (.tmp 7) [(.tmp 9)] [] []),og 11 6 false .bool (.un .not (.tmp 10)),oo 12 (.pick (.tmp 6) (.cst (.bool true)) (.tmp 11)),oo 3 (.mov (.tmp 12))]
def A8e:Kp:=⟨[],[(3,false)],[],[],[]⟩
def Bhi:TFd:=⟨2,[(.tmp 3,.bool)],[],(.seq (.ops A8f) (.seq (.ops A8g) (.keep A8e .ret)))⟩
def Bbv:Ent:=⟨[.ty (.int .i32),.ic [.fnc 146] 0],[],[(.int .i32)],⟨(.ty .bool),[],[],[.bool],[],[]⟩,none,fun p=>P0 p⟩
theorem A65:Bbv.ok Tryz.prog 157:=Ar hm Tryz.func157 (fd:=Bhi) (by kernel_rfl) (Ah (l:=[(146,Ajb)]) (y:=[]) ⟨Au6,trivial⟩ trivial) (by kernel_rfl) (fun p=>by kernel_rfl)
noncomputable def F7:Ent:=⟨[.ty .str,.fn 157 [.ic [.fnc 146] 0]],[],[.str],⟨(.ty (.int .i64)),[],[],[(.int .i64)],[],[]⟩,none,fun p=>strings_IndexFunc P0 p⟩
theorem Kf:F7.ok Tryz.prog 156:=fun p r h=>Hi (f:=P0) (fun x r h=>A65 x r h) (show strings_IndexFunc P0 _=some _ from h) A61
def Bhm:List TOp:=[oo 3 (.box (.tmp 1)),oo 4 (.mov (.cst (.int .i64 0)))]
def Bhn:List TOp:=[oo 6 (.mov (.tmp 0)),oo 7 (.mkfn 157 [(.tmp 3)]),oo 8 (.call 0 0 (.cst (.fn 156)) [(.tmp 6),(.tmp 7)] [] []),oo 5 (.mov (.tmp 8))]
def Bhl:Kp:=⟨[.loc 3 0],[(0,false),(3,false)],[],[],[]⟩
def Bho:List TOp:=[oo 9 (.mov (.tmp 5)),oo 10 (.bin false .lss (.tmp 9) (.cst (.int .i64 0)))]
def Bhp:List TOp:=[oo 11 (.mov (.tmp 0)),oo 12 (.len true (.tmp 11)),oo 4 (.mov (.tmp 12))]
def Ay6:Kp:=⟨[],[(4,false)],[],[],[]⟩
def Bhq:List TOp:=[oo 13 (.mov (.tmp 5)),oo 4 (.mov (.tmp 13))]
def Bpe:TFd:=⟨2,[(.tmp 4,.bool)],[],(.seq (.ops Bhm) (.seq (.keep Bhl (.ops Bhn)) (.seq (.seq (.ops Bho) (.cond (.tmp 10) (.free (.seq (.ops Bhp) (.keep Ay6 .ret))) .skip)) (.seq (.ops Bhq) (.keep Ay6 .ret)))))⟩
noncomputable def A42:Ent:=⟨[.ty .str,.fnc 146],[],[.str],⟨(.ty (.int .i64)),[],[],[(.int .i64)],[],[]⟩,none,fun p=>Aww p⟩
theorem Bgk:A42.ok Tryz.prog 145:=Ar hm Tryz.func145 (fd:=Bpe) (by kernel_rfl) (Ah (l:=[(156,F7)]) (y:=[]) ⟨Kf,trivial⟩ trivial) (by kernel_rfl) (fun p=>by kernel_rfl)
def Bdm:List TOp:=[oo 2 (.mov (.cst (.int .i64 0))),oo 3 (.mov (.cst (.int .i64 0)))]
def Bdn:List TOp:=[oo 5 (.mov (.tmp 0)),oo 6 (.call 0 0 (.cst (.fn 145)) [(.tmp 5),(.cst (.fn 146))] [] []),oo 4 (.mov (.tmp 6))]
def Bdo:List TOp:=[oo 7 (.mov (.tmp 4)),oo 8 (.bin false .gtr (.tmp 7) (.cst (.int .i64 32)))]
def Bdp:List TOp:=[oo 2 (.mov (.cst (.int .i64 0))),oo 3 (.mov (.cst (.int .i64 3)))]
def Aux:Kp:=⟨[],[(2,false),(3,false)],[],[],[]⟩
def Bdq:List TOp:=[oo 9 (.mov (.tmp 4)),oo 2 (.mov (.tmp 9)),oo 3 (.mov (.cst (.int .i64 0)))]
def Blr:TFd:=⟨1,[(.tmp 2,.bool),(.tmp 3,.bool)],[],(.seq (.ops Bdm) (.seq (.ops Bdn) (.seq (.seq (.ops Bdo) (.cond (.tmp 8) (.free (.seq (.ops Bdp) (.keep Aux .ret))) .skip)) (.seq (.ops Bdq) (.keep Aux .ret)))))⟩
noncomputable def Bgm:Ent:=⟨[.ty .str],[],[.str],⟨(.tup [(.ty (.int .i64)),(.ty (.int .i64))]),[],[],[(.int .i64),(.int .i64)],[],[]⟩,none,fun p=>Ajf p⟩
theorem Bby:Bgm.ok Tryz.prog 128:=Ar hm Tryz.func128 (fd:=Blr) (by kernel_rfl) (Ah (l:=[(145,A42)]) (y:=[]) ⟨Bgk,trivial⟩ trivial) (by kernel_rfl) (fun p=>by kernel_rfl)
def Ay1:List TOp:=[oo 3 (.mov (.cst (.bool false)))]
def Ay2:List TOp:=[oo 4 (.mov (.tmp 0)),oo 5 (.bin false .gtr (.tmp 4) (.cst (.int .i32 127))),oo 6 (.mov (.tmp 5)),og 7 6 false .bool (.load false 1 (.tmp 1)),og 8 6 false .bool (.mov (.tmp 0)),og 9 6 false .bool (.conv .u8 (.tmp 8)),og 10 6 false .bool (.call 0 0 (.tmp 7) [(.tmp 9)] [] []),og 11 6 false .bool (.un .not (.tmp 10)),oo 12 (.pick (.tmp 6) (.cst (.bool true)) (.tmp 11)),oo 3 (.mov (.tmp 12))]
def Ay0:Kp:=⟨[],[(3,false)],[],[],[]⟩
def A8c:TFd:=⟨2,[(.tmp 3,.bool)],[],(.seq (.ops Ay1) (.seq (.ops Ay2) (.keep Ay0 .ret)))⟩
def A10:Ent:=⟨[.ty (.int .i32),.ic [.fnc 129] 0],[],[(.int .i32)],⟨(.ty .bool),[],[],[.bool],[],[]⟩,none,fun p=>It p⟩
theorem Ax1:A10.ok Tryz.prog 157:=Ar hm Tryz.func157 (fd:=A8c) (by kernel_rfl) (Ah (l:=[(129,To)]) (y:=[]) ⟨Qh,trivial⟩ trivial) (by kernel_rfl) (fun p=>by kernel_rfl)
noncomputable def Fc:Ent:=⟨[.ty .str,.fn 157 [.ic [.fnc 129] 0]],[],[.str],⟨(.ty (.int .i64)),[],[],[(.int .i64)],[],[]⟩,none,fun p=>strings_IndexFunc It p⟩
theorem Ij:Fc.ok Tryz.prog 156:=fun p r h=>Hi (f:=It) (fun x r h=>Ax1 x r h) (show strings_IndexFunc It _=some _ from h) A61
def A8i:List TOp:=[oo 3 (.box (.tmp 1)),oo 4 (.mov (.cst (.int .i64 0)))]
def A8j:List TOp:=[oo 6 (.mov (.tmp 0)),oo 7 (.mkfn 157 [(.tmp 3)]),oo 8 (.call 0 0 (.cst (.fn 156)) [(.tmp 6),(.tmp 7)] [] []),oo 5 (.mov (.tmp 8))]
def A8h:Kp:=⟨[.loc 3 0],[(0,false),(3,false)],[],[],[]⟩
def A8k:List TOp:=[oo 9 (.mov (.tmp 5)),oo 10 (.bin false .lss (.tmp 9) (.cst (.int .i64 0)))]
def A8l:List TOp:=[oo 11 (.mov (.tmp 0)),oo 12 (.len true (.tmp 11)),oo 4 (.mov (.tmp 12))]
def Arv:Kp:=⟨[],[(4,false)],[],[],[]⟩
def A8m:List TOp:=[oo 13 (.mov (.tmp 5)),oo 4 (.mov (.tmp 13))]
def Bhj:TFd:=⟨2,[(.tmp 4,.bool)],[],(.seq (.ops A8i) (.seq (.keep A8h (.ops A8j)) (.seq (.seq (.ops A8k) (.cond (.tmp 10) (.free (.seq (.ops A8l) (.keep Arv .ret))) .skip)) (.seq (.ops A8m) (.keep Arv .ret)))))⟩
noncomputable def Auq:Ent:=⟨[.ty .str,.fnc 129],[],[.str],⟨(.ty (.int .i64)),[],[],[(.int .i64)],[],[]⟩,none,fun p=>P1 p⟩
theorem A66:Auq.ok Tryz.prog 145:=Ar hm Tryz.func145 (fd:=Bhj) (by kernel_rfl) (Ah (l:=[(156,Fc)]) (y:=[]) ⟨Ij,trivial⟩ trivial) (by kernel_rfl) (fun p=>by kernel_rfl)
def A19:List TOp:=[oo 2 (.mov (.cst (.int .i64 0))),oo 3 (.mov (.cst (.int .i64 0)))]
def A2a:List TOp:=[oo 7 (.mov (.tmp 0)),oo 8 (.call 0 0 (.cst (.fn 145)) [(.tmp 7),(.cst (.fn 129))] [] []),oo 4 (.mov (.tmp 8))]
def A2b:List TOp:=[oo 5 (.mov (.cst (.int .i64 0)))]
def A2c:List TOp:=[oo 9 (.mov (.tmp 0)),oo 10 (.mov (.tmp 4)),oo 11 (.slc true 0 (.tmp 9) (some (.tmp 10)) none),oo 6 (.mov (.tmp 11))]
def A2d:List TOp:=[oo 12 (.mov (.tmp 6)),oo 13 (.len true (.tmp 12)),oo 14 (.bin false .gtr (.tmp 13) (.cst (.int .i64 1))),oo 15 (.mov (.tmp 14)),og 16 15 true .bool (.mov (.tmp 6)),og 17 15 true .bool (.sidx (.tmp 16) (.cst (.int .i64 0))),og 18 15 true .bool (.bin false .eql (.tmp 17) (.cst (.int .u8 46))),oo 19 (.pick (.tmp 15) (.tmp 18) (.cst (.bool false)))]
def A2e:List TOp:=[oo 20 (.mov (.tmp 6)),oo 21 (.slc true 0 (.tmp 20) (some (.cst (.int .i64 1))) none),oo 22 (.call 0 0 (.cst (.fn 145)) [(.tmp 21),(.cst (.fn 129))] [] []),oo 5 (.mov (.tmp 22))]
def A18:Kp:=⟨[],[(0,false),(4,false),(5,false)],[],[],[]⟩
def A2h:Sig:=⟨[(0,none),(4,none),(5,some (.ty (.int .i64)))],[],[(.int .i64)],[],[]⟩
def A2f:List TOp:=[oo 24 (.mov (.tmp 4)),oo 25 (.bin false .gtr (.tmp 24) (.cst (.int .i64 15))),oo 26 (.mov (.tmp 25)),og 27 26 false .bool (.mov (.tmp 5)),og 28 26 false .bool (.bin false .gtr (.tmp 27) (.cst (.int .i64 9))),oo 29 (.pick (.tmp 26) (.cst (.bool true)) (.tmp 28)),oo 30 (.mov (.tmp 29)),og 31 30 false .bool (.mov (.tmp 4)),og 32 30 false .bool (.bin false .gtr (.tmp 31) (.cst (.int .i64 1))),og 33 30 false .bool (.mov (.tmp 32)),og 34 33 true .bool (.mov (.tmp 0)),og 35 33 true .bool (.sidx (.tmp 34) (.cst (.int .i64 0))),og 36 33 true .bool (.bin false .eql (.tmp 35) (.cst (.int .u8 48))),og 37 30 false .bool (.pick (.tmp 33) (.tmp 36) (.cst (.bool false))),oo 38 (.pick (.tmp 30) (.cst (.bool true)) (.tmp 37)),oo 23 (.mov (.tmp 38))]
def A2g:List TOp:=[oo 2 (.mov (.cst (.int .i64 0))),oo 3 (.mov (.cst (.int .i64 3)))]
def Qn:Kp:=⟨[],[(2,false),(3,false)],[],[],[]⟩
def Ayx:List TOp:=[oo 40 (.mov (.tmp 5)),oo 41 (.bin false .gtr (.tmp 40) (.cst (.int .i64 0))),oo 39 (.mov (.tmp 41))]
def Ayy:List TOp:=[oo 42 (.mov (.tmp 4)),oo 43 (.bin false .add (.tmp 42) (.cst (.int .i64 1))),oo 44 (.mov (.tmp 5)),oo 45 (.bin false .add (.tmp 43) (.tmp 44)),oo 2 (.mov (.tmp 45)),oo 3 (.mov (.cst (.int .i64 0)))]
def Ayz:List TOp:=[oo 46 (.mov (.tmp 4)),oo 2 (.mov (.tmp 46)),oo 3 (.mov (.cst (.int .i64 0)))]
def Bc5:TFd:=⟨1,[(.tmp 2,.bool),(.tmp 3,.bool)],[],(.seq (.ops A19) (.seq (.ops A2a) (.seq (.ops A2b) (.seq (.seq (.ops A2c) (.seq (.ops A2d) (.join A18 A2h (.cond (.tmp 19) (.ops A2e) .skip)))) (.seq (.pass 0 (.seq (.ops A2f) (.cond (.tmp 23) (.free (.seq (.ops A2g) (.keep Qn .ret))) (.seq (.ops Ayx) (.cond (.tmp 39) (.free (.seq (.ops Ayy) (.keep Qn .ret))) .skip))))) (.seq (.ops Ayz) (.keep Qn .ret)))))))⟩
noncomputable def A63:Ent:=⟨[.ty .str],[],[.str],⟨(.tup [(.ty (.int .i64)),(.ty (.int .i64))]),[],[],[(.int .i64),(.int .i64)],[],[]⟩,none,fun p=>Qi p⟩
theorem A1y:A63.ok Tryz.prog 130:=Ar hm Tryz.func130 (fd:=Bc5) (by kernel_rfl) (Ah (l:=[(145,Auq)]) (y:=[]) ⟨A66,trivial⟩ trivial) (by kernel_rfl) (fun p=>by kernel_rfl)
def Hx:Ent:=⟨[.ty .str,.ty (.int .u8)],[],[.str,(.int .u8)],⟨(.ty (.int .i64)),[],[],[(.int .i64)],[],[]⟩,none,fun p=>strings_IndexByte p.1 p.2⟩
theorem Ke:Hx.ok Tryz.prog 147:=fun p r h=>Alo (show strings_IndexByte _ _=some _ from h)
def Avf:List TOp:=[oo 2 (.mov (.cst (.bool false)))]
def Avg:List TOp:=[oo 3 (.mov (.tmp 0)),oo 4 (.bin false .geq (.tmp 3) (.cst (.int .u8 32))),oo 5 (.mov (.tmp 4)),og 6 5 true .bool (.mov (.tmp 0)),og 7 5 true .bool (.bin false .leq (.tmp 6) (.cst (.int .u8 126))),oo 8 (.pick (.tmp 5) (.tmp 7) (.cst (.bool false))),oo 2 (.mov (.tmp 8))]
def Ave:Kp:=⟨[],[(2,false)],[],[],[]⟩
def A2i:TFd:=⟨1,[(.tmp 2,.bool)],[],(.seq (.ops Avf) (.seq (.ops Avg) (.keep Ave .ret)))⟩
def Ajd:Ent:=⟨[.ty (.int .u8)],[],[(.int .u8)],⟨(.ty .bool),[],[],[.bool],[],[]⟩,none,fun p=>Ow p⟩
theorem Au7:Ajd.ok Tryz.prog 148:=Ar hm Tryz.func148 (fd:=A2i) (by kernel_rfl) (Ah (l:=[]) (y:=[]) trivial trivial) (by kernel_rfl) (fun p=>by kernel_rfl)
def Ay4:List TOp:=[oo 3 (.mov (.cst (.bool false)))]
def Ay5:List TOp:=[oo 4 (.mov (.tmp 0)),oo 5 (.bin false .gtr (.tmp 4) (.cst (.int .i32 127))),oo 6 (.mov (.tmp 5)),og 7 6 false .bool (.load false 1 (.tmp 1)),og 8 6 false .bool (.mov (.tmp 0)),og 9 6 false .bool (.conv .u8 (.tmp 8)),og 10 6 false .bool (.call 0 0 (.tmp 7) [(.tmp 9)] [] []),og 11 6 false .bool (.un .not (.tmp 10)),oo 12 (.pick (.tmp 6) (.cst (.bool true)) (.tmp 11)),oo 3 (.mov (.tmp 12))]
def Ay3:Kp:=⟨[],[(3,false)],[],[],[]⟩
def A8d:TFd:=⟨2,[(.tmp 3,.bool)],[],(.seq (.ops Ay4) (.seq (.ops Ay5) (.keep Ay3 .ret)))⟩
def A11:Ent:=⟨[.ty (.int .i32),.ic [.fnc 148] 0],[],[(.int .i32)],⟨(.ty .bool),[],[],[.bool],[],[]⟩,none,fun p=>Iu p⟩
theorem Ax2:A11.ok Tryz.prog 157:=Ar hm Tryz.func157 (fd:=A8d) (by kernel_rfl) (Ah (l:=[(148,Ajd)]) (y:=[]) ⟨Au7,trivial⟩ trivial) (by kernel_rfl) (fun p=>by kernel_rfl)
noncomputable def Fe:Ent:=⟨[.ty .str,.fn 157 [.ic [.fnc 148] 0]],[],[.str],⟨(.ty (.int .i64)),[],[],[(.int .i64)],[],[]⟩,none,fun p=>strings_IndexFunc Iu p⟩
theorem Ik:Fe.ok Tryz.prog 156:=fun p r h=>Hi (f:=Iu) (fun x r h=>Ax2 x r h) (show strings_IndexFunc Iu _=some _ from h) A61
def A8o:List TOp:=[oo 3 (.box (.tmp 1)),oo 4 (.mov (.cst (.int .i64 0)))]
def A8p:List TOp:=[oo 6 (.mov (.tmp 0)),oo 7 (.mkfn 157 [(.tmp 3)]),oo 8 (.call 0 0 (.cst (.fn 156)) [(.tmp 6),(.tmp 7)] [] []),oo 5 (.mov (.tmp 8))]
def A8n:Kp:=⟨[.loc 3 0],[(0,false),(3,false)],[],[],[]⟩
def A8q:List TOp:=[oo 9 (.mov (.tmp 5)),oo 10 (.bin false .lss (.tmp 9) (.cst (.int .i64 0)))]
def A8r:List TOp:=[oo 11 (.mov (.tmp 0)),oo 12 (.len true (.tmp 11)),oo 4 (.mov (.tmp 12))]
def Arw:Kp:=⟨[],[(4,false)],[],[],[]⟩
def A8s:List TOp:=[oo 13 (.mov (.tmp 5)),oo 4 (.mov (.tmp 13))]
def Bhk:TFd:=⟨2,[(.tmp 4,.bool)],[],(.seq (.ops A8o) (.seq (.keep A8n (.ops A8p)) (.seq (.seq (.ops A8q) (.cond (.tmp 10) (.free (.seq (.ops A8r) (.keep Arw .ret))) .skip)) (.seq (.ops A8s) (.keep Arw .ret)))))⟩
noncomputable def Aur:Ent:=⟨[.ty .str,.fnc 148],[],[.str],⟨(.ty (.int .i64)),[],[],[(.int .i64)],[],[]⟩,none,fun p=>Al4 p⟩
theorem A67:Aur.ok Tryz.prog 145:=Ar hm Tryz.func145 (fd:=Bhk) (by kernel_rfl) (Ah (l:=[(156,Fe)]) (y:=[]) ⟨Ik,trivial⟩ trivial) (by kernel_rfl) (fun p=>by kernel_rfl)
def A2j:List TOp:=[oo 2 (.mov (.cst (.int .i64 0))),oo 3 (.mov (.cst (.int .i64 0)))]
def A2k:List TOp:=[oo 5 (.mov (.tmp 0)),oo 6 (.slc true 0 (.tmp 5) (some (.cst (.int .i64 1))) none),oo 7 (.call 0 0 (.cst (.fn 147)) [(.tmp 6),(.cst (.int .u8 34))] [] []),oo 4 (.mov (.tmp 7))]
def A2l:List TOp:=[oo 8 (.mov (.tmp 4)),oo 9 (.bin false .lss (.tmp 8) (.cst (.int .i64 0)))]
def A2m:List TOp:=[oo 2 (.mov (.cst (.int .i64 0))),oo 3 (.mov (.cst (.int .i64 14)))]
def Um:Kp:=⟨[],[(2,false),(3,false)],[],[],[]⟩
def A2n:List TOp:=[oo 10 (.mov (.tmp 4)),oo 11 (.bin false .gtr (.tmp 10) (.cst (.int .i64 32))),oo 12 (.mov (.tmp 11)),og 13 12 false .bool (.mov (.tmp 0)),og 14 12 false .bool (.mov (.tmp 4)),og 15 12 false .bool (.bin false .add (.cst (.int .i64 1)) (.tmp 14)),og 16 12 false .bool (.slc true 0 (.tmp 13) (some (.cst (.int .i64 1))) (some (.tmp 15))),og 17 12 false .bool (.call 0 0 (.cst (.fn 145)) [(.tmp 16),(.cst (.fn 148))] [] []),og 18 12 false .bool (.mov (.tmp 4)),og 19 12 false .bool (.bin false .lss (.tmp 17) (.tmp 18)),oo 20 (.pick (.tmp 12) (.cst (.bool true)) (.tmp 19))]
def A2o:List TOp:=[oo 2 (.mov (.cst (.int .i64 0))),oo 3 (.mov (.cst (.int .i64 3)))]
def A2p:List TOp:=[oo 21 (.mov (.tmp 4)),oo 22 (.bin false .add (.tmp 21) (.cst (.int .i64 2))),oo 2 (.mov (.tmp 22)),oo 3 (.mov (.cst (.int .i64 0)))]
def Bc6:TFd:=⟨1,[(.tmp 2,.bool),(.tmp 3,.bool)],[],(.seq (.ops A2j) (.seq (.ops A2k) (.seq (.seq (.ops A2l) (.cond (.tmp 9) (.free (.seq (.ops A2m) (.keep Um .ret))) .skip)) (.seq (.seq (.ops A2n) (.cond (.tmp 20) (.free (.seq (.ops A2o) (.keep Um .ret))) .skip)) (.seq (.ops A2p) (.keep Um .ret))))))⟩
noncomputable def A64:Ent:=⟨[.ty .str],[],[.str],⟨(.tup [(.ty (.int .i64)),(.ty (.int .i64))]),[],[],[(.int .i64),(.int .i64)],[],[]⟩,none,fun p=>Qj p⟩
theorem A1z:A64.ok Tryz.prog 132:=Ar hm Tryz.func132 (fd:=Bc6) (by kernel_rfl) (Ah (l:=[(147,Hx),(145,Aur)]) (y:=[]) ⟨Ke,A67,trivial⟩ trivial) (by kernel_rfl) (fun p=>by kernel_rfl)
def Rd:Ent:=⟨[.ty .str,.ty .str],[],[.str,.str],⟨(.ty .bool),[],[],[.bool],[],[]⟩,none,fun p=>strings_Contains p.1 p.2⟩
theorem Ail:Rd.ok Tryz.prog 149:=fun p r h=>Anz (show strings_Contains _ _=some _ from h)
def Bc7:List TOp:=[oo 2 (.mov (.cst (.int .i64 0))),oo 3 (.mov (.cst (.int .i64 0)))]
def Bc8:List TOp:=[oo 5 (.mov (.tmp 0)),oo 6 (.len true (.tmp 5)),oo 7 (.bin false .gtr (.tmp 6) (.cst (.int .i64 1))),oo 8 (.mov (.tmp 7)),og 9 8 true .bool (.mov (.tmp 0)),og 10 8 true .bool (.slc true 0 (.tmp 9) none (some (.cst (.int .i64 2)))),og 11 8 true .bool (.call 0 0 (.cst (.fn 149)) [(.cst (.str [60,61,32,62,61,32,46,46])),(.tmp 10)] [] []),oo 12 (.pick (.tmp 8) (.tmp 11) (.cst (.bool false))),oo 13 (.mov (.tmp 12)),og 14 13 true .bool (.mov (.tmp 0)),og 15 13 true .bool (.slc true 0 (.tmp 14) none (some (.cst (.int .i64 2)))),og 16 13 true .bool (.call 0 0 (.cst (.fn 149)) [(.tmp 15),(.cst (.str [32]))] [] []),og 17 13 true .bool (.un .not (.tmp 16)),oo 18 (.pick (.tmp 13) (.tmp 17) (.cst (.bool false))),oo 4 (.mov (.tmp 18))]
def Bc9:List TOp:=[oo 2 (.mov (.cst (.int .i64 2))),oo 3 (.mov (.cst (.int .i64 0)))]
def Aks:Kp:=⟨[],[(2,false),(3,false)],[],[],[]⟩
def Bda:List TOp:=[oo 20 (.mov (.tmp 0)),oo 21 (.sidx (.tmp 20) (.cst (.int .i64 0))),oo 22 (.call 0 0 (.cst (.fn 147)) [(.cst (.str [123,125,40,41,91,93,59,58,44,37,61,60,62,43,45,42,47])),(.tmp 21)] [] []),oo 23 (.bin false .geq (.tmp 22) (.cst (.int .i64 0))),oo 19 (.mov (.tmp 23))]
def Bdb:List TOp:=[oo 2 (.mov (.cst (.int .i64 1))),oo 3 (.mov (.cst (.int .i64 0)))]
def Bdc:List TOp:=[oo 2 (.mov (.cst (.int .i64 0))),oo 3 (.mov (.cst (.int .i64 14)))]
def Blp:TFd:=⟨1,[(.tmp 2,.bool),(.tmp 3,.bool)],[],(.seq (.ops Bc7) (.seq (.pass 0 (.seq (.ops Bc8) (.cond (.tmp 4) (.free (.seq (.ops Bc9) (.keep Aks .ret))) (.seq (.ops Bda) (.cond (.tmp 19) (.free (.seq (.ops Bdb) (.keep Aks .ret))) .skip))))) (.seq (.ops Bdc) (.keep Aks .ret))))⟩
def Bgl:Ent:=⟨[.ty .str],[],[.str],⟨(.tup [(.ty (.int .i64)),(.ty (.int .i64))]),[],[],[(.int .i64),(.int .i64)],[],[]⟩,none,fun p=>Aje p⟩
theorem Bbw:Bgl.ok Tryz.prog 134:=Ar hm Tryz.func134 (fd:=Blp) (by kernel_rfl) (Ah (l:=[(149,Rd),(147,Hx)]) (y:=[]) ⟨Ail,Ke,trivial⟩ trivial) (by kernel_rfl) (fun p=>by kernel_rfl)
noncomputable def Aoe:Dyn:=⟨[.ty .str],[.str],⟨(.tup [(.ty (.int .i64)),(.ty (.int .i64))]),[],[],[(.int .i64),(.int .i64)],[],[]⟩,fun f p=>F1 f p⟩
theorem Atb(g:Nat):(Aoe.ent g).ok Tryz.prog g:=by
 intro p r h
 have h:F1 g p=some r:=h
 unfold F1 at h
 split at h
 ·rename_i e;subst e;exact Bby p r h
 split at h
 ·rename_i e;subst e;exact A1y p r h
 split at h
 ·rename_i e;subst e;exact A1z p r h
 split at h
 ·rename_i e;subst e;exact Bbw p r h
 cases h
def Bcx:List TOp:=[oo 2 (.mov (.cst (.int .i64 0))),oo 3 (.mov (.cst (.int .i64 0))),oo 4 (.mov (.cst (.int .i64 0)))]
def Bcy:List TOp:=[oo 9 (.call 0 0 (.cst (.fn 111)) [] [] []),oo 10 (.mov (.cst (.int .i64 0)))]
def Bcz:List TOp:=[oo 11 (.bin false .lss (.tmp 10) (.cst (.int .i64 4)))]
def Bc0:List TOp:=[oo 12 (.mov (.tmp 10)),ot 13 (.st 0) (.aidx 4 2 (.tmp 9) (.tmp 10)),oo 6 (.alloc [.pv .nilFn,.pv .nilFn]),oo 5 (.mov (.tmp 12)),on (.store 2 (.tmp 6) (.tmp 13))]
def Bc1:List TOp:=[oo 14 (.fld 0 (.tmp 6)),oo 15 (.load false 1 (.tmp 14)),oo 16 (.mov (.tmp 0)),oo 17 (.sidx (.tmp 16) (.cst (.int .i64 0))),oo 18 (.call 0 0 (.tmp 15) [(.tmp 17)] [] [])]
def Bc2:List TOp:=[oo 20 (.fld 1 (.tmp 6)),oo 21 (.load false 1 (.tmp 20)),oo 22 (.mov (.tmp 0)),oo 23 (.call 0 0 (.tmp 21) [(.tmp 22)] [] []),oo 19 (.mov (.tmp 23)),oo 24 (.ext 0 (.tmp 19)),oo 25 (.ext 1 (.tmp 19)),oo 7 (.mov (.tmp 24)),oo 8 (.mov (.tmp 25))]
def Bc3:List TOp:=[oo 26 (.mov (.tmp 5)),oo 27 (.mov (.tmp 7)),oo 28 (.mov (.tmp 8)),oo 2 (.mov (.tmp 26)),oo 3 (.mov (.tmp 27)),oo 4 (.mov (.tmp 28))]
def Auv:Kp:=⟨[],[(2,false),(3,false),(4,false)],[],[],[]⟩
def Bc4:List TOp:=[oo 29 (.bin false .add (.tmp 10) (.cst (.int .i64 1))),oo 10 (.mov (.tmp 29))]
def Bcw:DC:=(.seq (.ops Bcz) (.seq (.cond (.tmp 11) .skip (.exit 0)) (.seq (.pass 1 (.seq (.ops Bc0) (.seq (.draw [] Bc1) (.cond (.tmp 18) (.free (.seq (.ops Bc2) (.seq (.ops Bc3) (.keep Auv .ret)))) .skip)))) (.ops Bc4))))
def A74:Kp:=⟨[],[(0,false),(9,false),(10,false)],[],[.loc 6 0],[]⟩
def A77:Sig:=⟨[(0,none),(9,none),(10,some (.ty (.int .i64)))],[],[(.int .i64)],[],[]⟩
def A75:Kp:=⟨[],[],[],[],[]⟩
def A78:Sig:=⟨[],[],[],[],[]⟩
def A76:List TOp:=[oo 2 (.mov (.cst (.int .i64 0))),oo 3 (.mov (.cst (.int .i64 0))),oo 4 (.mov (.cst (.int .i64 14)))]
def Blo:TFd:=⟨1,[(.tmp 2,.bool),(.tmp 3,.bool),(.tmp 4,.bool)],[],(.seq (.ops Bcx) (.seq (.seq (.ops Bcy) (.joinO A75 A78 (.block 0 (.loop [0,9,10] [] A74 A77 Bcw)))) (.seq (.ops A76) (.keep Auv .ret))))⟩
noncomputable def Apg:Ent:=⟨[.ty .str],[],[.str],⟨(.tup [(.ty (.int .i64)),(.ty (.int .i64)),(.ty (.int .i64))]),[],[],[(.int .i64),(.int .i64),(.int .i64)],[],[]⟩,none,fun p=>We p⟩
theorem Aup:Apg.ok Tryz.prog 89:=Ar hm Tryz.func89 (fd:=Blo) (by kernel_rfl) (Ah (l:=[(111,Auo)]) (y:=[Aod,Aoe]) ⟨A62,trivial⟩ ⟨Ata,Atb,trivial⟩) (by kernel_rfl) (fun p=>by kernel_rfl)
def Afl:Ent:=⟨[.ty .str,.ty .str],[],[.str,.str],⟨(.ty (.int .i64)),[],[],[(.int .i64)],[],[]⟩,none,fun p=>strings_Count p.1 p.2⟩
theorem Aqn:Afl.ok Tryz.prog 112:=fun p r h=>At3 (show strings_Count _ _=some _ from h)
def I2:Ent:=⟨[.ty .str,.ty (.int .u8)],[],[.str,(.int .u8)],⟨(.ty (.int .i64)),[],[],[(.int .i64)],[],[]⟩,none,fun p=>strings_LastIndexByte p.1 p.2⟩
theorem Rf:I2.ok Tryz.prog 113:=fun p r h=>Vz (show strings_LastIndexByte _ _=some _ from h)
def A8a:List TOp:=[oo 2 (.mov (.cst (.int .i64 0))),oo 3 (.mov (.cst (.int .i64 0)))]
def A8b:List TOp:=[oo 4 (.mov (.tmp 0)),oo 5 (.call 0 0 (.cst (.fn 112)) [(.tmp 4),(.cst (.str [10]))] [] []),oo 6 (.bin false .add (.tmp 5) (.cst (.int .i64 1))),oo 7 (.mov (.tmp 0)),oo 8 (.len true (.tmp 7)),oo 9 (.mov (.tmp 0)),oo 10 (.call 0 0 (.cst (.fn 113)) [(.tmp 9),(.cst (.int .u8 10))] [] []),oo 11 (.bin false .sub (.tmp 8) (.tmp 10)),oo 2 (.mov (.tmp 6)),oo 3 (.mov (.tmp 11))]
def A79:Kp:=⟨[],[(2,false),(3,false)],[],[],[]⟩
def Bhh:TFd:=⟨1,[(.tmp 2,.bool),(.tmp 3,.bool)],[],(.seq (.ops A8a) (.seq (.ops A8b) (.keep A79 .ret)))⟩
def Ajc:Ent:=⟨[.ty .str],[],[.str],⟨(.tup [(.ty (.int .i64)),(.ty (.int .i64))]),[],[],[(.int .i64),(.int .i64)],[],[]⟩,none,fun p=>Pz p⟩
theorem Are:Ajc.ok Tryz.prog 90:=Ar hm Tryz.func90 (fd:=Bhh) (by kernel_rfl) (Ah (l:=[(112,Afl),(113,I2)]) (y:=[]) ⟨Aqn,Rf,trivial⟩ trivial) (by kernel_rfl) (fun p=>by kernel_rfl)
def Bg5:List TOp:=[oo 2 (.mov .nils),oo 3 (.mov (.cst (.int .i64 0))),oo 4 (.mov (.cst (.int .i64 0)))]
def Bg6:List TOp:=[oo 12 (.mov (.tmp 0)),oo 13 (.len true (.tmp 12)),oo 14 (.bin false .gtr (.tmp 13) (.cst (.int .i64 8000)))]
def Bg7:List TOp:=[oo 2 (.mov .nils),oo 3 (.mov (.cst (.int .i64 0))),oo 4 (.mov (.cst (.int .i64 4)))]
def Aeh:Kp:=⟨[],[(2,true),(3,false),(4,false)],[],[],[]⟩
def Bg8:List TOp:=[oo 5 (.mov .nils)]
def Bg9:List TOp:=[oo 15 (.mov (.tmp 0)),oo 16 (.call 0 0 (.cst (.fn 88)) [(.tmp 15)] [] []),oo 6 (.mov (.tmp 16))]
def Bha:List TOp:=[oo 17 (.mov (.tmp 6)),oo 18 (.mov (.tmp 0)),oo 19 (.len true (.tmp 18)),oo 20 (.bin false .lss (.tmp 17) (.tmp 19))]
def Bhb:List TOp:=[oo 22 (.mov (.tmp 0)),oo 23 (.mov (.tmp 6)),oo 24 (.slc true 0 (.tmp 22) (some (.tmp 23)) none),oo 25 (.call 0 0 (.cst (.fn 89)) [(.tmp 24)] [] []),oo 21 (.mov (.tmp 25)),oo 26 (.ext 0 (.tmp 21)),oo 27 (.ext 1 (.tmp 21)),oo 28 (.ext 2 (.tmp 21)),oo 7 (.mov (.tmp 26)),oo 8 (.mov (.tmp 27)),oo 9 (.mov (.tmp 28))]
def Bhc:List TOp:=[oo 30 (.mov (.tmp 9)),oo 31 (.bin false .neq (.tmp 30) (.cst (.int .i64 0))),oo 29 (.mov (.tmp 31))]
def Bhd:List TOp:=[oo 32 (.mov (.tmp 6)),oo 33 (.mov (.tmp 9)),oo 2 (.mov .nils),oo 3 (.mov (.tmp 32)),oo 4 (.mov (.tmp 33))]
def Bcn:List TOp:=[oo 35 (.mov (.tmp 5)),oo 36 (.len false (.tmp 35)),oo 37 (.bin false .eql (.tmp 36) (.cst (.int .i64 1500))),oo 34 (.mov (.tmp 37))]
def Bco:List TOp:=[oo 38 (.mov (.tmp 6)),oo 2 (.mov .nils),oo 3 (.mov (.tmp 38)),oo 4 (.mov (.cst (.int .i64 6)))]
def Bcp:List TOp:=[oo 40 (.mov (.tmp 0)),oo 41 (.mov (.tmp 6)),oo 42 (.slc true 0 (.tmp 40) none (some (.tmp 41))),oo 43 (.call 0 0 (.cst (.fn 90)) [(.tmp 42)] [] []),oo 39 (.mov (.tmp 43)),oo 44 (.ext 0 (.tmp 39)),oo 45 (.ext 1 (.tmp 39)),oo 10 (.mov (.tmp 44)),oo 11 (.mov (.tmp 45))]
def Bcq:List TOp:=[oo 46 (.mov (.tmp 5)),oo 47 (.mov (.tmp 7)),oo 48 (.mov (.tmp 10)),oo 49 (.mov (.tmp 11)),oo 50 (.mov (.tmp 0)),oo 51 (.mov (.tmp 6)),oo 52 (.mov (.tmp 6)),oo 53 (.mov (.tmp 8)),oo 54 (.bin false .add (.tmp 52) (.tmp 53)),oo 55 (.slc true 0 (.tmp 50) (some (.tmp 51)) (some (.tmp 54))),ot 56 (.st 2) (.build [.pv (.int .i64 0),.pv (.int .i64 0),.pv (.int .i64 0),.pv (.str [])] [(0,1,(.tmp 47)),(1,1,(.tmp 48)),(2,1,(.tmp 49)),(3,1,(.tmp 55))]),ot 57 (.st 2) (.lit false 4 [(.tmp 56)]),ot 58 (.st 2) (.append 5 4 40 (.tmp 46) (.tmp 57)),oo 5 (.mov (.tmp 58))]
def Bcr:List TOp:=[oo 59 (.mov (.tmp 6)),oo 60 (.mov (.tmp 8)),oo 61 (.bin false .add (.tmp 59) (.tmp 60)),oo 6 (.mov (.tmp 61))]
def Bcs:List TOp:=[oo 62 (.mov (.tmp 6)),oo 63 (.mov (.tmp 0)),oo 64 (.mov (.tmp 6)),oo 65 (.slc true 0 (.tmp 63) (some (.tmp 64)) none),oo 66 (.call 0 0 (.cst (.fn 88)) [(.tmp 65)] [] []),oo 67 (.bin false .add (.tmp 62) (.tmp 66)),oo 6 (.mov (.tmp 67))]
def Bcm:DC:=(.seq (.seq (.ops Bha) (.cond (.tmp 20) .skip (.exit 0))) (.pass 1 (.seq (.ops Bhb) (.seq (.pass 2 (.seq (.ops Bhc) (.cond (.tmp 29) (.free (.seq (.ops Bhd) (.keep Aeh .ret))) (.seq (.ops Bcn) (.cond (.tmp 34) (.free (.seq (.ops Bco) (.keep Aeh .ret))) .skip))))) (.seq (.ops Bcp) (.seq (.ops Bcq) (.seq (.ops Bcr) (.ops Bcs))))))))
def Bck:Kp:=⟨[],[(0,false),(5,false),(6,false)],[(.loc 5 0,false)],[],[((.slot 5 (.loc 5 0) 4),(.st 2))]⟩
def Bcu:Sig:=⟨[(0,none),(5,some (.own (.loc 5 0))),(6,some (.ty (.int .i64)))],[(.loc 5 0,(.row (.st 2)))],[(.int .i64),(.sl (.st 2))],[],[]⟩
def Bcl:Kp:=⟨[.loc 5 0],[(5,true)],[],[],[]⟩
def Bcv:Sig:=⟨[(5,some (.ty (.sl (.st 2))))],[],[(.sl (.st 2))],[],[]⟩
def Bct:List TOp:=[oo 68 (.mov (.tmp 5)),oo 2 (.mov (.tmp 68)),oo 3 (.mov (.cst (.int .i64 0))),oo 4 (.mov (.cst (.int .i64 0)))]
def Bpd:TFd:=⟨1,[(.tmp 2,.bool),(.tmp 3,.bool),(.tmp 4,.bool)],[],(.seq (.ops Bg5) (.seq (.seq (.ops Bg6) (.cond (.tmp 14) (.free (.seq (.ops Bg7) (.keep Aeh .ret))) .skip)) (.seq (.ops Bg8) (.seq (.seq (.ops Bg9) (.joinO Bcl Bcv (.block 0 (.loop [0,5,6] [] Bck Bcu Bcm)))) (.seq (.ops Bct) (.keep Aeh .ret))))))⟩
noncomputable def A41:Ent:=⟨[.ty .str],[],[.str],⟨(.tup [(.ty (.sl (.st 2))),(.ty (.int .i64)),(.ty (.int .i64))]),[],[],[(.sl (.st 2)),(.int .i64),(.int .i64)],[],[]⟩,none,fun p=>Aa4 p⟩
theorem Bgj:A41.ok Tryz.prog 52:=Ar hm Tryz.func52 (fd:=Bpd) (by kernel_rfl) (Ah (l:=[(88,Ax3),(89,Apg),(90,Ajc)]) (y:=[]) ⟨Bbx,Aup,Are,trivial⟩ trivial) (by kernel_rfl) (fun p=>by kernel_rfl)
def A7o:List TOp:=[oo 4 (.mov (.cst (.int .i64 0))),oo 5 (.mov (.cst (.int .i64 0))),oo 6 (.mov (.cst (.int .i64 0)))]
def A7p:List TOp:=[oo 9 (.mov (.tmp 1)),oo 10 (.bin false .lss (.tmp 9) (.cst (.int .i64 0))),oo 11 (.mov (.tmp 10)),og 12 11 false .bool (.mov (.tmp 1)),og 13 11 false .bool (.mov (.tmp 0)),og 14 11 false .bool (.len true (.tmp 13)),og 15 11 false .bool (.bin false .gtr (.tmp 12) (.tmp 14)),oo 16 (.pick (.tmp 11) (.cst (.bool true)) (.tmp 15))]
def A7q:List TOp:=[oo 4 (.mov (.cst (.int .i64 0))),oo 5 (.mov (.cst (.int .i64 0))),oo 6 (.mov (.cst (.int .i64 1)))]
def Art:Kp:=⟨[],[(4,false),(5,false),(6,false)],[],[],[]⟩
def A7r:List TOp:=[oo 18 (.mov (.tmp 0)),oo 19 (.mov (.tmp 1)),oo 20 (.slc true 0 (.tmp 18) none (some (.tmp 19))),oo 21 (.call 0 0 (.cst (.fn 90)) [(.tmp 20)] [] []),oo 17 (.mov (.tmp 21)),oo 22 (.ext 0 (.tmp 17)),oo 23 (.ext 1 (.tmp 17)),oo 7 (.mov (.tmp 22)),oo 8 (.mov (.tmp 23))]
def A7s:List TOp:=[oo 24 (.mov (.tmp 7)),oo 25 (.mov (.tmp 8)),oo 4 (.mov (.tmp 24)),oo 5 (.mov (.tmp 25)),oo 6 (.mov (.cst (.int .i64 0)))]
def Bhe:TFd:=⟨2,[(.tmp 4,.bool),(.tmp 5,.bool),(.tmp 6,.bool)],[],(.seq (.ops A7o) (.seq (.seq (.ops A7p) (.cond (.tmp 16) (.free (.seq (.ops A7q) (.keep Art .ret))) .skip)) (.seq (.ops A7r) (.seq (.ops A7s) (.keep Art .ret)))))⟩
def Ai8:Ent:=⟨[.ty .str,.ty (.int .i64)],[],[.str,(.int .i64)],⟨(.tup [(.ty (.int .i64)),(.ty (.int .i64)),(.ty (.int .i64))]),[],[],[(.int .i64),(.int .i64),(.int .i64)],[],[]⟩,none,fun p=>Wc p.1 p.2⟩
theorem Arc:Ai8.ok Tryz.prog 53:=Ar hm Tryz.func53 (fd:=Bhe) (by kernel_rfl) (Ah (l:=[(90,Ajc)]) (y:=[]) ⟨Are,trivial⟩ trivial) (by kernel_rfl) (fun p=>by kernel_rfl)
def Azo:List TOp:=[oo 2 (.mov .junk),oo 3 (.mov (.cst (.int .i64 0))),oo 4 (.mov (.cst (.int .i64 0))),oo 5 (.mov (.cst (.int .i64 0)))]
def Azp:List TOp:=[oo 13 (.mov (.tmp 0)),oo 14 (.call 0 0 (.cst (.fn 52)) [(.tmp 13)] [] []),oo 12 (.mov (.tmp 14)),oo 15 (.ext 0 (.tmp 12)),oo 16 (.ext 1 (.tmp 12)),oo 17 (.ext 2 (.tmp 12)),oo 6 (.mov (.tmp 15)),oo 7 (.mov (.tmp 16)),oo 8 (.mov (.tmp 17))]
def Azq:List TOp:=[oo 18 (.mov (.tmp 8)),oo 19 (.bin false .eql (.tmp 18) (.cst (.int .i64 0)))]
def Azr:List TOp:=[oo 20 (.mov (.tmp 6)),ot 21 (.st 3) (.build [.nils,.pv (.int .i64 0),.pv (.bool false)] [(0,1,(.tmp 20))]),oo 22 (.box (.tmp 21)),oo 2 (.mov (.tmp 22)),oo 3 (.mov (.cst (.int .i64 0))),oo 4 (.mov (.cst (.int .i64 0))),oo 5 (.mov (.cst (.int .i64 0)))]
def Azm:Kp:=⟨[],[(2,false),(3,false),(4,false),(5,false)],[(.loc 22 0,false)],[],[]⟩
def Azs:List TOp:=[oo 24 (.mov (.tmp 0)),oo 25 (.mov (.tmp 7)),oo 26 (.call 0 0 (.cst (.fn 53)) [(.tmp 24),(.tmp 25)] [] []),oo 23 (.mov (.tmp 26)),oo 27 (.ext 0 (.tmp 23)),oo 28 (.ext 1 (.tmp 23)),oo 29 (.ext 2 (.tmp 23)),oo 9 (.mov (.tmp 27)),oo 10 (.mov (.tmp 28)),oo 11 (.mov (.tmp 29))]
def Azt:List TOp:=[oo 30 (.mov (.tmp 9)),oo 31 (.mov (.tmp 10)),oo 32 (.mov (.tmp 8)),oo 2 (.mov .junk),oo 3 (.mov (.tmp 30)),oo 4 (.mov (.tmp 31)),oo 5 (.mov (.tmp 32))]
def Azn:Kp:=⟨[],[(3,false),(4,false),(5,false)],[],[],[]⟩
def A88:TFd:=⟨1,[(.tmp 2,.bool),(.tmp 3,.bool),(.tmp 4,.bool),(.tmp 5,.bool)],[.loc 22 0],(.seq (.ops Azo) (.seq (.ops Azp) (.seq (.seq (.ops Azq) (.cond (.tmp 19) (.free (.seq (.ops Azr) (.keep Azm .ret))) .skip)) (.seq (.ops Azs) (.seq (.ops Azt) (.keep Azn .ret))))))⟩
noncomputable def Tr:Ent:=⟨[.ty .str],[],[.str],⟨(.tup [(.ptr (.res 0) 0),(.ty (.int .i64)),(.ty (.int .i64)),(.ty (.int .i64))]),[some (.st 3)],[],[(.int .i64),(.int .i64),(.int .i64),(.st 3)],[],[]⟩,(some ⟨(.tup [.dead,(.ty (.int .i64)),(.ty (.int .i64)),(.ty (.int .i64))]),[none],[],[(.int .i64),(.int .i64),(.int .i64)],[],[]⟩),fun p=>My p⟩
theorem Ajm:Tr.ok Tryz.prog 29:=Ar hm Tryz.func29 (fd:=A88) (by kernel_rfl) (Ah (l:=[(52,A41),(53,Ai8)]) (y:=[]) ⟨Bgj,Arc,trivial⟩ trivial) (by kernel_rfl) (fun p=>by kernel_rfl)
def Aqc:List TOp:=[oo 4 (.mov (.cst (.bool false)))]
def Aqd:List TOp:=[oo 5 (.mov (.tmp 0)),oo 6 (.nchk (.tmp 5)),oo 7 (.fld 2 (.tmp 6)),oo 8 (.load false 1 (.tmp 7)),oo 9 (.un .not (.tmp 8)),oo 10 (.mov (.tmp 9)),og 11 10 true .bool (.mov (.tmp 0)),og 12 10 true .bool (.nchk (.tmp 11)),og 13 10 true .bool (.fld 1 (.tmp 12)),og 14 10 true .bool (.load false 1 (.tmp 13)),og 15 10 true .bool (.mov (.tmp 0)),og 16 10 true .bool (.nchk (.tmp 15)),og 17 10 true .bool (.fld 0 (.tmp 16)),og 18 10 true .bool (.load false 1 (.tmp 17)),og 19 10 true .bool (.len false (.tmp 18)),og 20 10 true .bool (.bin false .lss (.tmp 14) (.tmp 19)),oo 21 (.pick (.tmp 10) (.tmp 20) (.cst (.bool false))),oo 22 (.mov (.tmp 21)),og 23 22 true .bool (.mov (.tmp 0)),og 24 22 true .bool (.nchk (.tmp 23)),og 25 22 true .bool (.fld 0 (.tmp 24)),og 26 22 true .bool (.load false 1 (.tmp 25)),og 27 22 true .bool (.mov (.tmp 0)),og 28 22 true .bool (.nchk (.tmp 27)),og 29 22 true .bool (.fld 1 (.tmp 28)),og 30 22 true .bool (.load false 1 (.tmp 29)),og 31 22 true .bool (.idx 4 (.tmp 26) (.tmp 30)),og 32 22 true .bool (.fld 0 (.tmp 31)),og 33 22 true .bool (.load false 1 (.tmp 32)),og 34 22 true .bool (.bin false .neq (.tmp 33) (.cst (.int .i64 2))),oo 35 (.pick (.tmp 22) (.tmp 34) (.cst (.bool false))),oo 36 (.mov (.tmp 35)),og 37 36 true .bool (.mov (.tmp 0)),og 38 36 true .bool (.nchk (.tmp 37)),og 39 36 true .bool (.fld 0 (.tmp 38)),og 40 36 true .bool (.load false 1 (.tmp 39)),og 41 36 true .bool (.mov (.tmp 0)),og 42 36 true .bool (.nchk (.tmp 41)),og 43 36 true .bool (.fld 1 (.tmp 42)),og 44 36 true .bool (.load false 1 (.tmp 43)),og 45 36 true .bool (.idx 4 (.tmp 40) (.tmp 44)),og 46 36 true .bool (.fld 3 (.tmp 45)),og 47 36 true .bool (.load false 1 (.tmp 46)),og 48 36 true .bool (.mov (.tmp 1)),og 49 36 true .bool (.bin false .eql (.tmp 47) (.tmp 48)),oo 50 (.pick (.tmp 36) (.tmp 49) (.cst (.bool false))),oo 4 (.mov (.tmp 50))]
def Aqb:Kp:=⟨[],[(4,false)],[(.ext 0,false)],[],[]⟩
def Ato:TFd:=⟨2,[(.tmp 4,.bool)],[],(.seq (.ops Aqc) (.seq (.draw [] Aqd) (.keep Aqb .ret)))⟩
def Gz:Ent:=⟨[.ptr (.ext 0) 0,.ty .str],[.st 3],[.str,(.st 3)],⟨(.ty .bool),[],[some .same],[.bool],[],[]⟩,none,fun p=>Br p.1 p.2⟩
theorem Ih:Gz.ok Tryz.prog 63:=Ar hm Tryz.func63 (fd:=Ato) (by kernel_rfl) (Ah (l:=[]) (y:=[]) trivial trivial) (by kernel_rfl) (fun p=>by kernel_rfl)
def Ala:List TOp:=[oo 4 (.mov (.cst (.bool false)))]
def Alb:List TOp:=[oo 5 (.mov (.tmp 0)),oo 6 (.mov (.tmp 1)),oo 7 (.call 0 2 (.cst (.fn 63)) [(.tmp 5),(.tmp 6)] [] [.ext 0]),oo 8 (.un .not (.tmp 7))]
def Alc:List TOp:=[oo 4 (.mov (.cst (.bool false)))]
def M2:Kp:=⟨[],[(4,false)],[(.ext 0,false)],[],[]⟩
def Ald:List TOp:=[oo 9 (.mov (.tmp 0)),oo 10 (.nchk (.tmp 9)),oo 11 (.fld 1 (.tmp 10)),oo 12 (.load false 1 (.tmp 11)),oo 13 (.bin false .add (.tmp 12) (.cst (.int .i64 1))),oo 14 (.nchk (.tmp 9)),oo 15 (.fld 1 (.tmp 14)),on (.store 1 (.tmp 15) (.tmp 13))]
def Ale:List TOp:=[oo 4 (.mov (.cst (.bool true)))]
def Aqg:TFd:=⟨2,[(.tmp 4,.bool)],[],(.seq (.ops Ala) (.seq (.seq (.ops Alb) (.cond (.tmp 8) (.free (.seq (.ops Alc) (.keep M2 .ret))) .skip)) (.seq (.ops Ald) (.seq (.ops Ale) (.keep M2 .ret)))))⟩
def Du:Ent:=⟨[.ptr (.ext 0) 0,.ty .str],[.st 3],[.str,(.st 3)],⟨(.ty .bool),[],[some (.st 3)],[.bool,(.st 3)],[],[]⟩,none,fun p=>Bc p.1 p.2⟩
theorem E1:Du.ok Tryz.prog 54:=Ar hm Tryz.func54 (fd:=Aqg) (by kernel_rfl) (Ah (l:=[(63,Gz)]) (y:=[]) ⟨Ih,trivial⟩ trivial) (by kernel_rfl) (fun p=>by kernel_rfl)
def Akx:List TOp:=[oo 6 (.mov (.tmp 1)),oo 7 (.len false (.tmp 6)),oo 8 (.mov (.cst (.int .i64 0)))]
def Aky:List TOp:=[oo 9 (.bin false .lss (.tmp 8) (.tmp 7))]
def M0:Kp:=⟨[],[],[(.ext 0,false)],[],[]⟩
def Akz:List TOp:=[oo 10 (.idx 1 (.tmp 6) (.tmp 8)),oo 11 (.load false 1 (.tmp 10)),oo 5 (.mov (.tmp 11))]
def Ak0:List TOp:=[oo 12 (.mov (.tmp 0)),oo 13 (.mov (.tmp 5)),oo 14 (.call 0 2 (.cst (.fn 54)) [(.tmp 12),(.tmp 13)] [] [.ext 0]),oo 15 (.un .not (.tmp 14))]
def Ak1:List TOp:=[oo 16 (.mov (.tmp 0)),oo 17 (.nchk (.tmp 16)),oo 18 (.fld 2 (.tmp 17)),on (.store 1 (.tmp 18) (.cst (.bool true)))]
def Ak2:List TOp:=[oo 19 (.bin false .add (.tmp 8) (.cst (.int .i64 1))),oo 8 (.mov (.tmp 19))]
def Akw:DC:=(.seq (.ops Aky) (.seq (.cond (.tmp 9) .skip (.keep M0 (.exit 0))) (.seq (.pass 1 (.seq (.ops Akz) (.seq (.ops Ak0) (.cond (.tmp 15) (.free (.seq (.ops Ak1) (.keep M0 .ret))) .skip)))) (.ops Ak2))))
def Akv:Kp:=⟨[],[(0,false),(6,false),(7,false),(8,false)],[(.ext 0,false)],[],[]⟩
def Ak3:Sig:=⟨[(0,some (.ptr (.ext 0) 0)),(6,none),(7,none),(8,some (.ty (.int .i64)))],[(.ext 0,(.st 3))],[(.int .i64),(.st 3)],[],[]⟩
def Aqe:TFd:=⟨2,[],[],(.seq (.ops Akx) (.block 0 (.loop [0,6,7,8] [] Akv Ak3 Akw)))⟩
noncomputable def Dt:Ent:=⟨[.ptr (.ext 0) 0,.ty (.sl .str)],[.st 3],[(.sl .str),(.st 3)],⟨(.tup []),[],[some (.st 3)],[(.st 3)],[],[]⟩,none,fun p=>Am p.1 p.2⟩
theorem E0:Dt.ok Tryz.prog 56:=Ar hm Tryz.func56 (fd:=Aqe) (by kernel_rfl) (Ah (l:=[(54,Du)]) (y:=[]) ⟨E1,trivial⟩ trivial) (by kernel_rfl) (fun p=>by kernel_rfl)
def Nq:List TOp:=[oo 4 (.mov (.cst (.int .i64 0)))]
def Nr:List TOp:=[oo 6 (.mov (.tmp 0)),oo 7 (.len false (.tmp 6)),oo 8 (.mov (.cst (.int .i64 0)))]
def Ns:List TOp:=[oo 9 (.bin false .lss (.tmp 8) (.tmp 7))]
def Nt:List TOp:=[oo 10 (.mov (.tmp 8)),oo 5 (.mov (.tmp 10))]
def Nu:List TOp:=[oo 11 (.mov (.tmp 1)),oo 12 (.mov (.tmp 0)),oo 13 (.mov (.tmp 5)),oo 14 (.idx 1 (.tmp 12) (.tmp 13)),oo 15 (.load false 1 (.tmp 14)),oo 16 (.bin false .eql (.tmp 11) (.tmp 15))]
def Nv:List TOp:=[oo 17 (.mov (.tmp 5)),oo 4 (.mov (.tmp 17))]
def F6:Kp:=⟨[],[(4,false)],[],[],[]⟩
def Nw:List TOp:=[oo 18 (.bin false .add (.tmp 8) (.cst (.int .i64 1))),oo 8 (.mov (.tmp 18))]
def Np:DC:=(.seq (.ops Ns) (.seq (.cond (.tmp 9) .skip (.exit 0)) (.seq (.pass 1 (.seq (.ops Nt) (.seq (.ops Nu) (.cond (.tmp 16) (.free (.seq (.ops Nv) (.keep F6 .ret))) .skip)))) (.ops Nw))))
def Nn:Kp:=⟨[],[(0,false),(1,false),(7,false),(8,false)],[],[],[]⟩
def L5:Sig:=⟨[(0,none),(1,none),(7,none),(8,some (.ty (.int .i64)))],[],[(.int .i64)],[],[]⟩
def L3:Kp:=⟨[],[],[],[],[]⟩
def L6:Sig:=⟨[],[],[],[],[]⟩
def L4:List TOp:=[oo 4 (.mov (.cst (.int .i64 (-1))))]
def Pq:TFd:=⟨2,[(.tmp 4,.bool)],[],(.seq (.ops Nq) (.seq (.seq (.ops Nr) (.joinO L3 L6 (.block 0 (.loop [0,1,7,8] [] Nn L5 Np)))) (.seq (.ops L4) (.keep F6 .ret))))⟩
noncomputable def Gk:Ent:=⟨[.ty (.sl .str),.ty .str],[],[(.sl .str),.str],⟨(.ty (.int .i64)),[],[],[(.int .i64)],[],[]⟩,none,fun p=>Ed p.1 p.2⟩
theorem Nz:Gk.ok Tryz.prog 139:=Ar hm Tryz.func139 (fd:=Pq) (by kernel_rfl) (Ah (l:=[]) (y:=[]) trivial trivial) (by kernel_rfl) (fun p=>by kernel_rfl)
def J7:List TOp:=[oo 4 (.mov (.cst (.bool false)))]
def J8:List TOp:=[oo 5 (.mov (.tmp 0)),oo 6 (.mov (.tmp 1)),oo 7 (.call 0 0 (.cst (.fn 139)) [(.tmp 5),(.tmp 6)] [] []),oo 8 (.bin false .geq (.tmp 7) (.cst (.int .i64 0))),oo 4 (.mov (.tmp 8))]
def J6:Kp:=⟨[],[(4,false)],[],[],[]⟩
def Lu:TFd:=⟨2,[(.tmp 4,.bool)],[],(.seq (.ops J7) (.seq (.ops J8) (.keep J6 .ret)))⟩
noncomputable def Fb:Ent:=⟨[.ty (.sl .str),.ty .str],[],[(.sl .str),.str],⟨(.ty .bool),[],[],[.bool],[],[]⟩,none,fun p=>Ch p.1 p.2⟩
theorem Kc:Fb.ok Tryz.prog 115:=Ar hm Tryz.func115 (fd:=Lu) (by kernel_rfl) (Ah (l:=[(139,Gk)]) (y:=[]) ⟨Nz,trivial⟩ trivial) (by kernel_rfl) (fun p=>by kernel_rfl)
def A9u:List TOp:=[oo 4 (.mov (.cst (.bool false)))]
def A9v:List TOp:=[ot 6 .str (.lit true 1 [(.cst (.str [105,102])),(.cst (.str [116,104,101,110])),(.cst (.str [101,108,115,101])),(.cst (.str [97,110,100])),(.cst (.str [111,114])),(.cst (.str [110,111,116])),(.cst (.str [109,105,110])),(.cst (.str [109,97,120]))]),oo 5 (.mov (.tmp 6))]
def A9w:List TOp:=[oo 7 (.mov (.tmp 1))]
def A9x:List TOp:=[oo 8 (.mov (.tmp 5)),ot 9 .str (.lit false 1 [(.cst (.str [112,114,111,100,117,99,116])),(.cst (.str [98,97,115,105,115])),(.cst (.str [112,101,114,105,111,100])),(.cst (.str [116,105,101,114,115])),(.cst (.str [102,101,101])),(.cst (.str [109,105,110,105,109,117,109])),(.cst (.str [111,118,101,114,100,114,97,102,116])),(.cst (.str [110,111,116,105,99,101]))]),ot 10 .str (.append 5 1 16 (.tmp 8) (.tmp 9)),oo 5 (.mov (.tmp 10))]
def A9s:Kp:=⟨[.loc 5 0,.loc 6 0],[(0,false),(5,true)],[],[],[]⟩
def A9z:Sig:=⟨[(0,none),(5,some (.ty (.sl .str)))],[],[(.sl .str)],[],[]⟩
def A9y:List TOp:=[oo 11 (.mov (.tmp 5)),oo 12 (.mov (.tmp 0)),oo 13 (.call 0 0 (.cst (.fn 115)) [(.tmp 11),(.tmp 12)] [] []),oo 4 (.mov (.tmp 13))]
def A9t:Kp:=⟨[],[(4,false)],[],[],[]⟩
def Bhu:TFd:=⟨2,[(.tmp 4,.bool)],[],(.seq (.ops A9u) (.seq (.ops A9v) (.seq (.seq (.ops A9w) (.join A9s A9z (.cond (.tmp 7) (.ops A9x) .skip))) (.seq (.ops A9y) (.keep A9t .ret)))))⟩
noncomputable def Ajo:Ent:=⟨[.ty .str,.ty .bool],[],[.str,.bool],⟨(.ty .bool),[],[],[.bool],[],[]⟩,none,fun p=>Wk p.1 p.2⟩
theorem Arq:Ajo.ok Tryz.prog 96:=Ar hm Tryz.func96 (fd:=Bhu) (by kernel_rfl) (Ah (l:=[(115,Fb)]) (y:=[]) ⟨Kc,trivial⟩ trivial) (by kernel_rfl) (fun p=>by kernel_rfl)
def Ak4:List TOp:=[oo 6 (.mov (.cst (.str [])))]
def Ak5:List TOp:=[oo 7 (.mov (.tmp 0)),oo 8 (.nchk (.tmp 7)),oo 9 (.fld 2 (.tmp 8)),oo 10 (.load false 1 (.tmp 9)),oo 11 (.mov (.tmp 10)),og 12 11 false .bool (.mov (.tmp 0)),og 13 11 false .bool (.nchk (.tmp 12)),og 14 11 false .bool (.fld 1 (.tmp 13)),og 15 11 false .bool (.load false 1 (.tmp 14)),og 16 11 false .bool (.mov (.tmp 0)),og 17 11 false .bool (.nchk (.tmp 16)),og 18 11 false .bool (.fld 0 (.tmp 17)),og 19 11 false .bool (.load false 1 (.tmp 18)),og 20 11 false .bool (.len false (.tmp 19)),og 21 11 false .bool (.bin false .geq (.tmp 15) (.tmp 20)),oo 22 (.pick (.tmp 11) (.cst (.bool true)) (.tmp 21)),oo 23 (.mov (.tmp 22)),og 24 23 false .bool (.mov (.tmp 0)),og 25 23 false .bool (.nchk (.tmp 24)),og 26 23 false .bool (.fld 0 (.tmp 25)),og 27 23 false .bool (.load false 1 (.tmp 26)),og 28 23 false .bool (.mov (.tmp 0)),og 29 23 false .bool (.nchk (.tmp 28)),og 30 23 false .bool (.fld 1 (.tmp 29)),og 31 23 false .bool (.load false 1 (.tmp 30)),og 32 23 false .bool (.idx 4 (.tmp 27) (.tmp 31)),og 33 23 false .bool (.fld 0 (.tmp 32)),og 34 23 false .bool (.load false 1 (.tmp 33)),og 35 23 false .bool (.mov (.tmp 1)),og 36 23 false .bool (.bin false .neq (.tmp 34) (.tmp 35)),oo 37 (.pick (.tmp 23) (.cst (.bool true)) (.tmp 36)),oo 38 (.mov (.tmp 37)),og 39 38 false .bool (.mov (.tmp 1)),og 40 38 false .bool (.bin false .eql (.tmp 39) (.cst (.int .i64 0))),og 41 38 false .bool (.mov (.tmp 40)),og 42 41 true .bool (.mov (.tmp 0)),og 43 41 true .bool (.nchk (.tmp 42)),og 44 41 true .bool (.fld 0 (.tmp 43)),og 45 41 true .bool (.load false 1 (.tmp 44)),og 46 41 true .bool (.mov (.tmp 0)),og 47 41 true .bool (.nchk (.tmp 46)),og 48 41 true .bool (.fld 1 (.tmp 47)),og 49 41 true .bool (.load false 1 (.tmp 48)),og 50 41 true .bool (.idx 4 (.tmp 45) (.tmp 49)),og 51 41 true .bool (.fld 3 (.tmp 50)),og 52 41 true .bool (.load false 1 (.tmp 51)),og 53 41 true .bool (.mov (.tmp 2)),og 54 41 true .bool (.call 0 0 (.cst (.fn 96)) [(.tmp 52),(.tmp 53)] [] []),og 55 38 false .bool (.pick (.tmp 41) (.tmp 54) (.cst (.bool false))),oo 56 (.pick (.tmp 38) (.cst (.bool true)) (.tmp 55))]
def Ak6:List TOp:=[oo 57 (.mov (.tmp 0)),oo 58 (.nchk (.tmp 57)),oo 59 (.fld 2 (.tmp 58)),on (.store 1 (.tmp 59) (.cst (.bool true)))]
def Ak7:List TOp:=[oo 6 (.mov (.cst (.str [])))]
def M1:Kp:=⟨[],[(6,false)],[(.ext 0,false)],[],[]⟩
def Ak8:List TOp:=[oo 60 (.mov (.tmp 0)),oo 61 (.nchk (.tmp 60)),oo 62 (.fld 1 (.tmp 61)),oo 63 (.load false 1 (.tmp 62)),oo 64 (.bin false .add (.tmp 63) (.cst (.int .i64 1))),oo 65 (.nchk (.tmp 60)),oo 66 (.fld 1 (.tmp 65)),on (.store 1 (.tmp 66) (.tmp 64))]
def Ak9:List TOp:=[oo 67 (.mov (.tmp 0)),oo 68 (.nchk (.tmp 67)),oo 69 (.fld 0 (.tmp 68)),oo 70 (.load false 1 (.tmp 69)),oo 71 (.mov (.tmp 0)),oo 72 (.nchk (.tmp 71)),oo 73 (.fld 1 (.tmp 72)),oo 74 (.load false 1 (.tmp 73)),oo 75 (.bin false .sub (.tmp 74) (.cst (.int .i64 1))),oo 76 (.idx 4 (.tmp 70) (.tmp 75)),oo 77 (.fld 3 (.tmp 76)),oo 78 (.load false 1 (.tmp 77)),oo 6 (.mov (.tmp 78))]
def Aqf:TFd:=⟨3,[(.tmp 6,.bool)],[],(.seq (.ops Ak4) (.seq (.seq (.draw [] Ak5) (.cond (.tmp 56) (.free (.seq (.ops Ak6) (.seq (.ops Ak7) (.keep M1 .ret)))) .skip)) (.seq (.ops Ak8) (.seq (.draw [] Ak9) (.keep M1 .ret)))))⟩
noncomputable def Fi:Ent:=⟨[.ptr (.ext 0) 0,.ty (.int .i64),.ty .bool],[.st 3],[(.int .i64),.bool,(.st 3)],⟨(.ty .str),[],[some (.st 3)],[.str,(.st 3)],[],[]⟩,none,fun p=>A7 p.1 p.2.1 p.2.2⟩
theorem Hd:Fi.ok Tryz.prog 61:=Ar hm Tryz.func61 (fd:=Aqf) (by kernel_rfl) (Ah (l:=[(96,Ajo)]) (y:=[]) ⟨Arq,trivial⟩ trivial) (by kernel_rfl) (fun p=>by kernel_rfl)
def Aaf:Ent:=⟨[.nils,.ty (.int .i64)],[],[(.int .i64)],⟨(.own (.res 0)),[some (.row (.st 4))],[],[(.sl (.st 4))],[],[]⟩,none,fun p=>Cy Aa 24 p⟩
theorem Anx:Aaf.ok Tryz.prog 114:=fun p r h=>by
 obtain⟨e1,e2⟩:=Aag (show Cy Aa 24 p=some r from h)
 subst e1
 exact Asj e2
def Qp:List TOp:=[oo 2 (.mov .nils)]
def Qq:List TOp:=[oo 3 (.mov (.cst (.int .i64 0)))]
def Qr:List TOp:=[oo 9 (.mov (.tmp 0)),oo 10 (.len false (.tmp 9)),oo 11 (.mov (.cst (.int .i64 0)))]
def Qs:List TOp:=[oo 12 (.bin false .lss (.tmp 11) (.tmp 10))]
def Qt:List TOp:=[oo 13 (.idx 1 (.tmp 9) (.tmp 11)),oo 14 (.load false 1 (.tmp 13)),oo 5 (.mov (.tmp 14))]
def Qu:List TOp:=[oo 15 (.mov (.tmp 3)),oo 16 (.mov (.tmp 5)),oo 17 (.len false (.tmp 16)),oo 18 (.bin false .add (.tmp 15) (.tmp 17)),oo 3 (.mov (.tmp 18))]
def Qv:List TOp:=[oo 19 (.mov (.tmp 3)),oo 20 (.bin false .lss (.tmp 19) (.cst (.int .i64 0)))]
def He:Kp:=⟨[],[(0,false),(3,false),(9,false),(10,false),(11,false)],[],[],[]⟩
def Qx:Sig:=⟨[(0,none),(3,none),(9,none),(10,none),(11,none)],[],[],[],[]⟩
def Qw:List TOp:=[oo 22 (.bin false .add (.tmp 11) (.cst (.int .i64 1))),oo 11 (.mov (.tmp 22))]
def Pa:DC:=(.seq (.ops Qs) (.seq (.cond (.tmp 12) .skip (.exit 0)) (.seq (.pass 1 (.seq (.ops Qt) (.seq (.ops Qu) (.seq (.ops Qv) (.join He Qx (.cond (.tmp 20) .stuck .skip)))))) (.ops Qw))))
def Pk:Sig:=⟨[(0,none),(3,some (.ty (.int .i64))),(9,none),(10,none),(11,some (.ty (.int .i64)))],[],[(.int .i64),(.int .i64)],[],[]⟩
def O6:Kp:=⟨[],[(0,false),(3,false)],[],[],[]⟩
def Pl:Sig:=⟨[(0,none),(3,some (.ty (.int .i64)))],[],[(.int .i64)],[],[]⟩
def Pd:List TOp:=[oo 23 (.mov (.tmp 3)),oo 24 (.call 1 3 (.cst (.fn 114)) [.nils,(.tmp 23)] [] []),oo 6 (.mov (.tmp 24))]
def Pe:List TOp:=[oo 25 (.mov (.tmp 0)),oo 26 (.len false (.tmp 25)),oo 27 (.mov (.cst (.int .i64 0)))]
def Pf:List TOp:=[oo 28 (.bin false .lss (.tmp 27) (.tmp 26))]
def Pg:List TOp:=[oo 29 (.idx 1 (.tmp 25) (.tmp 27)),oo 30 (.load false 1 (.tmp 29)),oo 8 (.mov (.tmp 30))]
def Ph:List TOp:=[oo 31 (.mov (.tmp 6)),oo 32 (.mov (.tmp 8)),ot 33 (.st 4) (.append 24 2 24 (.tmp 31) (.tmp 32)),oo 6 (.mov (.tmp 33))]
def Pi:List TOp:=[oo 34 (.bin false .add (.tmp 27) (.cst (.int .i64 1))),oo 27 (.mov (.tmp 34))]
def Pb:DC:=(.seq (.ops Pf) (.seq (.cond (.tmp 28) .skip (.exit 2)) (.seq (.pass 3 (.seq (.ops Pg) (.ops Ph))) (.ops Pi))))
def O7:Kp:=⟨[],[(6,false),(25,false),(26,false),(27,false)],[(.loc 24 0,false)],[],[]⟩
def Pm:Sig:=⟨[(6,some (.own (.loc 24 0))),(25,none),(26,none),(27,some (.ty (.int .i64)))],[(.loc 24 0,(.row (.st 4)))],[(.int .i64),(.sl (.st 4))],[],[]⟩
def O8:Kp:=⟨[.loc 24 0],[(6,true)],[],[],[]⟩
def Pn:Sig:=⟨[(6,some (.ty (.sl (.st 4))))],[],[(.sl (.st 4))],[],[]⟩
def Pj:List TOp:=[oo 35 (.mov (.tmp 6)),oo 2 (.mov (.tmp 35))]
def O9:Kp:=⟨[],[(2,false)],[],[],[]⟩
def Vr:TFd:=⟨1,[(.tmp 2,.bool)],[],(.seq (.ops Qp) (.seq (.ops Qq) (.seq (.seq (.ops Qr) (.join O6 Pl (.block 0 (.loop [0,3,9,10,11] [] He Pk Pa)))) (.seq (.ops Pd) (.seq (.seq (.ops Pe) (.join O8 Pn (.block 2 (.loop [6,25,26,27] [] O7 Pm Pb)))) (.seq (.ops Pj) (.keep O9 .ret)))))))⟩
noncomputable def Hq:Ent:=⟨[.ty (.sl (.sl (.st 4)))],[],[(.sl (.sl (.st 4)))],⟨(.ty (.sl (.st 4))),[],[],[(.sl (.st 4))],[],[]⟩,none,fun p=>Dk p⟩
theorem Rb:Hq.ok Tryz.prog 93:=Ar hm Tryz.func93 (fd:=Vr) (by kernel_rfl) (Ah (l:=[(114,Aaf)]) (y:=[]) ⟨Anx,trivial⟩ trivial) (by kernel_rfl) (fun p=>by kernel_rfl)
def A3x:List TOp:=[oo 4 (.mov .nils)]
def A3y:List TOp:=[oo 5 (.mov (.tmp 0)),ot 6 (.st 4) (.build [.pv (.int .i64 0),.pv (.str [])] [(0,1,(.tmp 5))]),ot 7 (.st 4) (.lit true 2 [(.tmp 6)]),oo 8 (.mov (.tmp 1)),oo 9 (.call 0 0 (.cst (.fn 93)) [(.tmp 8)] [] []),ot 10 (.st 4) (.append 7 2 24 (.tmp 7) (.tmp 9)),oo 4 (.mov (.tmp 10))]
def A3w:Kp:=⟨[.loc 7 0],[(4,true)],[],[],[]⟩
def Bdu:TFd:=⟨2,[(.tmp 4,.bool)],[],(.seq (.ops A3x) (.seq (.ops A3y) (.keep A3w .ret)))⟩
noncomputable def Oy:Ent:=⟨[.ty (.int .i64),.ty (.sl (.sl (.st 4)))],[],[(.int .i64),(.sl (.sl (.st 4)))],⟨(.ty (.sl (.st 4))),[],[],[(.sl (.st 4))],[],[]⟩,none,fun p=>Cd p.1 p.2⟩
theorem Ts:Oy.ok Tryz.prog 57:=Ar hm Tryz.func57 (fd:=Bdu) (by kernel_rfl) (Ah (l:=[(93,Hq)]) (y:=[]) ⟨Rb,trivial⟩ trivial) (by kernel_rfl) (fun p=>by kernel_rfl)
def Azy:List TOp:=[oo 0 (.mov .junk)]
def Azz:List TOp:=[om 1 .str (.st 5) (.mkmap .s),ot 2 (.st 5) (.build [.pv (.int .i64 0),.pv (.int .i64 0)] [(0,1,(.cst (.int .i64 13))),(1,1,(.cst (.int .i64 1)))]),on (.mset .s (.tmp 1) (.cst (.str [111,114])) (.tmp 2)),ot 3 (.st 5) (.build [.pv (.int .i64 0),.pv (.int .i64 0)] [(0,1,(.cst (.int .i64 12))),(1,1,(.cst (.int .i64 2)))]),on (.mset .s (.tmp 1) (.cst (.str [97,110,100])) (.tmp 3)),ot 4 (.st 5) (.build [.pv (.int .i64 0),.pv (.int .i64 0)] [(0,1,(.cst (.int .i64 7))),(1,1,(.cst (.int .i64 4)))]),on (.mset .s (.tmp 1) (.cst (.str [60])) (.tmp 4)),ot 5 (.st 5) (.build [.pv (.int .i64 0),.pv (.int .i64 0)] [(0,1,(.cst (.int .i64 8))),(1,1,(.cst (.int .i64 4)))]),on (.mset .s (.tmp 1) (.cst (.str [60,61])) (.tmp 5)),ot 6 (.st 5) (.build [.pv (.int .i64 0),.pv (.int .i64 0)] [(0,1,(.cst (.int .i64 9))),(1,1,(.cst (.int .i64 4)))]),on (.mset .s (.tmp 1) (.cst (.str [61])) (.tmp 6)),ot 7 (.st 5) (.build [.pv (.int .i64 0),.pv (.int .i64 0)] [(0,1,(.cst (.int .i64 10))),(1,1,(.cst (.int .i64 4)))]),on (.mset .s (.tmp 1) (.cst (.str [62])) (.tmp 7)),ot 8 (.st 5) (.build [.pv (.int .i64 0),.pv (.int .i64 0)] [(0,1,(.cst (.int .i64 11))),(1,1,(.cst (.int .i64 4)))]),on (.mset .s (.tmp 1) (.cst (.str [62,61])) (.tmp 8)),ot 9 (.st 5) (.build [.pv (.int .i64 0),.pv (.int .i64 0)] [(0,1,(.cst (.int .i64 3))),(1,1,(.cst (.int .i64 5)))]),on (.mset .s (.tmp 1) (.cst (.str [43])) (.tmp 9)),ot 10 (.st 5) (.build [.pv (.int .i64 0),.pv (.int .i64 0)] [(0,1,(.cst (.int .i64 4))),(1,1,(.cst (.int .i64 5)))]),on (.mset .s (.tmp 1) (.cst (.str [45])) (.tmp 10)),ot 11 (.st 5) (.build [.pv (.int .i64 0),.pv (.int .i64 0)] [(0,1,(.cst (.int .i64 5))),(1,1,(.cst (.int .i64 6)))]),on (.mset .s (.tmp 1) (.cst (.str [42])) (.tmp 11)),ot 12 (.st 5) (.build [.pv (.int .i64 0),.pv (.int .i64 0)] [(0,1,(.cst (.int .i64 6))),(1,1,(.cst (.int .i64 6)))]),on (.mset .s (.tmp 1) (.cst (.str [47])) (.tmp 12)),oo 13 (.mov (.tmp 1)),oo 0 (.mov (.tmp 13))]
def Azx:Kp:=⟨[],[(0,false)],[(.loc 1 0,false)],[],[]⟩
def A90:TFd:=⟨0,[(.tmp 0,.bool)],[.loc 1 0],(.seq (.ops Azy) (.seq (.ops Azz) (.keep Azx .ret)))⟩
def Aol:Ent:=⟨[],[],[],⟨(.mp (.res 0)),[some (.map .str (.st 5))],[],[(.mp .str (.st 5))],[],[]⟩,none,fun p=>Ajq⟩
theorem Ajr:Aol.ok Tryz.prog 98:=Ar hm Tryz.func98 (fd:=A90) (by kernel_rfl) (Ah (l:=[]) (y:=[]) trivial trivial) (by kernel_rfl) (fun p=>by kernel_rfl)
def Zl:List TOp:=[oo 4 (.mov (.cst (.int .i64 0))),oo 5 (.mov (.cst (.bool false)))]
def Zm:List TOp:=[oo 8 (.mov (.tmp 0)),oo 9 (.nchk (.tmp 8)),oo 10 (.fld 2 (.tmp 9)),oo 11 (.load false 1 (.tmp 10)),oo 12 (.mov (.tmp 11)),og 13 12 false .bool (.mov (.tmp 0)),og 14 12 false .bool (.nchk (.tmp 13)),og 15 12 false .bool (.fld 1 (.tmp 14)),og 16 12 false .bool (.load false 1 (.tmp 15)),og 17 12 false .bool (.mov (.tmp 0)),og 18 12 false .bool (.nchk (.tmp 17)),og 19 12 false .bool (.fld 0 (.tmp 18)),og 20 12 false .bool (.load false 1 (.tmp 19)),og 21 12 false .bool (.len false (.tmp 20)),og 22 12 false .bool (.bin false .geq (.tmp 16) (.tmp 21)),oo 23 (.pick (.tmp 12) (.cst (.bool true)) (.tmp 22)),oo 24 (.mov (.tmp 23)),og 25 24 false .bool (.mov (.tmp 0)),og 26 24 false .bool (.nchk (.tmp 25)),og 27 24 false .bool (.fld 0 (.tmp 26)),og 28 24 false .bool (.load false 1 (.tmp 27)),og 29 24 false .bool (.mov (.tmp 0)),og 30 24 false .bool (.nchk (.tmp 29)),og 31 24 false .bool (.fld 1 (.tmp 30)),og 32 24 false .bool (.load false 1 (.tmp 31)),og 33 24 false .bool (.idx 4 (.tmp 28) (.tmp 32)),og 34 24 false .bool (.fld 0 (.tmp 33)),og 35 24 false .bool (.load false 1 (.tmp 34)),og 36 24 false .bool (.bin false .eql (.tmp 35) (.cst (.int .i64 2))),oo 37 (.pick (.tmp 24) (.cst (.bool true)) (.tmp 36))]
def Zn:List TOp:=[oo 4 (.mov (.cst (.int .i64 0))),oo 5 (.mov (.cst (.bool false)))]
def I0:Kp:=⟨[],[(4,false),(5,false)],[(.ext 0,false)],[],[]⟩
def Zo:List TOp:=[oo 39 (.call 1 0 (.cst (.fn 98)) [] [] []),oo 40 (.mov (.tmp 0)),oo 41 (.nchk (.tmp 40)),oo 42 (.fld 0 (.tmp 41)),oo 43 (.load false 1 (.tmp 42)),oo 44 (.mov (.tmp 0)),oo 45 (.nchk (.tmp 44)),oo 46 (.fld 1 (.tmp 45)),oo 47 (.load false 1 (.tmp 46)),oo 48 (.idx 4 (.tmp 43) (.tmp 47)),oo 49 (.fld 3 (.tmp 48)),oo 50 (.load false 1 (.tmp 49)),oo 51 (.mlook .s true (.agg [(.int .i64 0),(.int .i64 0)]) (.tmp 39) (.tmp 50)),oo 38 (.mov (.tmp 51)),oo 52 (.ext 0 (.tmp 38)),oo 53 (.ext 1 (.tmp 38)),oo 6 (.alloc [.pv (.int .i64 0),.pv (.int .i64 0)]),on (.store 2 (.tmp 6) (.tmp 52)),oo 7 (.mov (.tmp 53))]
def Zp:List TOp:=[oo 54 (.fld 0 (.tmp 6)),oo 55 (.load false 1 (.tmp 54)),oo 56 (.mov (.tmp 7)),oo 57 (.mov (.tmp 56)),og 58 57 true .bool (.fld 1 (.tmp 6)),og 59 57 true .bool (.load false 1 (.tmp 58)),og 60 57 true .bool (.mov (.tmp 1)),og 61 57 true .bool (.bin false .eql (.tmp 59) (.tmp 60)),oo 62 (.pick (.tmp 57) (.tmp 61) (.cst (.bool false))),oo 4 (.mov (.tmp 55)),oo 5 (.mov (.tmp 62))]
def Ah5:TFd:=⟨2,[(.tmp 4,.bool),(.tmp 5,.bool)],[],(.seq (.ops Zl) (.seq (.seq (.draw [] Zm) (.cond (.tmp 37) (.free (.seq (.ops Zn) (.keep I0 .ret))) .skip)) (.seq (.draw [.loc 39 0,.loc 6 0] Zo) (.seq (.draw [] Zp) (.keep I0 .ret)))))⟩
def Jq:Ent:=⟨[.ptr (.ext 0) 0,.ty (.int .i64)],[.st 3],[(.int .i64),(.st 3)],⟨(.tup [(.ty (.int .i64)),(.ty .bool)]),[],[some .same],[(.int .i64),.bool],[],[]⟩,none,fun p=>B2 p.1 p.2⟩
theorem Wl:Jq.ok Tryz.prog 92:=Ar hm Tryz.func92 (fd:=Ah5) (by kernel_rfl) (Ah (l:=[(98,Aol)]) (y:=[]) ⟨Ajr,trivial⟩ trivial) (by kernel_rfl) (fun p=>by kernel_rfl)
def Anc:List TOp:=[oo 2 (.mov .nils)]
def Ane:List TOp:=[oo 5 (.mov (.tmp 0)),oo 6 (.call 0 2 (.cst (.fn 54)) [(.tmp 5),(.cst (.str [105,102]))] [] [.ext 0]),oo 7 (.un .not (.tmp 6))]
def Anf:List TOp:=[oo 8 (.mov (.tmp 0)),oo 9 (.call 0 2 (.cst (.fn 55)) [(.tmp 8),(.cst (.int .i64 1))] [] [.ext 0]),oo 2 (.mov (.tmp 9))]
def Oj:Kp:=⟨[],[(2,false)],[(.ext 0,false)],[],[]⟩
def Ang:List TOp:=[oo 10 (.mov (.tmp 0)),oo 11 (.call 0 2 (.cst (.fn 30)) [(.tmp 10)] [] [.ext 0]),oo 3 (.mov (.tmp 11))]
def Anh:List TOp:=[oo 12 (.mov (.tmp 0)),ot 13 .str (.lit false 1 [(.cst (.str [116,104,101,110]))]),oo 14 (.call 0 2 (.cst (.fn 56)) [(.tmp 12),(.tmp 13)] [] [.ext 0])]
def Ani:List TOp:=[oo 15 (.mov (.tmp 0)),oo 16 (.call 0 2 (.cst (.fn 30)) [(.tmp 15)] [] [.ext 0]),oo 4 (.mov (.tmp 16))]
def Anj:List TOp:=[oo 17 (.mov (.tmp 0)),ot 18 .str (.lit false 1 [(.cst (.str [101,108,115,101]))]),oo 19 (.call 0 2 (.cst (.fn 56)) [(.tmp 17),(.tmp 18)] [] [.ext 0])]
def Ank:List TOp:=[oo 20 (.mov (.tmp 3)),oo 21 (.mov (.tmp 4)),oo 22 (.mov (.tmp 0)),oo 23 (.call 0 2 (.cst (.fn 30)) [(.tmp 22)] [] [.ext 0]),ot 24 (.sl (.st 4)) (.lit false 1 [(.tmp 20),(.tmp 21),(.tmp 23)]),oo 25 (.call 0 0 (.cst (.fn 57)) [(.cst (.int .i64 15)),(.tmp 24)] [] []),oo 2 (.mov (.tmp 25))]
def Ar7:TFd:=⟨1,[(.tmp 2,.bool)],[],(.seq (.ops Anc) (.seq (.seq (.ops Ane) (.cond (.tmp 7) (.free (.seq (.ops Anf) (.keep Oj .ret))) .skip)) (.seq (.ops Ang) (.seq (.ops Anh) (.seq (.ops Ani) (.seq (.ops Anj) (.seq (.ops Ank) (.keep Oj .ret))))))))⟩
noncomputable def C6(fuel:Nat):Ent:=⟨[.ptr (.ext 0) 0],[.st 3],[(.st 3)],⟨(.ty (.sl (.st 4))),[],[some (.st 3)],[(.sl (.st 4)),(.st 3)],[],[]⟩,none,fun p=>parse_reader_any fuel p⟩
def Ah6:List TOp:=[oo 4 (.mov .nils)]
def Ah7:List TOp:=[oo 8 (.mov (.tmp 0)),oo 9 (.nchk (.tmp 8)),oo 10 (.fld 2 (.tmp 9)),oo 11 (.load false 1 (.tmp 10))]
def Ah8:List TOp:=[oo 4 (.mov .nils)]
def Ck:Kp:=⟨[],[(4,true)],[(.ext 0,false)],[],[]⟩
def Ah9:List TOp:=[oo 12 (.mov (.tmp 1))]
def Aia:List TOp:=[oo 14 (.bin false .eql (.tmp 12) (.cst (.int .i64 3))),oo 13 (.mov (.tmp 14))]
def Aib:List TOp:=[oo 15 (.mov (.tmp 0)),oo 16 (.call 0 2 (.cst (.fn 54)) [(.tmp 15),(.cst (.str [110,111,116]))] [] [.ext 0])]
def Aic:List TOp:=[oo 17 (.mov (.tmp 0)),oo 18 (.call 0 2 (.cst (.fn 55)) [(.tmp 17),(.cst (.int .i64 3))] [] [.ext 0]),ot 19 (.sl (.st 4)) (.lit false 1 [(.tmp 18)]),oo 20 (.call 0 0 (.cst (.fn 57)) [(.cst (.int .i64 14)),(.tmp 19)] [] []),oo 4 (.mov (.tmp 20))]
def Aid:List TOp:=[oo 21 (.mov (.tmp 0)),oo 22 (.call 0 2 (.cst (.fn 55)) [(.tmp 21),(.cst (.int .i64 4))] [] [.ext 0]),oo 4 (.mov (.tmp 22))]
def Aie:List TOp:=[oo 24 (.bin false .eql (.tmp 12) (.cst (.int .i64 7))),oo 23 (.mov (.tmp 24))]
def Aet:List TOp:=[oo 25 (.mov (.tmp 0)),oo 26 (.call 0 2 (.cst (.fn 54)) [(.tmp 25),(.cst (.str [45]))] [] [.ext 0])]
def Aeu:List TOp:=[oo 27 (.mov (.tmp 0)),oo 28 (.call 0 2 (.cst (.fn 55)) [(.tmp 27),(.cst (.int .i64 7))] [] [.ext 0]),ot 29 (.sl (.st 4)) (.lit false 1 [(.tmp 28)]),oo 30 (.call 0 0 (.cst (.fn 57)) [(.cst (.int .i64 2)),(.tmp 29)] [] []),oo 4 (.mov (.tmp 30))]
def Aev:List TOp:=[oo 31 (.mov (.tmp 0)),oo 32 (.call 0 2 (.cst (.fn 91)) [(.tmp 31)] [] [.ext 0]),oo 4 (.mov (.tmp 32))]
def Aew:List TOp:=[oo 33 (.mov (.tmp 0)),oo 34 (.mov (.tmp 1)),oo 35 (.bin false .add (.tmp 34) (.cst (.int .i64 1))),oo 36 (.call 0 2 (.cst (.fn 55)) [(.tmp 33),(.tmp 35)] [] [.ext 0]),oo 5 (.mov (.tmp 36))]
def Aex:List TOp:=[oo 38 (.mov (.tmp 0)),oo 39 (.mov (.tmp 1)),oo 40 (.call 0 2 (.cst (.fn 92)) [(.tmp 38),(.tmp 39)] [] [.ext 0]),oo 37 (.mov (.tmp 40)),oo 41 (.ext 0 (.tmp 37)),oo 42 (.ext 1 (.tmp 37)),oo 6 (.mov (.tmp 41)),oo 7 (.mov (.tmp 42))]
def Aey:List TOp:=[oo 43 (.mov (.tmp 7))]
def Aez:List TOp:=[oo 50 (.mov (.tmp 0)),oo 51 (.nchk (.tmp 50)),oo 52 (.fld 1 (.tmp 51)),oo 53 (.load false 1 (.tmp 52)),oo 54 (.bin false .add (.tmp 53) (.cst (.int .i64 1))),oo 55 (.nchk (.tmp 50)),oo 56 (.fld 1 (.tmp 55)),on (.store 1 (.tmp 56) (.tmp 54))]
def Ae0:List TOp:=[oo 57 (.mov (.tmp 6)),oo 58 (.mov (.tmp 5)),oo 59 (.mov (.tmp 0)),oo 60 (.mov (.tmp 1)),oo 61 (.bin false .add (.tmp 60) (.cst (.int .i64 1))),oo 62 (.call 0 2 (.cst (.fn 55)) [(.tmp 59),(.tmp 61)] [] [.ext 0]),ot 63 (.sl (.st 4)) (.lit false 1 [(.tmp 58),(.tmp 62)]),oo 64 (.call 0 0 (.cst (.fn 57)) [(.tmp 57),(.tmp 63)] [] []),oo 5 (.mov (.tmp 64))]
def Ae1:List TOp:=[oo 65 (.mov (.tmp 1)),oo 66 (.bin false .eql (.tmp 65) (.cst (.int .i64 4)))]
def Ae2:List TOp:=[oo 45 (.mov (.tmp 0)),oo 46 (.mov (.tmp 1)),oo 47 (.call 0 2 (.cst (.fn 92)) [(.tmp 45),(.tmp 46)] [] [.ext 0]),oo 44 (.mov (.tmp 47)),oo 48 (.ext 0 (.tmp 44)),oo 49 (.ext 1 (.tmp 44)),oo 6 (.mov (.tmp 48)),oo 7 (.mov (.tmp 49))]
def Aes:DC:=(.seq (.seq (.ops Aey) (.cond (.tmp 43) .skip (.exit 1))) (.seq (.pass 2 (.seq (.ops Aez) (.seq (.ops Ae0) (.seq (.ops Ae1) (.cond (.tmp 66) (.exit 1) .skip))))) (.ops Ae2)))
def Aeq:Kp:=⟨[],[(0,false),(1,false),(5,false),(6,false),(7,false)],[(.ext 0,false)],[],[]⟩
def Ae4:Sig:=⟨[(0,some (.ptr (.ext 0) 0)),(1,none),(5,some (.ty (.sl (.st 4)))),(6,some (.ty (.int .i64))),(7,some (.ty .bool))],[(.ext 0,(.st 3))],[(.sl (.st 4)),(.int .i64),.bool,(.st 3)],[],[]⟩
def Aer:Kp:=⟨[],[(5,false)],[(.ext 0,false)],[],[]⟩
def Ae5:Sig:=⟨[(5,some (.ty (.sl (.st 4))))],[(.ext 0,(.st 3))],[(.sl (.st 4)),(.st 3)],[],[]⟩
def Ae3:List TOp:=[oo 67 (.mov (.tmp 5)),oo 4 (.mov (.tmp 67))]
def Anu:TFd:=⟨2,[(.tmp 4,.bool)],[],(.seq (.ops Ah6) (.seq (.seq (.ops Ah7) (.cond (.tmp 11) (.free (.seq (.ops Ah8) (.keep Ck .ret))) .skip)) (.seq (.seq (.ops Ah9) (.pass 0 (.seq (.ops Aia) (.cond (.tmp 13) (.free (.seq (.seq (.ops Aib) (.cond (.tmp 16) (.free (.seq (.ops Aic) (.keep Ck .ret))) .skip)) (.seq (.ops Aid) (.keep Ck .ret)))) (.seq (.ops Aie) (.cond (.tmp 23) (.free (.seq (.seq (.ops Aet) (.cond (.tmp 26) (.free (.seq (.ops Aeu) (.keep Ck .ret))) .skip)) (.seq (.ops Aev) (.keep Ck .ret)))) .skip)))))) (.seq (.ops Aew) (.seq (.seq (.ops Aex) (.join Aer Ae5 (.block 1 (.loop [0,1,5,6,7] [] Aeq Ae4 Aes)))) (.seq (.ops Ae3) (.keep Ck .ret)))))))⟩
noncomputable def Hc(fuel:Nat):Ent:=⟨[.ptr (.ext 0) 0,.ty (.int .i64)],[.st 3],[(.int .i64),(.st 3)],⟨(.ty (.sl (.st 4))),[],[some (.st 3)],[(.sl (.st 4)),(.st 3)],[],[]⟩,none,fun p=>parse_reader_level fuel p.1 p.2⟩
def Zq:List TOp:=[oo 2 (.mov .nils)]
def Zr:List TOp:=[oo 9 (.mov (.tmp 0)),oo 10 (.call 0 2 (.cst (.fn 54)) [(.tmp 9),(.cst (.str [40]))] [] [.ext 0]),oo 8 (.mov (.tmp 10))]
def Zs:List TOp:=[oo 11 (.mov (.tmp 0)),oo 12 (.call 0 2 (.cst (.fn 30)) [(.tmp 11)] [] [.ext 0]),oo 3 (.mov (.tmp 12))]
def Zt:List TOp:=[oo 13 (.mov (.tmp 0)),ot 14 .str (.lit false 1 [(.cst (.str [41]))]),oo 15 (.call 0 2 (.cst (.fn 56)) [(.tmp 13),(.tmp 14)] [] [.ext 0])]
def Zu:List TOp:=[oo 16 (.mov (.tmp 3)),oo 2 (.mov (.tmp 16))]
def Dj:Kp:=⟨[],[(2,false)],[(.ext 0,false)],[],[]⟩
def Zv:List TOp:=[oo 18 (.mov (.tmp 0)),oo 19 (.call 0 2 (.cst (.fn 63)) [(.tmp 18),(.cst (.str [109,105,110]))] [] [.ext 0]),oo 20 (.mov (.tmp 19)),og 21 20 false .bool (.mov (.tmp 0)),og 22 20 false .bool (.call 0 2 (.cst (.fn 63)) [(.tmp 21),(.cst (.str [109,97,120]))] [] [.ext 0]),oo 23 (.pick (.tmp 20) (.cst (.bool true)) (.tmp 22)),oo 17 (.mov (.tmp 23))]
def Zw:List TOp:=[oo 4 (.mov (.cst (.int .i64 16)))]
def Zx:List TOp:=[oo 24 (.mov (.tmp 0)),oo 25 (.call 0 2 (.cst (.fn 63)) [(.tmp 24),(.cst (.str [109,97,120]))] [] [.ext 0])]
def Zy:List TOp:=[oo 4 (.mov (.cst (.int .i64 17)))]
def Uq:Kp:=⟨[],[(0,false),(4,false)],[(.ext 0,false)],[],[]⟩
def U5:Sig:=⟨[(0,some (.ptr (.ext 0) 0)),(4,some (.ty (.int .i64)))],[(.ext 0,(.box [none,none,none]))],[(.int .i64)],[],[]⟩
def Us:List TOp:=[oo 26 (.mov (.tmp 0)),oo 27 (.nchk (.tmp 26)),oo 28 (.fld 1 (.tmp 27)),oo 29 (.load false 1 (.tmp 28)),oo 30 (.bin false .add (.tmp 29) (.cst (.int .i64 1))),oo 31 (.nchk (.tmp 26)),oo 32 (.fld 1 (.tmp 31)),on (.store 1 (.tmp 32) (.tmp 30))]
def Ut:List TOp:=[oo 33 (.mov (.tmp 0)),ot 34 .str (.lit false 1 [(.cst (.str [40]))]),oo 35 (.call 0 2 (.cst (.fn 56)) [(.tmp 33),(.tmp 34)] [] [.ext 0])]
def Uu:List TOp:=[oo 36 (.mov (.tmp 0)),oo 37 (.call 0 2 (.cst (.fn 30)) [(.tmp 36)] [] [.ext 0]),oo 5 (.mov (.tmp 37))]
def Uv:List TOp:=[oo 38 (.mov (.tmp 0)),ot 39 .str (.lit false 1 [(.cst (.str [44]))]),oo 40 (.call 0 2 (.cst (.fn 56)) [(.tmp 38),(.tmp 39)] [] [.ext 0])]
def Uw:List TOp:=[oo 41 (.mov (.tmp 0)),oo 42 (.call 0 2 (.cst (.fn 30)) [(.tmp 41)] [] [.ext 0]),oo 6 (.mov (.tmp 42))]
def Ux:List TOp:=[oo 43 (.mov (.tmp 0)),ot 44 .str (.lit false 1 [(.cst (.str [41]))]),oo 45 (.call 0 2 (.cst (.fn 56)) [(.tmp 43),(.tmp 44)] [] [.ext 0])]
def Uy:List TOp:=[oo 46 (.mov (.tmp 4)),oo 47 (.mov (.tmp 5)),oo 48 (.mov (.tmp 6)),ot 49 (.sl (.st 4)) (.lit false 1 [(.tmp 47),(.tmp 48)]),oo 50 (.call 0 0 (.cst (.fn 57)) [(.tmp 46),(.tmp 49)] [] []),oo 2 (.mov (.tmp 50))]
def Uz:List TOp:=[oo 52 (.mov (.tmp 0)),oo 53 (.nchk (.tmp 52)),oo 54 (.fld 1 (.tmp 53)),oo 55 (.load false 1 (.tmp 54)),oo 56 (.mov (.tmp 0)),oo 57 (.nchk (.tmp 56)),oo 58 (.fld 0 (.tmp 57)),oo 59 (.load false 1 (.tmp 58)),oo 60 (.len false (.tmp 59)),oo 61 (.bin false .lss (.tmp 55) (.tmp 60)),oo 62 (.mov (.tmp 61)),og 63 62 true .bool (.mov (.tmp 0)),og 64 62 true .bool (.nchk (.tmp 63)),og 65 62 true .bool (.fld 0 (.tmp 64)),og 66 62 true .bool (.load false 1 (.tmp 65)),og 67 62 true .bool (.mov (.tmp 0)),og 68 62 true .bool (.nchk (.tmp 67)),og 69 62 true .bool (.fld 1 (.tmp 68)),og 70 62 true .bool (.load false 1 (.tmp 69)),og 71 62 true .bool (.idx 4 (.tmp 66) (.tmp 70)),og 72 62 true .bool (.fld 0 (.tmp 71)),og 73 62 true .bool (.load false 1 (.tmp 72)),og 74 62 true .bool (.bin false .eql (.tmp 73) (.cst (.int .i64 1))),oo 75 (.pick (.tmp 62) (.tmp 74) (.cst (.bool false))),oo 51 (.mov (.tmp 75))]
def U0:List TOp:=[oo 76 (.mov (.tmp 0)),oo 77 (.call 0 2 (.cst (.fn 61)) [(.tmp 76),(.cst (.int .i64 1)),(.cst (.bool false))] [] [.ext 0]),oo 7 (.mov (.tmp 77))]
def U1:List TOp:=[oo 78 (.mov (.tmp 0)),oo 79 (.call 0 2 (.cst (.fn 54)) [(.tmp 78),(.cst (.str [37]))] [] [.ext 0])]
def U2:List TOp:=[oo 80 (.mov (.tmp 7)),oo 81 (.bin false .add (.tmp 80) (.cst (.str [37]))),oo 7 (.mov (.tmp 81))]
def Ur:Kp:=⟨[],[(7,false)],[(.ext 0,false)],[],[]⟩
def U6:Sig:=⟨[(7,some (.ty .str))],[(.ext 0,(.box [none,none,none]))],[.str],[],[]⟩
def U3:List TOp:=[oo 82 (.mov (.tmp 7)),ot 83 (.st 4) (.build [.pv (.int .i64 0),.pv (.str [])] [(0,1,(.cst (.int .i64 0))),(1,1,(.tmp 82))]),ot 84 (.st 4) (.lit false 2 [(.tmp 83)]),oo 2 (.mov (.tmp 84))]
def U4:List TOp:=[oo 85 (.mov (.tmp 0)),oo 86 (.call 0 2 (.cst (.fn 61)) [(.tmp 85),(.cst (.int .i64 0)),(.cst (.bool false))] [] [.ext 0]),ot 87 (.st 4) (.build [.pv (.int .i64 0),.pv (.str [])] [(0,1,(.cst (.int .i64 1))),(1,1,(.tmp 86))]),ot 88 (.st 4) (.lit false 2 [(.tmp 87)]),oo 2 (.mov (.tmp 88))]
def Aif:TFd:=⟨1,[(.tmp 2,.bool)],[],(.seq (.ops Zq) (.seq (.pass 0 (.seq (.ops Zr) (.cond (.tmp 8) (.free (.seq (.ops Zs) (.seq (.ops Zt) (.seq (.ops Zu) (.keep Dj .ret))))) (.seq (.ops Zv) (.cond (.tmp 17) (.free (.seq (.ops Zw) (.seq (.seq (.ops Zx) (.join Uq U5 (.cond (.tmp 25) (.ops Zy) .skip))) (.seq (.ops Us) (.seq (.ops Ut) (.seq (.ops Uu) (.seq (.ops Uv) (.seq (.ops Uw) (.seq (.ops Ux) (.seq (.ops Uy) (.keep Dj .ret))))))))))) (.seq (.draw [] Uz) (.cond (.tmp 51) (.free (.seq (.ops U0) (.seq (.seq (.ops U1) (.join Ur U6 (.cond (.tmp 79) (.ops U2) .skip))) (.seq (.ops U3) (.keep Dj .ret))))) .skip))))))) (.seq (.ops U4) (.keep Dj .ret))))⟩
noncomputable def Jr(fuel:Nat):Ent:=⟨[.ptr (.ext 0) 0],[.st 3],[(.st 3)],⟨(.ty (.sl (.st 4))),[],[some (.st 3)],[(.sl (.st 4)),(.st 3)],[],[]⟩,none,fun p=>parse_reader_primary fuel p⟩
theorem Bt: ∀fuel:Nat,(C6 fuel).ok Tryz.prog 30∧(Hc fuel).ok Tryz.prog 55∧(Jr fuel).ok Tryz.prog 91
 |0=>⟨(fun p r h=>(by have h:none=some r:=h;cases h)),(fun p r h=>(by have h:none=some r:=h;cases h)),(fun p r h=>(by have h:none=some r:=h;cases h))⟩
 |fuel+1=>⟨
  Ar hm Tryz.func30 (fd:=Ar7) (by kernel_rfl) (Ah (l:=[(54,Du),(55,(Hc fuel)),(30,(C6 fuel)),(56,Dt),(57,Oy)]) (y:=[]) ⟨E1,(Bt fuel).2.1,(Bt fuel).1,E0,Ts,trivial⟩ trivial) (by kernel_rfl) (fun p=>by kernel_rfl),
  Ar hm Tryz.func55 (fd:=Anu) (by kernel_rfl) (Ah (l:=[(54,Du),(55,(Hc fuel)),(57,Oy),(91,(Jr fuel)),(92,Jq)]) (y:=[]) ⟨E1,(Bt fuel).2.1,Ts,(Bt fuel).2.2,Wl,trivial⟩ trivial) (by kernel_rfl) (fun p=>by kernel_rfl),
  Ar hm Tryz.func91 (fd:=Aif) (by kernel_rfl) (Ah (l:=[(54,Du),(30,(C6 fuel)),(56,Dt),(63,Gz),(57,Oy),(61,Fi)]) (y:=[]) ⟨E1,(Bt fuel).1,E0,Ih,Ts,Hd,trivial⟩ trivial) (by kernel_rfl) (fun p=>by kernel_rfl)⟩
theorem Og(fuel:Nat):(C6 fuel).ok Tryz.prog 30:=(Bt fuel).1
def A89:List TOp:=[oo 2 (.mov (.cst (.int .i64 0)))]
def A9a:List TOp:=[oo 4 (.mov (.tmp 0)),oo 5 (.bin false .lss (.tmp 4) (.cst (.int .i64 0))),oo 6 (.mov (.tmp 5)),og 7 6 false .bool (.mov (.tmp 0)),og 8 6 false .bool (.bin false .gtr (.tmp 7) (.cst (.int .i64 17))),oo 9 (.pick (.tmp 6) (.cst (.bool true)) (.tmp 8)),oo 3 (.mov (.tmp 9))]
def A9b:List TOp:=[oo 2 (.mov (.cst (.int .i64 (-1))))]
def Jz:Kp:=⟨[],[(2,false)],[],[],[]⟩
def A9c:List TOp:=[oo 11 (.mov (.tmp 0)),oo 12 (.bin false .leq (.tmp 11) (.cst (.int .i64 1))),oo 10 (.mov (.tmp 12))]
def A9d:List TOp:=[oo 2 (.mov (.cst (.int .i64 0)))]
def A9e:List TOp:=[oo 14 (.mov (.tmp 0)),oo 15 (.bin false .eql (.tmp 14) (.cst (.int .i64 2))),oo 16 (.mov (.tmp 15)),og 17 16 false .bool (.mov (.tmp 0)),og 18 16 false .bool (.bin false .eql (.tmp 17) (.cst (.int .i64 14))),oo 19 (.pick (.tmp 16) (.cst (.bool true)) (.tmp 18)),oo 13 (.mov (.tmp 19))]
def A9f:List TOp:=[oo 2 (.mov (.cst (.int .i64 1)))]
def A9g:List TOp:=[oo 21 (.mov (.tmp 0)),oo 22 (.bin false .eql (.tmp 21) (.cst (.int .i64 15))),oo 20 (.mov (.tmp 22))]
def A9h:List TOp:=[oo 2 (.mov (.cst (.int .i64 3)))]
def A3c:List TOp:=[oo 2 (.mov (.cst (.int .i64 2)))]
def Bhs:TFd:=⟨1,[(.tmp 2,.bool)],[],(.seq (.ops A89) (.seq (.pass 0 (.seq (.ops A9a) (.cond (.tmp 3) (.free (.seq (.ops A9b) (.keep Jz .ret))) (.seq (.ops A9c) (.cond (.tmp 10) (.free (.seq (.ops A9d) (.keep Jz .ret))) (.seq (.ops A9e) (.cond (.tmp 13) (.free (.seq (.ops A9f) (.keep Jz .ret))) (.seq (.ops A9g) (.cond (.tmp 20) (.free (.seq (.ops A9h) (.keep Jz .ret))) .skip))))))))) (.seq (.ops A3c) (.keep Jz .ret))))⟩
def Ajn:Ent:=⟨[.ty (.int .i64)],[],[(.int .i64)],⟨(.ty (.int .i64)),[],[],[(.int .i64)],[],[]⟩,none,fun p=>Lf p⟩
theorem Aro:Ajn.ok Tryz.prog 68:=Ar hm Tryz.func68 (fd:=Bhs) (by kernel_rfl) (Ah (l:=[]) (y:=[]) trivial trivial) (by kernel_rfl) (fun p=>by kernel_rfl)
def Vx:List TOp:=[oo 4 (.mov (.cst (.bool false)))]
def Vy:List TOp:=[oo 5 (.mov (.tmp 0)),oo 6 (.len true (.tmp 5)),oo 7 (.mov (.tmp 1)),oo 8 (.len true (.tmp 7)),oo 9 (.bin false .geq (.tmp 6) (.tmp 8)),oo 10 (.mov (.tmp 9)),og 11 10 true .bool (.mov (.tmp 0)),og 12 10 true .bool (.mov (.tmp 0)),og 13 10 true .bool (.len true (.tmp 12)),og 14 10 true .bool (.mov (.tmp 1)),og 15 10 true .bool (.len true (.tmp 14)),og 16 10 true .bool (.bin false .sub (.tmp 13) (.tmp 15)),og 17 10 true .bool (.slc true 0 (.tmp 11) (some (.tmp 16)) none),og 18 10 true .bool (.mov (.tmp 1)),og 19 10 true .bool (.bin false .eql (.tmp 17) (.tmp 18)),oo 20 (.pick (.tmp 10) (.tmp 19) (.cst (.bool false))),oo 4 (.mov (.tmp 20))]
def Vw:Kp:=⟨[],[(4,false)],[],[],[]⟩
def Ae7:TFd:=⟨2,[(.tmp 4,.bool)],[],(.seq (.ops Vx) (.seq (.ops Vy) (.keep Vw .ret)))⟩
def Fw:Ent:=⟨[.ty .str,.ty .str],[],[.str,.str],⟨(.ty .bool),[],[],[.bool],[],[]⟩,none,fun p=>stringslite_HasSuffix p.1 p.2⟩
theorem H6:Fw.ok Tryz.prog 140:=Ar hm Tryz.func140 (fd:=Ae7) (by kernel_rfl) (Ah (l:=[]) (y:=[]) trivial trivial) (by kernel_rfl) (fun p=>by kernel_rfl)
def So:List TOp:=[oo 4 (.mov (.cst (.str [])))]
def Sp:List TOp:=[oo 5 (.mov (.tmp 0)),oo 6 (.mov (.tmp 1)),oo 7 (.call 0 0 (.cst (.fn 140)) [(.tmp 5),(.tmp 6)] [] [])]
def Sq:List TOp:=[oo 8 (.mov (.tmp 0)),oo 9 (.mov (.tmp 0)),oo 10 (.len true (.tmp 9)),oo 11 (.mov (.tmp 1)),oo 12 (.len true (.tmp 11)),oo 13 (.bin false .sub (.tmp 10) (.tmp 12)),oo 14 (.slc true 0 (.tmp 8) none (some (.tmp 13))),oo 4 (.mov (.tmp 14))]
def Hp:Kp:=⟨[],[(4,false)],[],[],[]⟩
def Sr:List TOp:=[oo 15 (.mov (.tmp 0)),oo 4 (.mov (.tmp 15))]
def Aac:TFd:=⟨2,[(.tmp 4,.bool)],[],(.seq (.ops So) (.seq (.seq (.ops Sp) (.cond (.tmp 7) (.free (.seq (.ops Sq) (.keep Hp .ret))) .skip)) (.seq (.ops Sr) (.keep Hp .ret))))⟩
def H7:Ent:=⟨[.ty .str,.ty .str],[],[.str,.str],⟨(.ty .str),[],[],[.str],[],[]⟩,none,fun p=>stringslite_TrimSuffix p.1 p.2⟩
theorem Sv:H7.ok Tryz.prog 120:=Ar hm Tryz.func120 (fd:=Aac) (by kernel_rfl) (Ah (l:=[(140,Fw)]) (y:=[]) ⟨H6,trivial⟩ trivial) (by kernel_rfl) (fun p=>by kernel_rfl)
def Aii:List TOp:=[oo 4 (.mov (.cst (.str [])))]
def Aij:List TOp:=[oo 5 (.mov (.tmp 0)),oo 6 (.mov (.tmp 1)),oo 7 (.call 0 0 (.cst (.fn 120)) [(.tmp 5),(.tmp 6)] [] []),oo 4 (.mov (.tmp 7))]
def Aih:Kp:=⟨[],[(4,false)],[],[],[]⟩
def Anv:TFd:=⟨2,[(.tmp 4,.bool)],[],(.seq (.ops Aii) (.seq (.ops Aij) (.keep Aih .ret)))⟩
def N0:Ent:=⟨[.ty .str,.ty .str],[],[.str,.str],⟨(.ty .str),[],[],[.str],[],[]⟩,none,fun p=>strings_TrimSuffix p.1 p.2⟩
theorem Ain:N0.ok Tryz.prog 106:=Ar hm Tryz.func106 (fd:=Anv) (by kernel_rfl) (Ah (l:=[(120,H7)]) (y:=[]) ⟨Sv,trivial⟩ trivial) (by kernel_rfl) (fun p=>by kernel_rfl)
def A7t:List TOp:=[oo 1 (.box (.tmp 0)),oo 2 (.mov (.cst (.bool false)))]
def A7u:List TOp:=[oo 6 (.fld 3 (.tmp 1)),oo 7 (.load false 1 (.tmp 6)),oo 8 (.bin false .eql (.tmp 7) (.cst (.str [])))]
def A7v:List TOp:=[oo 2 (.mov (.cst (.bool false)))]
def Aru:Kp:=⟨[],[(2,false)],[],[],[]⟩
def A7w:List TOp:=[oo 10 (.fld 3 (.tmp 1)),oo 11 (.load false 1 (.tmp 10)),oo 12 (.call 0 0 (.cst (.fn 89)) [(.tmp 11)] [] []),oo 9 (.mov (.tmp 12)),oo 13 (.ext 0 (.tmp 9)),oo 14 (.ext 1 (.tmp 9)),oo 15 (.ext 2 (.tmp 9)),oo 3 (.mov (.tmp 13)),oo 4 (.mov (.tmp 14)),oo 5 (.mov (.tmp 15))]
def A7x:List TOp:=[oo 16 (.mov (.tmp 5)),oo 17 (.bin false .eql (.tmp 16) (.cst (.int .i64 0))),oo 18 (.mov (.tmp 17)),og 19 18 true .bool (.mov (.tmp 3)),og 20 18 true .bool (.fld 0 (.tmp 1)),og 21 18 true .bool (.load false 1 (.tmp 20)),og 22 18 true .bool (.bin false .eql (.tmp 19) (.tmp 21)),oo 23 (.pick (.tmp 18) (.tmp 22) (.cst (.bool false))),oo 24 (.mov (.tmp 23)),og 25 24 true .bool (.mov (.tmp 4)),og 26 24 true .bool (.fld 3 (.tmp 1)),og 27 24 true .bool (.load false 1 (.tmp 26)),og 28 24 true .bool (.len true (.tmp 27)),og 29 24 true .bool (.bin false .eql (.tmp 25) (.tmp 28)),oo 30 (.pick (.tmp 24) (.tmp 29) (.cst (.bool false))),oo 2 (.mov (.tmp 30))]
def Bhf:TFd:=⟨1,[(.tmp 2,.bool)],[],(.seq (.ops A7t) (.seq (.seq (.ops A7u) (.cond (.tmp 8) (.free (.seq (.ops A7v) (.keep Aru .ret))) .skip)) (.seq (.ops A7w) (.seq (.ops A7x) (.keep Aru .ret)))))⟩
noncomputable def Ai9:Ent:=⟨[.ty (.st 2)],[],[(.st 2)],⟨(.ty .bool),[],[],[.bool],[],[]⟩,none,fun p=>Wd p⟩
theorem Ard:Ai9.ok Tryz.prog 103:=Ar hm Tryz.func103 (fd:=Bhf) (by kernel_rfl) (Ah (l:=[(89,Apg)]) (y:=[]) ⟨Aup,trivial⟩ trivial) (by kernel_rfl) (fun p=>by kernel_rfl)
def Avj:List TOp:=[oo 2 (.mov (.cst (.bool false)))]
def Avk:List TOp:=[oo 3 (.mov (.tmp 0)),ot 4 (.st 2) (.build [.pv (.int .i64 0),.pv (.int .i64 0),.pv (.int .i64 0),.pv (.str [])] [(0,1,(.cst (.int .i64 1))),(3,1,(.tmp 3))]),oo 5 (.call 0 0 (.cst (.fn 103)) [(.tmp 4)] [] []),oo 2 (.mov (.tmp 5))]
def Avi:Kp:=⟨[],[(2,false)],[],[],[]⟩
def A3z:TFd:=⟨1,[(.tmp 2,.bool)],[],(.seq (.ops Avj) (.seq (.ops Avk) (.keep Avi .ret)))⟩
noncomputable def Jp:Ent:=⟨[.ty .str],[],[.str],⟨(.ty .bool),[],[],[.bool],[],[]⟩,none,fun p=>Ez p⟩
theorem N7:Jp.ok Tryz.prog 75:=Ar hm Tryz.func75 (fd:=A3z) (by kernel_rfl) (Ah (l:=[(103,Ai9)]) (y:=[]) ⟨Ard,trivial⟩ trivial) (by kernel_rfl) (fun p=>by kernel_rfl)
def A4a:List TOp:=[oo 4 (.mov (.cst (.bool false)))]
def A4b:List TOp:=[oo 5 (.mov (.tmp 0)),ot 6 (.st 2) (.build [.pv (.int .i64 0),.pv (.int .i64 0),.pv (.int .i64 0),.pv (.str [])] [(0,1,(.cst (.int .i64 0))),(3,1,(.tmp 5))]),oo 7 (.call 0 0 (.cst (.fn 103)) [(.tmp 6)] [] []),oo 8 (.mov (.tmp 7)),og 9 8 true .bool (.mov (.tmp 0)),og 10 8 true .bool (.mov (.tmp 1)),og 11 8 true .bool (.call 0 0 (.cst (.fn 96)) [(.tmp 9),(.tmp 10)] [] []),og 12 8 true .bool (.un .not (.tmp 11)),oo 13 (.pick (.tmp 8) (.tmp 12) (.cst (.bool false))),oo 4 (.mov (.tmp 13))]
def A39:Kp:=⟨[],[(4,false)],[],[],[]⟩
def Bdw:TFd:=⟨2,[(.tmp 4,.bool)],[],(.seq (.ops A4a) (.seq (.ops A4b) (.keep A39 .ret)))⟩
noncomputable def Abg:Ent:=⟨[.ty .str,.ty .bool],[],[.str,.bool],⟨(.ty .bool),[],[],[.bool],[],[]⟩,none,fun p=>Lg p.1 p.2⟩
theorem Aon:Abg.ok Tryz.prog 74:=Ar hm Tryz.func74 (fd:=Bdw) (by kernel_rfl) (Ah (l:=[(103,Ai9),(96,Ajo)]) (y:=[]) ⟨Ard,Arq,trivial⟩ trivial) (by kernel_rfl) (fun p=>by kernel_rfl)
def A3d:List TOp:=[oo 1 (.box (.tmp 0)),oo 2 (.mov (.cst (.bool false)))]
def A3e:List TOp:=[oo 3 (.fld 0 (.tmp 1)),oo 4 (.load false 1 (.tmp 3))]
def A3f:List TOp:=[oo 6 (.bin false .eql (.tmp 4) (.cst (.int .i64 0))),oo 5 (.mov (.tmp 6))]
def A3g:List TOp:=[oo 7 (.fld 1 (.tmp 1)),oo 8 (.load false 1 (.tmp 7)),oo 9 (.call 0 0 (.cst (.fn 106)) [(.tmp 8),(.cst (.str [37]))] [] []),oo 10 (.call 0 0 (.cst (.fn 75)) [(.tmp 9)] [] []),oo 2 (.mov (.tmp 10))]
def Uo:Kp:=⟨[],[(2,false)],[],[],[]⟩
def A3h:List TOp:=[oo 12 (.bin false .eql (.tmp 4) (.cst (.int .i64 1))),oo 11 (.mov (.tmp 12))]
def A3i:List TOp:=[oo 13 (.fld 1 (.tmp 1)),oo 14 (.load false 1 (.tmp 13)),oo 15 (.call 0 0 (.cst (.fn 74)) [(.tmp 14),(.cst (.bool false))] [] []),oo 2 (.mov (.tmp 15))]
def A3j:List TOp:=[oo 16 (.fld 1 (.tmp 1)),oo 17 (.load false 1 (.tmp 16)),oo 18 (.bin false .eql (.tmp 17) (.cst (.str []))),oo 2 (.mov (.tmp 18))]
def Bdt:TFd:=⟨1,[(.tmp 2,.bool)],[],(.seq (.ops A3d) (.seq (.seq (.ops A3e) (.pass 0 (.seq (.ops A3f) (.cond (.tmp 5) (.free (.seq (.ops A3g) (.keep Uo .ret))) (.seq (.ops A3h) (.cond (.tmp 11) (.free (.seq (.ops A3i) (.keep Uo .ret))) .skip)))))) (.seq (.ops A3j) (.keep Uo .ret))))⟩
noncomputable def Arp:Ent:=⟨[.ty (.st 4)],[],[(.st 4)],⟨(.ty .bool),[],[],[.bool],[],[]⟩,none,fun p=>Abd p⟩
theorem A15:Arp.ok Tryz.prog 81:=Ar hm Tryz.func81 (fd:=Bdt) (by kernel_rfl) (Ah (l:=[(106,N0),(75,Jp),(74,Abg)]) (y:=[]) ⟨Ain,N7,Aon,trivial⟩ trivial) (by kernel_rfl) (fun p=>by kernel_rfl)
def A30:List TOp:=[oo 2 (.mov .nils),oo 3 (.mov (.cst (.int .i64 0)))]
def A31:List TOp:=[oo 8 (.mov (.tmp 0)),oo 9 (.len false (.tmp 8)),oo 10 (.bin false .eql (.tmp 9) (.cst (.int .i64 0))),oo 11 (.mov (.tmp 10)),og 12 11 false .bool (.mov (.tmp 0)),og 13 11 false .bool (.idx 2 (.tmp 12) (.cst (.int .i64 0))),og 14 11 false .bool (.fld 0 (.tmp 13)),og 15 11 false .bool (.load false 1 (.tmp 14)),og 16 11 false .bool (.call 0 0 (.cst (.fn 68)) [(.tmp 15)] [] []),og 17 11 false .bool (.bin false .lss (.tmp 16) (.cst (.int .i64 0))),oo 18 (.pick (.tmp 11) (.cst (.bool true)) (.tmp 17)),oo 19 (.mov (.tmp 18)),og 20 19 false .bool (.mov (.tmp 0)),og 21 19 false .bool (.idx 2 (.tmp 20) (.cst (.int .i64 0))),og 22 19 false (.st 4) (.load true 2 (.tmp 21)),og 23 19 false .bool (.call 0 0 (.cst (.fn 81)) [(.tmp 22)] [] []),og 24 19 false .bool (.un .not (.tmp 23)),oo 25 (.pick (.tmp 19) (.cst (.bool true)) (.tmp 24))]
def A32:List TOp:=[oo 2 (.mov .nils),oo 3 (.mov (.cst (.int .i64 0)))]
def Vq:Kp:=⟨[],[(2,true),(3,false)],[],[],[]⟩
def A33:List TOp:=[oo 26 (.mov (.tmp 0)),ot 27 (.st 4) (.slc false 2 (.tmp 26) (some (.cst (.int .i64 1))) none),oo 4 (.mov (.tmp 27)),oo 5 (.mov (.cst (.int .i64 0)))]
def A34:List TOp:=[oo 28 (.mov (.tmp 0)),oo 29 (.idx 2 (.tmp 28) (.cst (.int .i64 0))),oo 30 (.fld 0 (.tmp 29)),oo 31 (.load false 1 (.tmp 30)),oo 32 (.call 0 0 (.cst (.fn 68)) [(.tmp 31)] [] []),oo 33 (.mov (.cst (.int .i64 0)))]
def A35:List TOp:=[oo 34 (.bin false .lss (.tmp 33) (.tmp 32))]
def A36:List TOp:=[oo 36 (.mov (.tmp 4)),oo 37 (.call 0 0 (.cst (.fn 46)) [(.tmp 36)] [] []),oo 35 (.mov (.tmp 37)),oo 38 (.ext 0 (.tmp 35)),oo 39 (.ext 1 (.tmp 35)),oo 6 (.mov (.tmp 38)),oo 7 (.mov (.tmp 39))]
def A37:List TOp:=[oo 40 (.mov (.tmp 7)),oo 41 (.bin false .eql (.tmp 40) (.cst (.int .i64 0)))]
def A38:List TOp:=[oo 2 (.mov .nils),oo 3 (.mov (.cst (.int .i64 0)))]
def A0d:List TOp:=[oo 42 (.mov (.tmp 6)),oo 43 (.mov (.tmp 5)),oo 44 (.mov (.tmp 7)),oo 45 (.mm true (.tmp 43) [(.tmp 44)]),oo 4 (.mov (.tmp 42)),oo 5 (.mov (.tmp 45))]
def A0e:List TOp:=[oo 46 (.bin false .add (.tmp 33) (.cst (.int .i64 1))),oo 33 (.mov (.tmp 46))]
def A0c:DC:=(.seq (.ops A35) (.seq (.cond (.tmp 34) .skip (.exit 0)) (.seq (.pass 1 (.seq (.ops A36) (.seq (.seq (.ops A37) (.cond (.tmp 41) (.free (.seq (.ops A38) (.keep Vq .ret))) .skip)) (.ops A0d)))) (.ops A0e))))
def A0a:Kp:=⟨[],[(4,false),(5,false),(32,false),(33,false)],[],[],[]⟩
def A0g:Sig:=⟨[(4,some (.ty (.sl (.st 4)))),(5,some (.ty (.int .i64))),(32,none),(33,some (.ty (.int .i64)))],[],[(.sl (.st 4)),(.int .i64),(.int .i64)],[],[]⟩
def A0b:Kp:=⟨[],[(4,false),(5,false)],[],[],[]⟩
def A0h:Sig:=⟨[(4,some (.ty (.sl (.st 4)))),(5,some (.ty (.int .i64)))],[],[(.sl (.st 4)),(.int .i64)],[],[]⟩
def A0f:List TOp:=[oo 47 (.mov (.tmp 4)),oo 48 (.mov (.tmp 5)),oo 49 (.bin false .add (.tmp 48) (.cst (.int .i64 1))),oo 2 (.mov (.tmp 47)),oo 3 (.mov (.tmp 49))]
def Bdv:TFd:=⟨1,[(.tmp 2,.bool),(.tmp 3,.bool)],[],(.seq (.ops A30) (.seq (.seq (.ops A31) (.cond (.tmp 25) (.free (.seq (.ops A32) (.keep Vq .ret))) .skip)) (.seq (.ops A33) (.seq (.seq (.ops A34) (.joinO A0b A0h (.block 0 (.loop [4,5,32,33] [] A0a A0g A0c)))) (.seq (.ops A0f) (.keep Vq .ret))))))⟩
noncomputable def Abf(fuel:Nat):Ent:=⟨[.ty (.sl (.st 4))],[],[(.sl (.st 4))],⟨(.tup [(.ty (.sl (.st 4))),(.ty (.int .i64))]),[],[],[(.sl (.st 4)),(.int .i64)],[],[]⟩,none,fun p=>Ii fuel p⟩
theorem Aom: ∀fuel:Nat,(Abf fuel).ok Tryz.prog 46
 |0=>fun p r h=>by have h:none=some r:=h;cases h
 |fuel+1=>Ar hm Tryz.func46 (fd:=Bdv) (by kernel_rfl) (Ah (l:=[(68,Ajn),(81,Arp),(46,(Abf fuel))]) (y:=[]) ⟨Aro,A15,(Aom fuel),trivial⟩ trivial) (by kernel_rfl) (fun p=>by kernel_rfl)
def Ay7:List TOp:=[oo 2 (.mov (.cst (.int .i64 0)))]
def Ay8:List TOp:=[oo 5 (.mov (.tmp 0)),oo 6 (.len false (.tmp 5)),oo 7 (.bin false .gtr (.tmp 6) (.cst (.int .i64 200)))]
def Ay9:List TOp:=[oo 2 (.mov (.cst (.int .i64 0)))]
def Qo:Kp:=⟨[],[(2,false)],[],[],[]⟩
def Aza:List TOp:=[oo 9 (.mov (.tmp 0)),oo 10 (.call 0 0 (.cst (.fn 46)) [(.tmp 9)] [] []),oo 8 (.mov (.tmp 10)),oo 11 (.ext 0 (.tmp 8)),oo 12 (.ext 1 (.tmp 8)),oo 3 (.mov (.tmp 11)),oo 4 (.mov (.tmp 12))]
def Azb:List TOp:=[oo 13 (.mov (.tmp 3)),oo 14 (.len false (.tmp 13)),oo 15 (.bin false .gtr (.tmp 14) (.cst (.int .i64 0))),oo 16 (.mov (.tmp 15)),og 17 16 false .bool (.mov (.tmp 4)),og 18 16 false .bool (.bin false .gtr (.tmp 17) (.cst (.int .i64 24))),oo 19 (.pick (.tmp 16) (.cst (.bool true)) (.tmp 18))]
def Azc:List TOp:=[oo 2 (.mov (.cst (.int .i64 0)))]
def Azd:List TOp:=[oo 20 (.mov (.tmp 4)),oo 2 (.mov (.tmp 20))]
def A85:TFd:=⟨1,[(.tmp 2,.bool)],[],(.seq (.ops Ay7) (.seq (.seq (.ops Ay8) (.cond (.tmp 7) (.free (.seq (.ops Ay9) (.keep Qo .ret))) .skip)) (.seq (.ops Aza) (.seq (.seq (.ops Azb) (.cond (.tmp 19) (.free (.seq (.ops Azc) (.keep Qo .ret))) .skip)) (.seq (.ops Azd) (.keep Qo .ret))))))⟩
noncomputable def Tq:Ent:=⟨[.ty (.sl (.st 4))],[],[(.sl (.st 4))],⟨(.ty (.int .i64)),[],[],[(.int .i64)],[],[]⟩,none,fun p=>Mw p⟩
theorem Ajl:Tq.ok Tryz.prog 21:=Ar hm Tryz.func21 (fd:=A85) (by kernel_rfl) (Ah (l:=[(46,(Abf 100000))]) (y:=[]) ⟨(Aom 100000),trivial⟩ trivial) (by kernel_rfl) (fun p=>by kernel_rfl)
def Azk:List TOp:=[oo 2 (.mov (.cst (.bool false)))]
def Azl:List TOp:=[oo 3 (.mov (.tmp 0)),oo 4 (.call 0 0 (.cst (.fn 21)) [(.tmp 3)] [] []),oo 5 (.bin false .gtr (.tmp 4) (.cst (.int .i64 0))),oo 2 (.mov (.tmp 5))]
def Azj:Kp:=⟨[],[(2,false)],[],[],[]⟩
def A87:TFd:=⟨1,[(.tmp 2,.bool)],[],(.seq (.ops Azk) (.seq (.ops Azl) (.keep Azj .ret)))⟩
noncomputable def Gn:Ent:=⟨[.ty (.sl (.st 4))],[],[(.sl (.st 4))],⟨(.ty .bool),[],[],[.bool],[],[]⟩,none,fun p=>D4 p⟩
theorem Hb:Gn.ok Tryz.prog 23:=Ar hm Tryz.func23 (fd:=A87) (by kernel_rfl) (Ah (l:=[(21,Tq)]) (y:=[]) ⟨Ajl,trivial⟩ trivial) (by kernel_rfl) (fun p=>by kernel_rfl)
def Anl:List TOp:=[oo 6 (.mov (.cst (.int .i64 0))),oo 7 (.mov (.cst (.int .i64 0))),oo 8 (.mov (.cst (.int .i64 0)))]
def Anm:List TOp:=[oo 13 (.mov (.tmp 0)),oo 14 (.nchk (.tmp 13)),oo 15 (.fld 1 (.tmp 14)),oo 16 (.load false 1 (.tmp 15)),oo 17 (.mov (.tmp 0)),oo 18 (.nchk (.tmp 17)),oo 19 (.fld 0 (.tmp 18)),oo 20 (.load false 1 (.tmp 19)),oo 21 (.len false (.tmp 20)),oo 22 (.bin false .lss (.tmp 16) (.tmp 21)),oo 12 (.mov (.tmp 22))]
def Ann:List TOp:=[oo 23 (.mov (.tmp 0)),oo 24 (.nchk (.tmp 23)),oo 25 (.fld 0 (.tmp 24)),oo 26 (.load false 1 (.tmp 25)),oo 27 (.mov (.tmp 0)),oo 28 (.nchk (.tmp 27)),oo 29 (.fld 1 (.tmp 28)),oo 30 (.load false 1 (.tmp 29)),oo 31 (.idx 4 (.tmp 26) (.tmp 30)),oo 32 (.fld 1 (.tmp 31)),oo 33 (.load false 1 (.tmp 32)),oo 34 (.mov (.tmp 0)),oo 35 (.nchk (.tmp 34)),oo 36 (.fld 0 (.tmp 35)),oo 37 (.load false 1 (.tmp 36)),oo 38 (.mov (.tmp 0)),oo 39 (.nchk (.tmp 38)),oo 40 (.fld 1 (.tmp 39)),oo 41 (.load false 1 (.tmp 40)),oo 42 (.idx 4 (.tmp 37) (.tmp 41)),oo 43 (.fld 2 (.tmp 42)),oo 44 (.load false 1 (.tmp 43)),oo 6 (.mov (.tmp 33)),oo 7 (.mov (.tmp 44)),oo 8 (.mov (.cst (.int .i64 14)))]
def Fj:Kp:=⟨[],[(6,false),(7,false),(8,false)],[(.ext 0,false)],[],[]⟩
def Ano:List TOp:=[oo 46 (.mov (.tmp 0)),oo 47 (.nchk (.tmp 46)),oo 48 (.fld 2 (.tmp 47)),oo 49 (.load false 1 (.tmp 48)),oo 45 (.mov (.tmp 49))]
def Anp:List TOp:=[oo 51 (.mov (.tmp 1)),oo 52 (.mov (.tmp 1)),oo 53 (.len true (.tmp 52)),oo 54 (.call 0 0 (.cst (.fn 53)) [(.tmp 51),(.tmp 53)] [] []),oo 50 (.mov (.tmp 54)),oo 55 (.ext 0 (.tmp 50)),oo 56 (.ext 1 (.tmp 50)),oo 57 (.ext 2 (.tmp 50)),oo 9 (.mov (.tmp 55)),oo 10 (.mov (.tmp 56)),oo 11 (.mov (.tmp 57))]
def Anq:List TOp:=[oo 58 (.mov (.tmp 9)),oo 59 (.mov (.tmp 10)),oo 6 (.mov (.tmp 58)),oo 7 (.mov (.tmp 59)),oo 8 (.mov (.cst (.int .i64 14)))]
def Anr:List TOp:=[oo 61 (.mov (.tmp 2)),oo 62 (.un .not (.tmp 61)),oo 60 (.mov (.tmp 62))]
def Ans:List TOp:=[oo 6 (.mov (.cst (.int .i64 1))),oo 7 (.mov (.cst (.int .i64 1))),oo 8 (.mov (.cst (.int .i64 4)))]
def Ant:List TOp:=[oo 6 (.mov (.cst (.int .i64 0))),oo 7 (.mov (.cst (.int .i64 0))),oo 8 (.mov (.cst (.int .i64 0)))]
def Ar8:TFd:=⟨3,[(.tmp 6,.bool),(.tmp 7,.bool),(.tmp 8,.bool)],[],(.seq (.ops Anl) (.seq (.pass 0 (.seq (.draw [] Anm) (.cond (.tmp 12) (.free (.seq (.draw [] Ann) (.keep Fj .ret))) (.seq (.ops Ano) (.cond (.tmp 45) (.free (.seq (.ops Anp) (.seq (.ops Anq) (.keep Fj .ret)))) (.seq (.ops Anr) (.cond (.tmp 60) (.free (.seq (.ops Ans) (.keep Fj .ret))) .skip))))))) (.seq (.ops Ant) (.keep Fj .ret))))⟩
def Ig:Ent:=⟨[.ptr (.ext 0) 0,.ty .str,.ty .bool],[.st 3],[.str,.bool,(.st 3)],⟨(.tup [(.ty (.int .i64)),(.ty (.int .i64)),(.ty (.int .i64))]),[],[some .same],[(.int .i64),(.int .i64),(.int .i64)],[],[]⟩,none,fun p=>Fq p.1 p.2.1 p.2.2⟩
theorem Oh:Ig.ok Tryz.prog 31:=Ar hm Tryz.func31 (fd:=Ar8) (by kernel_rfl) (Ah (l:=[(53,Ai8)]) (y:=[]) ⟨Arc,trivial⟩ trivial) (by kernel_rfl) (fun p=>by kernel_rfl)
def A23:List TOp:=[oo 2 (.mov .nils),oo 3 (.mov (.cst (.int .i64 0))),oo 4 (.mov (.cst (.int .i64 0))),oo 5 (.mov (.cst (.int .i64 0)))]
def A24:List TOp:=[oo 15 (.mov (.tmp 0)),oo 16 (.call 1 0 (.cst (.fn 29)) [(.tmp 15)] [] []),oo 14 (.mov (.tmp 16)),oo 17 (.ext 0 (.tmp 14)),oo 18 (.ext 1 (.tmp 14)),oo 19 (.ext 2 (.tmp 14)),oo 20 (.ext 3 (.tmp 14)),oo 6 (.mov (.tmp 17)),oo 7 (.mov (.tmp 18)),oo 8 (.mov (.tmp 19)),oo 9 (.mov (.tmp 20))]
def A25:List TOp:=[oo 21 (.mov (.tmp 9)),oo 22 (.bin false .neq (.tmp 21) (.cst (.int .i64 0)))]
def A26:List TOp:=[oo 23 (.mov (.tmp 7)),oo 24 (.mov (.tmp 8)),oo 25 (.mov (.tmp 9)),oo 2 (.mov .nils),oo 3 (.mov (.tmp 23)),oo 4 (.mov (.tmp 24)),oo 5 (.mov (.tmp 25))]
def Un:Kp:=⟨[],[(2,true),(3,false),(4,false),(5,false)],[],[],[]⟩
def A27:List TOp:=[oo 26 (.mov (.tmp 6)),oo 27 (.call 0 2 (.cst (.fn 30)) [(.tmp 26)] [] [.loc 16 0]),oo 10 (.mov (.tmp 27))]
def A28:List TOp:=[oo 29 (.mov (.tmp 6)),oo 30 (.mov (.tmp 0)),oo 31 (.mov (.tmp 10)),oo 32 (.call 0 0 (.cst (.fn 23)) [(.tmp 31)] [] []),oo 33 (.call 0 2 (.cst (.fn 31)) [(.tmp 29),(.tmp 30),(.tmp 32)] [] [.loc 16 0]),oo 28 (.mov (.tmp 33)),oo 34 (.ext 0 (.tmp 28)),oo 35 (.ext 1 (.tmp 28)),oo 36 (.ext 2 (.tmp 28)),oo 11 (.mov (.tmp 34)),oo 12 (.mov (.tmp 35)),oo 13 (.mov (.tmp 36))]
def A29:List TOp:=[oo 37 (.mov (.tmp 13)),oo 38 (.bin false .neq (.tmp 37) (.cst (.int .i64 0)))]
def A3a:List TOp:=[oo 39 (.mov (.tmp 11)),oo 40 (.mov (.tmp 12)),oo 41 (.mov (.tmp 13)),oo 2 (.mov .nils),oo 3 (.mov (.tmp 39)),oo 4 (.mov (.tmp 40)),oo 5 (.mov (.tmp 41))]
def A3b:List TOp:=[oo 42 (.mov (.tmp 10)),oo 2 (.mov (.tmp 42)),oo 3 (.mov (.cst (.int .i64 0))),oo 4 (.mov (.cst (.int .i64 0))),oo 5 (.mov (.cst (.int .i64 0)))]
def Bds:TFd:=⟨1,[(.tmp 2,.bool),(.tmp 3,.bool),(.tmp 4,.bool),(.tmp 5,.bool)],[],(.seq (.ops A23) (.seq (.ops A24) (.seq (.seq (.ops A25) (.cond (.tmp 22) (.free (.seq (.ops A26) (.keep Un .ret))) .skip)) (.seq (.ops A27) (.seq (.seq (.ops A28) (.seq (.ops A29) (.cond (.tmp 38) (.free (.seq (.ops A3a) (.keep Un .ret))) .skip))) (.seq (.ops A3b) (.keep Un .ret)))))))⟩
noncomputable def Abc:Ent:=⟨[.ty .str],[],[.str],⟨(.tup [(.ty (.sl (.st 4))),(.ty (.int .i64)),(.ty (.int .i64)),(.ty (.int .i64))]),[],[],[(.sl (.st 4)),(.int .i64),(.int .i64),(.int .i64)],[],[]⟩,none,fun p=>Dm p⟩
theorem Aoi:Abc.ok Tryz.prog 9:=Ar hm Tryz.func9 (fd:=Bds) (by kernel_rfl) (Ah (l:=[(29,Tr),(30,(C6 100000)),(23,Gn),(31,Ig)]) (y:=[]) ⟨Ajm,(Og 100000),Hb,Oh,trivial⟩ trivial) (by kernel_rfl) (fun p=>by kernel_rfl)
def Aok:Ent:=⟨[.ty (.int .i64)],[],[.int .i64],⟨(.tup [(.ty (.int .i64)),(.ty .str),(.ty (.int .i64)),(.ty (.int .i64))]),[],[],[(.int .i64),.str,(.int .i64),(.int .i64)],[],[]⟩,none,fun p=>Ajp p⟩
theorem Atn:Aok.ok Tryz.prog 67:=fun p r h=>by
 have h:some (placeOf p)=some r:=h
 cases h
 exact Ayn (es:=List.map (Bu4 Bnq Aq.pv) (B1.map fun p=>(p.1,(⟨p.2.1,p.2.2⟩:Aq)))) (by kernel_rfl) (Ajr () _ (by kernel_rfl))
def Vs:List TOp:=[oo 4 (.mov (.cst (.str []))),oo 5 (.mov (.cst (.bool false)))]
def Vt:List TOp:=[oo 6 (.mov (.tmp 0)),oo 7 (.mov (.tmp 1)),oo 8 (.call 0 0 (.cst (.fn 140)) [(.tmp 6),(.tmp 7)] [] []),oo 9 (.un .not (.tmp 8))]
def Vu:List TOp:=[oo 10 (.mov (.tmp 0)),oo 4 (.mov (.tmp 10)),oo 5 (.mov (.cst (.bool false)))]
def H1:Kp:=⟨[],[(4,false),(5,false)],[],[],[]⟩
def Vv:List TOp:=[oo 11 (.mov (.tmp 0)),oo 12 (.mov (.tmp 0)),oo 13 (.len true (.tmp 12)),oo 14 (.mov (.tmp 1)),oo 15 (.len true (.tmp 14)),oo 16 (.bin false .sub (.tmp 13) (.tmp 15)),oo 17 (.slc true 0 (.tmp 11) none (some (.tmp 16))),oo 4 (.mov (.tmp 17)),oo 5 (.mov (.cst (.bool true)))]
def Ae6:TFd:=⟨2,[(.tmp 4,.bool),(.tmp 5,.bool)],[],(.seq (.ops Vs) (.seq (.seq (.ops Vt) (.cond (.tmp 9) (.free (.seq (.ops Vu) (.keep H1 .ret))) .skip)) (.seq (.ops Vv) (.keep H1 .ret))))⟩
def I3:Ent:=⟨[.ty .str,.ty .str],[],[.str,.str],⟨(.tup [(.ty .str),(.ty .bool)]),[],[],[.str,.bool],[],[]⟩,none,fun p=>stringslite_CutSuffix p.1 p.2⟩
theorem V0:I3.ok Tryz.prog 117:=Ar hm Tryz.func117 (fd:=Ae6) (by kernel_rfl) (Ah (l:=[(140,Fw)]) (y:=[]) ⟨H6,trivial⟩ trivial) (by kernel_rfl) (fun p=>by kernel_rfl)
def Alg:List TOp:=[oo 4 (.mov (.cst (.str []))),oo 5 (.mov (.cst (.bool false)))]
def Alh:List TOp:=[oo 6 (.mov (.tmp 0)),oo 7 (.mov (.tmp 1)),oo 8 (.call 0 0 (.cst (.fn 117)) [(.tmp 6),(.tmp 7)] [] []),oo 9 (.ext 0 (.tmp 8)),oo 10 (.ext 1 (.tmp 8)),oo 4 (.mov (.tmp 9)),oo 5 (.mov (.tmp 10))]
def Alf:Kp:=⟨[],[(4,false),(5,false)],[],[],[]⟩
def Aqh:TFd:=⟨2,[(.tmp 4,.bool),(.tmp 5,.bool)],[],(.seq (.ops Alg) (.seq (.ops Alh) (.keep Alf .ret)))⟩
def Ol:Ent:=⟨[.ty .str,.ty .str],[],[.str,.str],⟨(.tup [(.ty .str),(.ty .bool)]),[],[],[.str,.bool],[],[]⟩,none,fun p=>strings_CutSuffix p.1 p.2⟩
theorem Alm:Ol.ok Tryz.prog 99:=Ar hm Tryz.func99 (fd:=Aqh) (by kernel_rfl) (Ah (l:=[(117,I3)]) (y:=[]) ⟨V0,trivial⟩ trivial) (by kernel_rfl) (fun p=>by kernel_rfl)
def Aae:Ent:=⟨[.nils,.ty (.int .i64)],[],[(.int .i64)],⟨(.own (.res 0)),[some (.row .str)],[],[(.sl .str)],[],[]⟩,none,fun p=>Cy (List UInt8) 16 p⟩
theorem Anw:Aae.ok Tryz.prog 100:=fun p r h=>by
 obtain⟨e1,e2⟩:=Aag (show Cy (List UInt8) 16 p=some r from h)
 subst e1
 exact Asi e2
def Lh:List TOp:=[oo 2 (.mov .nils)]
def Li:List TOp:=[oo 3 (.mov (.cst (.int .i64 0)))]
def Lj:List TOp:=[oo 9 (.mov (.tmp 0)),oo 10 (.len false (.tmp 9)),oo 11 (.mov (.cst (.int .i64 0)))]
def Lk:List TOp:=[oo 12 (.bin false .lss (.tmp 11) (.tmp 10))]
def Ll:List TOp:=[oo 13 (.idx 1 (.tmp 9) (.tmp 11)),oo 14 (.load false 1 (.tmp 13)),oo 5 (.mov (.tmp 14))]
def Lm:List TOp:=[oo 15 (.mov (.tmp 3)),oo 16 (.mov (.tmp 5)),oo 17 (.len false (.tmp 16)),oo 18 (.bin false .add (.tmp 15) (.tmp 17)),oo 3 (.mov (.tmp 18))]
def Ln:List TOp:=[oo 19 (.mov (.tmp 3)),oo 20 (.bin false .lss (.tmp 19) (.cst (.int .i64 0)))]
def Ft:Kp:=⟨[],[(0,false),(3,false),(9,false),(10,false),(11,false)],[],[],[]⟩
def Lq:Sig:=⟨[(0,none),(3,none),(9,none),(10,none),(11,none)],[],[],[],[]⟩
def Lo:List TOp:=[oo 22 (.bin false .add (.tmp 11) (.cst (.int .i64 1))),oo 11 (.mov (.tmp 22))]
def Kl:DC:=(.seq (.ops Lk) (.seq (.cond (.tmp 12) .skip (.exit 0)) (.seq (.pass 1 (.seq (.ops Ll) (.seq (.ops Lm) (.seq (.ops Ln) (.join Ft Lq (.cond (.tmp 20) .stuck .skip)))))) (.ops Lo))))
def Kv:Sig:=⟨[(0,none),(3,some (.ty (.int .i64))),(9,none),(10,none),(11,some (.ty (.int .i64)))],[],[(.int .i64),(.int .i64)],[],[]⟩
def Kh:Kp:=⟨[],[(0,false),(3,false)],[],[],[]⟩
def Kw:Sig:=⟨[(0,none),(3,some (.ty (.int .i64)))],[],[(.int .i64)],[],[]⟩
def Kn:List TOp:=[oo 23 (.mov (.tmp 3)),oo 24 (.call 1 3 (.cst (.fn 100)) [.nils,(.tmp 23)] [] []),oo 6 (.mov (.tmp 24))]
def Ko:List TOp:=[oo 25 (.mov (.tmp 0)),oo 26 (.len false (.tmp 25)),oo 27 (.mov (.cst (.int .i64 0)))]
def Kq:List TOp:=[oo 28 (.bin false .lss (.tmp 27) (.tmp 26))]
def Kr:List TOp:=[oo 29 (.idx 1 (.tmp 25) (.tmp 27)),oo 30 (.load false 1 (.tmp 29)),oo 8 (.mov (.tmp 30))]
def Ks:List TOp:=[oo 31 (.mov (.tmp 6)),oo 32 (.mov (.tmp 8)),ot 33 .str (.append 24 1 16 (.tmp 31) (.tmp 32)),oo 6 (.mov (.tmp 33))]
def Kt:List TOp:=[oo 34 (.bin false .add (.tmp 27) (.cst (.int .i64 1))),oo 27 (.mov (.tmp 34))]
def Km:DC:=(.seq (.ops Kq) (.seq (.cond (.tmp 28) .skip (.exit 2)) (.seq (.pass 3 (.seq (.ops Kr) (.ops Ks))) (.ops Kt))))
def Ki:Kp:=⟨[],[(6,false),(25,false),(26,false),(27,false)],[(.loc 24 0,false)],[],[]⟩
def Kx:Sig:=⟨[(6,some (.own (.loc 24 0))),(25,none),(26,none),(27,some (.ty (.int .i64)))],[(.loc 24 0,(.row .str))],[(.int .i64),(.sl .str)],[],[]⟩
def Kj:Kp:=⟨[.loc 24 0],[(6,true)],[],[],[]⟩
def Ky:Sig:=⟨[(6,some (.ty (.sl .str)))],[],[(.sl .str)],[],[]⟩
def Ku:List TOp:=[oo 35 (.mov (.tmp 6)),oo 2 (.mov (.tmp 35))]
def Kk:Kp:=⟨[],[(2,false)],[],[],[]⟩
def N8:TFd:=⟨1,[(.tmp 2,.bool)],[],(.seq (.ops Lh) (.seq (.ops Li) (.seq (.seq (.ops Lj) (.join Kh Kw (.block 0 (.loop [0,3,9,10,11] [] Ft Kv Kl)))) (.seq (.ops Kn) (.seq (.seq (.ops Ko) (.join Kj Ky (.block 2 (.loop [6,25,26,27] [] Ki Kx Km)))) (.seq (.ops Ku) (.keep Kk .ret)))))))⟩
noncomputable def Dh:Ent:=⟨[.ty (.sl (.sl .str))],[],[(.sl (.sl .str))],⟨(.ty (.sl .str)),[],[],[(.sl .str)],[],[]⟩,none,fun p=>Ak p⟩
theorem Fv:Dh.ok Tryz.prog 70:=Ar hm Tryz.func70 (fd:=N8) (by kernel_rfl) (Ah (l:=[(100,Aae)]) (y:=[]) ⟨Anw,trivial⟩ trivial) (by kernel_rfl) (fun p=>by kernel_rfl)
def A0i:List TOp:=[oo 3 (.box (.tmp 0)),oo 6 (.mov .nils)]
def A0j:List TOp:=[oo 10 (.fld 0 (.tmp 3)),oo 11 (.load false 1 (.tmp 10))]
def A0k:List TOp:=[oo 13 (.bin false .eql (.tmp 11) (.cst (.int .i64 0))),oo 12 (.mov (.tmp 13))]
def A0l:List TOp:=[oo 15 (.fld 1 (.tmp 3)),oo 16 (.load false 1 (.tmp 15)),oo 17 (.call 0 0 (.cst (.fn 99)) [(.tmp 16),(.cst (.str [37]))] [] []),oo 14 (.mov (.tmp 17)),oo 18 (.ext 0 (.tmp 14)),oo 19 (.ext 1 (.tmp 14)),oo 7 (.mov (.tmp 18)),oo 8 (.mov (.tmp 19))]
def A0m:List TOp:=[oo 20 (.mov (.tmp 8))]
def A0n:List TOp:=[oo 21 (.mov (.tmp 7)),ot 22 .str (.lit false 1 [(.tmp 21),(.cst (.str [37]))]),oo 6 (.mov (.tmp 22))]
def Df:Kp:=⟨[.loc 33 0,.loc 40 0],[(6,true)],[],[],[]⟩
def A0o:List TOp:=[oo 23 (.fld 1 (.tmp 3)),oo 24 (.load false 1 (.tmp 23)),ot 25 .str (.lit false 1 [(.tmp 24)]),oo 6 (.mov (.tmp 25))]
def A0p:List TOp:=[oo 27 (.bin false .eql (.tmp 11) (.cst (.int .i64 1))),oo 26 (.mov (.tmp 27))]
def A0q:List TOp:=[oo 28 (.fld 1 (.tmp 3)),oo 29 (.load false 1 (.tmp 28)),ot 30 .str (.lit false 1 [(.tmp 29)]),oo 6 (.mov (.tmp 30))]
def Av9:List TOp:=[oo 32 (.bin false .eql (.tmp 11) (.cst (.int .i64 2))),oo 31 (.mov (.tmp 32))]
def Awa:List TOp:=[ot 33 .str (.lit true 1 [(.cst (.str [45]))]),oo 34 (.mov (.tmp 2)),oo 35 (.idx 1 (.tmp 34) (.cst (.int .i64 0))),oo 36 (.load false 1 (.tmp 35)),ot 37 .str (.append 33 1 16 (.tmp 33) (.tmp 36)),oo 6 (.mov (.tmp 37))]
def Awb:List TOp:=[oo 39 (.bin false .eql (.tmp 11) (.cst (.int .i64 14))),oo 38 (.mov (.tmp 39))]
def Awc:List TOp:=[ot 40 .str (.lit true 1 [(.cst (.str [110,111,116]))]),oo 41 (.mov (.tmp 2)),oo 42 (.idx 1 (.tmp 41) (.cst (.int .i64 0))),oo 43 (.load false 1 (.tmp 42)),ot 44 .str (.append 40 1 16 (.tmp 40) (.tmp 43)),oo 6 (.mov (.tmp 44))]
def Awd:List TOp:=[oo 46 (.bin false .eql (.tmp 11) (.cst (.int .i64 15))),oo 45 (.mov (.tmp 46))]
def Awe:List TOp:=[ot 47 .str (.lit false 1 [(.cst (.str [105,102]))]),oo 48 (.mov (.tmp 2)),oo 49 (.idx 1 (.tmp 48) (.cst (.int .i64 0))),oo 50 (.load false 1 (.tmp 49)),ot 51 .str (.lit false 1 [(.cst (.str [116,104,101,110]))]),oo 52 (.mov (.tmp 2)),oo 53 (.idx 1 (.tmp 52) (.cst (.int .i64 1))),oo 54 (.load false 1 (.tmp 53)),ot 55 .str (.lit false 1 [(.cst (.str [101,108,115,101]))]),oo 56 (.mov (.tmp 2)),oo 57 (.idx 1 (.tmp 56) (.cst (.int .i64 2))),oo 58 (.load false 1 (.tmp 57)),ot 59 (.sl .str) (.lit false 1 [(.tmp 47),(.tmp 50),(.tmp 51),(.tmp 54),(.tmp 55),(.tmp 58)]),oo 60 (.call 0 0 (.cst (.fn 70)) [(.tmp 59)] [] []),oo 6 (.mov (.tmp 60))]
def Awf:List TOp:=[oo 62 (.bin false .eql (.tmp 11) (.cst (.int .i64 16))),oo 61 (.mov (.tmp 62))]
def Awg:List TOp:=[oo 63 (.bin false .eql (.tmp 11) (.cst (.int .i64 17))),oo 61 (.mov (.tmp 63))]
def Av7:Kp:=⟨[],[(1,false),(2,false),(3,false),(61,false)],[(.loc 3 0,false)],[],[]⟩
def Awm:Sig:=⟨[(1,none),(2,none),(3,some (.ptr (.loc 3 0) 0)),(61,some (.ty .bool))],[(.loc 3 0,(.box [none,none]))],[.bool],[],[]⟩
def Awh:List TOp:=[oo 9 (.mov (.cst (.str [109,105,110])))]
def Awi:List TOp:=[oo 64 (.fld 0 (.tmp 3)),oo 65 (.load false 1 (.tmp 64)),oo 66 (.bin false .eql (.tmp 65) (.cst (.int .i64 17)))]
def Awj:List TOp:=[oo 9 (.mov (.cst (.str [109,97,120])))]
def Av8:Kp:=⟨[],[(2,false),(9,false)],[],[.loc 3 0],[]⟩
def Awn:Sig:=⟨[(2,none),(9,some (.ty .str))],[],[.str],[],[]⟩
def Awk:List TOp:=[oo 67 (.mov (.tmp 9)),ot 68 .str (.lit false 1 [(.tmp 67),(.cst (.str [40]))]),oo 69 (.mov (.tmp 2)),oo 70 (.idx 1 (.tmp 69) (.cst (.int .i64 0))),oo 71 (.load false 1 (.tmp 70)),ot 72 .str (.lit false 1 [(.cst (.str [44]))]),oo 73 (.mov (.tmp 2)),oo 74 (.idx 1 (.tmp 73) (.cst (.int .i64 1))),oo 75 (.load false 1 (.tmp 74)),ot 76 .str (.lit false 1 [(.cst (.str [41]))]),ot 77 (.sl .str) (.lit false 1 [(.tmp 68),(.tmp 71),(.tmp 72),(.tmp 75),(.tmp 76)]),oo 78 (.call 0 0 (.cst (.fn 70)) [(.tmp 77)] [] []),oo 6 (.mov (.tmp 78))]
def Awl:List TOp:=[oo 79 (.mov (.tmp 2)),oo 80 (.idx 1 (.tmp 79) (.cst (.int .i64 0))),oo 81 (.load false 1 (.tmp 80)),oo 82 (.mov (.tmp 1)),ot 83 .str (.lit false 1 [(.tmp 82)]),oo 84 (.mov (.tmp 2)),oo 85 (.idx 1 (.tmp 84) (.cst (.int .i64 1))),oo 86 (.load false 1 (.tmp 85)),ot 87 (.sl .str) (.lit false 1 [(.tmp 81),(.tmp 83),(.tmp 86)]),oo 88 (.call 0 0 (.cst (.fn 70)) [(.tmp 87)] [] []),oo 6 (.mov (.tmp 88))]
def A92:TFd:=⟨3,[(.tmp 6,.bool)],[],(.seq (.ops A0i) (.seq (.seq (.ops A0j) (.pass 0 (.seq (.ops A0k) (.cond (.tmp 12) (.free (.seq (.seq (.ops A0l) (.seq (.ops A0m) (.cond (.tmp 20) (.free (.seq (.ops A0n) (.keep Df .ret))) .skip))) (.seq (.ops A0o) (.keep Df .ret)))) (.seq (.ops A0p) (.cond (.tmp 26) (.free (.seq (.ops A0q) (.keep Df .ret))) (.seq (.ops Av9) (.cond (.tmp 31) (.free (.seq (.ops Awa) (.keep Df .ret))) (.seq (.ops Awb) (.cond (.tmp 38) (.free (.seq (.ops Awc) (.keep Df .ret))) (.seq (.ops Awd) (.cond (.tmp 45) (.free (.seq (.draw [] Awe) (.keep Df .ret))) (.seq (.seq (.ops Awf) (.join Av7 Awm (.cond (.tmp 61) .skip (.ops Awg)))) (.cond (.tmp 61) (.free (.seq (.ops Awh) (.seq (.seq (.ops Awi) (.join Av8 Awn (.cond (.tmp 66) (.ops Awj) .skip))) (.seq (.draw [] Awk) (.keep Df .ret))))) .skip)))))))))))))) (.seq (.draw [] Awl) (.keep Df .ret))))⟩
noncomputable def Aoo:Ent:=⟨[.ty (.st 4),.ty .str,.ty (.sl (.sl .str))],[],[(.st 4),.str,(.sl (.sl .str))],⟨(.ty (.sl .str)),[],[],[(.sl .str)],[],[]⟩,none,fun p=>Tb p.1 p.2.1 p.2.2⟩
theorem Aym:Aoo.ok Tryz.prog 69:=Ar hm Tryz.func69 (fd:=A92) (by kernel_rfl) (Ah (l:=[(99,Ol),(70,Dh)]) (y:=[]) ⟨Alm,Fv,trivial⟩ trivial) (by kernel_rfl) (fun p=>by kernel_rfl)
def Az0:List TOp:=[oo 4 (.mov .nils),oo 5 (.mov .nils)]
def Az1:List TOp:=[oo 18 (.mov (.tmp 0)),oo 19 (.idx 2 (.tmp 18) (.cst (.int .i64 0))),ot 20 (.st 4) (.load true 2 (.tmp 19)),oo 21 (.mov (.tmp 0)),ot 22 (.st 4) (.slc false 2 (.tmp 21) (some (.cst (.int .i64 1))) none),oo 6 (.alloc [.pv (.int .i64 0),.pv (.str [])]),on (.store 2 (.tmp 6) (.tmp 20)),oo 7 (.mov (.tmp 22))]
def Az2:List TOp:=[oo 8 (.mov .nils)]
def Az3:List TOp:=[oo 24 (.fld 0 (.tmp 6)),oo 25 (.load false 1 (.tmp 24)),oo 26 (.call 0 0 (.cst (.fn 67)) [(.tmp 25)] [] []),oo 23 (.mov (.tmp 26)),oo 27 (.ext 0 (.tmp 23)),oo 28 (.ext 1 (.tmp 23)),oo 29 (.ext 2 (.tmp 23)),oo 30 (.ext 3 (.tmp 23)),oo 9 (.mov (.tmp 27)),oo 10 (.mov (.tmp 28)),oo 11 (.mov (.tmp 29)),oo 12 (.mov (.tmp 30))]
def Az4:List TOp:=[oo 31 (.mov (.tmp 11)),oo 32 (.mov (.tmp 12)),ot 33 (.int .i64) (.lit false 1 [(.tmp 31),(.tmp 32),(.cst (.int .i64 0))]),oo 13 (.mov (.tmp 33))]
def Az5:List TOp:=[oo 34 (.fld 0 (.tmp 6)),oo 35 (.load false 1 (.tmp 34))]
def Az6:List TOp:=[oo 37 (.bin false .eql (.tmp 35) (.cst (.int .i64 2))),oo 36 (.mov (.tmp 37))]
def Az7:List TOp:=[ot 38 (.int .i64) (.lit false 1 [(.cst (.int .i64 7))]),oo 9 (.mov (.cst (.int .i64 7))),oo 13 (.mov (.tmp 38))]
def Az8:List TOp:=[oo 40 (.bin false .eql (.tmp 35) (.cst (.int .i64 14))),oo 39 (.mov (.tmp 40))]
def Az9:List TOp:=[ot 41 (.int .i64) (.lit false 1 [(.cst (.int .i64 3))]),oo 9 (.mov (.cst (.int .i64 3))),oo 13 (.mov (.tmp 41))]
def Avr:List TOp:=[oo 43 (.bin false .eql (.tmp 35) (.cst (.int .i64 15))),oo 42 (.mov (.tmp 43))]
def Avs:List TOp:=[oo 9 (.mov (.cst (.int .i64 0)))]
def Avl:Kp:=⟨[],[(1,false),(6,false),(7,false),(8,false),(9,false),(10,false),(13,false)],[(.loc 6 0,false)],[],[]⟩
def Av3:Sig:=⟨[(1,none),(6,some (.ptr (.loc 6 0) 0)),(7,none),(8,some .nils),(9,some (.ty (.int .i64))),(10,none),(13,some (.ty (.sl (.int .i64))))],[(.loc 6 0,(.box [none,none]))],[(.int .i64),(.sl (.int .i64))],[],[]⟩
def Avt:List TOp:=[oo 44 (.fld 0 (.tmp 6)),oo 45 (.load false 1 (.tmp 44)),oo 46 (.call 0 0 (.cst (.fn 68)) [(.tmp 45)] [] []),oo 47 (.mov (.cst (.int .i64 0)))]
def Avu:List TOp:=[oo 48 (.bin false .lss (.tmp 47) (.tmp 46))]
def Avv:List TOp:=[oo 49 (.mov (.tmp 47)),oo 14 (.mov (.tmp 49))]
def Avw:List TOp:=[oo 51 (.mov (.tmp 7)),oo 52 (.mov (.tmp 13)),oo 53 (.mov (.tmp 14)),oo 54 (.idx 1 (.tmp 52) (.tmp 53)),oo 55 (.load false 1 (.tmp 54)),oo 56 (.call 0 0 (.cst (.fn 37)) [(.tmp 51),(.tmp 55)] [] []),oo 50 (.mov (.tmp 56)),oo 57 (.ext 0 (.tmp 50)),oo 58 (.ext 1 (.tmp 50)),oo 15 (.mov (.tmp 57)),oo 16 (.mov (.tmp 58))]
def Avx:List TOp:=[oo 59 (.mov (.tmp 8)),oo 60 (.mov (.tmp 15)),ot 61 (.sl .str) (.lit false 1 [(.tmp 60)]),ot 62 (.sl .str) (.append 8 1 24 (.tmp 59) (.tmp 61)),oo 63 (.mov (.tmp 16)),oo 8 (.mov (.tmp 62)),oo 7 (.mov (.tmp 63))]
def Avy:List TOp:=[oo 64 (.bin false .add (.tmp 47) (.cst (.int .i64 1))),oo 47 (.mov (.tmp 64))]
def Avq:DC:=(.seq (.ops Avu) (.seq (.cond (.tmp 48) .skip (.exit 1)) (.seq (.pass 2 (.seq (.ops Avv) (.seq (.ops Avw) (.ops Avx)))) (.ops Avy))))
def Avm:Kp:=⟨[],[(1,false),(6,false),(7,false),(8,false),(9,false),(10,false),(13,false),(46,false),(47,false)],[(.loc 8 0,false),(.loc 6 0,false)],[],[((.slot 8 (.loc 8 0) 1),(.sl .str))]⟩
def Av4:Sig:=⟨[(1,none),(6,some (.ptr (.loc 6 0) 0)),(7,some (.ty (.sl (.st 4)))),(8,some (.own (.loc 8 0))),(9,none),(10,none),(13,none),(46,none),(47,some (.ty (.int .i64)))],[(.loc 8 0,(.row (.sl .str))),(.loc 6 0,(.box [none,none]))],[(.sl (.st 4)),(.int .i64),(.sl (.sl .str))],[],[]⟩
def Avn:Kp:=⟨[.loc 8 0],[(1,false),(6,false),(7,false),(8,true),(9,false),(10,false)],[(.loc 6 0,false)],[],[]⟩
def Av5:Sig:=⟨[(1,none),(6,some (.ptr (.loc 6 0) 0)),(7,some (.ty (.sl (.st 4)))),(8,some (.ty (.sl (.sl .str)))),(9,none),(10,none)],[(.loc 6 0,(.box [none,none]))],[(.sl (.st 4)),(.sl (.sl .str))],[],[]⟩
def Avz:List TOp:=[ot 65 (.st 4) (.load true 2 (.tmp 6)),oo 66 (.mov (.tmp 10)),oo 67 (.mov (.tmp 8)),oo 68 (.call 0 0 (.cst (.fn 69)) [(.tmp 65),(.tmp 66),(.tmp 67)] [] []),oo 17 (.mov (.tmp 68))]
def Av0:List TOp:=[oo 69 (.mov (.tmp 9)),oo 70 (.mov (.tmp 1)),oo 71 (.bin false .lss (.tmp 69) (.tmp 70))]
def Av1:List TOp:=[ot 72 .str (.lit false 1 [(.cst (.str [40]))]),oo 73 (.mov (.tmp 17)),ot 74 .str (.lit false 1 [(.cst (.str [41]))]),ot 75 (.sl .str) (.lit false 1 [(.tmp 72),(.tmp 73),(.tmp 74)]),oo 76 (.call 0 0 (.cst (.fn 70)) [(.tmp 75)] [] []),oo 17 (.mov (.tmp 76))]
def Avo:Kp:=⟨[],[(7,false),(17,false)],[],[.loc 6 0],[]⟩
def Av6:Sig:=⟨[(7,none),(17,some (.ty (.sl .str)))],[],[(.sl .str)],[],[]⟩
def Av2:List TOp:=[oo 77 (.mov (.tmp 17)),oo 78 (.mov (.tmp 7)),oo 4 (.mov (.tmp 77)),oo 5 (.mov (.tmp 78))]
def Avp:Kp:=⟨[],[(4,false),(5,false)],[],[],[]⟩
def A91:TFd:=⟨2,[(.tmp 4,.bool),(.tmp 5,.bool)],[],(.seq (.ops Az0) (.seq (.draw [.loc 6 0] Az1) (.seq (.ops Az2) (.seq (.ops Az3) (.seq (.ops Az4) (.seq (.seq (.ops Az5) (.pass 0 (.seq (.ops Az6) (.join Avl Av3 (.cond (.tmp 36) (.ops Az7) (.seq (.ops Az8) (.cond (.tmp 39) (.ops Az9) (.seq (.ops Avr) (.cond (.tmp 42) (.ops Avs) .skip))))))))) (.seq (.seq (.ops Avt) (.join Avn Av5 (.block 1 (.loop [1,6,7,8,9,10,13,46,47] [] Avm Av4 Avq)))) (.seq (.ops Avz) (.seq (.seq (.ops Av0) (.join Avo Av6 (.cond (.tmp 71) (.ops Av1) .skip))) (.seq (.ops Av2) (.keep Avp .ret)))))))))))⟩
noncomputable def Mi(fuel:Nat):Ent:=⟨[.ty (.sl (.st 4)),.ty (.int .i64)],[],[(.sl (.st 4)),(.int .i64)],⟨(.tup [(.ty (.sl .str)),(.ty (.sl (.st 4)))]),[],[],[(.sl .str),(.sl (.st 4))],[],[]⟩,none,fun p=>F3 fuel p.1 p.2⟩
theorem Qm: ∀fuel:Nat,(Mi fuel).ok Tryz.prog 37
 |0=>fun p r h=>by have h:none=some r:=h;cases h
 |fuel+1=>Ar hm Tryz.func37 (fd:=A91) (by kernel_rfl) (Ah (l:=[(67,Aok),(68,Ajn),(37,(Mi fuel)),(69,Aoo),(70,Dh)]) (y:=[]) ⟨Atn,Aro,(Qm fuel),Aym,Fv,trivial⟩ trivial) (by kernel_rfl) (fun p=>by kernel_rfl)
def Re:Ent:=⟨[.ty (.sl .str),.ty .str],[],[(.sl .str),.str],⟨(.ty .str),[],[],[.str],[],[]⟩,none,fun p=>strings_Join p.1 p.2⟩
theorem Tg:Re.ok Tryz.prog 38:=fun p r h=>Aws (show strings_Join _ _=some _ from h)
def Aze:List TOp:=[oo 2 (.mov (.cst (.str []))),oo 3 (.mov (.cst (.int .i64 0)))]
def Azf:List TOp:=[oo 6 (.mov (.tmp 0)),oo 7 (.call 0 0 (.cst (.fn 23)) [(.tmp 6)] [] []),oo 8 (.un .not (.tmp 7))]
def Azg:List TOp:=[oo 2 (.mov (.cst (.str []))),oo 3 (.mov (.cst (.int .i64 1)))]
def Akt:Kp:=⟨[],[(2,false),(3,false)],[],[],[]⟩
def Azh:List TOp:=[oo 10 (.mov (.tmp 0)),oo 11 (.call 0 0 (.cst (.fn 37)) [(.tmp 10),(.cst (.int .i64 0))] [] []),oo 9 (.mov (.tmp 11)),oo 12 (.ext 0 (.tmp 9)),oo 13 (.ext 1 (.tmp 9)),oo 4 (.mov (.tmp 12)),oo 5 (.mov (.tmp 13))]
def Azi:List TOp:=[oo 14 (.mov (.tmp 4)),oo 15 (.call 0 0 (.cst (.fn 38)) [(.tmp 14),(.cst (.str [32]))] [] []),oo 2 (.mov (.tmp 15)),oo 3 (.mov (.cst (.int .i64 0)))]
def A86:TFd:=⟨1,[(.tmp 2,.bool),(.tmp 3,.bool)],[],(.seq (.ops Aze) (.seq (.seq (.ops Azf) (.cond (.tmp 8) (.free (.seq (.ops Azg) (.keep Akt .ret))) .skip)) (.seq (.ops Azh) (.seq (.ops Azi) (.keep Akt .ret)))))⟩
noncomputable def Aoh:Ent:=⟨[.ty (.sl (.st 4))],[],[(.sl (.st 4))],⟨(.tup [(.ty .str),(.ty (.int .i64))]),[],[],[.str,(.int .i64)],[],[]⟩,none,fun p=>Mx p⟩
theorem Ayk:Aoh.ok Tryz.prog 17:=Ar hm Tryz.func17 (fd:=A86) (by kernel_rfl) (Ah (l:=[(23,Gn),(37,(Mi 100000)),(38,Re)]) (y:=[]) ⟨Hb,(Qm 100000),Tg,trivial⟩ trivial) (by kernel_rfl) (fun p=>by kernel_rfl)
def Ael:List TOp:=[oo 4 (.mov (.cst (.str [])))]
def Aem:List TOp:=[oo 6 (.mov (.tmp 0)),oo 7 (.mov (.tmp 1)),ot 8 .str (.lit false 1 [(.tmp 7)]),oo 9 (.call 0 2 (.cst (.fn 56)) [(.tmp 6),(.tmp 8)] [] [.ext 0])]
def Aen:List TOp:=[oo 10 (.mov (.tmp 0)),oo 11 (.call 0 2 (.cst (.fn 61)) [(.tmp 10),(.cst (.int .i64 1)),(.cst (.bool true))] [] [.ext 0]),oo 5 (.mov (.tmp 11))]
def Aeo:List TOp:=[oo 12 (.mov (.tmp 0)),ot 13 .str (.lit false 1 [(.cst (.str [59]))]),oo 14 (.call 0 2 (.cst (.fn 56)) [(.tmp 12),(.tmp 13)] [] [.ext 0])]
def Aep:List TOp:=[oo 15 (.mov (.tmp 5)),oo 4 (.mov (.tmp 15))]
def Aek:Kp:=⟨[],[(4,false)],[(.ext 0,false)],[],[]⟩
def Aku:TFd:=⟨2,[(.tmp 4,.bool)],[],(.seq (.ops Ael) (.seq (.ops Aem) (.seq (.ops Aen) (.seq (.ops Aeo) (.seq (.ops Aep) (.keep Aek .ret))))))⟩
noncomputable def K9:Ent:=⟨[.ptr (.ext 0) 0,.ty .str],[.st 3],[.str,(.st 3)],⟨(.ty .str),[],[some (.st 3)],[.str,(.st 3)],[],[]⟩,none,fun p=>Ce p.1 p.2⟩
theorem Abe:K9.ok Tryz.prog 62:=Ar hm Tryz.func62 (fd:=Aku) (by kernel_rfl) (Ah (l:=[(56,Dt),(61,Fi)]) (y:=[]) ⟨E0,Hd,trivial⟩ trivial) (by kernel_rfl) (fun p=>by kernel_rfl)
def Zz:List TOp:=[oo 2 (.alloc [.pv (.str []),.pv (.str []),.pv (.str []),.pv (.str []),.nils,.nils,.pv (.str []),.pv (.str []),.pv (.str [])])]
def Z0:List TOp:=[oo 3 (.alloc [.pv (.str []),.pv (.str []),.pv (.str []),.pv (.str []),.nils,.nils,.pv (.str []),.pv (.str []),.pv (.str [])])]
def Z1:List TOp:=[oo 6 (.mov (.tmp 0)),ot 7 .str (.lit false 1 [(.cst (.str [112,114,111,100,117,99,116]))]),oo 8 (.call 0 2 (.cst (.fn 56)) [(.tmp 6),(.tmp 7)] [] [.ext 0])]
def Z2:List TOp:=[oo 9 (.mov (.tmp 0)),oo 10 (.call 0 2 (.cst (.fn 61)) [(.tmp 9),(.cst (.int .i64 0)),(.cst (.bool true))] [] [.ext 0]),oo 11 (.mov (.tmp 0)),oo 12 (.call 0 2 (.cst (.fn 61)) [(.tmp 11),(.cst (.int .i64 0)),(.cst (.bool true))] [] [.ext 0]),oo 13 (.fld 0 (.tmp 3)),on (.store 1 (.tmp 13) (.tmp 10)),oo 14 (.fld 1 (.tmp 3)),on (.store 1 (.tmp 14) (.tmp 12))]
def Z3:List TOp:=[oo 15 (.mov (.tmp 0)),ot 16 .str (.lit false 1 [(.cst (.str [123])),(.cst (.str [98,97,115,105,115]))]),oo 17 (.call 0 2 (.cst (.fn 56)) [(.tmp 15),(.tmp 16)] [] [.ext 0])]
def Z4:List TOp:=[oo 18 (.mov (.tmp 0)),oo 19 (.call 0 2 (.cst (.fn 61)) [(.tmp 18),(.cst (.int .i64 0)),(.cst (.bool true))] [] [.ext 0]),oo 20 (.fld 2 (.tmp 3)),on (.store 1 (.tmp 20) (.tmp 19))]
def Z5:List TOp:=[oo 21 (.mov (.tmp 0)),ot 22 .str (.lit false 1 [(.cst (.str [59]))]),oo 23 (.call 0 2 (.cst (.fn 56)) [(.tmp 21),(.tmp 22)] [] [.ext 0])]
def Z6:List TOp:=[oo 24 (.mov (.tmp 0)),oo 25 (.call 0 2 (.cst (.fn 62)) [(.tmp 24),(.cst (.str [112,101,114,105,111,100]))] [] [.ext 0]),oo 26 (.fld 3 (.tmp 3)),on (.store 1 (.tmp 26) (.tmp 25))]
def Z7:List TOp:=[oo 27 (.mov (.tmp 0)),ot 28 .str (.lit false 1 [(.cst (.str [116,105,101,114,115])),(.cst (.str [123]))]),oo 29 (.call 0 2 (.cst (.fn 56)) [(.tmp 27),(.tmp 28)] [] [.ext 0])]
def Z8:List TOp:=[oo 4 (.mov (.cst (.bool true)))]
def Vb:List TOp:=[oo 30 (.mov (.tmp 0)),oo 31 (.nchk (.tmp 30)),oo 32 (.fld 2 (.tmp 31)),oo 33 (.load false 1 (.tmp 32)),oo 34 (.un .not (.tmp 33)),oo 35 (.mov (.tmp 34)),og 36 35 true .bool (.mov (.tmp 4)),og 37 35 true .bool (.mov (.tmp 36)),og 38 37 false .bool (.mov (.tmp 0)),og 39 37 false .bool (.call 0 2 (.cst (.fn 63)) [(.tmp 38),(.cst (.str [125]))] [] [.ext 0]),og 40 37 false .bool (.un .not (.tmp 39)),og 41 35 true .bool (.pick (.tmp 37) (.cst (.bool true)) (.tmp 40)),oo 42 (.pick (.tmp 35) (.tmp 41) (.cst (.bool false)))]
def Vc:List TOp:=[oo 43 (.mov (.tmp 0)),oo 44 (.call 0 2 (.cst (.fn 61)) [(.tmp 43),(.cst (.int .i64 1)),(.cst (.bool true))] [] [.ext 0]),ot 45 (.st 6) (.build [.pv (.str []),.pv (.str [])] [(0,1,(.tmp 44))]),oo 5 (.alloc [.pv (.str []),.pv (.str [])]),on (.store 2 (.tmp 5) (.tmp 45))]
def Vd:List TOp:=[oo 46 (.mov (.tmp 0)),ot 47 .str (.lit false 1 [(.cst (.str [58]))]),oo 48 (.call 0 2 (.cst (.fn 56)) [(.tmp 46),(.tmp 47)] [] [.ext 0])]
def Ve:List TOp:=[oo 49 (.mov (.tmp 0)),oo 50 (.call 0 2 (.cst (.fn 61)) [(.tmp 49),(.cst (.int .i64 1)),(.cst (.bool true))] [] [.ext 0]),oo 51 (.fld 1 (.tmp 5)),on (.store 1 (.tmp 51) (.tmp 50))]
def Vf:List TOp:=[oo 52 (.mov (.tmp 0)),ot 53 .str (.lit false 1 [(.cst (.str [37])),(.cst (.str [59]))]),oo 54 (.call 0 2 (.cst (.fn 56)) [(.tmp 52),(.tmp 53)] [] [.ext 0])]
def Vg:List TOp:=[oo 55 (.fld 4 (.tmp 3)),oo 56 (.load false 1 (.tmp 55)),ot 57 (.st 6) (.load true 2 (.tmp 5)),ot 58 (.st 6) (.lit false 2 [(.tmp 57)]),ot 59 (.st 6) (.append 500003 2 32 (.tmp 56) (.tmp 58)),oo 60 (.fld 4 (.tmp 3)),on (.store 1 (.tmp 60) (.tmp 59))]
def Vh:List TOp:=[oo 4 (.mov (.cst (.bool false)))]
def Va:DC:=(.seq (.seq (.ops Vb) (.cond (.tmp 42) .skip (.exit 0))) (.seq (.pass 1 (.seq (.ops Vc) (.seq (.ops Vd) (.seq (.ops Ve) (.seq (.ops Vf) (.ops Vg)))))) (.ops Vh)))
def U7:Kp:=⟨[],[(0,false),(2,false),(3,false),(4,false)],[(.loc 500003 0,false),(.ext 0,false),(.loc 2 0,false),(.loc 3 0,true)],[.loc 5 0],[((.cell (.loc 3 0) 4 (.loc 500003 0) 2),(.st 6))]⟩
def Vo:Sig:=⟨[(0,some (.ptr (.ext 0) 0)),(2,some (.ptr (.loc 2 0) 0)),(3,some (.ptr (.loc 3 0) 0)),(4,some (.ty .bool))],[(.loc 500003 0,(.row (.st 6))),(.ext 0,(.st 3)),(.loc 2 0,(.box [none,none,none,none,some .nils,some .nils,none,none,none])),(.loc 3 0,(.box [some (.ty .str),some (.ty .str),some (.ty .str),some (.ty .str),some (.own (.loc 500003 0)),some (.ty (.sl (.st 4))),some (.ty .str),some (.ty .str),some (.ty .str)]))],[.bool,(.st 3),.str,.str,.str,.str,(.sl (.st 4)),.str,.str,.str,(.sl (.st 6))],[0,2,3,4,5,6,7,8,9,10,1],[0,10,1,2,3,4,5,6,7,8,9]⟩
def U8:Kp:=⟨[.loc 500003 0],[(0,false),(2,false),(3,false)],[(.ext 0,false),(.loc 2 0,false),(.loc 3 0,true)],[],[]⟩
def Vp:Sig:=⟨[(0,some (.ptr (.ext 0) 0)),(2,some (.ptr (.loc 2 0) 0)),(3,some (.ptr (.loc 3 0) 0))],[(.ext 0,(.st 3)),(.loc 2 0,(.box [none,none,none,none,some .nils,some .nils,none,none,none])),(.loc 3 0,(.st 7))],[(.st 3),(.st 7)],[],[]⟩
def Vi:List TOp:=[oo 61 (.mov (.tmp 0)),ot 62 .str (.lit false 1 [(.cst (.str [125])),(.cst (.str [102,101,101]))]),oo 63 (.call 0 2 (.cst (.fn 56)) [(.tmp 61),(.tmp 62)] [] [.ext 0])]
def Vj:List TOp:=[oo 64 (.mov (.tmp 0)),oo 65 (.call 0 2 (.cst (.fn 30)) [(.tmp 64)] [] [.ext 0]),oo 66 (.fld 5 (.tmp 3)),on (.store 1 (.tmp 66) (.tmp 65))]
def Vk:List TOp:=[oo 67 (.mov (.tmp 0)),ot 68 .str (.lit false 1 [(.cst (.str [59]))]),oo 69 (.call 0 2 (.cst (.fn 56)) [(.tmp 67),(.tmp 68)] [] [.ext 0])]
def Vl:List TOp:=[oo 70 (.mov (.tmp 0)),oo 71 (.call 0 2 (.cst (.fn 62)) [(.tmp 70),(.cst (.str [109,105,110,105,109,117,109]))] [] [.ext 0]),oo 72 (.mov (.tmp 0)),oo 73 (.call 0 2 (.cst (.fn 62)) [(.tmp 72),(.cst (.str [111,118,101,114,100,114,97,102,116]))] [] [.ext 0]),oo 74 (.mov (.tmp 0)),oo 75 (.call 0 2 (.cst (.fn 62)) [(.tmp 74),(.cst (.str [110,111,116,105,99,101]))] [] [.ext 0]),oo 76 (.fld 6 (.tmp 3)),on (.store 1 (.tmp 76) (.tmp 71)),oo 77 (.fld 7 (.tmp 3)),on (.store 1 (.tmp 77) (.tmp 73)),oo 78 (.fld 8 (.tmp 3)),on (.store 1 (.tmp 78) (.tmp 75))]
def Vm:List TOp:=[oo 79 (.mov (.tmp 0)),ot 80 .str (.lit false 1 [(.cst (.str [125]))]),oo 81 (.call 0 2 (.cst (.fn 56)) [(.tmp 79),(.tmp 80)] [] [.ext 0])]
def Vn:List TOp:=[ot 82 (.st 7) (.load true 9 (.tmp 3)),on (.store 9 (.tmp 2) (.tmp 82))]
def U9:Kp:=⟨[],[(2,false)],[(.ext 0,false),(.loc 2 0,false)],[],[]⟩
def Aig:TFd:=⟨1,[(.cell 2 true 9,(.st 7))],[],(.seq (.ops Zz) (.seq (.ops Z0) (.seq (.ops Z1) (.seq (.ops Z2) (.seq (.ops Z3) (.seq (.ops Z4) (.seq (.ops Z5) (.seq (.ops Z6) (.seq (.ops Z7) (.seq (.seq (.ops Z8) (.join U8 Vp (.block 0 (.loop [0,2,3,4] [] U7 Vo Va)))) (.seq (.ops Vi) (.seq (.ops Vj) (.seq (.ops Vk) (.seq (.ops Vl) (.seq (.ops Vm) (.seq (.ops Vn) (.keep U9 .ret)))))))))))))))))⟩
noncomputable def Js:Ent:=⟨[.ptr (.ext 0) 0],[.st 3],[(.st 3)],⟨(.ty (.st 7)),[],[some (.st 3)],[(.st 7),(.st 3)],[],[]⟩,none,fun p=>Dd p⟩
theorem Wm:Js.ok Tryz.prog 35:=Ar hm Tryz.func35 (fd:=Aig) (by kernel_rfl) (Ah (l:=[(56,Dt),(61,Fi),(62,K9),(63,Gz),(30,(C6 100000))]) (y:=[]) ⟨E0,Hd,Abe,Ih,(Og 100000),trivial⟩ trivial) (by kernel_rfl) (fun p=>by kernel_rfl)
def A8w:List TOp:=[oo 2 (.mov .nils),oo 3 (.mov (.cst (.int .i64 0))),oo 4 (.mov (.cst (.int .i64 0))),oo 5 (.mov (.cst (.int .i64 0)))]
def A8x:List TOp:=[oo 17 (.mov (.tmp 0)),oo 18 (.call 1 0 (.cst (.fn 29)) [(.tmp 17)] [] []),oo 16 (.mov (.tmp 18)),oo 19 (.ext 0 (.tmp 16)),oo 20 (.ext 1 (.tmp 16)),oo 21 (.ext 2 (.tmp 16)),oo 22 (.ext 3 (.tmp 16)),oo 6 (.mov (.tmp 19)),oo 7 (.mov (.tmp 20)),oo 8 (.mov (.tmp 21)),oo 9 (.mov (.tmp 22))]
def A8y:List TOp:=[oo 23 (.mov (.tmp 9)),oo 24 (.bin false .neq (.tmp 23) (.cst (.int .i64 0)))]
def A8z:List TOp:=[oo 25 (.mov (.tmp 7)),oo 26 (.mov (.tmp 8)),oo 27 (.mov (.tmp 9)),oo 2 (.mov .nils),oo 3 (.mov (.tmp 25)),oo 4 (.mov (.tmp 26)),oo 5 (.mov (.tmp 27))]
def Aei:Kp:=⟨[],[(2,true),(3,false),(4,false),(5,false)],[],[],[]⟩
def A80:List TOp:=[oo 10 (.mov .nils)]
def A81:List TOp:=[oo 11 (.mov (.cst (.bool true)))]
def A82:List TOp:=[oo 28 (.mov (.tmp 6)),oo 29 (.nchk (.tmp 28)),oo 30 (.fld 2 (.tmp 29)),oo 31 (.load false 1 (.tmp 30)),oo 32 (.un .not (.tmp 31)),oo 33 (.mov (.tmp 32)),og 34 33 true .bool (.mov (.tmp 6)),og 35 33 true .bool (.nchk (.tmp 34)),og 36 33 true .bool (.fld 1 (.tmp 35)),og 37 33 true .bool (.load false 1 (.tmp 36)),og 38 33 true .bool (.mov (.tmp 6)),og 39 33 true .bool (.nchk (.tmp 38)),og 40 33 true .bool (.fld 0 (.tmp 39)),og 41 33 true .bool (.load false 1 (.tmp 40)),og 42 33 true .bool (.len false (.tmp 41)),og 43 33 true .bool (.bin false .lss (.tmp 37) (.tmp 42)),oo 44 (.pick (.tmp 33) (.tmp 43) (.cst (.bool false)))]
def A83:List TOp:=[oo 45 (.mov (.tmp 6)),oo 46 (.call 0 2 (.cst (.fn 35)) [(.tmp 45)] [] [.loc 18 0]),oo 12 (.alloc [.pv (.str []),.pv (.str []),.pv (.str []),.pv (.str []),.nils,.nils,.pv (.str []),.pv (.str []),.pv (.str [])]),on (.store 9 (.tmp 12) (.tmp 46))]
def A84:List TOp:=[oo 47 (.mov (.tmp 11)),oo 48 (.mov (.tmp 47)),og 49 48 true .bool (.fld 4 (.tmp 12)),og 50 48 true .bool (.load false 1 (.tmp 49)),og 51 48 true .bool (.len false (.tmp 50)),og 52 48 true .bool (.bin false .leq (.tmp 51) (.cst (.int .i64 8))),oo 53 (.pick (.tmp 48) (.tmp 52) (.cst (.bool false))),oo 54 (.mov (.tmp 53)),og 55 54 true .bool (.fld 5 (.tmp 12)),og 56 54 true .bool (.load false 1 (.tmp 55)),og 57 54 true .bool (.call 0 0 (.cst (.fn 23)) [(.tmp 56)] [] []),oo 58 (.pick (.tmp 54) (.tmp 57) (.cst (.bool false))),oo 11 (.mov (.tmp 58))]
def A2t:List TOp:=[oo 59 (.mov (.tmp 10)),ot 60 (.st 7) (.load true 9 (.tmp 12)),ot 61 (.st 7) (.lit false 9 [(.tmp 60)]),ot 62 (.st 7) (.append 10 9 160 (.tmp 59) (.tmp 61)),oo 10 (.mov (.tmp 62))]
def A2s:DC:=(.seq (.seq (.draw [] A82) (.cond (.tmp 44) .skip (.exit 0))) (.pass 1 (.seq (.ops A83) (.seq (.ops A84) (.ops A2t)))))
def A2q:Kp:=⟨[],[(0,false),(6,false),(10,false),(11,false)],[(.loc 10 0,false),(.loc 18 0,false)],[.loc 12 0],[((.slot 10 (.loc 10 0) 9),(.st 7))]⟩
def A2y:Sig:=⟨[(0,none),(6,some (.ptr (.loc 18 0) 0)),(10,some (.own (.loc 10 0))),(11,some (.ty .bool))],[(.loc 10 0,(.row (.st 7))),(.loc 18 0,(.st 3))],[.bool,(.st 3),(.sl (.st 7))],[0,2,1],[0,2,1]⟩
def A2r:Kp:=⟨[.loc 10 0],[(0,false),(6,false),(10,true),(11,false)],[(.loc 18 0,false)],[],[]⟩
def A2z:Sig:=⟨[(0,none),(6,some (.ptr (.loc 18 0) 0)),(10,some (.ty (.sl (.st 7)))),(11,some (.ty .bool))],[(.loc 18 0,(.st 3))],[(.sl (.st 7)),.bool,(.st 3)],[],[]⟩
def A2u:List TOp:=[oo 64 (.mov (.tmp 6)),oo 65 (.mov (.tmp 0)),oo 66 (.mov (.tmp 11)),oo 67 (.mov (.tmp 66)),og 68 67 true .bool (.mov (.tmp 10)),og 69 67 true .bool (.len false (.tmp 68)),og 70 67 true .bool (.bin false .leq (.tmp 69) (.cst (.int .i64 16))),oo 71 (.pick (.tmp 67) (.tmp 70) (.cst (.bool false))),oo 72 (.call 0 2 (.cst (.fn 31)) [(.tmp 64),(.tmp 65),(.tmp 71)] [] [.loc 18 0]),oo 63 (.mov (.tmp 72)),oo 73 (.ext 0 (.tmp 63)),oo 74 (.ext 1 (.tmp 63)),oo 75 (.ext 2 (.tmp 63)),oo 13 (.mov (.tmp 73)),oo 14 (.mov (.tmp 74)),oo 15 (.mov (.tmp 75))]
def A2v:List TOp:=[oo 76 (.mov (.tmp 15)),oo 77 (.bin false .neq (.tmp 76) (.cst (.int .i64 0)))]
def A2w:List TOp:=[oo 78 (.mov (.tmp 13)),oo 79 (.mov (.tmp 14)),oo 80 (.mov (.tmp 15)),oo 2 (.mov .nils),oo 3 (.mov (.tmp 78)),oo 4 (.mov (.tmp 79)),oo 5 (.mov (.tmp 80))]
def A2x:List TOp:=[oo 81 (.mov (.tmp 10)),oo 2 (.mov (.tmp 81)),oo 3 (.mov (.cst (.int .i64 0))),oo 4 (.mov (.cst (.int .i64 0))),oo 5 (.mov (.cst (.int .i64 0)))]
def Bhr:TFd:=⟨1,[(.tmp 2,.bool),(.tmp 3,.bool),(.tmp 4,.bool),(.tmp 5,.bool)],[],(.seq (.ops A8w) (.seq (.ops A8x) (.seq (.seq (.ops A8y) (.cond (.tmp 24) (.free (.seq (.ops A8z) (.keep Aei .ret))) .skip)) (.seq (.ops A80) (.seq (.ops A81) (.seq (.join A2r A2z (.block 0 (.loop [0,6,10,11] [] A2q A2y A2s))) (.seq (.seq (.ops A2u) (.seq (.ops A2v) (.cond (.tmp 77) (.free (.seq (.ops A2w) (.keep Aei .ret))) .skip))) (.seq (.ops A2x) (.keep Aei .ret)))))))))⟩
noncomputable def Aut:Ent:=⟨[.ty .str],[],[.str],⟨(.tup [(.ty (.sl (.st 7))),(.ty (.int .i64)),(.ty (.int .i64)),(.ty (.int .i64))]),[],[],[(.sl (.st 7)),(.int .i64),(.int .i64),(.int .i64)],[],[]⟩,none,fun p=>Wi p⟩
theorem A7j:Aut.ok Tryz.prog 12:=Ar hm Tryz.func12 (fd:=Bhr) (by kernel_rfl) (Ah (l:=[(29,Tr),(35,Js),(23,Gn),(31,Ig)]) (y:=[]) ⟨Ajm,Wm,Hb,Oh,trivial⟩ trivial) (by kernel_rfl) (fun p=>by kernel_rfl)
def Azv:List TOp:=[oo 1 (.box (.tmp 0)),oo 2 (.mov (.cst (.bool false)))]
def Azw:List TOp:=[oo 3 (.fld 0 (.tmp 1)),oo 4 (.load false 1 (.tmp 3)),oo 5 (.call 0 0 (.cst (.fn 75)) [(.tmp 4)] [] []),oo 6 (.un .not (.tmp 5)),oo 7 (.mov (.tmp 6)),og 8 7 false .bool (.fld 1 (.tmp 1)),og 9 7 false .bool (.load false 1 (.tmp 8)),og 10 7 false .bool (.call 0 0 (.cst (.fn 75)) [(.tmp 9)] [] []),og 11 7 false .bool (.un .not (.tmp 10)),oo 12 (.pick (.tmp 7) (.cst (.bool true)) (.tmp 11)),oo 2 (.mov (.tmp 12))]
def Azu:Kp:=⟨[],[(2,false)],[],[],[]⟩
def A9i:TFd:=⟨1,[(.tmp 2,.bool)],[],(.seq (.ops Azv) (.seq (.ops Azw) (.keep Azu .ret)))⟩
noncomputable def Aoj:Ent:=⟨[.ty (.st 6)],[],[(.st 6)],⟨(.ty .bool),[],[],[.bool],[],[]⟩,none,fun p=>Mz p⟩
theorem Ayl:Aoj.ok Tryz.prog 76:=Ar hm Tryz.func76 (fd:=A9i) (by kernel_rfl) (Ah (l:=[(75,Jp)]) (y:=[]) ⟨N7,trivial⟩ trivial) (by kernel_rfl) (fun p=>by kernel_rfl)
def M5:List TOp:=[oo 4 (.mov (.cst (.int .i64 0)))]
def M6:List TOp:=[oo 6 (.mov (.tmp 0)),oo 7 (.len false (.tmp 6)),oo 8 (.mov (.cst (.int .i64 0)))]
def M7:List TOp:=[oo 9 (.bin false .lss (.tmp 8) (.tmp 7))]
def M8:List TOp:=[oo 10 (.mov (.tmp 8)),oo 5 (.mov (.tmp 10))]
def M9:List TOp:=[oo 11 (.mov (.tmp 1)),oo 12 (.mov (.tmp 0)),oo 13 (.mov (.tmp 5)),oo 14 (.idx 2 (.tmp 12) (.tmp 13)),ot 15 (.st 6) (.load true 2 (.tmp 14)),oo 16 (.call 0 0 (.tmp 11) [(.tmp 15)] [] [])]
def Na:List TOp:=[oo 17 (.mov (.tmp 5)),oo 4 (.mov (.tmp 17))]
def F4:Kp:=⟨[],[(4,false)],[],[],[]⟩
def Nb:List TOp:=[oo 18 (.bin false .add (.tmp 8) (.cst (.int .i64 1))),oo 8 (.mov (.tmp 18))]
def M4:DC:=(.seq (.ops M7) (.seq (.cond (.tmp 9) .skip (.exit 0)) (.seq (.pass 1 (.seq (.ops M8) (.seq (.ops M9) (.cond (.tmp 16) (.free (.seq (.ops Na) (.keep F4 .ret))) .skip)))) (.ops Nb))))
def M3:Kp:=⟨[],[(0,false),(1,false),(7,false),(8,false)],[],[],[]⟩
def Lx:Sig:=⟨[(0,none),(1,some (.fnc 76)),(7,none),(8,some (.ty (.int .i64)))],[],[(.int .i64)],[],[]⟩
def Lv:Kp:=⟨[],[],[],[],[]⟩
def Ly:Sig:=⟨[],[],[],[],[]⟩
def Lw:List TOp:=[oo 4 (.mov (.cst (.int .i64 (-1))))]
def Po:TFd:=⟨2,[(.tmp 4,.bool)],[],(.seq (.ops M5) (.seq (.seq (.ops M6) (.joinO Lv Ly (.block 0 (.loop [0,1,7,8] [] M3 Lx M4)))) (.seq (.ops Lw) (.keep F4 .ret))))⟩
noncomputable def Gi:Ent:=⟨[.ty (.sl (.st 6)),.fnc 76],[],[(.sl (.st 6))],⟨(.ty (.int .i64)),[],[],[(.int .i64)],[],[]⟩,none,fun p=>Eb p⟩
theorem Nx:Gi.ok Tryz.prog 104:=Ar hm Tryz.func104 (fd:=Po) (by kernel_rfl) (Ah (l:=[(76,Aoj)]) (y:=[]) ⟨Ayl,trivial⟩ trivial) (by kernel_rfl) (fun p=>by kernel_rfl)
def J1:List TOp:=[oo 4 (.mov (.cst (.bool false)))]
def J2:List TOp:=[oo 5 (.mov (.tmp 0)),oo 6 (.mov (.tmp 1)),oo 7 (.call 0 0 (.cst (.fn 104)) [(.tmp 5),(.tmp 6)] [] []),oo 8 (.bin false .geq (.tmp 7) (.cst (.int .i64 0))),oo 4 (.mov (.tmp 8))]
def J0:Kp:=⟨[],[(4,false)],[],[],[]⟩
def Lr:TFd:=⟨2,[(.tmp 4,.bool)],[],(.seq (.ops J1) (.seq (.ops J2) (.keep J0 .ret)))⟩
noncomputable def E9:Ent:=⟨[.ty (.sl (.st 6)),.fnc 76],[],[(.sl (.st 6))],⟨(.ty .bool),[],[],[.bool],[],[]⟩,none,fun p=>Cf p⟩
theorem Ka:E9.ok Tryz.prog 77:=Ar hm Tryz.func77 (fd:=Lr) (by kernel_rfl) (Ah (l:=[(104,Gi)]) (y:=[]) ⟨Nx,trivial⟩ trivial) (by kernel_rfl) (fun p=>by kernel_rfl)
def A9l:List TOp:=[oo 1 (.box (.tmp 0)),oo 2 (.mov (.cst (.bool false)))]
def A9m:List TOp:=[oo 8 (.fld 0 (.tmp 1)),oo 9 (.load false 1 (.tmp 8)),oo 10 (.fld 1 (.tmp 1)),oo 11 (.load false 1 (.tmp 10)),oo 12 (.fld 2 (.tmp 1)),oo 13 (.load false 1 (.tmp 12)),ot 14 .str (.lit false 1 [(.tmp 9),(.tmp 11),(.tmp 13)]),oo 15 (.len false (.tmp 14)),oo 16 (.mov (.cst (.int .i64 0)))]
def A9n:List TOp:=[oo 17 (.bin false .lss (.tmp 16) (.tmp 15))]
def A9o:List TOp:=[oo 18 (.idx 1 (.tmp 14) (.tmp 16)),oo 19 (.load false 1 (.tmp 18)),oo 4 (.mov (.tmp 19))]
def A9p:List TOp:=[oo 20 (.mov (.tmp 4)),oo 21 (.call 0 0 (.cst (.fn 74)) [(.tmp 20),(.cst (.bool true))] [] []),oo 22 (.un .not (.tmp 21))]
def A9q:List TOp:=[oo 2 (.mov (.cst (.bool false)))]
def Aej:Kp:=⟨[],[(2,false)],[],[],[]⟩
def A9r:List TOp:=[oo 23 (.bin false .add (.tmp 16) (.cst (.int .i64 1))),oo 16 (.mov (.tmp 23))]
def A9k:DC:=(.seq (.ops A9n) (.seq (.cond (.tmp 17) .skip (.exit 0)) (.seq (.pass 1 (.seq (.ops A9o) (.seq (.ops A9p) (.cond (.tmp 22) (.free (.seq (.ops A9q) (.keep Aej .ret))) .skip)))) (.ops A9r))))
def A9j:Kp:=⟨[],[(1,false),(14,false),(15,false),(16,false)],[(.loc 1 0,false)],[],[]⟩
def A3u:Sig:=⟨[(1,some (.ptr (.loc 1 0) 0)),(14,none),(15,none),(16,some (.ty (.int .i64)))],[(.loc 1 0,(.box [none,none,none,none,none,none,none,none,none]))],[(.int .i64)],[],[]⟩
def Aoq:Kp:=⟨[],[(1,false)],[(.loc 1 0,false)],[],[]⟩
def Aor:Sig:=⟨[(1,some (.ptr (.loc 1 0) 0))],[(.loc 1 0,(.box [none,none,none,none,none,none,none,none,none]))],[],[],[]⟩
def A3m:List TOp:=[oo 24 (.fld 3 (.tmp 1)),oo 25 (.load false 1 (.tmp 24)),oo 26 (.fld 6 (.tmp 1)),oo 27 (.load false 1 (.tmp 26)),oo 28 (.fld 7 (.tmp 1)),oo 29 (.load false 1 (.tmp 28)),oo 30 (.fld 8 (.tmp 1)),oo 31 (.load false 1 (.tmp 30)),ot 32 .str (.lit false 1 [(.tmp 25),(.tmp 27),(.tmp 29),(.tmp 31)]),oo 33 (.len false (.tmp 32)),oo 34 (.mov (.cst (.int .i64 0)))]
def A3n:List TOp:=[oo 35 (.bin false .lss (.tmp 34) (.tmp 33))]
def A3o:List TOp:=[oo 36 (.idx 1 (.tmp 32) (.tmp 34)),oo 37 (.load false 1 (.tmp 36)),oo 6 (.mov (.tmp 37))]
def A3p:List TOp:=[oo 38 (.mov (.tmp 6)),oo 39 (.call 0 0 (.cst (.fn 75)) [(.tmp 38)] [] []),oo 40 (.un .not (.tmp 39))]
def A3q:List TOp:=[oo 2 (.mov (.cst (.bool false)))]
def A3r:List TOp:=[oo 41 (.bin false .add (.tmp 34) (.cst (.int .i64 1))),oo 34 (.mov (.tmp 41))]
def A3l:DC:=(.seq (.ops A3n) (.seq (.cond (.tmp 35) .skip (.exit 2)) (.seq (.pass 3 (.seq (.ops A3o) (.seq (.ops A3p) (.cond (.tmp 40) (.free (.seq (.ops A3q) (.keep Aej .ret))) .skip)))) (.ops A3r))))
def A3k:Kp:=⟨[],[(1,false),(32,false),(33,false),(34,false)],[(.loc 1 0,false)],[],[]⟩
def A3v:Sig:=⟨[(1,some (.ptr (.loc 1 0) 0)),(32,none),(33,none),(34,some (.ty (.int .i64)))],[(.loc 1 0,(.box [none,none,none,none,none,none,none,none,none]))],[(.int .i64)],[],[]⟩
def A3s:List TOp:=[oo 7 (.mov (.cst (.fn 76)))]
def A3t:List TOp:=[oo 42 (.fld 4 (.tmp 1)),oo 43 (.load false 1 (.tmp 42)),oo 44 (.len false (.tmp 43)),oo 45 (.bin false .geq (.tmp 44) (.cst (.int .i64 1))),oo 46 (.mov (.tmp 45)),og 47 46 true .bool (.fld 4 (.tmp 1)),og 48 46 true .bool (.load false 1 (.tmp 47)),og 49 46 true .bool (.len false (.tmp 48)),og 50 46 true .bool (.bin false .leq (.tmp 49) (.cst (.int .i64 8))),oo 51 (.pick (.tmp 46) (.tmp 50) (.cst (.bool false))),oo 52 (.mov (.tmp 51)),og 53 52 true .bool (.fld 4 (.tmp 1)),og 54 52 true .bool (.load false 1 (.tmp 53)),og 55 52 true .bool (.mov (.tmp 7)),og 56 52 true .bool (.call 0 0 (.cst (.fn 77)) [(.tmp 54),(.tmp 55)] [] []),og 57 52 true .bool (.un .not (.tmp 56)),oo 58 (.pick (.tmp 52) (.tmp 57) (.cst (.bool false))),oo 59 (.mov (.tmp 58)),og 60 59 true .bool (.fld 5 (.tmp 1)),og 61 59 true .bool (.load false 1 (.tmp 60)),og 62 59 true .bool (.call 0 0 (.cst (.fn 23)) [(.tmp 61)] [] []),oo 63 (.pick (.tmp 59) (.tmp 62) (.cst (.bool false))),oo 2 (.mov (.tmp 63))]
def Bht:TFd:=⟨1,[(.tmp 2,.bool)],[],(.seq (.ops A9l) (.seq (.seq (.ops A9m) (.joinO Aoq Aor (.block 0 (.loop [1,14,15,16] [] A9j A3u A9k)))) (.seq (.seq (.ops A3m) (.joinO Aoq Aor (.block 2 (.loop [1,32,33,34] [] A3k A3v A3l)))) (.seq (.ops A3s) (.seq (.ops A3t) (.keep Aej .ret))))))⟩
noncomputable def Auu:Ent:=⟨[.ty (.st 7)],[],[(.st 7)],⟨(.ty .bool),[],[],[.bool],[],[]⟩,none,fun p=>Amb p⟩
theorem A7k:Auu.ok Tryz.prog 43:=Ar hm Tryz.func43 (fd:=Bht) (by kernel_rfl) (Ah (l:=[(74,Abg),(75,Jp),(77,E9),(23,Gn)]) (y:=[]) ⟨Aon,N7,Ka,Hb,trivial⟩ trivial) (by kernel_rfl) (fun p=>by kernel_rfl)
def Ana:List TOp:=[oo 1 (.box (.tmp 0)),oo 2 (.mov (.cst (.bool false)))]
def Anb:List TOp:=[ot 3 (.st 7) (.load true 9 (.tmp 1)),oo 4 (.call 0 0 (.cst (.fn 43)) [(.tmp 3)] [] []),oo 5 (.un .not (.tmp 4)),oo 2 (.mov (.tmp 5))]
def Am9:Kp:=⟨[],[(2,false)],[],[],[]⟩
def Arx:TFd:=⟨1,[(.tmp 2,.bool)],[],(.seq (.ops Ana) (.seq (.ops Anb) (.keep Am9 .ret)))⟩
noncomputable def Qk:Ent:=⟨[.ty (.st 7)],[],[(.st 7)],⟨(.ty .bool),[],[],[.bool],[],[]⟩,none,fun p=>Fp p⟩
theorem Amo:Qk.ok Tryz.prog 42:=Ar hm Tryz.func42 (fd:=Arx) (by kernel_rfl) (Ah (l:=[(43,Auu)]) (y:=[]) ⟨A7k,trivial⟩ trivial) (by kernel_rfl) (fun p=>by kernel_rfl)
def Ng:List TOp:=[oo 4 (.mov (.cst (.int .i64 0)))]
def Nh:List TOp:=[oo 6 (.mov (.tmp 0)),oo 7 (.len false (.tmp 6)),oo 8 (.mov (.cst (.int .i64 0)))]
def Ni:List TOp:=[oo 9 (.bin false .lss (.tmp 8) (.tmp 7))]
def Nj:List TOp:=[oo 10 (.mov (.tmp 8)),oo 5 (.mov (.tmp 10))]
def Nk:List TOp:=[oo 11 (.mov (.tmp 1)),oo 12 (.mov (.tmp 0)),oo 13 (.mov (.tmp 5)),oo 14 (.idx 9 (.tmp 12) (.tmp 13)),ot 15 (.st 7) (.load true 9 (.tmp 14)),oo 16 (.call 0 0 (.tmp 11) [(.tmp 15)] [] [])]
def Nl:List TOp:=[oo 17 (.mov (.tmp 5)),oo 4 (.mov (.tmp 17))]
def F5:Kp:=⟨[],[(4,false)],[],[],[]⟩
def Nm:List TOp:=[oo 18 (.bin false .add (.tmp 8) (.cst (.int .i64 1))),oo 8 (.mov (.tmp 18))]
def Nf:DC:=(.seq (.ops Ni) (.seq (.cond (.tmp 9) .skip (.exit 0)) (.seq (.pass 1 (.seq (.ops Nj) (.seq (.ops Nk) (.cond (.tmp 16) (.free (.seq (.ops Nl) (.keep F5 .ret))) .skip)))) (.ops Nm))))
def Nc:Kp:=⟨[],[(0,false),(1,false),(7,false),(8,false)],[],[],[]⟩
def L1:Sig:=⟨[(0,none),(1,some (.fnc 42)),(7,none),(8,some (.ty (.int .i64)))],[],[(.int .i64)],[],[]⟩
def Lz:Kp:=⟨[],[],[],[],[]⟩
def L2:Sig:=⟨[],[],[],[],[]⟩
def L0:List TOp:=[oo 4 (.mov (.cst (.int .i64 (-1))))]
def Pp:TFd:=⟨2,[(.tmp 4,.bool)],[],(.seq (.ops Ng) (.seq (.seq (.ops Nh) (.joinO Lz L2 (.block 0 (.loop [0,1,7,8] [] Nc L1 Nf)))) (.seq (.ops L0) (.keep F5 .ret))))⟩
noncomputable def Gj:Ent:=⟨[.ty (.sl (.st 7)),.fnc 42],[],[(.sl (.st 7))],⟨(.ty (.int .i64)),[],[],[(.int .i64)],[],[]⟩,none,fun p=>Ec p⟩
theorem Ny:Gj.ok Tryz.prog 78:=Ar hm Tryz.func78 (fd:=Pp) (by kernel_rfl) (Ah (l:=[(42,Qk)]) (y:=[]) ⟨Amo,trivial⟩ trivial) (by kernel_rfl) (fun p=>by kernel_rfl)
def J4:List TOp:=[oo 4 (.mov (.cst (.bool false)))]
def J5:List TOp:=[oo 5 (.mov (.tmp 0)),oo 6 (.mov (.tmp 1)),oo 7 (.call 0 0 (.cst (.fn 78)) [(.tmp 5),(.tmp 6)] [] []),oo 8 (.bin false .geq (.tmp 7) (.cst (.int .i64 0))),oo 4 (.mov (.tmp 8))]
def J3:Kp:=⟨[],[(4,false)],[],[],[]⟩
def Ls:TFd:=⟨2,[(.tmp 4,.bool)],[],(.seq (.ops J4) (.seq (.ops J5) (.keep J3 .ret)))⟩
noncomputable def Fa:Ent:=⟨[.ty (.sl (.st 7)),.fnc 42],[],[(.sl (.st 7))],⟨(.ty .bool),[],[],[.bool],[],[]⟩,none,fun p=>Cg p⟩
theorem Kb:Fa.ok Tryz.prog 44:=Ar hm Tryz.func44 (fd:=Ls) (by kernel_rfl) (Ah (l:=[(78,Gj)]) (y:=[]) ⟨Ny,trivial⟩ trivial) (by kernel_rfl) (fun p=>by kernel_rfl)
def Ary:List TOp:=[oo 2 (.mov (.cst (.str []))),oo 3 (.mov (.cst (.int .i64 0)))]
def Arz:List TOp:=[oo 4 (.mov (.cst (.fn 42)))]
def Ar0:List TOp:=[oo 12 (.mov (.tmp 0)),oo 13 (.len false (.tmp 12)),oo 14 (.bin false .gtr (.tmp 13) (.cst (.int .i64 16))),oo 15 (.mov (.tmp 14)),og 16 15 false .bool (.mov (.tmp 0)),og 17 15 false .bool (.mov (.tmp 4)),og 18 15 false .bool (.call 0 0 (.cst (.fn 44)) [(.tmp 16),(.tmp 17)] [] []),oo 19 (.pick (.tmp 15) (.cst (.bool true)) (.tmp 18))]
def Ar1:List TOp:=[oo 2 (.mov (.cst (.str []))),oo 3 (.mov (.cst (.int .i64 1)))]
def Tc:Kp:=⟨[],[(2,false),(3,false)],[],[],[]⟩
def Ar2:List TOp:=[oo 5 (.mov .nils)]
def Ar3:List TOp:=[oo 20 (.mov (.tmp 0)),oo 21 (.len false (.tmp 20)),oo 22 (.mov (.cst (.int .i64 0)))]
def Ar4:List TOp:=[oo 23 (.bin false .lss (.tmp 22) (.tmp 21))]
def Ar5:List TOp:=[oo 24 (.idx 9 (.tmp 20) (.tmp 22)),ot 25 (.st 7) (.load true 9 (.tmp 24)),oo 7 (.alloc [.pv (.str []),.pv (.str []),.pv (.str []),.pv (.str []),.nils,.nils,.pv (.str []),.pv (.str []),.pv (.str [])]),on (.store 9 (.tmp 7) (.tmp 25))]
def Ar6:List TOp:=[oo 26 (.mov (.tmp 5)),oo 27 (.fld 0 (.tmp 7)),oo 28 (.load false 1 (.tmp 27)),oo 29 (.fld 1 (.tmp 7)),oo 30 (.load false 1 (.tmp 29)),oo 31 (.fld 2 (.tmp 7)),oo 32 (.load false 1 (.tmp 31)),oo 33 (.fld 3 (.tmp 7)),oo 34 (.load false 1 (.tmp 33)),ot 35 .str (.lit false 1 [(.cst (.str [112,114,111,100,117,99,116])),(.tmp 28),(.tmp 30),(.cst (.str [123])),(.cst (.str [98,97,115,105,115])),(.tmp 32),(.cst (.str [59])),(.cst (.str [112,101,114,105,111,100])),(.tmp 34),(.cst (.str [59])),(.cst (.str [116,105,101,114,115])),(.cst (.str [123]))]),ot 36 .str (.append 5 1 16 (.tmp 26) (.tmp 35)),oo 5 (.mov (.tmp 36))]
def Apx:List TOp:=[oo 37 (.fld 4 (.tmp 7)),oo 38 (.load false 1 (.tmp 37)),oo 39 (.len false (.tmp 38)),oo 40 (.mov (.cst (.int .i64 0)))]
def Apy:List TOp:=[oo 41 (.bin false .lss (.tmp 40) (.tmp 39))]
def Apz:List TOp:=[oo 42 (.idx 2 (.tmp 38) (.tmp 40)),ot 43 (.st 6) (.load true 2 (.tmp 42)),oo 9 (.alloc [.pv (.str []),.pv (.str [])]),on (.store 2 (.tmp 9) (.tmp 43))]
def Ap0:List TOp:=[oo 44 (.mov (.tmp 5)),oo 45 (.fld 0 (.tmp 9)),oo 46 (.load false 1 (.tmp 45)),oo 47 (.fld 1 (.tmp 9)),oo 48 (.load false 1 (.tmp 47)),ot 49 .str (.lit false 1 [(.tmp 46),(.cst (.str [58])),(.tmp 48),(.cst (.str [37])),(.cst (.str [59]))]),ot 50 .str (.append 5 1 16 (.tmp 44) (.tmp 49)),oo 5 (.mov (.tmp 50))]
def Ap1:List TOp:=[oo 51 (.bin false .add (.tmp 40) (.cst (.int .i64 1))),oo 40 (.mov (.tmp 51))]
def Apv:DC:=(.seq (.ops Apy) (.seq (.cond (.tmp 41) .skip (.exit 2)) (.seq (.pass 3 (.seq (.ops Apz) (.ops Ap0))) (.ops Ap1))))
def Apr:Kp:=⟨[],[(5,false),(7,false),(20,false),(21,false),(22,false),(38,false),(39,false),(40,false)],[(.loc 5 0,false),(.loc 7 0,false)],[.loc 9 0],[]⟩
def Ap7:Sig:=⟨[(5,some (.own (.loc 5 0))),(7,some (.ptr (.loc 7 0) 0)),(20,none),(21,none),(22,none),(38,none),(39,none),(40,some (.ty (.int .i64)))],[(.loc 5 0,(.row .str)),(.loc 7 0,(.box [none,none,none,none,none,none,none,none,none]))],[(.int .i64),(.sl .str)],[],[]⟩
def Aps:Kp:=⟨[],[(5,false),(7,false),(20,false),(21,false),(22,false)],[(.loc 5 0,false),(.loc 7 0,false)],[],[]⟩
def Ap8:Sig:=⟨[(5,some (.own (.loc 5 0))),(7,some (.ptr (.loc 7 0) 0)),(20,none),(21,none),(22,none)],[(.loc 5 0,(.row .str)),(.loc 7 0,(.box [none,none,none,none,none,none,none,none,none]))],[(.sl .str)],[],[]⟩
def Ap2:List TOp:=[oo 53 (.fld 5 (.tmp 7)),oo 54 (.load false 1 (.tmp 53)),oo 55 (.call 0 0 (.cst (.fn 37)) [(.tmp 54),(.cst (.int .i64 0))] [] []),oo 52 (.mov (.tmp 55)),oo 56 (.ext 0 (.tmp 52)),oo 57 (.ext 1 (.tmp 52)),oo 10 (.mov (.tmp 56)),oo 11 (.mov (.tmp 57))]
def Ap3:List TOp:=[oo 58 (.mov (.tmp 5)),ot 59 .str (.lit false 1 [(.cst (.str [125])),(.cst (.str [102,101,101]))]),ot 60 .str (.append 5 1 16 (.tmp 58) (.tmp 59)),oo 61 (.mov (.tmp 10)),ot 62 .str (.append 60 1 16 (.tmp 60) (.tmp 61)),oo 5 (.mov (.tmp 62))]
def Ap4:List TOp:=[oo 63 (.mov (.tmp 5)),oo 64 (.fld 6 (.tmp 7)),oo 65 (.load false 1 (.tmp 64)),oo 66 (.fld 7 (.tmp 7)),oo 67 (.load false 1 (.tmp 66)),oo 68 (.fld 8 (.tmp 7)),oo 69 (.load false 1 (.tmp 68)),ot 70 .str (.lit false 1 [(.cst (.str [59])),(.cst (.str [109,105,110,105,109,117,109])),(.tmp 65),(.cst (.str [59])),(.cst (.str [111,118,101,114,100,114,97,102,116])),(.tmp 67),(.cst (.str [59])),(.cst (.str [110,111,116,105,99,101])),(.tmp 69),(.cst (.str [59])),(.cst (.str [125]))]),ot 71 .str (.append 5 1 16 (.tmp 63) (.tmp 70)),oo 5 (.mov (.tmp 71))]
def Ap5:List TOp:=[oo 72 (.bin false .add (.tmp 22) (.cst (.int .i64 1))),oo 22 (.mov (.tmp 72))]
def Apw:DC:=(.seq (.ops Ar4) (.seq (.cond (.tmp 23) .skip (.exit 0)) (.seq (.pass 1 (.seq (.ops Ar5) (.seq (.ops Ar6) (.seq (.seq (.ops Apx) (.join Aps Ap8 (.block 2 (.loop [5,7,20,21,22,38,39,40] [] Apr Ap7 Apv)))) (.seq (.ops Ap2) (.seq (.ops Ap3) (.ops Ap4))))))) (.ops Ap5))))
def Apt:Kp:=⟨[],[(5,false),(20,false),(21,false),(22,false)],[(.loc 5 0,false)],[.loc 7 0],[((.slot 5 (.loc 5 0) 1),.str)]⟩
def Ap9:Sig:=⟨[(5,some (.own (.loc 5 0))),(20,none),(21,none),(22,some (.ty (.int .i64)))],[(.loc 5 0,(.row .str))],[(.int .i64),(.sl .str)],[],[]⟩
def Apu:Kp:=⟨[.loc 5 0],[(5,true)],[],[],[]⟩
def Aqa:Sig:=⟨[(5,some (.ty (.sl .str)))],[],[(.sl .str)],[],[]⟩
def Ap6:List TOp:=[oo 73 (.mov (.tmp 5)),oo 74 (.call 0 0 (.cst (.fn 38)) [(.tmp 73),(.cst (.str [32]))] [] []),oo 2 (.mov (.tmp 74)),oo 3 (.mov (.cst (.int .i64 0)))]
def Avh:TFd:=⟨1,[(.tmp 2,.bool),(.tmp 3,.bool)],[],(.seq (.ops Ary) (.seq (.ops Arz) (.seq (.seq (.ops Ar0) (.cond (.tmp 19) (.free (.seq (.ops Ar1) (.keep Tc .ret))) .skip)) (.seq (.ops Ar2) (.seq (.seq (.ops Ar3) (.join Apu Aqa (.block 0 (.loop [5,20,21,22] [] Apt Ap9 Apw)))) (.seq (.ops Ap6) (.keep Tc .ret)))))))⟩
noncomputable def Wj:Ent:=⟨[.ty (.sl (.st 7))],[],[(.sl (.st 7))],⟨(.tup [(.ty .str),(.ty (.int .i64))]),[],[],[.str,(.int .i64)],[],[]⟩,none,fun p=>Jo p⟩
theorem Arm:Wj.ok Tryz.prog 19:=Ar hm Tryz.func19 (fd:=Avh) (by kernel_rfl) (Ah (l:=[(44,Fa),(37,(Mi 100000)),(38,Re)]) (y:=[]) ⟨Kb,(Qm 100000),Tg,trivial⟩ trivial) (by kernel_rfl) (fun p=>by kernel_rfl)
def Acy:List TOp:=[oo 4 (.mov (.cst (.bool false)))]
def Acz:List TOp:=[oo 6 (.mov (.tmp 0)),oo 7 (.len false (.tmp 6)),oo 8 (.mov (.tmp 1)),oo 9 (.len false (.tmp 8)),oo 10 (.bin false .neq (.tmp 7) (.tmp 9))]
def Ac0:List TOp:=[oo 4 (.mov (.cst (.bool false)))]
def Gg:Kp:=⟨[],[(4,false)],[],[],[]⟩
def Ac1:List TOp:=[oo 5 (.mov (.cst (.int .i64 0)))]
def Ac2:List TOp:=[oo 11 (.mov (.tmp 5)),oo 12 (.mov (.tmp 0)),oo 13 (.len false (.tmp 12)),oo 14 (.bin false .lss (.tmp 11) (.tmp 13))]
def Ac3:List TOp:=[oo 17 (.mov (.tmp 0)),oo 18 (.mov (.tmp 5)),oo 19 (.idx 2 (.tmp 17) (.tmp 18)),ot 20 (.st 4) (.load true 2 (.tmp 19)),oo 21 (.mov (.tmp 1)),oo 22 (.mov (.tmp 5)),oo 23 (.idx 2 (.tmp 21) (.tmp 22)),ot 24 (.st 4) (.load true 2 (.tmp 23)),oo 25 (.eqs true [.i,.s] (.tmp 20) (.tmp 24))]
def Ac4:List TOp:=[oo 4 (.mov (.cst (.bool false)))]
def Ac5:List TOp:=[oo 15 (.mov (.tmp 5)),oo 16 (.bin false .add (.tmp 15) (.cst (.int .i64 1))),oo 5 (.mov (.tmp 16))]
def Acx:DC:=(.seq (.seq (.ops Ac2) (.cond (.tmp 14) .skip (.exit 0))) (.seq (.pass 1 (.seq (.draw [] Ac3) (.cond (.tmp 25) (.free (.seq (.ops Ac4) (.keep Gg .ret))) .skip))) (.ops Ac5)))
def Yj:Kp:=⟨[],[(0,false),(1,false),(5,false)],[],[],[]⟩
def Ym:Sig:=⟨[(0,none),(1,none),(5,some (.ty (.int .i64)))],[],[(.int .i64)],[],[]⟩
def Yk:Kp:=⟨[],[],[],[],[]⟩
def Yn:Sig:=⟨[],[],[],[],[]⟩
def Yl:List TOp:=[oo 4 (.mov (.cst (.bool true)))]
def Akj:TFd:=⟨2,[(.tmp 4,.bool)],[],(.seq (.ops Acy) (.seq (.seq (.ops Acz) (.cond (.tmp 10) (.free (.seq (.ops Ac0) (.keep Gg .ret))) .skip)) (.seq (.seq (.ops Ac1) (.joinO Yk Yn (.block 0 (.loop [0,1,5] [] Yj Ym Acx)))) (.seq (.ops Yl) (.keep Gg .ret)))))⟩
noncomputable def Gq:Ent:=⟨[.ty (.sl (.st 4)),.ty (.sl (.st 4))],[],[(.sl (.st 4)),(.sl (.st 4))],⟨(.ty .bool),[],[],[.bool],[],[]⟩,none,fun p=>Dr p.1 p.2⟩
theorem Jb:Gq.ok Tryz.prog 11:=Ar hm Tryz.func11 (fd:=Akj) (by kernel_rfl) (Ah (l:=[]) (y:=[]) trivial trivial) (by kernel_rfl) (fun p=>by kernel_rfl)
def R6:List TOp:=[oo 4 (.mov (.cst (.bool false)))]
def R7:List TOp:=[oo 6 (.mov (.tmp 0)),oo 7 (.len false (.tmp 6)),oo 8 (.mov (.tmp 1)),oo 9 (.len false (.tmp 8)),oo 10 (.bin false .neq (.tmp 7) (.tmp 9))]
def R8:List TOp:=[oo 4 (.mov (.cst (.bool false)))]
def Ej:Kp:=⟨[],[(4,false)],[],[],[]⟩
def R9:List TOp:=[oo 11 (.mov (.tmp 0)),oo 12 (.len false (.tmp 11)),oo 13 (.mov (.cst (.int .i64 0)))]
def Sa:List TOp:=[oo 14 (.bin false .lss (.tmp 13) (.tmp 12))]
def Sb:List TOp:=[oo 15 (.mov (.tmp 13)),oo 5 (.mov (.tmp 15))]
def Sc:List TOp:=[oo 16 (.mov (.tmp 0)),oo 17 (.mov (.tmp 5)),oo 18 (.idx 2 (.tmp 16) (.tmp 17)),ot 19 (.st 6) (.load true 2 (.tmp 18)),oo 20 (.mov (.tmp 1)),oo 21 (.mov (.tmp 5)),oo 22 (.idx 2 (.tmp 20) (.tmp 21)),ot 23 (.st 6) (.load true 2 (.tmp 22)),oo 24 (.eqs true [.s,.s] (.tmp 19) (.tmp 23))]
def Sd:List TOp:=[oo 4 (.mov (.cst (.bool false)))]
def Se:List TOp:=[oo 25 (.bin false .add (.tmp 13) (.cst (.int .i64 1))),oo 13 (.mov (.tmp 25))]
def Q0:DC:=(.seq (.ops Sa) (.seq (.cond (.tmp 14) .skip (.exit 0)) (.seq (.pass 1 (.seq (.ops Sb) (.seq (.draw [] Sc) (.cond (.tmp 24) (.free (.seq (.ops Sd) (.keep Ej .ret))) .skip)))) (.ops Se))))
def Qy:Kp:=⟨[],[(0,false),(1,false),(12,false),(13,false)],[],[],[]⟩
def Q2:Sig:=⟨[(0,none),(1,none),(12,none),(13,some (.ty (.int .i64)))],[],[(.int .i64)],[],[]⟩
def Qz:Kp:=⟨[],[],[],[],[]⟩
def Q3:Sig:=⟨[],[],[],[],[]⟩
def Q1:List TOp:=[oo 4 (.mov (.cst (.bool true)))]
def Z9:TFd:=⟨2,[(.tmp 4,.bool)],[],(.seq (.ops R6) (.seq (.seq (.ops R7) (.cond (.tmp 10) (.free (.seq (.ops R8) (.keep Ej .ret))) .skip)) (.seq (.seq (.ops R9) (.joinO Qz Q3 (.block 0 (.loop [0,1,12,13] [] Qy Q2 Q0)))) (.seq (.ops Q1) (.keep Ej .ret)))))⟩
noncomputable def H4:Ent:=⟨[.ty (.sl (.st 6)),.ty (.sl (.st 6))],[],[(.sl (.st 6)),(.sl (.st 6))],⟨(.ty .bool),[],[],[.bool],[],[]⟩,none,fun p=>D0 p.1 p.2⟩
theorem Ss:H4.ok Tryz.prog 48:=Ar hm Tryz.func48 (fd:=Z9) (by kernel_rfl) (Ah (l:=[]) (y:=[]) trivial trivial) (by kernel_rfl) (fun p=>by kernel_rfl)
def Sf:List TOp:=[oo 4 (.mov (.cst (.bool false)))]
def Sg:List TOp:=[oo 6 (.mov (.tmp 0)),oo 7 (.len false (.tmp 6)),oo 8 (.mov (.tmp 1)),oo 9 (.len false (.tmp 8)),oo 10 (.bin false .neq (.tmp 7) (.tmp 9))]
def Sh:List TOp:=[oo 4 (.mov (.cst (.bool false)))]
def Ek:Kp:=⟨[],[(4,false)],[],[],[]⟩
def Si:List TOp:=[oo 11 (.mov (.tmp 0)),oo 12 (.len false (.tmp 11)),oo 13 (.mov (.cst (.int .i64 0)))]
def Sj:List TOp:=[oo 14 (.bin false .lss (.tmp 13) (.tmp 12))]
def Sk:List TOp:=[oo 15 (.mov (.tmp 13)),oo 5 (.mov (.tmp 15))]
def Sl:List TOp:=[oo 16 (.mov (.tmp 0)),oo 17 (.mov (.tmp 5)),oo 18 (.idx 2 (.tmp 16) (.tmp 17)),ot 19 (.st 4) (.load true 2 (.tmp 18)),oo 20 (.mov (.tmp 1)),oo 21 (.mov (.tmp 5)),oo 22 (.idx 2 (.tmp 20) (.tmp 21)),ot 23 (.st 4) (.load true 2 (.tmp 22)),oo 24 (.eqs true [.i,.s] (.tmp 19) (.tmp 23))]
def Sm:List TOp:=[oo 4 (.mov (.cst (.bool false)))]
def Sn:List TOp:=[oo 25 (.bin false .add (.tmp 13) (.cst (.int .i64 1))),oo 13 (.mov (.tmp 25))]
def Q6:DC:=(.seq (.ops Sj) (.seq (.cond (.tmp 14) .skip (.exit 0)) (.seq (.pass 1 (.seq (.ops Sk) (.seq (.draw [] Sl) (.cond (.tmp 24) (.free (.seq (.ops Sm) (.keep Ek .ret))) .skip)))) (.ops Sn))))
def Q4:Kp:=⟨[],[(0,false),(1,false),(12,false),(13,false)],[],[],[]⟩
def Q8:Sig:=⟨[(0,none),(1,none),(12,none),(13,some (.ty (.int .i64)))],[],[(.int .i64)],[],[]⟩
def Q5:Kp:=⟨[],[],[],[],[]⟩
def Q9:Sig:=⟨[],[],[],[],[]⟩
def Q7:List TOp:=[oo 4 (.mov (.cst (.bool true)))]
def Aaa:TFd:=⟨2,[(.tmp 4,.bool)],[],(.seq (.ops Sf) (.seq (.seq (.ops Sg) (.cond (.tmp 10) (.free (.seq (.ops Sh) (.keep Ek .ret))) .skip)) (.seq (.seq (.ops Si) (.joinO Q5 Q9 (.block 0 (.loop [0,1,12,13] [] Q4 Q8 Q6)))) (.seq (.ops Q7) (.keep Ek .ret)))))⟩
noncomputable def H5:Ent:=⟨[.ty (.sl (.st 4)),.ty (.sl (.st 4))],[],[(.sl (.st 4)),(.sl (.st 4))],⟨(.ty .bool),[],[],[.bool],[],[]⟩,none,fun p=>D1 p.1 p.2⟩
theorem Su:H5.ok Tryz.prog 49:=Ar hm Tryz.func49 (fd:=Aaa) (by kernel_rfl) (Ah (l:=[]) (y:=[]) trivial trivial) (by kernel_rfl) (fun p=>by kernel_rfl)
def A21:List TOp:=[oo 2 (.box (.tmp 0)),oo 3 (.box (.tmp 1)),oo 4 (.mov (.cst (.bool false)))]
def A22:List TOp:=[oo 5 (.fld 4 (.tmp 2)),oo 6 (.load false 1 (.tmp 5)),oo 7 (.fld 4 (.tmp 3)),oo 8 (.load false 1 (.tmp 7)),oo 9 (.call 0 0 (.cst (.fn 48)) [(.tmp 6),(.tmp 8)] [] []),oo 10 (.mov (.tmp 9)),og 11 10 true .bool (.fld 5 (.tmp 2)),og 12 10 true .bool (.load false 1 (.tmp 11)),og 13 10 true .bool (.fld 5 (.tmp 3)),og 14 10 true .bool (.load false 1 (.tmp 13)),og 15 10 true .bool (.call 0 0 (.cst (.fn 49)) [(.tmp 12),(.tmp 14)] [] []),oo 16 (.pick (.tmp 10) (.tmp 15) (.cst (.bool false))),oo 17 (.mov (.tmp 16)),og 18 17 true .bool (.fld 0 (.tmp 2)),og 19 17 true .bool (.load false 1 (.tmp 18)),og 20 17 true .bool (.fld 0 (.tmp 3)),og 21 17 true .bool (.load false 1 (.tmp 20)),og 22 17 true .bool (.bin false .eql (.tmp 19) (.tmp 21)),oo 23 (.pick (.tmp 17) (.tmp 22) (.cst (.bool false))),oo 24 (.mov (.tmp 23)),og 25 24 true .bool (.fld 1 (.tmp 2)),og 26 24 true .bool (.load false 1 (.tmp 25)),og 27 24 true .bool (.fld 1 (.tmp 3)),og 28 24 true .bool (.load false 1 (.tmp 27)),og 29 24 true .bool (.bin false .eql (.tmp 26) (.tmp 28)),oo 30 (.pick (.tmp 24) (.tmp 29) (.cst (.bool false))),oo 31 (.mov (.tmp 30)),og 32 31 true .bool (.fld 2 (.tmp 2)),og 33 31 true .bool (.load false 1 (.tmp 32)),og 34 31 true .bool (.fld 2 (.tmp 3)),og 35 31 true .bool (.load false 1 (.tmp 34)),og 36 31 true .bool (.bin false .eql (.tmp 33) (.tmp 35)),oo 37 (.pick (.tmp 31) (.tmp 36) (.cst (.bool false))),oo 38 (.mov (.tmp 37)),og 39 38 true .bool (.fld 3 (.tmp 2)),og 40 38 true .bool (.load false 1 (.tmp 39)),og 41 38 true .bool (.fld 3 (.tmp 3)),og 42 38 true .bool (.load false 1 (.tmp 41)),og 43 38 true .bool (.bin false .eql (.tmp 40) (.tmp 42)),oo 44 (.pick (.tmp 38) (.tmp 43) (.cst (.bool false))),oo 45 (.mov (.tmp 44)),og 46 45 true .bool (.fld 6 (.tmp 2)),og 47 45 true .bool (.load false 1 (.tmp 46)),og 48 45 true .bool (.fld 6 (.tmp 3)),og 49 45 true .bool (.load false 1 (.tmp 48)),og 50 45 true .bool (.bin false .eql (.tmp 47) (.tmp 49)),oo 51 (.pick (.tmp 45) (.tmp 50) (.cst (.bool false))),oo 52 (.mov (.tmp 51)),og 53 52 true .bool (.fld 7 (.tmp 2)),og 54 52 true .bool (.load false 1 (.tmp 53)),og 55 52 true .bool (.fld 7 (.tmp 3)),og 56 52 true .bool (.load false 1 (.tmp 55)),og 57 52 true .bool (.bin false .eql (.tmp 54) (.tmp 56)),oo 58 (.pick (.tmp 52) (.tmp 57) (.cst (.bool false))),oo 59 (.mov (.tmp 58)),og 60 59 true .bool (.fld 8 (.tmp 2)),og 61 59 true .bool (.load false 1 (.tmp 60)),og 62 59 true .bool (.fld 8 (.tmp 3)),og 63 59 true .bool (.load false 1 (.tmp 62)),og 64 59 true .bool (.bin false .eql (.tmp 61) (.tmp 63)),oo 65 (.pick (.tmp 59) (.tmp 64) (.cst (.bool false))),oo 4 (.mov (.tmp 65))]
def A20:Kp:=⟨[],[(4,false)],[],[],[]⟩
def Bdr:TFd:=⟨2,[(.tmp 4,.bool)],[],(.seq (.ops A21) (.seq (.ops A22) (.keep A20 .ret)))⟩
noncomputable def Arn:Ent:=⟨[.ty (.st 7),.ty (.st 7)],[],[(.st 7),(.st 7)],⟨(.ty .bool),[],[],[.bool],[],[]⟩,none,fun p=>Ql p.1 p.2⟩
theorem A14:Arn.ok Tryz.prog 24:=Ar hm Tryz.func24 (fd:=Bdr) (by kernel_rfl) (Ah (l:=[(48,H4),(49,H5)]) (y:=[]) ⟨Ss,Su,trivial⟩ trivial) (by kernel_rfl) (fun p=>by kernel_rfl)
end Go.Av.G
end
