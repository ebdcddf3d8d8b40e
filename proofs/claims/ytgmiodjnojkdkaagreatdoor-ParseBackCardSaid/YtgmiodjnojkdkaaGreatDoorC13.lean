import Derived.Shelf.Spec.SlicesGrow
import Derived.Test.YtgmiodjnojkdkaaGreatDoorC12
set_option linter.all false
section
namespace Go.Av.G
open Go Go.Av Go.Proofs Go.Shelf Go.RowKit Go.Lib
def Agn:Go.Shelf.Ren:=⟨fun|4=>100|n=>n,fun|22=>48|25=>9|20=>20|0=>0|n=>n,fun|n=>n⟩
theorem Ap2:Go.Proofs.Lays8.n4 Tryz.prog Agn:={
 mixed:=by kernel_rfl
 f4:=⟨Tryz.f100.name,by decide,Tryz.func100.trans (congrArg some (by kernel_rfl))⟩
 t0:=Tryz.underlying0
 a0:=Tryz.isAgg0
 z0:=Tryz.sizeOf0
 v0:=Tryz.zeroValue0
 t3:=Tryz.underlying3
 a3:=Tryz.isAgg3
 z3:=Tryz.sizeOf3
 v3:=Tryz.zeroValue3
 t4:=Tryz.underlying4
 a4:=Tryz.isAgg4
 z4:=Tryz.sizeOf4
 v4:=Tryz.zeroValue4
 t9:=Tryz.underlying9
 a9:=Tryz.isAgg9
 z9:=Tryz.sizeOf9
 v9:=Tryz.zeroValue9
 t20:=Tryz.underlying20
 a20:=Tryz.isAgg20
 z20:=Tryz.sizeOf20
 v20:=Tryz.zeroValue20
 t22:=Tryz.underlying48
 a22:=Tryz.isAgg48
 z22:=Tryz.sizeOf48
 v22:=Tryz.zeroValue48}
def Ago:Go.Shelf.Ren:=⟨fun|4=>114|n=>n,fun|22=>23|25=>52|20=>20|0=>0|n=>n,fun|n=>n⟩
theorem Ap3:Go.Proofs.Lays8.n4 Tryz.prog Ago:={
 mixed:=by kernel_rfl
 f4:=⟨Tryz.f114.name,by decide,Tryz.func114.trans (congrArg some (by kernel_rfl))⟩
 t0:=Tryz.underlying0
 a0:=Tryz.isAgg0
 z0:=Tryz.sizeOf0
 v0:=Tryz.zeroValue0
 t3:=Tryz.underlying3
 a3:=Tryz.isAgg3
 z3:=Tryz.sizeOf3
 v3:=Tryz.zeroValue3
 t4:=Tryz.underlying4
 a4:=Tryz.isAgg4
 z4:=Tryz.sizeOf4
 v4:=Tryz.zeroValue4
 t9:=Tryz.underlying9
 a9:=Tryz.isAgg9
 z9:=Tryz.sizeOf9
 v9:=Tryz.zeroValue9
 t20:=Tryz.underlying20
 a20:=Tryz.isAgg20
 z20:=Tryz.sizeOf20
 v20:=Tryz.zeroValue20
 t22:=Tryz.underlying23
 a22:=Tryz.isAgg23
 z22:=Tryz.sizeOf23
 v22:=Tryz.zeroValue23}
theorem A1u{w w':World}{ok:Nat→Prop}{γ:Nat→Blk}{sz:Nat}{xs:List PV}{B:Blk}{v:Value}(hb:Below w.heap.size w w')(hge: ∀g,B.b=some g→w.heap.size≤g)(hO: ∀okk:Nat→Prop,(∀b,ok b→b<w.heap.size→okk b)→Fa w' okk (Fb γ (fun _=>B)) (Ci [] [some (.row sz xs)]) (.row sz xs) B)
  (hok: ∀b,ok b→b<w.heap.size)(hv: ∀okk:Nat→Prop,As w' okk (Fb γ (fun _=>B)) (Ci [] [some (.row sz xs)]) (.own (.res 0)) v):After ⟨w,[],γ,0,ok,[]⟩ w' ⟨.own (.res 0),[some (.row sz xs)],[]⟩ v (fun _=>B):=by
 have one: ∀k o,Ci [] [some (Ah.row sz xs)] k=some o→k= .res 0∧o= .row sz xs:=by
  intro k o h
  cases k with
  |loc=>simp[Ci] at h
  |ext i=>simp[Ci] at h
  |res i=>cases i with
   |zero=>simp[Ci] at h;exact⟨rfl,h.symm⟩
   |succ i=>simp[Ci] at h
 refine⟨hb.size,fun b hb' _=>hb.block b hb',fun k k' o o' b h h' _ _=>by rw[(one _ _ h).1,(one _ _ h').1],fun k o b h e=>?_,rfl,fun i o h=>(by cases (one _ _ h).1),fun k o h=>?_,hv _,⟨hb.os,hb.tape,hb.output⟩⟩
 ·obtain⟨rfl,rfl⟩:=one _ _ h
  exact .inl (hge b e)
 ·obtain⟨rfl,rfl⟩:=one _ _ h
  refine hO _ (fun b hb1 hb2=>⟨Nat.lt_of_lt_of_le hb2 hb.size,fun k o h' e=>?_,fun _=> .inl hb1⟩)
  obtain⟨rfl,rfl⟩:=one _ _ h'
  have:=hge b e
  omega
section
variable {P:Program} {ρ:Ren}
def D7(bytes:Nat)(n:Int):Option Unit:=if 0≤n∧n*bytes≤140737488355328 then some () else none
def C6(α:Type)(bytes:Nat)(n:Int):Option (List α):=(D7 bytes n).map fun _=>[]
theorem Zn{α:Type}{bytes:Nat}{n:Int}{r:List α}(h:C6 α bytes n=some r):r=[]∧D7 bytes n=some ():=by
 unfold C6 at h
 cases e:D7 bytes n with
 |none=>rw[e] at h;cases h
 |some u=>rw[e] at h;cases h;exact⟨rfl,rfl⟩
theorem A9b(L:Lays8.n4 P ρ)(i0:TypeInfo)(z:Value)(size bytes:Nat)(hi:P.info? (ρ.t 25)=some i0)(hz0:i0.zero=some z)(hz1:i0.size=size)(hz2:i0.bytes=bytes)(hzs:z.cells.size=size)(hsz:0<size)(hb1:1≤bytes)(hent:Av.Enters P (ρ.f 4)){n:Int}(h:D7 bytes n=some ()):
  Bo P (ρ.f 4) [.nils,.pv (.int .i64 n)] [] ⟨.own (.res 0),[some (.row size [])],[]⟩:=by
 unfold D7 at h
 split at h
 ·rename_i hc
  obtain⟨h0,hb⟩:=hc
  obtain⟨m,rfl⟩: ∃m:Nat,n=m:=⟨n.toNat,by omega⟩
  have hbn:m*bytes≤140737488355328:=by rw[←Int.natCast_mul] at hb;exact Int.ofNat_le.1 hb
  have hm:m≤140737488355328:=by
   have:m*1≤m*bytes:=Nat.mul_le_mul_left _ hb1
   omega
  refine⟨hent,fun w vs γ ok h1 hG h2 h3 h4 h5=>?_⟩
  match vs,h4 with
  |[v1,v2],_=>
   have l1:=h5 0 _ _ rfl rfl
   have l2:=Bb (h5 1 _ _ rfl rfl)
   cases l2
   cases l1 with
   |nils ad=>
   by_cases hm0:m=0
   ·subst hm0
    refine(Any8.slices_Grow_room L ad 0 0 0 w (by omega) (by omega) (by omega) (by omega)).mono ?_
    rintro e w' ⟨rfl,rfl⟩
    exact⟨_,fun _=>⟨none,0⟩,rfl,A1u (Below.refl _ _) (fun g e=>by cases e) (fun okk _=> .inl ⟨rfl,rfl,rfl⟩) (fun b hb'=>(h1 b hb').1) (fun okk=> .ownN (.res 0) size _ rfl rfl)⟩
   ·refine(Any8.slices_Grow_grow L i0 z hi hz0 (by omega) ad 0 0 m [] w (by omega) (by omega) (by rw[hz2,Nat.zero_add];exact hbn) (by omega) (by simp) (fun _=>rfl) (fun a _ j v hj=>by simp at hj)).mono ?_
    rintro e w' ⟨rfl,rfl⟩
    have hge:=grownCap_ge w (0+m) 0 (ρ.t 25)
    have hle:=grownCap_le_maxLen w (0+m) 0 (ρ.t 25) (by unfold maxLen;omega)
    refine⟨_,fun _=>⟨some w.heap.size,grownCap w (0+m) 0 (ρ.t 25)⟩,rfl,A1u (((Below.refl _ w).drew).alloc (Nat.le_refl _) _) (fun g e=>by cases e;exact Nat.le_refl _) (fun okk hokk=> .inr ⟨w.heap.size,_,ρ.t 25,rfl,heap_alloc_new _ _,Nat.zero_le _,?_,?_,?_⟩) (fun b hb'=>(h1 b hb').1) (fun okk=>?_)⟩
    ·simp only[Array.size_append,size_zeroCells,hzs]
     show 0+(0+m-0)*size+(grownCap w (0+m) 0 (ρ.t 25)-(0+m))*size=grownCap w (0+m) 0 (ρ.t 25)*size
     rw[Nat.zero_add,←Nat.add_mul]
     congr 1
     omega
    ·intro x hx;cases hx
    ·intro i j x y hx;simp at hx
    ·exact As.own (.res 0) size [] w.heap.size rfl rfl
 ·cases h
end
theorem Apo{n:Int}(h:D7 16 n=some ()):Bo Tryz.prog 100 [.nils,.pv (.int .i64 n)] [] ⟨.own (.res 0),[some (.row 1 [])],[]⟩:=
 A9b (P:=Tryz.prog) Ap2 ((Tryz.prog.info? 9).getD default) ((((Tryz.prog.info? 9).getD default).zero).getD undef) 1 16 (by kernel_rfl) (by kernel_rfl) (by kernel_rfl) (by kernel_rfl) (by kernel_rfl) (by decide) (by decide) ⟨Tryz.f100,Tryz.func100,by kernel_rfl,by kernel_rfl⟩ h
theorem App{n:Int}(h:D7 24 n=some ()):Bo Tryz.prog 114 [.nils,.pv (.int .i64 n)] [] ⟨.own (.res 0),[some (.row 2 [])],[]⟩:=
 A9b (P:=Tryz.prog) Ap3 ((Tryz.prog.info? 52).getD default) ((((Tryz.prog.info? 52).getD default).zero).getD undef) 2 24 (by kernel_rfl) (by kernel_rfl) (by kernel_rfl) (by kernel_rfl) (by kernel_rfl) (by decide) (by decide) ⟨Tryz.f114,Tryz.func114,by kernel_rfl,by kernel_rfl⟩ h
end Go.Av.G
end
