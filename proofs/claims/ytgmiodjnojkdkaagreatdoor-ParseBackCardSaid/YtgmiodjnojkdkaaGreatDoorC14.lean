import Derived.ProofKit
import Derived.SizedLaws
import Derived.Test.YtgmiodjnojkdkaaGreatDoorC13
set_option linter.all false
section
namespace Go.Av
open Go Go.ChangeShapes Go.WideShapes Go.ChangeAt Go.RowKit
inductive TT where
 |int (k:IntKind)
 |bool
 |str
 |slice (t:TT)
 |unit
 |field (t r:TT)
 |struct (t:TT)
def TT.sz:TT→Nat
 | .unit=>0
 | .field t r=>t.sz+r.sz
 | .struct t=>t.sz
 |_=>1
def TT.pack:TT→List PV→PV
 | .struct _,xs=> .agg xs
 | .unit,xs=> .agg xs
 | .field _ _,xs=> .agg xs
 |_,xs=>xs.headD .nilI
def TT.Of:TT→List PV→Prop
 | .int k,xs=> ∃n,xs=[.int k n]∧k.min≤n∧n≤k.max
 | .bool,xs=> ∃b,xs=[.bool b]
 | .str,xs=> ∃s,xs=[.str s]∧s.length≤reachBytes
 | .slice t,xs=> ∃ys:List (List PV),xs=[.slice (ys.map t.pack)]∧ys.length≤maxLen∧ ∀y∈ys,t.Of y
 | .unit,xs=>xs=[]
 | .field t r,xs=> ∃a b,xs=a++b∧t.Of a∧r.Of b
 | .struct t,xs=>t.Of xs
def Hz(P:Program)(rd:TypeId→TT→Bool):Nat→List Field→TT→Bool
 |_,[],.unit=>true
 |off,f::fs,.field t r=>f.offset==off&&(P.cellsOf f.type==t.sz&&(rd f.type t&&Hz P rd (off+t.sz) fs r))
 |_,_,_=>false
def reads(P:Program):Nat→TypeId→TT→Bool
 |0,_,_=>false
 |n+1,t,τ=>match P.underlying t,τ with
  |some (.int k),.int k'=>k==k'
  |some .bool,.bool=>true
  |some .string,.str=>true
  |some (.slice e),.slice r=>P.cellsOf e==r.sz&&(decide (0<r.sz)&&reads P n e r)
  |some (.struct fs),.struct r=>P.cellsOf t==r.sz&&Hz P (reads P n) 0 fs.toList r
  |_,_=>false
theorem TT.Of.len: ∀{t:TT} {xs:List PV},t.Of xs→xs.length=t.sz
 | .int k,xs,⟨n,h,_⟩=>by subst h;rfl
 | .bool,xs,⟨b,h⟩=>by subst h;rfl
 | .str,xs,⟨s,h,_⟩=>by subst h;rfl
 | .slice t,xs,⟨ys,h,_⟩=>by subst h;rfl
 | .unit,xs,h=>by simp[TT.Of] at h;subst h;rfl
 | .field t r,xs,⟨a,b,h,ha,hb⟩=>by subst h;simp[TT.sz,ha.len,hb.len]
 | .struct t,xs,h=>TT.Of.len (t:=t) h
theorem TT.Of.one: ∀{t:TT} {xs:List PV},t.Of xs→ ∀x∈xs,x.one=true
 | .int k,xs,⟨n,h,_⟩=>by subst h;simp[PV.one]
 | .bool,xs,⟨b,h⟩=>by subst h;simp[PV.one]
 | .str,xs,⟨s,h,_⟩=>by subst h;simp[PV.one]
 | .slice t,xs,⟨ys,h,_⟩=>by subst h;simp[PV.one]
 | .unit,xs,h=>by simp[TT.Of] at h;subst h;simp
 | .field t r,xs,⟨a,b,h,ha,hb⟩=>by
  subst h
  intro x hx
  rcases List.mem_append.1 hx with hx|hx
  ·exact ha.one x hx
  ·exact hb.one x hx
 | .struct t,xs,h=>TT.Of.one (t:=t) h
theorem Mi{t:TT}{xs:List PV}(h:t.Of xs):(t.pack xs).cells=xs:=by
 cases t with
 |struct t=>rfl
 |int k=>obtain⟨n,rfl,_⟩:=h;rfl
 |bool=>obtain⟨n,rfl⟩:=h;rfl
 |str=>obtain⟨n,rfl,_⟩:=h;rfl
 |slice t=>obtain⟨n,rfl,_⟩:=h;rfl
 |unit=>rfl
 |field t r=>rfl
def Tq(w:World)(ok:Nat→Prop)(xs:List PV)(us:List Value):Prop:=xs.length=us.length∧ ∀(j:Nat) (x:PV) (u:Value),xs[j]? =some x→us[j]? =some u→Be w ok x u
theorem Tq.append{w:World}{ok:Nat→Prop}{xs xs':List PV}{us us':List Value}(h:Tq w ok xs us)(h':Tq w ok xs' us'):Tq w ok (xs++xs') (us++us'):=by
 refine⟨by simp[h.1,h'.1],fun j x u hx hu=>?_⟩
 by_cases hj:j<xs.length
 ·rw[List.getElem?_append_left hj] at hx
  rw[List.getElem?_append_left (h.1▸hj)] at hu
  exact h.2 j x u hx hu
 ·rw[List.getElem?_append_right (by omega)] at hx
  rw[List.getElem?_append_right (by rw[←h.1];omega),←h.1] at hu
  exact h'.2 _ x u hx hu
theorem Tq.single{w:World}{ok:Nat→Prop}{x:PV}{u:Value}(h:Be w ok x u):Tq w ok [x] [u]:=by
 refine⟨rfl,fun j y v hy hv=>?_⟩
 cases j with
 |zero=>simp at hy hv;subst hy;subst hv;exact h
 |succ j=>simp at hy
section
variable {H:Type} {enc:TypeId×Value→H} {P:Program} {W:World}
theorem Bog{n m:Nat}{cs:List Value}(IH: ∀(t:TypeId) (τ:TT) (cs:List Value) (x:DataW H×List MemPlace),reads P n t τ=true→DataW.trod enc P W 0 (fun _=>true) true m t cs=some x→(∀k∈x.1.weights P t,k≤reachBytes)→cs.length=τ.sz∧ ∃xs,τ.Of xs∧Tq W (· <W.heap.size) xs cs):
  ∀(fs:List Field) (τ:TT) (off:Nat),Hz P (reads P n) off fs τ=true→(∀f∈fs,∃x,DataW.trod enc P W 0 (fun _=>true) true m f.type ((cs.drop f.offset).take (P.cellsOf f.type))=some x∧ ∀k∈x.1.weights P f.type,k≤reachBytes)→off+τ.sz=cs.length→
   ∃xs,τ.Of xs∧Tq W (· <W.heap.size) xs (cs.drop off)
 |[],.unit,off,h,ht,hl=>⟨[],rfl,by simp[TT.sz] at hl;subst hl;exact⟨by simp,fun j x u hx=>by simp at hx⟩⟩
 |f::fs,.field t r,off,h,ht,hl=>by
  simp only[Hz,Bool.and_eq_true,beq_iff_eq] at h
  obtain⟨rfl,hc,hr,hF⟩:=h
  obtain⟨x,hx,hxw⟩:=ht f (by simp)
  obtain⟨hlen,xs,ho,hL⟩:=IH _ _ _ _ hr hx hxw
  simp only[TT.sz] at hl
  obtain⟨ys,ho',hL'⟩:=Bog IH fs r (f.offset+t.sz) hF (fun g hg=>ht g (by simp[hg])) (by omega)
  refine⟨xs++ys,⟨xs,ys,rfl,ho,ho'⟩,?_⟩
  have e:cs.drop f.offset=(cs.drop f.offset).take (P.cellsOf f.type)++cs.drop (f.offset+t.sz):=by
   rw[hc,←List.drop_drop]
   exact(List.take_append_drop _ _).symm
  rw[e]
  exact hL.append hL'
 |[],.int _,_,h,_,_=>by simp[Hz] at h
 |[],.bool,_,h,_,_=>by simp[Hz] at h
 |[],.str,_,h,_,_=>by simp[Hz] at h
 |[],.slice _,_,h,_,_=>by simp[Hz] at h
 |[],.field _ _,_,h,_,_=>by simp[Hz] at h
 |[],.struct _,_,h,_,_=>by simp[Hz] at h
 |_::_,.int _,_,h,_,_=>by simp[Hz] at h
 |_::_,.bool,_,h,_,_=>by simp[Hz] at h
 |_::_,.str,_,h,_,_=>by simp[Hz] at h
 |_::_,.slice _,_,h,_,_=>by simp[Hz] at h
 |_::_,.unit,_,h,_,_=>by simp[Hz] at h
 |_::_,.struct _,_,h,_,_=>by simp[Hz] at h
theorem Btq{n m:Nat}{e:TypeId}{τ:TT}(IH: ∀(t:TypeId) (τ:TT) (cs:List Value) (x:DataW H×List MemPlace),reads P n t τ=true→DataW.trod enc P W 0 (fun _=>true) true m t cs=some x→(∀k∈x.1.weights P t,k≤reachBytes)→cs.length=τ.sz∧ ∃xs,τ.Of xs∧Tq W (· <W.heap.size) xs cs)
  (hc:P.cellsOf e=τ.sz)(h0:0<τ.sz)(hr:reads P n e τ=true){a:Addr}{len:Nat}{elems:List (DataW H×List MemPlace)}(hl:elems.length=len)(hwt: ∀e2∈elems,∀k∈e2.1.weights P e,k≤reachBytes)
  (h: ∀i,i<len→(W.cells? 0 (a.add (i*P.cellsOf e)) (P.cellsOf e)).bind (DataW.trod enc P W 0 (fun _=>true) true m e)=elems[i]?):
  ∃(ys:List (List PV)) (us:Nat→Nat→Value),ys.length=len∧(∀y∈ys,τ.Of y)∧(0<len→a.spot=none)∧(∀i j,i<len→j<τ.sz→a.block<W.heap.size∧W.cell? ⟨a.block,a.off+i*τ.sz+j,none⟩=some (us i j))∧
   ∀(i j:Nat) (y:List PV) (x:PV),ys[i]? =some y→y[j]? =some x→Be W (· <W.heap.size) x (us i j):=by
 have key: ∀i,∃q:List PV×List Value,i<len→W.cells? 0 (a.add (i*P.cellsOf e)) (P.cellsOf e)=some q.2∧q.2.length=τ.sz∧τ.Of q.1∧Tq W (· <W.heap.size) q.1 q.2:=by
  intro i
  by_cases hi:i<len
  ·have:=h i hi
   rw[List.getElem?_eq_getElem (by omega)] at this
   obtain⟨cs,h1,h2⟩:=Option.bind_eq_some_iff.1 this
   obtain⟨h3,xs,h4,h5⟩:=IH _ _ _ _ hr h2 (hwt _ (List.getElem_mem _))
   exact⟨(xs,cs),fun _=>⟨h1,h3,h4,h5⟩⟩
  ·exact⟨([],[]),fun h=>absurd h hi⟩
 obtain⟨f,hf⟩:=Classical.skolem.1 key
 have hcell: ∀i,i<len→ ∀j,j<τ.sz→W.cell? ((a.add (i*τ.sz)).add j)=some (((f i).2[j]?).getD default):=by
  intro i hi j hj
  obtain⟨h1,h2,h3,h4⟩:=hf i hi
  rw[hc] at h1
  rw[(World.cells?_some h1).2.2 j hj,List.getElem?_eq_getElem (by omega)]
  rfl
 have hspot:0<len→a.spot=none:=by
  intro hlen
  have:=hcell 0 hlen 0 h0
  simp only[Nat.zero_mul,Addr.add,if_true] at this
  unfold World.cell? at this
  cases hs:a.spot with
  |none=>rfl
  |some s=>rw[hs] at this;split at this<;>simp at this
 refine⟨(List.range len).map fun i=>(f i).1,fun i j=>((f i).2[j]?).getD default,by simp,?_,hspot,?_,?_⟩
 ·intro y hy
  simp only[List.mem_map,List.mem_range] at hy
  obtain⟨i,hi,rfl⟩:=hy
  exact(hf i hi).2.2.1
 ·intro i j hi hj
  have hs:=hspot (by omega)
  have hh:=hcell i hi j hj
  have e1:(a.add (i*τ.sz)).add j=⟨a.block,a.off+i*τ.sz+j,none⟩:=by
   rcases a with⟨b,o,s⟩
   simp only at hs
   subst hs
   unfold Addr.add
   split<;>split<;>simp_all
  rw[e1] at hh
  refine⟨?_,hh⟩
  unfold World.cell? at hh
  split at hh
  ·rename_i hb
   exact(Array.getElem?_eq_some_iff.1 hb).1
  ·cases hh
 ·intro i j y x hy hx
  simp only[List.getElem?_map,Option.map_eq_some_iff] at hy
  obtain⟨i',hi',rfl⟩:=hy
  have hi:i<len:=by
   have:=(List.getElem?_eq_some_iff.1 hi').1
   simpa using this
  obtain rfl:i=i':=by simpa [List.getElem?_range hi] using hi'
  obtain⟨h1,h2,h3,h4⟩:=hf i hi
  have hj:j<(f i).2.length:=by
   rw[←h4.1]
   exact(List.getElem?_eq_some_iff.1 hx).1
  have:=h4.2 j x (f i).2[j] hx (List.getElem?_eq_getElem hj)
  simpa [List.getElem?_eq_getElem hj] using this
theorem Aja{e:TypeId}{d:DataW H}: ∀{l:List (DataW H)},d∈l→ ∀{k:Nat},k∈d.weights P e→k∈DataW.weightsAll P e l
 |[],h,_,_=>by cases h
 |a::l,h,k,hk=>by
  simp only[DataW.weightsAll,List.mem_append]
  rcases List.mem_cons.1 h with rfl|h
  ·exact Or.inl hk
  ·exact Or.inr (Aja h hk)
theorem Bq7: ∀(m n:Nat) (t:TypeId) (τ:TT) (cs:List Value) (x:DataW H×List MemPlace),reads P n t τ=true→DataW.trod enc P W 0 (fun _=>true) true m t cs=some x→(∀k∈x.1.weights P t,k≤reachBytes)→cs.length=τ.sz∧ ∃xs,τ.Of xs∧Tq W (· <W.heap.size) xs cs
 |m,0,t,τ,cs,x,hr,h,hw=>by simp[reads] at hr
 |0,n+1,t,τ,cs,x,hr,h,hw=>by simp[DataW.trod] at h
 |m+1,n+1,t,τ,cs,x,hr,h,hws=>by
  have IH:=Bq7 m n
  unfold reads at hr
  split at hr
  ·rename_i k k' ht
   obtain rfl:k=k':=by simpa using hr
   obtain⟨i,rfl,_,hw⟩:=DataW.trod_int ht h
   simp only[Lit.wf,Bool.and_eq_true,decide_eq_true_eq] at hw
   exact⟨rfl,_,⟨i,rfl,hw.1,hw.2⟩,.single (.int k i)⟩
  ·rename_i ht
   obtain⟨b,rfl,_⟩:=DataW.trod_bool ht h
   exact⟨rfl,_,⟨b,rfl⟩,.single (.bool b)⟩
  ·rename_i ht
   obtain⟨s,rfl,hx2,hw⟩:=DataW.trod_string ht h
   exact⟨rfl,_,⟨s.data.toList,rfl,hws _ (by rw[hx2];simp[DataW.weights])⟩,.single (by simpa using Be.str (w:=W) (ok:=(· <W.heap.size)) s.data.toList)⟩
  ·rename_i e r ht
   simp only[Bool.and_eq_true,beq_iff_eq,decide_eq_true_eq] at hr
   obtain⟨hc,h0,hr⟩:=hr
   rcases DataW.trod_slice ht h with⟨rfl,_⟩|⟨a,len,cap,elems,rest,m',hm,rfl,hx2,_,hlc,hcm,hel,hat,_,_⟩
   ·exact⟨rfl,_,⟨[],rfl,Nat.zero_le _,by simp⟩,.single (.slice [] none 0 0 r.sz (fun _ _=>default) rfl (Nat.le_refl _) (by simp) (by simp) (by intro i j hi;omega) (by omega) (by intro i j x y hx;simp at hx))⟩
   ·obtain rfl:m=m':=by omega
    obtain⟨ys,us,hl,ho,hs,hcell,hlie⟩:=Btq IH hc h0 hr hel (fun e2 he2 k hk=>hws k (by
     rw[hx2]
     unfold DataW.weights
     rw[ht]
     simp only[List.mem_cons,List.mem_append]
     exact Or.inr (Or.inl (Aja (List.mem_map.2 ⟨e2,he2,rfl⟩) hk)))) hat
    refine⟨rfl,_,⟨ys,rfl,by omega,ho⟩,.single (.slice _ (some a) len cap r.sz us (by simp[hl]) hlc ?_ ?_ ?_ ?_ ?_)⟩
    ·intro x hx
     obtain⟨y,hy,rfl⟩:=List.mem_map.1 hx
     rw[Mi (ho y hy)]
     exact(ho y hy).len
    ·intro x hx
     obtain⟨y,hy,rfl⟩:=List.mem_map.1 hx
     rw[Mi (ho y hy)]
     exact(ho y hy).one
    ·intro i j hi hj
     exact⟨a,rfl,hs (by omega),(hcell i j hi hj).1,(hcell i j hi hj).2⟩
    ·intro h;exact⟨a,rfl,hs h⟩
    ·intro i j x y hx hy
     simp only[List.getElem?_map,Option.map_eq_some_iff] at hx
     obtain⟨z,hz,rfl⟩:=hx
     rw[Mi (ho z (List.mem_of_getElem? hz))] at hy
     exact hlie i j z y hz hy
  ·rename_i fs r ht
   simp only[Bool.and_eq_true,beq_iff_eq] at hr
   obtain⟨hc,hF⟩:=hr
   obtain⟨xs,m',hm,hx2,hlen,hxl,hf⟩:=DataW.trod_struct ht h
   obtain rfl:m=m':=by omega
   refine⟨by rw[hlen,hc];rfl,?_⟩
   obtain⟨ys,ho,hL⟩:=Bog (cs:=cs) IH fs.toList r 0 hF (fun f hf'=>by
    obtain⟨i,hi,he⟩:=List.getElem_of_mem hf'
    have hi':i<fs.size:=by simpa using hi
    have:=hf i f (by rw[Array.getElem?_eq_getElem hi'];simpa using he)
    rw[List.getElem?_eq_getElem (by omega)] at this
    refine⟨_,this,fun k hk=>hws k ?_⟩
    rw[hx2]
    unfold DataW.weights
    rw[ht]
    refine DataW.weights_mem_each (j:=i) (t:=f.type) (d:=(xs[i]'(by omega)).1) ?_ ?_ k hk
    ·rw[List.getElem?_map,List.getElem?_eq_getElem hi]
     simp[he]
    ·rw[List.getElem?_map,List.getElem?_eq_getElem (by omega)]
     rfl) (by rw[hlen,hc];simp)
   exact⟨ys,ho,by simpa using hL⟩
  ·cases hr
theorem Btp{n base:Nat}{t:TypeId}{τ:TT}{v:Value}{d:DataW H}{ps:List MemPlace}(hr:reads P n t τ=true)(hok:Value.okWide P W .any base t v)(h:DataW.Trod enc P W 0 (fun _=>true) true t v d ps)(hw: ∀k∈d.weights P t,k≤reachBytes):
  ∃xs,τ.Of xs∧Be W (· <W.heap.size) (τ.pack xs) v:=by
 obtain⟨m,hm⟩:=h
 obtain⟨hlen,xs,ho,hL⟩:=Bq7 m n t τ _ _ hr hm hw
 refine⟨xs,ho,?_⟩
 have one: ∀u,v=u→u.cells= #[u]→(τ.pack xs).cells=[τ.pack xs]→Be W (· <W.heap.size) (τ.pack xs) v:=by
  intro u hu hc hp
  subst hu
  rw[Mi ho] at hp
  rw[hc,hp] at hL
  exact hL.2 0 _ _ rfl rfl
 cases n with
 |zero=>simp[reads] at hr
 |succ n=>
  unfold reads at hr
  split at hr
  ·rename_i ht
   obtain⟨i,rfl⟩:=okWide_int ht hok
   obtain⟨k,rfl,_⟩:=ho
   exact one _ rfl rfl rfl
  ·rename_i ht
   obtain⟨i,rfl⟩:=okWide_bool ht hok
   obtain⟨k,rfl⟩:=ho
   exact one _ rfl rfl rfl
  ·rename_i ht
   obtain⟨i,rfl⟩:=okWide_string ht hok
   obtain⟨k,rfl,_⟩:=ho
   exact one _ rfl rfl rfl
  ·rename_i ht
   obtain⟨a,l,c,rfl⟩:=okWide_slice ht hok
   obtain⟨k,rfl,_⟩:=ho
   exact one _ rfl rfl rfl
  ·rename_i ht
   obtain⟨us,rfl,hs⟩:=okWide_struct ht hok
   simp only[TT.pack]
   have:=Be.agg (w:=W) (ok:=(· <W.heap.size)) xs us.toList (by simpa [Value.cells] using hL.1) (fun x hx=>TT.Of.one ho x hx) (by simpa [Value.cells] using hL.2)
   simpa using this
  ·cases hr
theorem Bhu{α:Type}{f:α→PV}{τ:TT}{wf:α→Prop}(hh: ∀xs,τ.Of xs→ ∃x,wf x∧τ.pack xs=f x): ∀ys:List (List PV),(∀y∈ys,τ.Of y)→ ∃l:List α,l.length=ys.length∧(∀x∈l,wf x)∧ys.map τ.pack=l.map f
 |[],_=>⟨[],rfl,by simp,rfl⟩
 |y::ys,h=>by
  obtain⟨x,hx,he⟩:=hh y (h y (by simp))
  obtain⟨l,h0,h1,h2⟩:=Bhu hh ys (fun z hz=>h z (by simp[hz]))
  refine⟨x::l,by simp[h0],?_,by simp[he,h2]⟩
  intro z hz
  rcases List.mem_cons.1 hz with rfl|hz
  ·exact hx
  ·exact h1 z hz
theorem Apt{W':World}(hl:laidOutB P=true)(hb:Below W.heap.size W W'){sp:Nat→Bool}: ∀{ts:List TypeId} {vs:List Value} {ds:List (DataW H)} {ps:List MemPlace},
  (∀t∈ts,P.readableRec t=true∧t<P.types.size)→DataW.TrodAll enc P W 0 (fun _=>true) true ts vs ds ps→(∀p∈ps,p.block<W.heap.size)→(∀p∈ps,sp p.block=true)→DataW.TrodAll enc P W' 0 sp true ts vs ds ps
 |[],_,_,_,_,h,_,_=>by
  obtain⟨rfl,rfl,rfl⟩:=trodAll_nil h
  rfl
 |t::ts,_,_,_,hr,h,hlt,hs=>by
  obtain⟨v,vs,d,ds,a,b,rfl,rfl,rfl,h1,h2⟩:=trodAll_cons h
  exact⟨a,b,WideElems.Trod_stays hl (hr t (by simp)).1 (hr t (by simp)).2 h1 (fun p hp=>hb.same (hlt p (by simp[hp]))) (fun p hp=>hs p (by simp[hp])),Apt hl hb (fun u hu=>hr u (by simp[hu])) h2 (fun p hp=>hlt p (by simp[hp])) (fun p hp=>hs p (by simp[hp])),rfl⟩
theorem Ay9{W':World}(hb:Below W.heap.size W W')(may:MemPlace→Prop):W.keptBut W' may:=by
 refine⟨hb.os,hb.output,fun i hi=>?_⟩
 rw[hb.block i hi]
 split<;>simp_all
theorem Bji{f:Func}{s:ChangeSpec}{apart fresh handsOn again:Bool}{W':World}{args:Array Value}{ds gs:List (DataW H)}{before:List MemPlace}{tb:TypeId}
  (hl:laidOutB P=true)(hp: ∀t∈f.params.toList,P.readableRec t=true∧t<P.types.size)(hr:f.resultTypes= #[tb])(hb:P.underlying tb=some .bool)(hv:s.vars=[])
  (hW:DataW.Whole enc P f.params.toList s.vars apart W args.toList ds gs before)(h1:(s.fn H (ds++gs)).results=[.lit (.bool true)])(h2:(s.fn H (ds++gs)).args=ds)(h3:(s.fn H (ds++gs)).vars=[])
  (hbel:Below W.heap.size W W'):s.post enc P f apart fresh handsOn again W args (.bool true) W':=by
 have hlt:=hW.lt
 have hW0:=hW
 obtain⟨p,q,hA,hV,rfl,hz,hn⟩:=hW
 rw[hv] at hV
 obtain⟨rfl,rfl⟩:=trodVars_none hV
 have hres: ∀(b:Nat) (sp:Nat→Bool) (hd:Bool),DataW.TrodAll enc P W' b sp hd f.resultTypes.toList ((Value.bool true).resultList f.resultTypes.size) [.lit (.bool true)] []:=by
  intro b sp hd
  rw[hr]
  exact trodAll_mk1 ⟨1,by simp[DataW.trod,Value.cells,hb]⟩
 have hargs: ∀sp:Nat→Bool,(∀x∈p,sp x.block=true)→DataW.TrodAll enc P W' 0 sp true f.params.toList args.toList ds p:=fun sp hs=>Apt hl hbel hp hA (fun x hx=>hlt x (by simp[hx])) hs
 refine⟨ds,[],p++[],[],p,[],hW0,by rw[h1];exact hres _ _ _,by rw[h2];exact hargs _ (fun x hx=>by simpa using hlt x (by simp[hx])),by rw[h3,hv];rfl,Ay9 hbel _,fun _=>?_⟩
 refine⟨?_,_,[],([]++p)++[],⟨[]++p,[],trodAll_append (hargs _ (fun _ _=>rfl)) (hres _ _ _),by rw[hv];rfl,rfl,?_,?_⟩,?_⟩
 ·exact ok_one (f:=f) hr rfl (okWide_bool_mk hb true)
 ·intro b off hm
  have hm':MemPlace.cell b off∈p:=by simpa using hm
  have h0:=hz b off (by simpa using hm')
  have hlb:=hlt _ (by simpa using hm':MemPlace.cell b off∈p++[])
  unfold World.frozen? at h0⊢
  rw[hbel.block b hlb]
  exact h0
 ·intro ha
  simpa using hn ha
 ·intro x hx _
  simpa using hx
def AllOf:List TT→List PV→Prop
 |[],xs=>xs=[]
 |τ::ts,xs=> ∃cs ys,xs=τ.pack cs::ys∧τ.Of cs∧AllOf ts ys
theorem Bq6{n base:Nat}: ∀{ts:List TypeId} {τs:List TT} {vs:List Value} {ds:List (DataW H)} {ps:List MemPlace},ts.length=τs.length→(∀p∈ts.zip τs,reads P n p.1 p.2=true)→
  (∀(j:Nat) t v,ts[j]? =some t→vs[j]? =some v→Value.okWide P W .any base t v)→DataW.TrodAll enc P W 0 (fun _=>true) true ts vs ds ps→(∀(j:Nat) t d,ts[j]? =some t→ds[j]? =some d→ ∀k∈DataW.weights P t d,k≤reachBytes)→ds.length=ts.length∧ ∃xs,AllOf τs xs∧Tq W (· <W.heap.size) xs vs
 |[],τs,_,_,_,hl,_,_,h,_=>by
  obtain⟨rfl,rfl,rfl⟩:=trodAll_nil h
  cases τs with
  |nil=>exact⟨rfl,[],rfl,rfl,fun j x u hx=>by simp at hx⟩
  |cons=>cases hl
 |t::ts,τs,_,_,_,hl,hr,hok,h,hw=>by
  obtain⟨v,vs,d,ds,a,b,rfl,rfl,rfl,h1,h2⟩:=trodAll_cons h
  cases τs with
  |nil=>cases hl
  |cons τ τs=>
   obtain⟨cs,ho,hL⟩:=Btp (hr (t,τ) (by simp)) (hok 0 t v rfl rfl) h1 (hw 0 t d rfl rfl)
   obtain⟨hlen,ys,hos,hLs⟩:=Bq6 (by simpa using hl) (fun p hp=>hr p (by simp[hp])) (fun j t v ht hv=>hok (j+1) t v (by simpa using ht) (by simpa using hv)) h2 (fun j t d ht hd=>hw (j+1) t d (by simpa using ht) (by simpa using hd))
   exact⟨by simp[hlen],_,⟨cs,ys,rfl,ho,hos⟩,(Tq.single hL).append hLs⟩
theorem Bdh{f:FuncId}{vs:List Value}{xs:List PV}(hc:Bo P f (xs.map .pv) [] ⟨.pv (.bool true),[],[]⟩)(hl:Tq W (· <W.heap.size) xs vs)(hG:GOK W (· <W.heap.size)):
  Calls P f vs.toArray W fun e W'=>e= .returned (.bool true)∧Below W.heap.size W W':=by
 refine(hc.2 W vs (fun _=>⟨none,0⟩) (· <W.heap.size) (fun b hb=>⟨hb,fun i hi=>by cases hi⟩) hG (fun i j b hi=>by cases hi) (fun i xs hx=>by simp at hx) (by simpa using hl.1) ?_).mono ?_
 ·intro j x v hx hv
  simp only[List.getElem?_map,Option.map_eq_some_iff] at hx
  obtain⟨y,hy,rfl⟩:=hx
  exact .pv _ _ (hl.2 j y v hy hv)
 ·rintro e W' ⟨v,δ,rfl,ha⟩
  refine⟨?_,ha.quiet.os,ha.quiet.tape,ha.quiet.out,ha.size,fun b hb=>ha.frame b hb (fun⟨i,hi,_⟩=>by cases hi)⟩
  cases ha.val with
  |pv _ _ h=>cases h;rfl
theorem Brx{f:FuncId}{fn:Func}{s:ChangeSpec}{apart fresh handsOn again:Bool}{n:Nat}{tb:TypeId}(τs:List TT)
  (hl:laidOutB P=true)(hp:fn.params.toList.all (fun t=>P.readableRec t&&decide (t<P.types.size))=true)(hr:fn.resultTypes= #[tb])(hb:P.underlying tb=some .bool)(hv:s.vars=[])
  (ht:fn.params.toList.length=τs.length)(hrd:(fn.params.toList.zip τs).all (fun p=>reads P n p.1 p.2)=true)(hs: ∀ds:List (DataW H),ds.length=fn.params.toList.length→s.fn H ds={results:=[.lit (.bool true)],args:=ds})
  (hc: ∀xs:List PV,AllOf τs xs→Bo P f (xs.map .pv) [] ⟨.pv (.bool true),[],[]⟩):
  ∀(W:World) (base:Nat) (args:Array Value) (ds gs:List (DataW H)) (before:List MemPlace),
   (∀(j:Nat) t v,fn.params[j]? =some t→args[j]? =some v→Value.okWide P W .any base t v)→
   DataW.Whole enc P fn.params.toList s.vars apart W args.toList ds gs before→
   (DataW.weightsEach P (fn.params.toList++s.plain.varTypes P) (ds++gs)).all (· ≤reachBytes)=true→
   GOK W (· <W.heap.size)→
   Calls P f args W fun e W'=> ∃v,e= .returned v∧s.post enc P fn apart fresh handsOn again W args v W':=by
 intro W base args ds gs before hok hW hz hG
 have hW0:=hW
 obtain⟨p,q,hA,hV,rfl,_,_⟩:=hW
 rw[hv] at hV
 obtain⟨rfl,rfl⟩:=trodVars_none hV
 obtain⟨hlen,xs,ho,hL⟩:=Bq6 (n:=n) (base:=base) ht (by simpa using hrd) (fun j t v h1 h2=>hok j t v (by simpa using h1) (by simpa using h2)) hA (fun j t d h1 h2 k hk=>by
  have hj:=(List.getElem?_eq_some_iff.1 h1).1
  have hj2:=(List.getElem?_eq_some_iff.1 h2).1
  have:=DataW.weights_mem_each (P:=P) (ts:=fn.params.toList++s.plain.varTypes P) (ds:=ds++[]) (j:=j) (t:=t) (d:=d) (by rw[List.getElem?_append_left hj];exact h1) (by rw[List.getElem?_append_left hj2];exact h2) k hk
  have h3:=List.all_eq_true.1 hz k this
  simpa using h3)
 have hs':s.fn H (ds++[])={results:=[.lit (.bool true)],args:=ds}:=by rw[List.append_nil];exact hs ds hlen
 refine(Bdh (hc xs ho) hL hG).mono fun e W' ⟨he,hb'⟩=>⟨_,he,?_⟩
 exact Bji (P:=P) hl (fun t ht=>by have:=List.all_eq_true.1 hp t ht;simpa using this) hr hb hv hW0 (by rw[hs']) (by rw[hs']) (by rw[hs']) hb'
end
def inR(k:IntKind)(n:Int):Prop:=k.min≤n∧n≤k.max
theorem of_slice{α:Type}{f:α→PV}{τ:TT}{wf:α→Prop}(hh: ∀xs,τ.Of xs→ ∃x,wf x∧τ.pack xs=f x){xs:List PV}(h:(TT.slice τ).Of xs): ∃l:List α,(l.length≤maxLen∧ ∀x∈l,wf x)∧xs=[.slice (l.map f)]:=by
 obtain⟨ys,rfl,hl,hy⟩:=h
 obtain⟨l,h0,h1,h2⟩:=Bhu hh ys hy
 exact⟨l,⟨by omega,h1⟩,by rw[h2]⟩
end Go.Av
end
section
set_option maxRecDepth 100000
set_option maxHeartbeats 8000000
namespace Go.Av.G
open Go Go.Av Go.Proofs
structure Bs where
 Hc:Nat
 Ra:Nat
 deriving DecidableEq,Inhabited
def Bs.cl(x:Bs):List PV:=[.fn x.Hc,.fn x.Ra]
def Bs.pv(x:Bs):PV:= .agg x.cl
structure B4 where
 f_0:Bs
 f_1:Bs
 f_2:Bs
 f_3:Bs
 deriving DecidableEq,Inhabited
def B4.cl(x:B4):List PV:=[.fn x.f_0.Hc,.fn x.f_0.Ra,.fn x.f_1.Hc,.fn x.f_1.Ra,.fn x.f_2.Hc,.fn x.f_2.Ra,.fn x.f_3.Hc,.fn x.f_3.Ra]
def B4.pv(x:B4):PV:= .agg x.cl
structure Ac where
 Ad:Int
 Z7:Int
 An6:Int
 Ag:List UInt8
 deriving DecidableEq,Inhabited
def Ac.cl(x:Ac):List PV:=[.int .i64 x.Ad,.int .i64 x.Z7,.int .i64 x.An6,.str x.Ag]
def Ac.pv(x:Ac):PV:= .agg x.cl
def Ac.same(x y:Ac):Bool:=((x.Ad==y.Ad)&&((x.Z7==y.Z7)&&((x.An6==y.An6)&&((x.Ag==y.Ag)&&true))))
theorem Ac.same_iff(x y:Ac):Ac.same x y=decide (x=y):=by
 rw[Bool.eq_iff_iff];rcases x with⟨_,_,_,_⟩;rcases y with⟨_,_,_,_⟩;simp[Ac.same,Ac.mk.injEq,and_assoc]
def Ac.tt:TT:= .struct (.field (.int .i64) (.field (.int .i64) (.field (.int .i64) (.field .str .unit))))
def Ac.wf(x:Ac):Prop:=inR .i64 x.Ad∧inR .i64 x.Z7∧inR .i64 x.An6∧x.Ag.length≤reachBytes
theorem Ac.of{xs:List PV}(hh:Ac.tt.Of xs): ∃x:Ac,x.wf∧Ac.tt.pack xs=Ac.pv x:=by
 obtain⟨a0,b0,rfl,h0,hh⟩:=hh
 obtain⟨a1,b1,rfl,h1,hh⟩:=hh
 obtain⟨a2,b2,rfl,h2,hh⟩:=hh
 obtain⟨a3,b3,rfl,h3,hh⟩:=hh
 obtain rfl:_=[]:=hh
 obtain⟨n0,rfl,w0⟩:=h0
 obtain⟨n1,rfl,w1⟩:=h1
 obtain⟨n2,rfl,w2⟩:=h2
 obtain⟨n3,rfl,w3⟩:=h3
 exact⟨⟨n0,n1,n2,n3⟩,⟨w0,w1,w2,w3⟩,rfl⟩
structure Ab where
 Jn:List Ac
 C2:Int
 Ch:Bool
 deriving DecidableEq,Inhabited
def Ab.cl(x:Ab):List PV:=[.slice (List.map Ac.pv x.Jn),.int .i64 x.C2,.bool x.Ch]
def Ab.pv(x:Ab):PV:= .agg x.cl
def Ab.tt:TT:= .struct (.field (.slice Ac.tt) (.field (.int .i64) (.field .bool .unit)))
def Ab.wf(x:Ab):Prop:=(x.Jn.length≤maxLen∧ ∀x'∈x.Jn,Ac.wf x')∧inR .i64 x.C2∧True
theorem Ab.of{xs:List PV}(hh:Ab.tt.Of xs): ∃x:Ab,x.wf∧Ab.tt.pack xs=Ab.pv x:=by
 obtain⟨a0,b0,rfl,h0,hh⟩:=hh
 obtain⟨a1,b1,rfl,h1,hh⟩:=hh
 obtain⟨a2,b2,rfl,h2,hh⟩:=hh
 obtain rfl:_=[]:=hh
 obtain⟨n0,w0,rfl⟩:=of_slice (f:=Ac.pv) (wf:=Ac.wf) (fun xs h=>Ac.of h) h0
 obtain⟨n1,rfl,w1⟩:=h1
 obtain⟨n2,rfl⟩:=h2
 exact⟨⟨n0,n1,n2⟩,⟨w0,w1,trivial⟩,rfl⟩
structure Aa where
 Ad:Int
 Ag:List UInt8
 deriving DecidableEq,Inhabited
def Aa.cl(x:Aa):List PV:=[.int .i64 x.Ad,.str x.Ag]
def Aa.pv(x:Aa):PV:= .agg x.cl
def Aa.same(x y:Aa):Bool:=((x.Ad==y.Ad)&&((x.Ag==y.Ag)&&true))
theorem Aa.same_iff(x y:Aa):Aa.same x y=decide (x=y):=by
 rw[Bool.eq_iff_iff];rcases x with⟨_,_⟩;rcases y with⟨_,_⟩;simp[Aa.same,Aa.mk.injEq,and_assoc]
def Aa.tt:TT:= .struct (.field (.int .i64) (.field .str .unit))
def Aa.wf(x:Aa):Prop:=inR .i64 x.Ad∧x.Ag.length≤reachBytes
theorem Aa.of{xs:List PV}(hh:Aa.tt.Of xs): ∃x:Aa,x.wf∧Aa.tt.pack xs=Aa.pv x:=by
 obtain⟨a0,b0,rfl,h0,hh⟩:=hh
 obtain⟨a1,b1,rfl,h1,hh⟩:=hh
 obtain rfl:_=[]:=hh
 obtain⟨n0,rfl,w0⟩:=h0
 obtain⟨n1,rfl,w1⟩:=h1
 exact⟨⟨n0,n1⟩,⟨w0,w1⟩,rfl⟩
structure Ar where
 Al5:Int
 Z8:Int
 deriving DecidableEq,Inhabited
def Ar.cl(x:Ar):List PV:=[.int .i64 x.Al5,.int .i64 x.Z8]
def Ar.pv(x:Ar):PV:= .agg x.cl
def Ar.same(x y:Ar):Bool:=((x.Al5==y.Al5)&&((x.Z8==y.Z8)&&true))
theorem Ar.same_iff(x y:Ar):Ar.same x y=decide (x=y):=by
 rw[Bool.eq_iff_iff];rcases x with⟨_,_⟩;rcases y with⟨_,_⟩;simp[Ar.same,Ar.mk.injEq,and_assoc]
def Ar.tt:TT:= .struct (.field (.int .i64) (.field (.int .i64) .unit))
def Ar.wf(x:Ar):Prop:=inR .i64 x.Al5∧inR .i64 x.Z8
theorem Ar.of{xs:List PV}(hh:Ar.tt.Of xs): ∃x:Ar,x.wf∧Ar.tt.pack xs=Ar.pv x:=by
 obtain⟨a0,b0,rfl,h0,hh⟩:=hh
 obtain⟨a1,b1,rfl,h1,hh⟩:=hh
 obtain rfl:_=[]:=hh
 obtain⟨n0,rfl,w0⟩:=h0
 obtain⟨n1,rfl,w1⟩:=h1
 exact⟨⟨n0,n1⟩,⟨w0,w1⟩,rfl⟩
structure Ao where
 C7:List UInt8
 Dm:List UInt8
 deriving DecidableEq,Inhabited
def Ao.cl(x:Ao):List PV:=[.str x.C7,.str x.Dm]
def Ao.pv(x:Ao):PV:= .agg x.cl
def Ao.same(x y:Ao):Bool:=((x.C7==y.C7)&&((x.Dm==y.Dm)&&true))
theorem Ao.same_iff(x y:Ao):Ao.same x y=decide (x=y):=by
 rw[Bool.eq_iff_iff];rcases x with⟨_,_⟩;rcases y with⟨_,_⟩;simp[Ao.same,Ao.mk.injEq,and_assoc]
def Ao.tt:TT:= .struct (.field .str (.field .str .unit))
def Ao.wf(x:Ao):Prop:=x.C7.length≤reachBytes∧x.Dm.length≤reachBytes
theorem Ao.of{xs:List PV}(hh:Ao.tt.Of xs): ∃x:Ao,x.wf∧Ao.tt.pack xs=Ao.pv x:=by
 obtain⟨a0,b0,rfl,h0,hh⟩:=hh
 obtain⟨a1,b1,rfl,h1,hh⟩:=hh
 obtain rfl:_=[]:=hh
 obtain⟨n0,rfl,w0⟩:=h0
 obtain⟨n1,rfl,w1⟩:=h1
 exact⟨⟨n0,n1⟩,⟨w0,w1⟩,rfl⟩
structure Ae where
 Cn:List UInt8
 Dt:List UInt8
 Bt:List UInt8
 Bi:List UInt8
 Aq:List Ao
 Cl:List Aa
 Ba:List UInt8
 A0:List UInt8
 Bf:List UInt8
 deriving DecidableEq,Inhabited
def Ae.cl(x:Ae):List PV:=[.str x.Cn,.str x.Dt,.str x.Bt,.str x.Bi,.slice (List.map Ao.pv x.Aq),.slice (List.map Aa.pv x.Cl),.str x.Ba,.str x.A0,.str x.Bf]
def Ae.pv(x:Ae):PV:= .agg x.cl
def Ae.tt:TT:= .struct (.field .str (.field .str (.field .str (.field .str (.field (.slice Ao.tt) (.field (.slice Aa.tt) (.field .str (.field .str (.field .str .unit)))))))))
def Ae.wf(x:Ae):Prop:=x.Cn.length≤reachBytes∧x.Dt.length≤reachBytes∧x.Bt.length≤reachBytes∧x.Bi.length≤reachBytes∧(x.Aq.length≤maxLen∧ ∀x'∈x.Aq,Ao.wf x')∧(x.Cl.length≤maxLen∧ ∀x'∈x.Cl,Aa.wf x')∧x.Ba.length≤reachBytes∧x.A0.length≤reachBytes∧x.Bf.length≤reachBytes
theorem Ae.of{xs:List PV}(hh:Ae.tt.Of xs): ∃x:Ae,x.wf∧Ae.tt.pack xs=Ae.pv x:=by
 obtain⟨a0,b0,rfl,h0,hh⟩:=hh
 obtain⟨a1,b1,rfl,h1,hh⟩:=hh
 obtain⟨a2,b2,rfl,h2,hh⟩:=hh
 obtain⟨a3,b3,rfl,h3,hh⟩:=hh
 obtain⟨a4,b4,rfl,h4,hh⟩:=hh
 obtain⟨a5,b5,rfl,h5,hh⟩:=hh
 obtain⟨a6,b6,rfl,h6,hh⟩:=hh
 obtain⟨a7,b7,rfl,h7,hh⟩:=hh
 obtain⟨a8,b8,rfl,h8,hh⟩:=hh
 obtain rfl:_=[]:=hh
 obtain⟨n0,rfl,w0⟩:=h0
 obtain⟨n1,rfl,w1⟩:=h1
 obtain⟨n2,rfl,w2⟩:=h2
 obtain⟨n3,rfl,w3⟩:=h3
 obtain⟨n4,w4,rfl⟩:=of_slice (f:=Ao.pv) (wf:=Ao.wf) (fun xs h=>Ao.of h) h4
 obtain⟨n5,w5,rfl⟩:=of_slice (f:=Aa.pv) (wf:=Aa.wf) (fun xs h=>Aa.of h) h5
 obtain⟨n6,rfl,w6⟩:=h6
 obtain⟨n7,rfl,w7⟩:=h7
 obtain⟨n8,rfl,w8⟩:=h8
 exact⟨⟨n0,n1,n2,n3,n4,n5,n6,n7,n8⟩,⟨w0,w1,w2,w3,w4,w5,w6,w7,w8⟩,rfl⟩
structure Af where
 Ad:Int
 Q9:Int
 f_E:Int
 deriving DecidableEq,Inhabited
def Af.cl(x:Af):List PV:=[.int .i64 x.Ad,.int .i64 x.Q9,.int .i64 x.f_E]
def Af.pv(x:Af):PV:= .agg x.cl
def Af.same(x y:Af):Bool:=((x.Ad==y.Ad)&&((x.Q9==y.Q9)&&((x.f_E==y.f_E)&&true)))
theorem Af.same_iff(x y:Af):Af.same x y=decide (x=y):=by
 rw[Bool.eq_iff_iff];rcases x with⟨_,_,_⟩;rcases y with⟨_,_,_⟩;simp[Af.same,Af.mk.injEq,and_assoc]
def Af.tt:TT:= .struct (.field (.int .i64) (.field (.int .i64) (.field (.int .i64) .unit)))
def Af.wf(x:Af):Prop:=inR .i64 x.Ad∧inR .i64 x.Q9∧inR .i64 x.f_E
theorem Af.of{xs:List PV}(hh:Af.tt.Of xs): ∃x:Af,x.wf∧Af.tt.pack xs=Af.pv x:=by
 obtain⟨a0,b0,rfl,h0,hh⟩:=hh
 obtain⟨a1,b1,rfl,h1,hh⟩:=hh
 obtain⟨a2,b2,rfl,h2,hh⟩:=hh
 obtain rfl:_=[]:=hh
 obtain⟨n0,rfl,w0⟩:=h0
 obtain⟨n1,rfl,w1⟩:=h1
 obtain⟨n2,rfl,w2⟩:=h2
 exact⟨⟨n0,n1,n2⟩,⟨w0,w1,w2⟩,rfl⟩
structure Az where
 f_L:List Ac
 Brp:Int
 Bqn:Bool
 deriving DecidableEq,Inhabited
def Az.cl(x:Az):List PV:=[.slice (List.map Ac.pv x.f_L),.int .i64 x.Brp,.bool x.Bqn]
def Az.pv(x:Az):PV:= .agg x.cl
def Az.tt:TT:= .struct (.field (.slice Ac.tt) (.field (.int .i64) (.field .bool .unit)))
def Az.wf(x:Az):Prop:=(x.f_L.length≤maxLen∧ ∀x'∈x.f_L,Ac.wf x')∧inR .i64 x.Brp∧True
theorem Az.of{xs:List PV}(hh:Az.tt.Of xs): ∃x:Az,x.wf∧Az.tt.pack xs=Az.pv x:=by
 obtain⟨a0,b0,rfl,h0,hh⟩:=hh
 obtain⟨a1,b1,rfl,h1,hh⟩:=hh
 obtain⟨a2,b2,rfl,h2,hh⟩:=hh
 obtain rfl:_=[]:=hh
 obtain⟨n0,w0,rfl⟩:=of_slice (f:=Ac.pv) (wf:=Ac.wf) (fun xs h=>Ac.of h) h0
 obtain⟨n1,rfl,w1⟩:=h1
 obtain⟨n2,rfl⟩:=h2
 exact⟨⟨n0,n1,n2⟩,⟨w0,w1,trivial⟩,rfl⟩
structure Ap where
 An7:Int
 Ag:List UInt8
 deriving DecidableEq,Inhabited
def Ap.cl(x:Ap):List PV:=[.int .i64 x.An7,.str x.Ag]
def Ap.pv(x:Ap):PV:= .agg x.cl
def Ap.same(x y:Ap):Bool:=((x.An7==y.An7)&&((x.Ag==y.Ag)&&true))
theorem Ap.same_iff(x y:Ap):Ap.same x y=decide (x=y):=by
 rw[Bool.eq_iff_iff];rcases x with⟨_,_⟩;rcases y with⟨_,_⟩;simp[Ap.same,Ap.mk.injEq,and_assoc]
def Ap.tt:TT:= .struct (.field (.int .i64) (.field .str .unit))
def Ap.wf(x:Ap):Prop:=inR .i64 x.An7∧x.Ag.length≤reachBytes
theorem Ap.of{xs:List PV}(hh:Ap.tt.Of xs): ∃x:Ap,x.wf∧Ap.tt.pack xs=Ap.pv x:=by
 obtain⟨a0,b0,rfl,h0,hh⟩:=hh
 obtain⟨a1,b1,rfl,h1,hh⟩:=hh
 obtain rfl:_=[]:=hh
 obtain⟨n0,rfl,w0⟩:=h0
 obtain⟨n1,rfl,w1⟩:=h1
 exact⟨⟨n0,n1⟩,⟨w0,w1⟩,rfl⟩
instance dicS:Str where
 S:=fun i=>match i with
  |0=>Bs
  |1=>B4
  |2=>Ac
  |3=>Ab
  |4=>Aa
  |5=>Ar
  |6=>Ao
  |7=>Ae
  |8=>Af
  |9=>Az
  |10=>Ap
  |_=>Unit
instance dicC:Cel where
 ts:=fun i=>match i with
  |0=>[.fn,.fn]
  |1=>[.fn,.fn,.fn,.fn,.fn,.fn,.fn,.fn]
  |2=>[(.int .i64),(.int .i64),(.int .i64),.str]
  |3=>[(.sl (.st 2)),(.int .i64),.bool]
  |4=>[(.int .i64),.str]
  |5=>[(.int .i64),(.int .i64)]
  |6=>[.str,.str]
  |7=>[.str,.str,.str,.str,(.sl (.st 6)),(.sl (.st 4)),.str,.str,.str]
  |8=>[(.int .i64),(.int .i64),(.int .i64)]
  |9=>[(.sl (.st 2)),(.int .i64),.bool]
  |10=>[(.int .i64),.str]
  |_+11=>[]
 get:=fun i=>match i with
  |0=>fun(x:Bs)=>(x.Hc,x.Ra,())
  |1=>fun(x:B4)=>(x.f_0.Hc,x.f_0.Ra,x.f_1.Hc,x.f_1.Ra,x.f_2.Hc,x.f_2.Ra,x.f_3.Hc,x.f_3.Ra,())
  |2=>fun(x:Ac)=>(x.Ad,x.Z7,x.An6,x.Ag,())
  |3=>fun(x:Ab)=>(x.Jn,x.C2,x.Ch,())
  |4=>fun(x:Aa)=>(x.Ad,x.Ag,())
  |5=>fun(x:Ar)=>(x.Al5,x.Z8,())
  |6=>fun(x:Ao)=>(x.C7,x.Dm,())
  |7=>fun(x:Ae)=>(x.Cn,x.Dt,x.Bt,x.Bi,x.Aq,x.Cl,x.Ba,x.A0,x.Bf,())
  |8=>fun(x:Af)=>(x.Ad,x.Q9,x.f_E,())
  |9=>fun(x:Az)=>(x.f_L,x.Brp,x.Bqn,())
  |10=>fun(x:Ap)=>(x.An7,x.Ag,())
  |_+11=>fun _=>()
 put:=fun i=>match i with
  |0=>fun t=>(⟨t.1,t.2.1⟩:Bs)
  |1=>fun t=>(⟨⟨t.1,t.2.1⟩,⟨t.2.2.1,t.2.2.2.1⟩,⟨t.2.2.2.2.1,t.2.2.2.2.2.1⟩,⟨t.2.2.2.2.2.2.1,t.2.2.2.2.2.2.2.1⟩⟩:B4)
  |2=>fun t=>(⟨t.1,t.2.1,t.2.2.1,t.2.2.2.1⟩:Ac)
  |3=>fun t=>(⟨t.1,t.2.1,t.2.2.1⟩:Ab)
  |4=>fun t=>(⟨t.1,t.2.1⟩:Aa)
  |5=>fun t=>(⟨t.1,t.2.1⟩:Ar)
  |6=>fun t=>(⟨t.1,t.2.1⟩:Ao)
  |7=>fun t=>(⟨t.1,t.2.1,t.2.2.1,t.2.2.2.1,t.2.2.2.2.1,t.2.2.2.2.2.1,t.2.2.2.2.2.2.1,t.2.2.2.2.2.2.2.1,t.2.2.2.2.2.2.2.2.1⟩:Ae)
  |8=>fun t=>(⟨t.1,t.2.1,t.2.2.1⟩:Af)
  |9=>fun t=>(⟨t.1,t.2.1,t.2.2.1⟩:Az)
  |10=>fun t=>(⟨t.1,t.2.1⟩:Ap)
  |_+11=>fun _=>()
 cl:=fun i=>match i with
  |0=>Bs.cl
  |1=>B4.cl
  |2=>Ac.cl
  |3=>Ab.cl
  |4=>Aa.cl
  |5=>Ar.cl
  |6=>Ao.cl
  |7=>Ae.cl
  |8=>Af.cl
  |9=>Az.cl
  |10=>Ap.cl
  |_+11=>fun _=>[]
 z:=fun i=>match i with
  |0=>(default:Bs)
  |1=>(default:B4)
  |2=>(default:Ac)
  |3=>(default:Ab)
  |4=>(default:Aa)
  |5=>(default:Ar)
  |6=>(default:Ao)
  |7=>(default:Ae)
  |8=>(default:Af)
  |9=>(default:Az)
  |10=>(default:Ap)
  |_+11=>()
instance dic:Dic where
 scal:=fun i=>match i with
  |0=>rfl
  |1=>rfl
  |2=>rfl
  |3=>rfl
  |4=>rfl
  |5=>rfl
  |6=>rfl
  |7=>rfl
  |8=>rfl
  |9=>rfl
  |10=>rfl
  |_+11=>rfl
 cl_get:=fun i=>match i with
  |0=>fun _=>rfl
  |1=>fun _=>rfl
  |2=>fun _=>rfl
  |3=>fun _=>rfl
  |4=>fun _=>rfl
  |5=>fun _=>rfl
  |6=>fun _=>rfl
  |7=>fun _=>rfl
  |8=>fun _=>rfl
  |9=>fun _=>rfl
  |10=>fun _=>rfl
  |_+11=>fun _=>rfl
 cl_mk:=fun i=>match i with
  |0=>fun _=>rfl
  |1=>fun _=>rfl
  |2=>fun _=>rfl
  |3=>fun _=>rfl
  |4=>fun _=>rfl
  |5=>fun _=>rfl
  |6=>fun _=>rfl
  |7=>fun _=>rfl
  |8=>fun _=>rfl
  |9=>fun _=>rfl
  |10=>fun _=>rfl
  |_+11=>fun _=>rfl
noncomputable def Wz(s1:List UInt8):Option Int:=
 A3 (fun(qj2:List UInt8)=>match qj2 with
  |rest3=>(
   (B6 rest3 [32,9,10]).bind fun x4=>
   (strings_HasPrefix x4 [35]).bind fun x5=>
   if (!x5)=true then
    some (.inr (IntKind.wrap .i64 ((s1.length:Int)-(x4.length:Int))))
   else
    (strings_Cut x4 [10]).bind fun x6=>
    if (!x6.2.2)=true then
     some (.inr (s1.length:Int))
    else
     some (.inl x6.2.1):Option ((List UInt8)⊕Int))) s1
def Aqj:Option B4:=
 some (⟨(⟨127,128⟩:Bs),(⟨129,130⟩:Bs),(⟨131,132⟩:Bs),(⟨133,134⟩:Bs)⟩:B4)
def Hs(b1:Int):Option Bool:=
 (some (decide (b1≥97))).bind fun c2=>
 some (c2&&(decide (b1≤122)))
def He(b1:Int):Option Bool:=
 (some (decide (b1≥48))).bind fun c2=>
 some (c2&&(decide (b1≤57)))
def Mz(b1:Int):Option Bool:=
 some (b1==34)
def Tz(x1:Int):Option Bool:=
 some true
def F2(f:Nat)(a0:Int):Option Bool:=if f=127 then Hs a0 else if f=129 then He a0 else if f=131 then Mz a0 else if f=133 then Tz a0 else none
def Ot(b1:Int):Option Bool:=
 (Hs b1).bind fun x2=>
 (gdO (!x2) (He b1) (default:Bool)).bind fun x3=>
 (some (x2||x3)).bind fun c4=>
 some (c4||(b1==95))
def Qs(r1:Int):Option Bool:=
 (some (decide (r1>127))).bind fun c2=>
 (gdO (!c2) (Ot (IntKind.wrap .u8 r1)) (default:Bool)).bind fun x3=>
 some (c2||(!x3))
noncomputable def At2(s1:List UInt8):Option Int:=
 (strings_IndexFunc Qs s1).bind fun x2=>
 if (decide (x2<0))=true then
  some (s1.length:Int)
 else
  some x2
noncomputable def Ahd(s1:List UInt8):Option (Int×Int):=
 (At2 s1).bind fun x2=>
 if (decide (x2>32))=true then
  some (0,3)
 else
  some (x2,0)
def I3(r1:Int):Option Bool:=
 (some (decide (r1>127))).bind fun c2=>
 (gdO (!c2) (He (IntKind.wrap .u8 r1)) (default:Bool)).bind fun x3=>
 some (c2||(!x3))
noncomputable def Qt(s1:List UInt8):Option Int:=
 (strings_IndexFunc I3 s1).bind fun x2=>
 if (decide (x2<0))=true then
  some (s1.length:Int)
 else
  some x2
noncomputable def Rd(s1:List UInt8):Option (Int×Int):=
 (Qt s1).bind fun x2=>
 (slO s1 x2 (s1.length:Int)).bind fun x3=>
 (some (decide ((x3.length:Int)>1))).bind fun c4=>
 (gdO c4 (byO x3 0) 0).bind fun x5=>
 ((if (c4&&(x5==46))=true then
   (slO x3 1 (x3.length:Int)).bind fun x7=>
   (Qt x7).bind fun x8=>
   some x8
 else
  some 0):Option Int).bind fun j6=>
 (some (decide (x2>15))).bind fun c10=>
 (some (c10||(decide (j6>9)))).bind fun c11=>
 (some (decide (x2>1))).bind fun c12=>
 (gdO (!c11&&c12) (byO s1 0) 0).bind fun x13=>
 if (c11||(c12&&(x13==48)))=true then
  some (0,3)
 else
  if (decide (j6>0))=true then
   some (IntKind.wrap .i64 ((IntKind.wrap .i64 (x2+1))+j6),0)
  else
   some (x2,0)
def Ou(b1:Int):Option Bool:=
 (some (decide (b1≥32))).bind fun c2=>
 some (c2&&(decide (b1≤126)))
def I4(r1:Int):Option Bool:=
 (some (decide (r1>127))).bind fun c2=>
 (gdO (!c2) (Ou (IntKind.wrap .u8 r1)) (default:Bool)).bind fun x3=>
 some (c2||(!x3))
noncomputable def Ajn(s1:List UInt8):Option Int:=
 (strings_IndexFunc I4 s1).bind fun x2=>
 if (decide (x2<0))=true then
  some (s1.length:Int)
 else
  some x2
noncomputable def Re(s1:List UInt8):Option (Int×Int):=
 (slO s1 1 (s1.length:Int)).bind fun x2=>
 (strings_IndexByte x2 34).bind fun x3=>
 if (decide (x3<0))=true then
  some (0,14)
 else
  (some (decide (x3>32))).bind fun c4=>
  (gdO (!c4) (slO s1 1 (IntKind.wrap .i64 (1+x3))) (default:List UInt8)).bind fun x5=>
  (gdO (!c4) (Ajn x5) (default:Int)).bind fun x6=>
  if (c4||(decide (x6<x3)))=true then
   some (0,3)
  else
   some (IntKind.wrap .i64 (x3+2),0)
def Ahc(s1:List UInt8):Option (Int×Int):=
 (some (decide ((s1.length:Int)>1))).bind fun c2=>
 (gdO c2 (slO s1 0 2) (default:List UInt8)).bind fun x3=>
 (gdO c2 (strings_Contains [60,61,32,62,61,32,46,46] x3) (default:Bool)).bind fun x4=>
 (some (c2&&x4)).bind fun c5=>
 (gdO c5 (slO s1 0 2) (default:List UInt8)).bind fun x6=>
 (gdO c5 (strings_Contains x6 [32]) (default:Bool)).bind fun x7=>
 if (c5&&(!x7))=true then
  some (2,0)
 else
  (byO s1 0).bind fun x8=>
  (strings_IndexByte [123,125,40,41,91,93,59,58,44,37,61,60,62,43,45,42,47] x8).bind fun x9=>
  if (decide (x9≥0))=true then
   some (1,0)
  else
   some (0,14)
noncomputable def F3(f:Nat)(a0:List UInt8):Option (Int×Int):=if f=128 then Ahd a0 else if f=130 then Rd a0 else if f=132 then Re a0 else if f=134 then Ahc a0 else none
noncomputable def Wy(s1:List UInt8):Option (Int×Int×Int):=
 (Aqj).bind fun x2=>
 ((A3 (fun(qj3:Int)=>match qj3 with
   |x4=>(
    if (decide (x4<4))=true then
     (rdO [x2.f_0,x2.f_1,x2.f_2,x2.f_3] x4).bind fun x5=>
     (byO s1 0).bind fun x6=>
     (F2 x5.Hc x6).bind fun x7=>
     if x7=true then
      (F3 x5.Ra s1).bind fun x8=>
      some (.inr (.inr (x4,x8.1,x8.2)))
     else
      some (.inl (IntKind.wrap .i64 (x4+1)))
    else
     some (.inr (.inl ())):Option (Int⊕(Unit⊕(Int×Int×Int))))) 0):Option (Unit⊕(Int×Int×Int))).bind fun j3=>match j3 with
 | .inr o=>some o
 | .inl _=>
 some (0,0,14)
def Qr(s1:List UInt8):Option (Int×Int):=
 (strings_Count s1 [10]).bind fun x2=>
 (strings_LastIndexByte s1 10).bind fun x3=>
 some (IntKind.wrap .i64 (x2+1),IntKind.wrap .i64 ((s1.length:Int)-x3))
noncomputable def Aac(text1:List UInt8):Option ((List Ac)×Int×Int):=
 if (decide ((text1.length:Int)>8000))=true then
  some (([]:List Ac),0,4)
 else
  (Wz text1).bind fun x2=>
  ((A3 (fun(qj3:Int×(List Ac))=>match qj3 with
    |(at_4,row5)=>(
     if (decide (at_4<(text1.length:Int)))=true then
      (slO text1 at_4 (text1.length:Int)).bind fun x6=>
      (Wy x6).bind fun x7=>
      if (x7.2.2 !=0)=true then
       some (.inr (.inr (([]:List Ac),at_4,x7.2.2)))
      else
       if ((row5.length:Int)==1500)=true then
        some (.inr (.inr (([]:List Ac),at_4,6)))
       else
        (slO text1 0 at_4).bind fun x8=>
        (Qr x8).bind fun x9=>
        (slO text1 at_4 (IntKind.wrap .i64 (at_4+x7.2.1))).bind fun x10=>
        (apO 40 row5 [(⟨x7.1,x9.1,x9.2,x10⟩:Ac)]).bind fun x11=>
        (slO text1 (IntKind.wrap .i64 (at_4+x7.2.1)) (text1.length:Int)).bind fun x12=>
        (Wz x12).bind fun x13=>
        some (.inl (IntKind.wrap .i64 ((IntKind.wrap .i64 (at_4+x7.2.1))+x13),x11))
     else
      some (.inr (.inl row5)):Option ((Int×(List Ac))⊕((List Ac)⊕((List Ac)×Int×Int))))) (x2,([]:List Ac))):Option ((List Ac)⊕((List Ac)×Int×Int))).bind fun j3=>match j3 with
  | .inr o=>some o
  | .inl out14=>
  some (out14,0,0)
def Ww(text1:List UInt8)(at_2:Int):Option (Int×Int×Int):=
 (some (decide (at_2<0))).bind fun c3=>
 if (c3||(decide (at_2>(text1.length:Int))))=true then
  some (0,0,1)
 else
  (slO text1 0 at_2).bind fun x4=>
  (Qr x4).bind fun x5=>
  some (x5.1,x5.2,0)
noncomputable def Hh(text1:List UInt8):Option ((Int×Int×Int×Ab)⊕(Int×Int×Int)):=
 (Aac text1).bind fun x2=>
 if (x2.2.2==0)=true then
  some (.inl (0,0,0,(⟨x2.1,0,false⟩:Ab)))
 else
  (Ww text1 x2.2.1).bind fun x3=>
  some (.inr (x3.1,x3.2.1,x2.2.2))
def Bx(s1:List UInt8)(e2:Ab):Option Bool:=
 (some (!e2.Ch)).bind fun c3=>
 (some (c3&&(decide (e2.C2<(e2.Jn.length:Int))))).bind fun c4=>
 (gdO c4 (rdO e2.Jn e2.C2) (default:Ac)).bind fun x5=>
 (some (c4&&(x5.Ad !=2))).bind fun c6=>
 (gdO c6 (rdO e2.Jn e2.C2) (default:Ac)).bind fun x7=>
 some (c6&&(x7.Ag==s1))
def Bc(s1:List UInt8)(e2:Ab):Option (Bool×Ab):=
 (Bx s1 e2).bind fun x3=>
 if (!x3)=true then
  some (false,e2)
 else
  some (true,(⟨e2.Jn,IntKind.wrap .i64 (e2.C2+1),e2.Ch⟩:Ab))
noncomputable def Am(l1:List (List UInt8))(e2:Ab):Option Ab:=
 A3 (fun(qj3:Int×Ab)=>match qj3 with
  |(x4,r5)=>(
   if (decide (x4<(l1.length:Int)))=true then
    (rdO l1 x4).bind fun x6=>
    (Bc x6 r5).bind fun x7=>
    if (!x7.1)=true then
     some (.inr (⟨x7.2.Jn,x7.2.C2,true⟩:Ab))
    else
     some (.inl (IntKind.wrap .i64 (x4+1),x7.2))
   else
    some (.inr r5):Option ((Int×Ab)⊕Ab))) (0,e2)
noncomputable def Em(s1:List (List UInt8))(v2:List UInt8):Option Int:=
 ((A3 (fun(qj3:Int)=>match qj3 with
   |x4=>(
    if (decide (x4<(s1.length:Int)))=true then
     (rdO s1 x4).bind fun x5=>
     if (v2==x5)=true then
      some (.inr (.inr x4))
     else
      some (.inl (IntKind.wrap .i64 (x4+1)))
    else
     some (.inr (.inl ())):Option (Int⊕(Unit⊕Int)))) 0):Option (Unit⊕Int)).bind fun j3=>match j3 with
 | .inr o=>some o
 | .inl _=>
 some (-1)
noncomputable def Ct(s1:List (List UInt8))(v2:List UInt8):Option Bool:=
 (Em s1 v2).bind fun x3=>
 some (decide (x3≥0))
noncomputable def W3(s1:List UInt8)(product2:Bool):Option Bool:=
 ((if product2=true then
   (apO 16 [[105,102],[116,104,101,110],[101,108,115,101],[97,110,100],[111,114],[110,111,116],[109,105,110],[109,97,120]] [[112,114,111,100,117,99,116],[98,97,115,105,115],[112,101,114,105,111,100],[116,105,101,114,115],[102,101,101],[109,105,110,105,109,117,109],[111,118,101,114,100,114,97,102,116],[110,111,116,105,99,101]]).bind fun x4=>
   some x4
 else
  some [[105,102],[116,104,101,110],[101,108,115,101],[97,110,100],[111,114],[110,111,116],[109,105,110],[109,97,120]]):Option (List (List UInt8))).bind fun j3=>
 (Ct j3 s1).bind fun x6=>
 some x6
noncomputable def A7(kind1:Int)(product2:Bool)(e3:Ab):Option ((List UInt8)×Ab):=
 (some e3.Ch).bind fun c4=>
 (some (c4||(decide (e3.C2≥(e3.Jn.length:Int))))).bind fun c5=>
 (gdO (!c5) (rdO e3.Jn e3.C2) (default:Ac)).bind fun x6=>
 (some (c5||(x6.Ad !=kind1))).bind fun c7=>
 (some (kind1==0)).bind fun c8=>
 (gdO (!c7&&c8) (rdO e3.Jn e3.C2) (default:Ac)).bind fun x9=>
 (gdO (!c7&&c8) (W3 x9.Ag product2) (default:Bool)).bind fun x10=>
 if (c7||(c8&&x10))=true then
  some ([],(⟨e3.Jn,e3.C2,true⟩:Ab))
 else
  (rdO e3.Jn (IntKind.wrap .i64 ((IntKind.wrap .i64 (e3.C2+1))-1))).bind fun x11=>
  some (x11.Ag,(⟨e3.Jn,IntKind.wrap .i64 (e3.C2+1),e3.Ch⟩:Ab))
noncomputable def Dw(slices1:List (List Aa)):Option (List Aa):=
 ((A3 (fun(qj2:Int×Int)=>match qj2 with
   |(size3,x4)=>(
    if (decide (x4<(slices1.length:Int)))=true then
     (rdO slices1 x4).bind fun x5=>
     ((if (decide ((IntKind.wrap .i64 (size3+(x5.length:Int)))<0))=true then
       none
     else
      some ()):Option Unit).bind fun _=>
     some (.inl (IntKind.wrap .i64 (size3+(x5.length:Int)),IntKind.wrap .i64 (x4+1)))
    else
     some (.inr size3):Option ((Int×Int)⊕Int))) (0,0)):Option Int).bind fun j2=>
 (C6 Aa 24 j2).bind fun x8=>
 ((A3 (fun(qj9:Int×(List Aa))=>match qj9 with
   |(x10,row11)=>(
    if (decide (x10<(slices1.length:Int)))=true then
     (rdO slices1 x10).bind fun x12=>
     (apO 24 row11 x12).bind fun x13=>
     some (.inl (IntKind.wrap .i64 (x10+1),x13))
    else
     some (.inr row11):Option ((Int×(List Aa))⊕(List Aa)))) (0,x8)):Option (List Aa)).bind fun j9=>
 some j9
noncomputable def Co(kind1:Int)(l2:List (List Aa)):Option (List Aa):=
 (Dw l2).bind fun x3=>
 (apO 24 [(⟨kind1,[]⟩:Aa)] x3).bind fun x4=>
 some x4
def Ahq:Option (List ((List UInt8)×Ar)):=
 some (mset (mset (mset (mset (mset (mset (mset (mset (mset (mset (mset ([]:List ((List UInt8)×Ar)) [111,114] (⟨13,1⟩:Ar)) [97,110,100] (⟨12,2⟩:Ar)) [60] (⟨7,4⟩:Ar)) [60,61] (⟨8,4⟩:Ar)) [61] (⟨9,4⟩:Ar)) [62] (⟨10,4⟩:Ar)) [62,61] (⟨11,4⟩:Ar)) [43] (⟨3,5⟩:Ar)) [45] (⟨4,5⟩:Ar)) [42] (⟨5,6⟩:Ar)) [47] (⟨6,6⟩:Ar))
def Ce(level1:Int)(e2:Ab):Option (Int×Bool):=
 (some e2.Ch).bind fun c3=>
 (some (c3||(decide (e2.C2≥(e2.Jn.length:Int))))).bind fun c4=>
 (gdO (!c4) (rdO e2.Jn e2.C2) (default:Ac)).bind fun x5=>
 if (c4||(x5.Ad==2))=true then
  some (0,false)
 else
  (Ahq).bind fun x6=>
  (rdO e2.Jn e2.C2).bind fun x7=>
  (some ((Azi x6 x7.Ag).isSome)).bind fun c8=>
  some (((Azi x6 x7.Ag).getD ((⟨0,0⟩:Ar):Ar)).Al5,(c8&&((((Azi x6 x7.Ag).getD ((⟨0,0⟩:Ar):Ar)).Z8)==level1)))
mutual
noncomputable def parse_reader_any:Nat→Ab→Option ((List Aa)×Ab)
 |0,_=>none
 |fuel+1,e1=>
  (Bc [105,102] e1).bind fun x2=>
  if (!x2.1)=true then
   (parse_reader_level fuel 1 x2.2).bind fun x3=>
   some (x3.1,x3.2)
  else
   (parse_reader_any fuel x2.2).bind fun x4=>
   (Am [[116,104,101,110]] x4.2).bind fun x5=>
   (parse_reader_any fuel x5).bind fun x6=>
   (Am [[101,108,115,101]] x6.2).bind fun x7=>
   (parse_reader_any fuel x7).bind fun x8=>
   (Co 15 [x4.1,x6.1,x8.1]).bind fun x9=>
   some (x9,x8.2)
noncomputable def parse_reader_level:Nat→Int→Ab→Option ((List Aa)×Ab)
 |0,_,_=>none
 |fuel+1,n1,e2=>
  if e2.Ch=true then
   some (([]:List Aa),e2)
  else
   if (n1==3)=true then
    (Bc [110,111,116] e2).bind fun x3=>
    if x3.1=true then
     (parse_reader_level fuel 3 x3.2).bind fun x4=>
     (Co 14 [x4.1]).bind fun x5=>
     some (x5,x4.2)
    else
     (parse_reader_level fuel 4 x3.2).bind fun x6=>
     some (x6.1,x6.2)
   else
    if (n1==7)=true then
     (Bc [45] e2).bind fun x7=>
     if x7.1=true then
      (parse_reader_level fuel 7 x7.2).bind fun x8=>
      (Co 2 [x8.1]).bind fun x9=>
      some (x9,x8.2)
     else
      (parse_reader_primary fuel x7.2).bind fun x10=>
      some (x10.1,x10.2)
    else
     (parse_reader_level fuel (IntKind.wrap .i64 (n1+1)) e2).bind fun x11=>
     (Ce n1 x11.2).bind fun x12=>
     ((A3 (fun(qj13:(List Aa)×Int×Bool×Ab)=>match qj13 with
       |(out14,kind15,is16,r17)=>(
        if is16=true then
         (parse_reader_level fuel (IntKind.wrap .i64 (n1+1)) (⟨r17.Jn,IntKind.wrap .i64 (r17.C2+1),r17.Ch⟩:Ab)).bind fun x18=>
         (Co kind15 [out14,x18.1]).bind fun x19=>
         if (n1==4)=true then
          some (.inr (x19,x18.2))
         else
          (Ce n1 x18.2).bind fun x20=>
          some (.inl (x19,x20.1,x20.2,x18.2))
        else
         some (.inr (out14,r17)):Option (((List Aa)×Int×Bool×Ab)⊕((List Aa)×Ab)))) (x11.1,x12.1,x12.2,x11.2)):Option ((List Aa)×Ab)).bind fun(out21,r22)=>
     some (out21,r22)
noncomputable def parse_reader_primary:Nat→Ab→Option ((List Aa)×Ab)
 |0,_=>none
 |fuel+1,e1=>
  (Bc [40] e1).bind fun x2=>
  if x2.1=true then
   (parse_reader_any fuel x2.2).bind fun x3=>
   (Am [[41]] x3.2).bind fun x4=>
   some (x3.1,x4)
  else
   (Bx [109,105,110] x2.2).bind fun x5=>
   (gdO (!x5) (Bx [109,97,120] x2.2) (default:Bool)).bind fun x6=>
   if (x5||x6)=true then
    (Bx [109,97,120] (⟨(bif !x5 then x2.2.Jn else x2.2.Jn),(bif !x5 then x2.2.C2 else x2.2.C2),(bif !x5 then x2.2.Ch else x2.2.Ch)⟩:Ab)).bind fun x7=>
    ((if x7=true then
      some 17
    else
     some 16):Option Int).bind fun j8=>
    (Am [[40]] (⟨(bif !x5 then x2.2.Jn else x2.2.Jn),IntKind.wrap .i64 ((bif !x5 then x2.2.C2 else x2.2.C2)+1),(bif !x5 then x2.2.Ch else x2.2.Ch)⟩:Ab)).bind fun x10=>
    (parse_reader_any fuel x10).bind fun x11=>
    (Am [[44]] x11.2).bind fun x12=>
    (parse_reader_any fuel x12).bind fun x13=>
    (Am [[41]] x13.2).bind fun x14=>
    (Co j8 [x11.1,x13.1]).bind fun x15=>
    some (x15,x14)
   else
    (some (decide ((bif !x5 then x2.2.C2 else x2.2.C2)<((bif !x5 then x2.2.Jn else x2.2.Jn).length:Int)))).bind fun c16=>
    (gdO c16 (rdO (bif !x5 then x2.2.Jn else x2.2.Jn) (bif !x5 then x2.2.C2 else x2.2.C2)) (default:Ac)).bind fun x17=>
    if (c16&&(x17.Ad==1))=true then
     (A7 1 false (⟨(bif !x5 then x2.2.Jn else x2.2.Jn),(bif !x5 then x2.2.C2 else x2.2.C2),(bif !x5 then x2.2.Ch else x2.2.Ch)⟩:Ab)).bind fun x18=>
     (Bc [37] x18.2).bind fun x19=>
     ((if x19.1=true then
       (Bip x18.1 [37]).bind fun x21=>
       some x21
     else
      some x18.1):Option (List UInt8)).bind fun j20=>
     some ([(⟨0,j20⟩:Aa)],x19.2)
    else
     (A7 0 false (⟨(bif !x5 then x2.2.Jn else x2.2.Jn),(bif !x5 then x2.2.C2 else x2.2.C2),(bif !x5 then x2.2.Ch else x2.2.Ch)⟩:Ab)).bind fun x23=>
     some ([(⟨1,x23.1⟩:Aa)],x23.2)
end
def Qw(kind1:Int):Option Int:=
 (some (decide (kind1<0))).bind fun c2=>
 if (c2||(decide (kind1>17)))=true then
  some (-1)
 else
  if (decide (kind1≤1))=true then
   some 0
  else
   (some (kind1==2)).bind fun c3=>
   if (c3||(kind1==14))=true then
    some 1
   else
    if (kind1==15)=true then
     some 3
    else
     some 2
def stringslite_HasSuffix(s1:List UInt8)(suffix2:List UInt8):Option Bool:=
 (some (decide ((s1.length:Int)≥(suffix2.length:Int)))).bind fun c3=>
 (gdO c3 (slO s1 (IntKind.wrap .i64 ((s1.length:Int)-(suffix2.length:Int))) (s1.length:Int)) (default:List UInt8)).bind fun x4=>
 some (c3&&(x4==suffix2))
def stringslite_TrimSuffix(s1:List UInt8)(suffix2:List UInt8):Option (List UInt8):=
 (stringslite_HasSuffix s1 suffix2).bind fun x3=>
 if x3=true then
  (slO s1 0 (IntKind.wrap .i64 ((s1.length:Int)-(suffix2.length:Int)))).bind fun x4=>
  some x4
 else
  some s1
def strings_TrimSuffix(s1:List UInt8)(suffix2:List UInt8):Option (List UInt8):=
 (stringslite_TrimSuffix s1 suffix2).bind fun x3=>
 some x3
noncomputable def Wx(t1:Ac):Option Bool:=
 if (t1.Ag==[])=true then
  some false
 else
  (Wy t1.Ag).bind fun x2=>
  (some (x2.2.2==0)).bind fun c3=>
  (some (c3&&(x2.1==t1.Ad))).bind fun c4=>
  some (c4&&(x2.2.1==(t1.Ag.length:Int)))
noncomputable def E3(s1:List UInt8):Option Bool:=
 (Wx (⟨1,0,0,s1⟩:Ac)).bind fun x2=>
 some x2
noncomputable def Lm(s1:List UInt8)(product2:Bool):Option Bool:=
 (Wx (⟨0,0,0,s1⟩:Ac)).bind fun x3=>
 (gdO x3 (W3 s1 product2) (default:Bool)).bind fun x4=>
 some (x3&&(!x4))
noncomputable def Aan(n1:Aa):Option Bool:=
 if (n1.Ad==0)=true then
  (strings_TrimSuffix n1.Ag [37]).bind fun x2=>
  (E3 x2).bind fun x3=>
  some x3
 else
  if (n1.Ad==1)=true then
   (Lm n1.Ag false).bind fun x4=>
   some x4
  else
   some (n1.Ag==[])
noncomputable def Iu:Nat→(List Aa)→Option ((List Aa)×Int)
 |0,_=>none
 |fuel+1,l1=>
  (some ((l1.length:Int)==0)).bind fun c2=>
  (gdO (!c2) (rdO l1 0) (default:Aa)).bind fun x3=>
  (gdO (!c2) (Qw x3.Ad) (default:Int)).bind fun x4=>
  (some (c2||(decide (x4<0)))).bind fun c5=>
  (gdO (!c5) (rdO l1 0) (default:Aa)).bind fun x6=>
  (gdO (!c5) (Aan x6) (default:Bool)).bind fun x7=>
  if (c5||(!x7))=true then
   some (([]:List Aa),0)
  else
   (slO l1 1 (l1.length:Int)).bind fun x8=>
   (rdO l1 0).bind fun x9=>
   (Qw x9.Ad).bind fun x10=>
   ((A3 (fun(qj11:(List Aa)×Int×Int)=>match qj11 with
     |(rest12,deep13,x14)=>(
      if (decide (x14<x10))=true then
       (Iu fuel rest12).bind fun x15=>
       if (x15.2==0)=true then
        some (.inr (.inr (([]:List Aa),0)))
       else
        some (.inl (x15.1,(if x15.2>deep13 then x15.2 else deep13),IntKind.wrap .i64 (x14+1)))
      else
       some (.inr (.inl (rest12,deep13))):Option (((List Aa)×Int×Int)⊕(((List Aa)×Int)⊕((List Aa)×Int))))) (x8,0,0)):Option (((List Aa)×Int)⊕((List Aa)×Int))).bind fun j11=>match j11 with
   | .inr o=>some o
   | .inl (rest16,deep17)=>
   some (rest16,IntKind.wrap .i64 (deep17+1))
noncomputable def M0(l1:List Aa):Option Int:=
 if (decide ((l1.length:Int)>200))=true then
  some 0
 else
  (Iu 100000 l1).bind fun x2=>
  (some (decide ((x2.1.length:Int)>0))).bind fun c3=>
  if (c3||(decide (x2.2>24)))=true then
   some 0
  else
   some x2.2
noncomputable def D9(l1:List Aa):Option Bool:=
 (M0 l1).bind fun x2=>
 some (decide (x2>0))
def Fq(text1:List UInt8)(fits2:Bool)(e3:Ab):Option (Int×Int×Int):=
 if (decide (e3.C2<(e3.Jn.length:Int)))=true then
  (rdO e3.Jn e3.C2).bind fun x4=>
  (rdO e3.Jn e3.C2).bind fun x5=>
  some (x4.Z7,x5.An6,14)
 else
  if e3.Ch=true then
   (Ww text1 (text1.length:Int)).bind fun x6=>
   some (x6.1,x6.2.1,14)
  else
   if (!fits2)=true then
    some (1,1,4)
   else
    some (0,0,0)
noncomputable def B3(text1:List UInt8):Option ((List Aa)×Int×Int×Int):=
 (Hh text1).bind fun x2=>match x2 with
 | .inl a3=>
  if (a3.2.2.1 !=0)=true then
   some (([]:List Aa),a3.1,a3.2.1,a3.2.2.1)
  else
   (parse_reader_any 100000 a3.2.2.2).bind fun x5=>
   (D9 x5.1).bind fun x6=>
   (Fq text1 x6 x5.2).bind fun x7=>
   if (x7.2.2 !=0)=true then
    some (([]:List Aa),x7.1,x7.2.1,x7.2.2)
   else
    some (x5.1,0,0,0)
 | .inr b4=>
  if (b4.2.2 !=0)=true then
   some (([]:List Aa),b4.1,b4.2.1,b4.2.2)
  else
   none
def stringslite_CutSuffix(s1:List UInt8)(suffix2:List UInt8):Option ((List UInt8)×Bool):=
 (stringslite_HasSuffix s1 suffix2).bind fun x3=>
 if (!x3)=true then
  some (s1,false)
 else
  (slO s1 0 (IntKind.wrap .i64 ((s1.length:Int)-(suffix2.length:Int)))).bind fun x4=>
  some (x4,true)
def strings_CutSuffix(s1:List UInt8)(suffix2:List UInt8):Option ((List UInt8)×Bool):=
 (stringslite_CutSuffix s1 suffix2).bind fun x3=>
 some (x3.1,x3.2)
noncomputable def Aj(slices1:List (List (List UInt8))):Option (List (List UInt8)):=
 ((A3 (fun(qj2:Int×Int)=>match qj2 with
   |(size3,x4)=>(
    if (decide (x4<(slices1.length:Int)))=true then
     (rdO slices1 x4).bind fun x5=>
     ((if (decide ((IntKind.wrap .i64 (size3+(x5.length:Int)))<0))=true then
       none
     else
      some ()):Option Unit).bind fun _=>
     some (.inl (IntKind.wrap .i64 (size3+(x5.length:Int)),IntKind.wrap .i64 (x4+1)))
    else
     some (.inr size3):Option ((Int×Int)⊕Int))) (0,0)):Option Int).bind fun j2=>
 (C6 (List UInt8) 16 j2).bind fun x8=>
 ((A3 (fun(qj9:Int×(List (List UInt8)))=>match qj9 with
   |(x10,row11)=>(
    if (decide (x10<(slices1.length:Int)))=true then
     (rdO slices1 x10).bind fun x12=>
     (apO 16 row11 x12).bind fun x13=>
     some (.inl (IntKind.wrap .i64 (x10+1),x13))
    else
     some (.inr row11):Option ((Int×(List (List UInt8)))⊕(List (List UInt8))))) (0,x8)):Option (List (List UInt8))).bind fun j9=>
 some j9
noncomputable def T4(n1:Aa)(s2:List UInt8)(parts3:List (List (List UInt8))):Option (List (List UInt8)):=
 if (n1.Ad==0)=true then
  (strings_CutSuffix n1.Ag [37]).bind fun x4=>
  if x4.2=true then
   some [x4.1,[37]]
  else
   some [n1.Ag]
 else
  if (n1.Ad==1)=true then
   some [n1.Ag]
  else
   if (n1.Ad==2)=true then
    (rdO parts3 0).bind fun x5=>
    (apO 16 [[45]] x5).bind fun x6=>
    some x6
   else
    if (n1.Ad==14)=true then
     (rdO parts3 0).bind fun x7=>
     (apO 16 [[110,111,116]] x7).bind fun x8=>
     some x8
    else
     if (n1.Ad==15)=true then
      (rdO parts3 0).bind fun x9=>
      (rdO parts3 1).bind fun x10=>
      (rdO parts3 2).bind fun x11=>
      (Aj [[[105,102]],x9,[[116,104,101,110]],x10,[[101,108,115,101]],x11]).bind fun x12=>
      some x12
     else
      ((if (n1.Ad==16)=true then
        some (n1.Ad==16)
      else
       some (n1.Ad==17)):Option Bool).bind fun j13=>
      if j13=true then
       ((if (n1.Ad==17)=true then
         some [109,97,120]
       else
        some [109,105,110]):Option (List UInt8)).bind fun j15=>
       (rdO parts3 0).bind fun x17=>
       (rdO parts3 1).bind fun x18=>
       (Aj [[j15,[40]],x17,[[44]],x18,[[41]]]).bind fun x19=>
       some x19
      else
       (rdO parts3 0).bind fun x20=>
       (rdO parts3 1).bind fun x21=>
       (Aj [x20,[s2],x21]).bind fun x22=>
       some x22
noncomputable def F5:Nat→(List Aa)→Int→Option ((List (List UInt8))×(List Aa))
 |0,_,_=>none
 |fuel+1,l1,level2=>
  (rdO l1 0).bind fun x3=>
  (slO l1 1 (l1.length:Int)).bind fun x4=>
  (Ahp x3.Ad).bind fun x5=>
  ((if (x3.Ad==2)=true then
    some (7,[7])
  else
   if (x3.Ad==14)=true then
    some (3,[3])
   else
    if (x3.Ad==15)=true then
     some (0,[x5.2.2.1,x5.2.2.2,0])
    else
     some (x5.1,[x5.2.2.1,x5.2.2.2,0])):Option (Int×(List Int))).bind fun(own7,sides8)=>
  (Qw x3.Ad).bind fun x9=>
  ((A3 (fun(qj10:(List Aa)×Int×(List (List (List UInt8))))=>match qj10 with
    |(rest11,x12,row13)=>(
     if (decide (x12<x9))=true then
      (rdO sides8 x12).bind fun x14=>
      (F5 fuel rest11 x14).bind fun x15=>
      (apO 24 row13 [x15.1]).bind fun x16=>
      some (.inl (x15.2,IntKind.wrap .i64 (x12+1),x16))
     else
      some (.inr (rest11,row13)):Option (((List Aa)×Int×(List (List (List UInt8))))⊕((List Aa)×(List (List (List UInt8))))))) (x4,0,([]:List (List (List UInt8))))):Option ((List Aa)×(List (List (List UInt8))))).bind fun(rest17,parts18)=>
  (T4 x3 x5.2.1 parts18).bind fun x19=>
  ((if (decide (own7<level2))=true then
    (Aj [[[40]],x19,[[41]]]).bind fun x21=>
    some x21
  else
   some x19):Option (List (List UInt8))).bind fun j20=>
  some (j20,rest17)
noncomputable def E2(l1:List Aa):Option ((List UInt8)×Int):=
 (D9 l1).bind fun x2=>
 if (!x2)=true then
  some ([],1)
 else
  (F5 100000 l1 0).bind fun x3=>
  (strings_Join x3.1 [32]).bind fun x4=>
  some (x4,0)
noncomputable def Cp(s1:List UInt8)(e2:Ab):Option ((List UInt8)×Ab):=
 (Am [s1] e2).bind fun x3=>
 (A7 1 true x3).bind fun x4=>
 (Am [[59]] x4.2).bind fun x5=>
 some (x4.1,x5)
noncomputable def Dp(e1:Ab):Option (Ae×Ab):=
 (Am [[112,114,111,100,117,99,116]] e1).bind fun x2=>
 (A7 0 true x2).bind fun x3=>
 (A7 0 true x3.2).bind fun x4=>
 (Am [[123],[98,97,115,105,115]] x4.2).bind fun x5=>
 (A7 0 true x5).bind fun x6=>
 (Am [[59]] x6.2).bind fun x7=>
 (Cp [112,101,114,105,111,100] x7).bind fun x8=>
 (Am [[116,105,101,114,115],[123]] x8.2).bind fun x9=>
 ((A3 (fun(qj10:Bool×Ab×(List UInt8)×(List UInt8)×(List UInt8)×(List UInt8)×(List Aa)×(List UInt8)×(List UInt8)×(List UInt8)×(List Ao))=>match qj10 with
   |(first11,r12,d13,d14,d15,d16,d17,d18,d19,d20,row21)=>(
    (some (!r12.Ch)).bind fun c22=>
    (gdO (c22&& !first11) (Bx [125] r12) (default:Bool)).bind fun x23=>
    if (c22&&(first11||(!x23)))=true then
     (A7 1 true (⟨(bif (c22&& !first11) then r12.Jn else r12.Jn),(bif (c22&& !first11) then r12.C2 else r12.C2),(bif (c22&& !first11) then r12.Ch else r12.Ch)⟩:Ab)).bind fun x24=>
     (Am [[58]] x24.2).bind fun x25=>
     (A7 1 true x25).bind fun x26=>
     (Am [[37],[59]] x26.2).bind fun x27=>
     (apO 32 row21 [(⟨x24.1,x26.1⟩:Ao)]).bind fun x28=>
     some (.inl (false,x27,d13,d14,d15,d16,d17,d18,d19,d20,x28))
    else
     some (.inr ((⟨(bif (c22&& !first11) then r12.Jn else r12.Jn),(bif (c22&& !first11) then r12.C2 else r12.C2),(bif (c22&& !first11) then r12.Ch else r12.Ch)⟩:Ab),(⟨d13,d14,d15,d16,row21,d17,d18,d19,d20⟩:Ae))):Option ((Bool×Ab×(List UInt8)×(List UInt8)×(List UInt8)×(List UInt8)×(List Aa)×(List UInt8)×(List UInt8)×(List UInt8)×(List Ao))⊕(Ab×Ae)))) (true,x9,x3.1,x4.1,x6.1,x8.1,([]:List Aa),[],[],[],([]:List Ao))):Option (Ab×Ae)).bind fun(r29,d30)=>
 (Am [[125],[102,101,101]] r29).bind fun x31=>
 (parse_reader_any 100000 x31).bind fun x32=>
 (Am [[59]] x32.2).bind fun x33=>
 (Cp [109,105,110,105,109,117,109] x33).bind fun x34=>
 (Cp [111,118,101,114,100,114,97,102,116] x34.2).bind fun x35=>
 (Cp [110,111,116,105,99,101] x35.2).bind fun x36=>
 (Am [[125]] x36.2).bind fun x37=>
 some ((⟨d30.Cn,d30.Dt,d30.Bt,d30.Bi,d30.Aq,x32.1,x34.1,x35.1,x36.1⟩:Ae),x37)
noncomputable def Eb(text1:List UInt8):Option ((List Ae)×Int×Int×Int):=
 (Hh text1).bind fun x2=>match x2 with
 | .inl a3=>
  if (a3.2.2.1 !=0)=true then
   some (([]:List Ae),a3.1,a3.2.1,a3.2.2.1)
  else
   ((A3 (fun(qj5:Bool×Ab×(List Ae))=>match qj5 with
     |(fits6,x7,row8)=>(
      (some (!x7.Ch)).bind fun c9=>
      if (c9&&(decide (x7.C2<(x7.Jn.length:Int))))=true then
       (Dp x7).bind fun x10=>
       (some (fits6&&(decide ((x10.1.Aq.length:Int)≤8)))).bind fun c11=>
       (gdO c11 (D9 x10.1.Cl) (default:Bool)).bind fun x12=>
       (apO 160 row8 [x10.1]).bind fun x13=>
       some (.inl ((c11&&x12),x10.2,x13))
      else
       some (.inr (row8,fits6,x7)):Option ((Bool×Ab×(List Ae))⊕((List Ae)×Bool×Ab)))) (true,a3.2.2.2,([]:List Ae))):Option ((List Ae)×Bool×Ab)).bind fun(out14,fits15,x16)=>
   (Fq text1 (fits15&&(decide ((out14.length:Int)≤16))) x16).bind fun x17=>
   if (x17.2.2 !=0)=true then
    some (([]:List Ae),x17.1,x17.2.1,x17.2.2)
   else
    some (out14,0,0,0)
 | .inr b4=>
  if (b4.2.2 !=0)=true then
   some (([]:List Ae),b4.1,b4.2.1,b4.2.2)
  else
   none
noncomputable def M1(b1:Ao):Option Bool:=
 (E3 b1.C7).bind fun x2=>
 (some (!x2)).bind fun c3=>
 (gdO (!c3) (E3 b1.Dm) (default:Bool)).bind fun x4=>
 some (c3||(!x4))
noncomputable def Ek(s1:List Ao):Option Int:=
 ((A3 (fun(qj2:Int)=>match qj2 with
   |x3=>(
    if (decide (x3<(s1.length:Int)))=true then
     (rdO s1 x3).bind fun x4=>
     (M1 x4).bind fun x5=>
     if x5=true then
      some (.inr (.inr x3))
     else
      some (.inl (IntKind.wrap .i64 (x3+1)))
    else
     some (.inr (.inl ())):Option (Int⊕(Unit⊕Int)))) 0):Option (Unit⊕Int)).bind fun j2=>match j2 with
 | .inr o=>some o
 | .inl _=>
 some (-1)
noncomputable def Cr(s1:List Ao):Option Bool:=
 (Ek s1).bind fun x2=>
 some (decide (x2≥0))
noncomputable def Ajt(d1:Ae):Option Bool:=
 ((A3 (fun(qj2:Int)=>match qj2 with
   |x3=>(
    if (decide (x3<([d1.Cn,d1.Dt,d1.Bt].length:Int)))=true then
     (rdO [d1.Cn,d1.Dt,d1.Bt] x3).bind fun x4=>
     (Lm x4 true).bind fun x5=>
     if (!x5)=true then
      some (.inr (.inr false))
     else
      some (.inl (IntKind.wrap .i64 (x3+1)))
    else
     some (.inr (.inl ())):Option (Int⊕(Unit⊕Bool)))) 0):Option (Unit⊕Bool)).bind fun j2=>match j2 with
 | .inr o=>some o
 | .inl _=>
 ((A3 (fun(qj6:Int)=>match qj6 with
   |x7=>(
    if (decide (x7<([d1.Bi,d1.Ba,d1.A0,d1.Bf].length:Int)))=true then
     (rdO [d1.Bi,d1.Ba,d1.A0,d1.Bf] x7).bind fun x8=>
     (E3 x8).bind fun x9=>
     if (!x9)=true then
      some (.inr (.inr false))
     else
      some (.inl (IntKind.wrap .i64 (x7+1)))
    else
     some (.inr (.inl ())):Option (Int⊕(Unit⊕Bool)))) 0):Option (Unit⊕Bool)).bind fun j6=>match j6 with
 | .inr o=>some o
 | .inl _=>
 (some (decide ((d1.Aq.length:Int)≥1))).bind fun c10=>
 (some (c10&&(decide ((d1.Aq.length:Int)≤8)))).bind fun c11=>
 (gdO c11 (Cr d1.Aq) (default:Bool)).bind fun x12=>
 (some (c11&&(!x12))).bind fun c13=>
 (gdO c13 (D9 d1.Cl) (default:Bool)).bind fun x14=>
 some (c13&&x14)
noncomputable def Fp(d1:Ae):Option Bool:=
 (Ajt d1).bind fun x2=>
 some (!x2)
noncomputable def El(s1:List Ae):Option Int:=
 ((A3 (fun(qj2:Int)=>match qj2 with
   |x3=>(
    if (decide (x3<(s1.length:Int)))=true then
     (rdO s1 x3).bind fun x4=>
     (Fp x4).bind fun x5=>
     if x5=true then
      some (.inr (.inr x3))
     else
      some (.inl (IntKind.wrap .i64 (x3+1)))
    else
     some (.inr (.inl ())):Option (Int⊕(Unit⊕Int)))) 0):Option (Unit⊕Int)).bind fun j2=>match j2 with
 | .inr o=>some o
 | .inl _=>
 some (-1)
noncomputable def Cs(s1:List Ae):Option Bool:=
 (El s1).bind fun x2=>
 some (decide (x2≥0))
noncomputable def Dn(l1:List Ae):Option ((List UInt8)×Int):=
 (some (decide ((l1.length:Int)>16))).bind fun c2=>
 (gdO (!c2) (Cs l1) (default:Bool)).bind fun x3=>
 if (c2||x3)=true then
  some ([],1)
 else
  ((A3 (fun(qj4:Int×(List (List UInt8)))=>match qj4 with
    |(x5,row6)=>(
     if (decide (x5<(l1.length:Int)))=true then
      (rdO l1 x5).bind fun x7=>
      (apO 16 row6 [[112,114,111,100,117,99,116],x7.Cn,x7.Dt,[123],[98,97,115,105,115],x7.Bt,[59],[112,101,114,105,111,100],x7.Bi,[59],[116,105,101,114,115],[123]]).bind fun x8=>
      ((A3 (fun(qj9:Int×(List (List UInt8)))=>match qj9 with
        |(x10,row11)=>(
         if (decide (x10<(x7.Aq.length:Int)))=true then
          (rdO x7.Aq x10).bind fun x12=>
          (apO 16 row11 [x12.C7,[58],x12.Dm,[37],[59]]).bind fun x13=>
          some (.inl (IntKind.wrap .i64 (x10+1),x13))
         else
          some (.inr row11):Option ((Int×(List (List UInt8)))⊕(List (List UInt8))))) (0,x8)):Option (List (List UInt8))).bind fun j9=>
      (F5 100000 x7.Cl 0).bind fun x15=>
      (apO 16 j9 [[125],[102,101,101]]).bind fun x16=>
      (apO 16 x16 x15.1).bind fun x17=>
      (apO 16 x17 [[59],[109,105,110,105,109,117,109],x7.Ba,[59],[111,118,101,114,100,114,97,102,116],x7.A0,[59],[110,111,116,105,99,101],x7.Bf,[59],[125]]).bind fun x18=>
      some (.inl (IntKind.wrap .i64 (x5+1),x18))
     else
      some (.inr row6):Option ((Int×(List (List UInt8)))⊕(List (List UInt8))))) (0,([]:List (List UInt8)))):Option (List (List UInt8))).bind fun j4=>
  (strings_Join j4 [32]).bind fun x20=>
  some (x20,0)
noncomputable def Bw(a1:List Aa)(b2:List Aa):Option Bool:=
 if ((a1.length:Int)!=(b2.length:Int))=true then
  some false
 else
  ((A3 (fun(qj3:Int)=>match qj3 with
    |i4=>(
     if (decide (i4<(a1.length:Int)))=true then
      (rdO a1 i4).bind fun x5=>
      (rdO b2 i4).bind fun x6=>
      if (!(Aa.same x5 x6))=true then
       some (.inr (.inr false))
      else
       some (.inl (IntKind.wrap .i64 (i4+1)))
     else
      some (.inr (.inl ())):Option (Int⊕(Unit⊕Bool)))) 0):Option (Unit⊕Bool)).bind fun j3=>match j3 with
  | .inr o=>some o
  | .inl _=>
  some true
noncomputable def D5(s11:List Ao)(s22:List Ao):Option Bool:=
 if ((s11.length:Int)!=(s22.length:Int))=true then
  some false
 else
  ((A3 (fun(qj3:Int)=>match qj3 with
    |x4=>(
     if (decide (x4<(s11.length:Int)))=true then
      (rdO s11 x4).bind fun x5=>
      (rdO s22 x4).bind fun x6=>
      if (!(Ao.same x5 x6))=true then
       some (.inr (.inr false))
      else
       some (.inl (IntKind.wrap .i64 (x4+1)))
     else
      some (.inr (.inl ())):Option (Int⊕(Unit⊕Bool)))) 0):Option (Unit⊕Bool)).bind fun j3=>match j3 with
  | .inr o=>some o
  | .inl _=>
  some true
noncomputable def D6(s11:List Aa)(s22:List Aa):Option Bool:=
 if ((s11.length:Int)!=(s22.length:Int))=true then
  some false
 else
  ((A3 (fun(qj3:Int)=>match qj3 with
    |x4=>(
     if (decide (x4<(s11.length:Int)))=true then
      (rdO s11 x4).bind fun x5=>
      (rdO s22 x4).bind fun x6=>
      if (!(Aa.same x5 x6))=true then
       some (.inr (.inr false))
      else
       some (.inl (IntKind.wrap .i64 (x4+1)))
     else
      some (.inr (.inl ())):Option (Int⊕(Unit⊕Bool)))) 0):Option (Unit⊕Bool)).bind fun j3=>match j3 with
  | .inr o=>some o
  | .inl _=>
  some true
noncomputable def Rh(a1:Ae)(b2:Ae):Option Bool:=
 (D5 a1.Aq b2.Aq).bind fun x3=>
 (gdO x3 (D6 a1.Cl b2.Cl) (default:Bool)).bind fun x4=>
 (some (x3&&x4)).bind fun c5=>
 (some (c5&&(a1.Cn==b2.Cn))).bind fun c6=>
 (some (c6&&(a1.Dt==b2.Dt))).bind fun c7=>
 (some (c7&&(a1.Bt==b2.Bt))).bind fun c8=>
 (some (c8&&(a1.Bi==b2.Bi))).bind fun c9=>
 (some (c9&&(a1.Ba==b2.Ba))).bind fun c10=>
 (some (c10&&(a1.A0==b2.A0))).bind fun c11=>
 some (c11&&(a1.Bf==b2.Bf))
noncomputable def Bn:Option Bool:=
 (B3 [97,45,98,32,45,32,99,42,45,50,37]).bind fun x1=>
 (E2 x1.1).bind fun x2=>
 (B3 [40,97,32,60,32,49,41,32,61,32,40,110,111,116,32,98,41]).bind fun x3=>
 (E2 x3.1).bind fun x4=>
 (B3 [97,10,32,60,32,98,32,60,32,99]).bind fun x5=>
 (B3 [40,97]).bind fun x6=>
 (Eb [112,114,111,100,117,99,116,32,115,97,118,101,32,101,117,114,32,123,32,98,97,115,105,115,32,97,99,116,51,54,53,32,59,32,112,101,114,105,111,100,32,51,32,59,32,116,105,101,114,115,32,123,32,48,32,58,32,49,46,50,53,32,37,32,59,32,53,48,48,32,58,32,50,32,37,32,59,32,125,32,102,101,101,32,105,102,32,98,97,108,97,110,99,101,32,60,32,49,48,32,116,104,101,110,32,49,32,101,108,115,101,32,48,32,59,32,109,105,110,105,109,117,109,32,53,32,59,32,111,118,101,114,100,114,97,102,116,32,48,32,59,32,110,111,116,105,99,101,32,51,48,32,59,32,125]).bind fun x7=>
 (Dn x7.1).bind fun x8=>
 (Bw x1.1 [(⟨4,[]⟩:Aa),(⟨4,[]⟩:Aa),(⟨1,[97]⟩:Aa),(⟨1,[98]⟩:Aa),(⟨5,[]⟩:Aa),(⟨1,[99]⟩:Aa),(⟨2,[]⟩:Aa),(⟨0,[50,37]⟩:Aa)]).bind fun x9=>
 if ((x7.1.length:Int)!=1)=true then
  some false
 else
  (some (x1.2.2.2==0)).bind fun c10=>
  (some (c10&&x9)).bind fun c11=>
  (some (c11&&(x2.2==0))).bind fun c12=>
  (some (c12&&(x2.1==[97,32,45,32,98,32,45,32,99,32,42,32,45,32,50,32,37]))).bind fun c13=>
  (gdO c13 (M0 x1.1) (default:Int)).bind fun x14=>
  (some (c13&&(x14==4))).bind fun c15=>
  (some (c15&&(x3.2.2.2==0))).bind fun c16=>
  (some (c16&&(x4.2==0))).bind fun c17=>
  (some (c17&&(x4.1==[40,32,97,32,60,32,49,32,41,32,61,32,40,32,110,111,116,32,98,32,41]))).bind fun c18=>
  (some (c18&&(x5.2.2.2==14))).bind fun c19=>
  (some (c19&&(x5.2.1==2))).bind fun c20=>
  (some (c20&&(x5.2.2.1==6))).bind fun c21=>
  (some (c21&&(x6.2.2.2==14))).bind fun c22=>
  (some (c22&&(x6.2.1==1))).bind fun c23=>
  (some (c23&&(x6.2.2.1==3))).bind fun c24=>
  (some (c24&&(x7.2.2.2==0))).bind fun c25=>
  (some (c25&&(x8.2==0))).bind fun c26=>
  (some (c26&&(x8.1==[112,114,111,100,117,99,116,32,115,97,118,101,32,101,117,114,32,123,32,98,97,115,105,115,32,97,99,116,51,54,53,32,59,32,112,101,114,105,111,100,32,51,32,59,32,116,105,101,114,115,32,123,32,48,32,58,32,49,46,50,53,32,37,32,59,32,53,48,48,32,58,32,50,32,37,32,59,32,125,32,102,101,101,32,105,102,32,98,97,108,97,110,99,101,32,60,32,49,48,32,116,104,101,110,32,49,32,101,108,115,101,32,48,32,59,32,109,105,110,105,109,117,109,32,53,32,59,32,111,118,101,114,100,114,97,102,116,32,48,32,59,32,110,111,116,105,99,101,32,51,48,32,59,32,125]))).bind fun c27=>
  (gdO c27 (rdO x7.1 0) (default:Ae)).bind fun x28=>
  (some (c27&&((x28.Aq.length:Int)==2))).bind fun c29=>
  (gdO c29 (rdO x7.1 0) (default:Ae)).bind fun x30=>
  (gdO c29 (rdO x30.Aq 1) (default:Ao)).bind fun x31=>
  (some (c29&&(x31.Dm==[50]))).bind fun c32=>
  (gdO c32 (rdO x7.1 0) (default:Ae)).bind fun x33=>
  (some (c32&&(x33.Bf==[51,48]))).bind fun c34=>
  (gdO c34 (rdO x7.1 0) (default:Ae)).bind fun x35=>
  (gdO c34 (rdO x7.1 0) (default:Ae)).bind fun x36=>
  (gdO c34 (Rh x35 x36) (default:Bool)).bind fun x37=>
  (some (c34&&x37)).bind fun c38=>
  (gdO c38 (D9 [(⟨2,[]⟩:Aa)]) (default:Bool)).bind fun x39=>
  (some (c38&&(!x39))).bind fun c40=>
  (gdO c40 (D9 x1.1) (default:Bool)).bind fun x41=>
  some (c40&&x41)
noncomputable def C3(s1:List UInt8):Option Int:=
 ((A3 (fun(qj2:Int)=>match qj2 with
   |n3=>(
    if (decide (n3<(s1.length:Int)))=true then
     (byO s1 n3).bind fun x4=>
     if (x4==35)=true then
      A3 (fun(qj5:Int)=>match qj5 with
       |n6=>(
        (some (decide (n6<(s1.length:Int)))).bind fun c7=>
        (gdO c7 (byO s1 n6) 0).bind fun x8=>
        if (c7&&(x8 !=10))=true then
         some (.inl (IntKind.wrap .i64 (n6+1)))
        else
         some (.inr (.inl n6)):Option (Int⊕(Int⊕(Int⊕Int))))) n3
     else
      (byO s1 n3).bind fun x9=>
      (some (x9==32)).bind fun c10=>
      (gdO (!c10) (byO s1 n3) 0).bind fun x11=>
      (some (c10||(x11==9))).bind fun c12=>
      (gdO (!c12) (byO s1 n3) 0).bind fun x13=>
      if (c12||(x13==10))=true then
       some (.inl (IntKind.wrap .i64 (n3+1)))
      else
       some (.inr (.inr n3))
    else
     some (.inr (.inl n3)):Option (Int⊕(Int⊕Int)))) 0):Option (Int⊕Int)).bind fun j2=>match j2 with
 | .inr o=>some o
 | .inl n14=>
 some n14
def Dl(b1:Int):Option Bool:=
 (some (decide (b1≥97))).bind fun c2=>
 some (c2&&(decide (b1≤122)))
def B7(b1:Int):Option Bool:=
 (some (decide (b1≥48))).bind fun c2=>
 some (c2&&(decide (b1≤57)))
noncomputable def Ge(s1:List UInt8):Option Af:=
 ((A3 (fun(qj2:Int)=>match qj2 with
   |n3=>(
    (some (decide (n3<(s1.length:Int)))).bind fun c4=>
    (gdO c4 (byO s1 n3) 0).bind fun x5=>
    (gdO c4 (Dl x5) (default:Bool)).bind fun x6=>
    (gdO (c4&& !x6) (byO s1 n3) 0).bind fun x7=>
    (gdO (c4&& !x6) (B7 x7) (default:Bool)).bind fun x8=>
    (some (x6||x8)).bind fun c9=>
    (gdO (c4&& !c9) (byO s1 n3) 0).bind fun x10=>
    if (c4&&(c9||(x10==95)))=true then
     some (.inl (IntKind.wrap .i64 (n3+1)))
    else
     some (.inr n3):Option (Int⊕Int))) 0):Option Int).bind fun j2=>
 if (decide (j2>32))=true then
  some (⟨0,0,3⟩:Af)
 else
  some (⟨0,j2,0⟩:Af)
noncomputable def Cy(s1:List UInt8):Option Int:=
 ((A3 (fun(qj2:Int)=>match qj2 with
   |n3=>(
    (some (decide (n3<(s1.length:Int)))).bind fun c4=>
    (gdO c4 (byO s1 n3) 0).bind fun x5=>
    (gdO c4 (B7 x5) (default:Bool)).bind fun x6=>
    if (c4&&x6)=true then
     some (.inl (IntKind.wrap .i64 (n3+1)))
    else
     some (.inr n3):Option (Int⊕Int))) 0):Option Int).bind fun j2=>
 some j2
noncomputable def E0(s1:List UInt8):Option Af:=
 (Cy s1).bind fun x2=>
 (some (decide ((IntKind.wrap .i64 (x2+1))<(s1.length:Int)))).bind fun c3=>
 (gdO c3 (byO s1 x2) 0).bind fun x4=>
 (some (c3&&(x4==46))).bind fun c5=>
 (gdO c5 (byO s1 (IntKind.wrap .i64 (x2+1))) 0).bind fun x6=>
 (gdO c5 (B7 x6) (default:Bool)).bind fun x7=>
 ((if (c5&&x7)=true then
   (slO s1 (IntKind.wrap .i64 (x2+1)) (s1.length:Int)).bind fun x9=>
   (Cy x9).bind fun x10=>
   some x10
 else
  some 0):Option Int).bind fun j8=>
 (some (decide (x2>15))).bind fun c12=>
 (some (c12||(decide (j8>9)))).bind fun c13=>
 (some (decide (x2>1))).bind fun c14=>
 (gdO (!c13&&c14) (byO s1 0) 0).bind fun x15=>
 if (c13||(c14&&(x15==48)))=true then
  some (⟨0,0,3⟩:Af)
 else
  if (decide (j8>0))=true then
   some (⟨1,IntKind.wrap .i64 ((IntKind.wrap .i64 (x2+1))+j8),0⟩:Af)
  else
   some (⟨1,x2,0⟩:Af)
noncomputable def E1(s1:List UInt8):Option Af:=
 ((A3 (fun(qj2:Int)=>match qj2 with
   |n3=>(
    (some (decide (n3<(s1.length:Int)))).bind fun c4=>
    (gdO c4 (byO s1 n3) 0).bind fun x5=>
    if (c4&&(x5 !=34))=true then
     some (.inl (IntKind.wrap .i64 (n3+1)))
    else
     some (.inr n3):Option (Int⊕Int))) 1):Option Int).bind fun j2=>
 if (j2==(s1.length:Int))=true then
  some (⟨0,0,14⟩:Af)
 else
  ((A3 (fun(qj7:Int)=>match qj7 with
    |i8=>(
     if (decide (i8<j2))=true then
      (byO s1 i8).bind fun x9=>
      (some (decide (x9<32))).bind fun c10=>
      (gdO (!c10) (byO s1 i8) 0).bind fun x11=>
      if (c10||(decide (x11>126)))=true then
       some (.inr (.inr (⟨0,0,3⟩:Af)))
      else
       some (.inl (IntKind.wrap .i64 (i8+1)))
     else
      some (.inr (.inl ())):Option (Int⊕(Unit⊕Af)))) 1):Option (Unit⊕Af)).bind fun j7=>match j7 with
  | .inr o=>some o
  | .inl _=>
  if (decide (j2>33))=true then
   some (⟨0,0,3⟩:Af)
  else
   some (⟨2,IntKind.wrap .i64 (j2+1),0⟩:Af)
noncomputable def Gd(s1:List UInt8):Option Af:=
 (some (decide ((s1.length:Int)>1))).bind fun c2=>
 (gdO c2 (slO s1 0 2) (default:List UInt8)).bind fun x3=>
 (some (x3==[60,61])).bind fun c4=>
 (gdO (c2&& !c4) (slO s1 0 2) (default:List UInt8)).bind fun x5=>
 (some (c4||(x5==[62,61]))).bind fun c6=>
 (gdO (c2&& !c6) (slO s1 0 2) (default:List UInt8)).bind fun x7=>
 if (c2&&(c6||(x7==[46,46])))=true then
  some (⟨3,2,0⟩:Af)
 else
  ((A3 (fun(qj8:Int)=>match qj8 with
    |i9=>(
     if (decide (i9<([123,125,40,41,91,93,59,58,44,37,61,60,62,43,45,42,47].length:Int)))=true then
      (byO [123,125,40,41,91,93,59,58,44,37,61,60,62,43,45,42,47] i9).bind fun x10=>
      (byO s1 0).bind fun x11=>
      if (x10==x11)=true then
       some (.inr (.inr (⟨3,1,0⟩:Af)))
      else
       some (.inl (IntKind.wrap .i64 (i9+1)))
     else
      some (.inr (.inl ())):Option (Int⊕(Unit⊕Af)))) 0):Option (Unit⊕Af)).bind fun j8=>match j8 with
  | .inr o=>some o
  | .inl _=>
  some (⟨0,0,14⟩:Af)
noncomputable def Eg(s1:List UInt8):Option Af:=
 (byO s1 0).bind fun x2=>
 (Dl x2).bind fun x3=>
 if x3=true then
  (Ge s1).bind fun x4=>
  some x4
 else
  (byO s1 0).bind fun x5=>
  (B7 x5).bind fun x6=>
  if x6=true then
   (E0 s1).bind fun x7=>
   some x7
  else
   (byO s1 0).bind fun x8=>
   if (x8==34)=true then
    (E1 s1).bind fun x9=>
    some x9
   else
    (Gd s1).bind fun x10=>
    some x10
noncomputable def D0(s1:List UInt8)(at_2:Int):Option (Int×Int):=
 ((A3 (fun(qj3:Int×Int×Int)=>match qj3 with
   |(line4,col5,i6)=>(
    if (decide (i6<at_2))=true then
     (byO s1 i6).bind fun x7=>
     ((if (x7==10)=true then
       some (IntKind.wrap .i64 (line4+1),1)
     else
      some (line4,IntKind.wrap .i64 (col5+1))):Option (Int×Int)).bind fun(line9,col10)=>
     some (.inl (line9,col10,IntKind.wrap .i64 (i6+1)))
    else
     some (.inr (line4,col5)):Option ((Int×Int×Int)⊕(Int×Int)))) (1,1,0)):Option (Int×Int)).bind fun(line11,col12)=>
 some (line11,col12)
noncomputable def Bq(s1:List UInt8):Option ((List Ac)×Int×Int):=
 if (decide ((s1.length:Int)>8000))=true then
  some (([]:List Ac),0,4)
 else
  (C3 s1).bind fun x2=>
  ((A3 (fun(qj3:Int×(List Ac))=>match qj3 with
    |(at_4,row5)=>(
     if (decide (at_4<(s1.length:Int)))=true then
      (slO s1 at_4 (s1.length:Int)).bind fun x6=>
      (Eg x6).bind fun x7=>
      if (x7.f_E !=0)=true then
       some (.inr (.inr (([]:List Ac),at_4,x7.f_E)))
      else
       if ((row5.length:Int)==1500)=true then
        some (.inr (.inr (([]:List Ac),at_4,6)))
       else
        (D0 s1 at_4).bind fun x8=>
        (slO s1 at_4 (IntKind.wrap .i64 (at_4+x7.Q9))).bind fun x9=>
        (apO 40 row5 [(⟨x7.Ad,x8.1,x8.2,x9⟩:Ac)]).bind fun x10=>
        (slO s1 (IntKind.wrap .i64 (at_4+x7.Q9)) (s1.length:Int)).bind fun x11=>
        (C3 x11).bind fun x12=>
        some (.inl (IntKind.wrap .i64 ((IntKind.wrap .i64 (at_4+x7.Q9))+x12),x10))
     else
      some (.inr (.inl row5)):Option ((Int×(List Ac))⊕((List Ac)⊕((List Ac)×Int×Int))))) (x2,([]:List Ac))):Option ((List Ac)⊕((List Ac)×Int×Int))).bind fun j3=>match j3 with
  | .inr o=>some o
  | .inl out13=>
  some (out13,0,0)
def Bl(l1:List Ac)(at_2:Int)(s3:List UInt8):Option Bool:=
 (some (decide (at_2<(l1.length:Int)))).bind fun c4=>
 (gdO c4 (rdO l1 at_2) (default:Ac)).bind fun x5=>
 (some (c4&&(x5.Ad !=2))).bind fun c6=>
 (gdO c6 (rdO l1 at_2) (default:Ac)).bind fun x7=>
 some (c6&&(x7.Ag==s3))
noncomputable def Wr(l1:List (List UInt8))(s2:List UInt8):Option Bool:=
 ((A3 (fun(qj3:Int)=>match qj3 with
   |i4=>(
    if (decide (i4<(l1.length:Int)))=true then
     (rdO l1 i4).bind fun x5=>
     if (x5==s2)=true then
      some (.inr (.inr true))
     else
      some (.inl (IntKind.wrap .i64 (i4+1)))
    else
     some (.inr (.inl ())):Option (Int⊕(Unit⊕Bool)))) 0):Option (Unit⊕Bool)).bind fun j3=>match j3 with
 | .inr o=>some o
 | .inl _=>
 some false
noncomputable def An0(s1:List UInt8)(product2:Bool):Option Bool:=
 (Wr [[105,102],[116,104,101,110],[101,108,115,101],[97,110,100],[111,114],[110,111,116],[109,105,110],[109,97,120]] s1).bind fun x3=>
 (Wr [[112,114,111,100,117,99,116],[98,97,115,105,115],[112,101,114,105,111,100],[116,105,101,114,115],[102,101,101],[109,105,110,105,109,117,109],[111,118,101,114,100,114,97,102,116],[110,111,116,105,99,101]] s1).bind fun x4=>
 some (x3||(product2&&x4))
def Al3(t1:Ac):Option (Int×Int):=
 if (t1.Ad==2)=true then
  some (0,0)
 else
  if (t1.Ag==[111,114])=true then
   some (13,1)
  else
   if (t1.Ag==[97,110,100])=true then
    some (12,2)
   else
    if (t1.Ag==[60])=true then
     some (7,4)
    else
     if (t1.Ag==[60,61])=true then
      some (8,4)
     else
      if (t1.Ag==[61])=true then
       some (9,4)
      else
       if (t1.Ag==[62])=true then
        some (10,4)
       else
        if (t1.Ag==[62,61])=true then
         some (11,4)
        else
         if (t1.Ag==[43])=true then
          some (3,5)
         else
          if (t1.Ag==[45])=true then
           some (4,5)
          else
           if (t1.Ag==[42])=true then
            some (5,6)
           else
            if (t1.Ag==[47])=true then
             some (6,6)
            else
             some (0,0)
def Df(kind1:Int)(a2:List Aa)(b3:List Aa)(c4:List Aa):Option (List Aa):=
 (apO 24 [(⟨kind1,[]⟩:Aa)] a2).bind fun x5=>
 (apO 24 x5 b3).bind fun x6=>
 (apO 24 x6 c4).bind fun x7=>
 some x7
mutual
noncomputable def cashbookref15_climb:Nat→(List Ac)→Int→Int→Option ((List Aa)×Int×Bool)
 |0,_,_,_=>none
 |fuel+1,l1,at_2,level3=>
  (cashbookref15_first fuel l1 at_2 level3).bind fun x4=>
  if (decide (x4.2.2<0))=true then
   some (([]:List Aa),x4.2.1,false)
  else
   ((A3 (fun(qj5:(List Aa)×Int×Int)=>match qj5 with
     |(out6,i7,own8)=>(
      if (decide (i7<(l1.length:Int)))=true then
       (rdO l1 i7).bind fun x9=>
       (Al3 x9).bind fun x10=>
       ((if (x10.2==4)=true then
         some 5
       else
        some x10.2):Option Int).bind fun j11=>
       (some (x10.2==0)).bind fun c13=>
       (some (c13||(decide (x10.2<level3)))).bind fun c14=>
       if (c14||(decide (own8<j11)))=true then
        some (.inr (.inr (out6,i7,true)))
       else
        (cashbookref15_climb fuel l1 (IntKind.wrap .i64 (i7+1)) (IntKind.wrap .i64 (x10.2+1))).bind fun x15=>
        if (!x15.2.2)=true then
         some (.inr (.inr (([]:List Aa),x15.2.1,false)))
        else
         (Df x10.1 out6 x15.1 ([]:List Aa)).bind fun x16=>
         some (.inl (x16,x15.2.1,x10.2))
      else
       some (.inr (.inl (out6,i7))):Option (((List Aa)×Int×Int)⊕(((List Aa)×Int)⊕((List Aa)×Int×Bool))))) (x4.1,x4.2.1,x4.2.2)):Option (((List Aa)×Int)⊕((List Aa)×Int×Bool))).bind fun j5=>match j5 with
   | .inr o=>some o
   | .inl (out17,i18)=>
   some (out17,i18,true)
noncomputable def cashbookref15_first:Nat→(List Ac)→Int→Int→Option ((List Aa)×Int×Int)
 |0,_,_,_=>none
 |fuel+1,l1,at_2,level3=>
  (some (level3==0)).bind fun c4=>
  (gdO c4 (Bl l1 at_2 [105,102]) (default:Bool)).bind fun x5=>
  if (c4&&x5)=true then
   (cashbookref15_climb fuel l1 (IntKind.wrap .i64 (at_2+1)) 0).bind fun x6=>
   (some (!x6.2.2)).bind fun c7=>
   (gdO (!c7) (Bl l1 x6.2.1 [116,104,101,110]) (default:Bool)).bind fun x8=>
   if (c7||(!x8))=true then
    some (([]:List Aa),x6.2.1,(-1))
   else
    (cashbookref15_climb fuel l1 (IntKind.wrap .i64 (x6.2.1+1)) 0).bind fun x9=>
    (some (!x9.2.2)).bind fun c10=>
    (gdO (!c10) (Bl l1 x9.2.1 [101,108,115,101]) (default:Bool)).bind fun x11=>
    if (c10||(!x11))=true then
     some (([]:List Aa),x9.2.1,(-1))
    else
     (cashbookref15_climb fuel l1 (IntKind.wrap .i64 (x9.2.1+1)) 0).bind fun x12=>
     if (!x12.2.2)=true then
      some (([]:List Aa),x12.2.1,(-1))
     else
      (Df 15 x6.1 x9.1 x12.1).bind fun x13=>
      some (x13,x12.2.1,0)
  else
   (some (decide (level3≤3))).bind fun c14=>
   (gdO c14 (Bl l1 at_2 [110,111,116]) (default:Bool)).bind fun x15=>
   if (c14&&x15)=true then
    (cashbookref15_climb fuel l1 (IntKind.wrap .i64 (at_2+1)) 3).bind fun x16=>
    if (!x16.2.2)=true then
     some (([]:List Aa),x16.2.1,(-1))
    else
     (Df 14 x16.1 ([]:List Aa) ([]:List Aa)).bind fun x17=>
     some (x17,x16.2.1,3)
   else
    (Bl l1 at_2 [45]).bind fun x18=>
    if x18=true then
     (cashbookref15_climb fuel l1 (IntKind.wrap .i64 (at_2+1)) 7).bind fun x19=>
     if (!x19.2.2)=true then
      some (([]:List Aa),x19.2.1,(-1))
     else
      (Df 2 x19.1 ([]:List Aa) ([]:List Aa)).bind fun x20=>
      some (x20,x19.2.1,7)
    else
     (cashbookref15_primary fuel l1 at_2).bind fun x21=>
     some (x21.1,x21.2.1,x21.2.2)
noncomputable def cashbookref15_primary:Nat→(List Ac)→Int→Option ((List Aa)×Int×Int)
 |0,_,_=>none
 |fuel+1,l1,at_2=>
  if (decide (at_2≥(l1.length:Int)))=true then
   some (([]:List Aa),at_2,(-1))
  else
   (rdO l1 at_2).bind fun x3=>
   (Bl l1 at_2 [40]).bind fun x4=>
   if x4=true then
    (cashbookref15_climb fuel l1 (IntKind.wrap .i64 (at_2+1)) 0).bind fun x5=>
    (some (!x5.2.2)).bind fun c6=>
    (gdO (!c6) (Bl l1 x5.2.1 [41]) (default:Bool)).bind fun x7=>
    if (c6||(!x7))=true then
     some (([]:List Aa),x5.2.1,(-1))
    else
     some (x5.1,IntKind.wrap .i64 (x5.2.1+1),8)
   else
    (Bl l1 at_2 [109,105,110]).bind fun x8=>
    (gdO (!x8) (Bl l1 at_2 [109,97,120]) (default:Bool)).bind fun x9=>
    if (x8||x9)=true then
     (Bl l1 (IntKind.wrap .i64 (at_2+1)) [40]).bind fun x10=>
     if (!x10)=true then
      some (([]:List Aa),IntKind.wrap .i64 (at_2+1),(-1))
     else
      (cashbookref15_climb fuel l1 (IntKind.wrap .i64 (at_2+2)) 0).bind fun x11=>
      (some (!x11.2.2)).bind fun c12=>
      (gdO (!c12) (Bl l1 x11.2.1 [44]) (default:Bool)).bind fun x13=>
      if (c12||(!x13))=true then
       some (([]:List Aa),x11.2.1,(-1))
      else
       (cashbookref15_climb fuel l1 (IntKind.wrap .i64 (x11.2.1+1)) 0).bind fun x14=>
       (some (!x14.2.2)).bind fun c15=>
       (gdO (!c15) (Bl l1 x14.2.1 [41]) (default:Bool)).bind fun x16=>
       if (c15||(!x16))=true then
        some (([]:List Aa),x14.2.1,(-1))
       else
        if (x3.Ag==[109,105,110])=true then
         (Df 16 x11.1 x14.1 ([]:List Aa)).bind fun x17=>
         some (x17,IntKind.wrap .i64 (x14.2.1+1),8)
        else
         (Df 17 x11.1 x14.1 ([]:List Aa)).bind fun x18=>
         some (x18,IntKind.wrap .i64 (x14.2.1+1),8)
    else
     (some (x3.Ad==1)).bind fun c19=>
     (gdO c19 (Bl l1 (IntKind.wrap .i64 (at_2+1)) [37]) (default:Bool)).bind fun x20=>
     if (c19&&x20)=true then
      (Bip x3.Ag [37]).bind fun x21=>
      some ([(⟨0,x21⟩:Aa)],IntKind.wrap .i64 (at_2+2),8)
     else
      (An0 x3.Ag false).bind fun x22=>
      (some (x3.Ad==1)).bind fun c23=>
      (some (x3.Ad==0)).bind fun c24=>
      if (c23||(c24&&(!x22)))=true then
       some ([(⟨IntKind.wrap .i64 (1-x3.Ad),x3.Ag⟩:Aa)],IntKind.wrap .i64 (at_2+1),8)
      else
       some (([]:List Aa),at_2,(-1))
end
noncomputable def Gg(a1:Ae)(b2:Ae):Option Bool:=
 (Bw a1.Cl b2.Cl).bind fun x3=>
 (some (!x3)).bind fun c4=>
 if (c4||((a1.Aq.length:Int)!=(b2.Aq.length:Int)))=true then
  some false
 else
  ((A3 (fun(qj5:Int)=>match qj5 with
    |i6=>(
     if (decide (i6<(a1.Aq.length:Int)))=true then
      (rdO a1.Aq i6).bind fun x7=>
      (rdO b2.Aq i6).bind fun x8=>
      if (!(Ao.same x7 x8))=true then
       some (.inr (.inr false))
      else
       some (.inl (IntKind.wrap .i64 (i6+1)))
     else
      some (.inr (.inl ())):Option (Int⊕(Unit⊕Bool)))) 0):Option (Unit⊕Bool)).bind fun j5=>match j5 with
  | .inr o=>some o
  | .inl _=>
  (some (a1.Cn==b2.Cn)).bind fun c9=>
  (some (c9&&(a1.Dt==b2.Dt))).bind fun c10=>
  (some (c10&&(a1.Bt==b2.Bt))).bind fun c11=>
  (some (c11&&(a1.Bi==b2.Bi))).bind fun c12=>
  (some (c12&&(a1.Ba==b2.Ba))).bind fun c13=>
  (some (c13&&(a1.A0==b2.A0))).bind fun c14=>
  some (c14&&(a1.Bf==b2.Bf))
noncomputable def Bv(a1:List Ae)(b2:List Ae):Option Bool:=
 if ((a1.length:Int)!=(b2.length:Int))=true then
  some false
 else
  ((A3 (fun(qj3:Int)=>match qj3 with
    |i4=>(
     if (decide (i4<(a1.length:Int)))=true then
      (rdO a1 i4).bind fun x5=>
      (rdO b2 i4).bind fun x6=>
      (Gg x5 x6).bind fun x7=>
      if (!x7)=true then
       some (.inr (.inr false))
      else
       some (.inl (IntKind.wrap .i64 (i4+1)))
     else
      some (.inr (.inl ())):Option (Int⊕(Unit⊕Bool)))) 0):Option (Unit⊕Bool)).bind fun j3=>match j3 with
  | .inr o=>some o
  | .inl _=>
  some true
noncomputable def Ee(l1:List Aa):Option Bool:=
 if (decide ((l1.length:Int)>300))=true then
  some false
 else
  ((A3 (fun(qj2:Int)=>match qj2 with
    |i3=>(
     if (decide (i3<(l1.length:Int)))=true then
      (rdO l1 i3).bind fun x4=>
      if (decide ((x4.Ag.length:Int)>300))=true then
       some (.inr (.inr false))
      else
       some (.inl (IntKind.wrap .i64 (i3+1)))
     else
      some (.inr (.inl ())):Option (Int⊕(Unit⊕Bool)))) 0):Option (Unit⊕Bool)).bind fun j2=>match j2 with
  | .inr o=>some o
  | .inl _=>
  some true
noncomputable def Ef(d1:Ae):Option Bool:=
 (Ee d1.Cl).bind fun x2=>
 (some (!x2)).bind fun c3=>
 (some (c3||(decide ((d1.Aq.length:Int)>300)))).bind fun c4=>
 if (c4||(decide ((IntKind.wrap .i64 ((IntKind.wrap .i64 ((IntKind.wrap .i64 ((IntKind.wrap .i64 ((IntKind.wrap .i64 ((IntKind.wrap .i64 ((d1.Cn.length:Int)+(d1.Dt.length:Int)))+(d1.Bt.length:Int)))+(d1.Bi.length:Int)))+(d1.Ba.length:Int)))+(d1.A0.length:Int)))+(d1.Bf.length:Int)))>300)))=true then
  some false
 else
  ((A3 (fun(qj5:Int)=>match qj5 with
    |i6=>(
     if (decide (i6<(d1.Aq.length:Int)))=true then
      (rdO d1.Aq i6).bind fun x7=>
      (rdO d1.Aq i6).bind fun x8=>
      if (decide ((IntKind.wrap .i64 ((x7.C7.length:Int)+(x8.Dm.length:Int)))>300))=true then
       some (.inr (.inr false))
      else
       some (.inl (IntKind.wrap .i64 (i6+1)))
     else
      some (.inr (.inl ())):Option (Int⊕(Unit⊕Bool)))) 0):Option (Unit⊕Bool)).bind fun j5=>match j5 with
  | .inr o=>some o
  | .inl _=>
  some true
noncomputable def Ds(l1:List Aa)(d2:List Ae)(s3:List UInt8):Option Bool:=
 (Ee l1).bind fun x4=>
 (some (!x4)).bind fun c5=>
 (some (c5||(decide ((d2.length:Int)>20)))).bind fun c6=>
 if (c6||(decide ((s3.length:Int)>9000)))=true then
  (Bn).bind fun x7=>
  some x7
 else
  ((A3 (fun(qj8:Int)=>match qj8 with
    |i9=>(
     if (decide (i9<(d2.length:Int)))=true then
      (rdO d2 i9).bind fun x10=>
      (Ef x10).bind fun x11=>
      if (!x11)=true then
       (Bn).bind fun x12=>
       some (.inr (.inr x12))
      else
       some (.inl (IntKind.wrap .i64 (i9+1)))
     else
      some (.inr (.inl ())):Option (Int⊕(Unit⊕Bool)))) 0):Option (Unit⊕Bool)).bind fun j8=>match j8 with
  | .inr o=>some o
  | .inl _=>
  (E2 l1).bind fun x13=>
  (Bq x13.1).bind fun x14=>
  (some (x13.2==0)).bind fun c15=>
  ((if (c15&&(x14.2.2==0))=true then
    (B3 x13.1).bind fun x17=>
    (Bw x17.1 l1).bind fun x18=>
    (some (x17.2.2.2 !=0)).bind fun c19=>
    (some (c19||(!x18))).bind fun c20=>
    (some (c20||(x17.2.1 !=0))).bind fun c21=>
    if (c21||(x17.2.2.1 !=0))=true then
     some (.inr false)
    else
     some (.inl ())
  else
   some (.inl ())):Option (Unit⊕Bool)).bind fun j16=>match j16 with
  | .inr o=>some o
  | .inl _=>
  (Dn d2).bind fun x22=>
  (Bq x22.1).bind fun x23=>
  (some (x22.2==0)).bind fun c24=>
  ((if (c24&&(x23.2.2==0))=true then
    (Eb x22.1).bind fun x26=>
    (Bv x26.1 d2).bind fun x27=>
    (some (x26.2.2.2 !=0)).bind fun c28=>
    if (c28||(!x27))=true then
     some (.inr false)
    else
     some (.inl ())
  else
   some (.inl ())):Option (Unit⊕Bool)).bind fun j25=>match j25 with
  | .inr o=>some o
  | .inl _=>
  (B3 s3).bind fun x29=>
  ((if (x29.2.2.2==0)=true then
    (E2 x29.1).bind fun x31=>
    (B3 x31.1).bind fun x32=>
    (Bw x32.1 x29.1).bind fun x33=>
    (some (x31.2 !=0)).bind fun c34=>
    (some (x32.2.2.2==0)).bind fun c35=>
    (some (c34||(c35&&(!x33)))).bind fun c36=>
    (some (c36||(x32.2.2.2==14))).bind fun c37=>
    if (c37||(x32.2.2.2==3))=true then
     some (.inr false)
    else
     some (.inl ())
  else
   some (.inl ())):Option (Unit⊕Bool)).bind fun j30=>match j30 with
  | .inr o=>some o
  | .inl _=>
  (Eb s3).bind fun x38=>
  if (x38.2.2.2 !=0)=true then
   (Bn).bind fun x39=>
   some (x39&&((x38.1.length:Int)==0))
  else
   (Dn x38.1).bind fun x40=>
   (Eb x40.1).bind fun x41=>
   (Bv x41.1 x38.1).bind fun x42=>
   (Bn).bind fun x43=>
   (some (x43&&(x40.2==0))).bind fun c44=>
   (some (x41.2.2.2 !=0)).bind fun c45=>
   (some (c44&&(c45||x42))).bind fun c46=>
   (some (c46&&(x41.2.2.2 !=14))).bind fun c47=>
   some (c47&&(x41.2.2.2 !=3))
end Go.Av.G
end
section
set_option maxHeartbeats 8000000
set_option maxRecDepth 100000
namespace Go.Av.G
open Go Go.Av Go.Proofs
def Sq:Ent:=⟨[.ty .str,.ty .str],[],[.str,.str],⟨(.ty .str),[],[],[.str],[],[]⟩,none,fun p=>B6 p.1 p.2⟩
theorem Agi:Sq.ok Tryz.prog 108:=fun p r h=>Ak1 (show B6 _ _=some _ from h)
def Ol:Ent:=⟨[.ty .str,.ty .str],[],[.str,.str],⟨(.ty .bool),[],[],[.bool],[],[]⟩,none,fun p=>strings_HasPrefix p.1 p.2⟩
theorem Adn:Ol.ok Tryz.prog 109:=fun p r h=>Ai4 (show strings_HasPrefix _ _=some _ from h)
def Alu:Ent:=⟨[.ty .str,.ty .str],[],[.str,.str],⟨(.tup [(.ty .str),(.ty .str),(.ty .bool)]),[],[],[.str,.str,.bool],[],[]⟩,none,fun p=>strings_Cut p.1 p.2⟩
theorem Aq9:Alu.ok Tryz.prog 110:=fun p r h=>Ayp (show strings_Cut _ _=some _ from h)
def Ba3:List TOp:=[oo 2 (.mov (.cst (.int .i64 0)))]
def Ba4:List TOp:=[oo 7 (.mov (.tmp 0)),oo 3 (.mov (.tmp 7))]
def Ba5:List TOp:=[oo 8 (.mov (.tmp 3)),oo 9 (.call 0 0 (.cst (.fn 108)) [(.tmp 8),(.cst (.str [32,9,10]))] [] []),oo 3 (.mov (.tmp 9))]
def Ba6:List TOp:=[oo 10 (.mov (.tmp 3)),oo 11 (.call 0 0 (.cst (.fn 109)) [(.tmp 10),(.cst (.str [35]))] [] []),oo 12 (.un .not (.tmp 11))]
def Ba7:List TOp:=[oo 13 (.mov (.tmp 0)),oo 14 (.len true (.tmp 13)),oo 15 (.mov (.tmp 3)),oo 16 (.len true (.tmp 15)),oo 17 (.bin false .sub (.tmp 14) (.tmp 16)),oo 2 (.mov (.tmp 17))]
def Ar0:Kp:=⟨[],[(2,false)],[],[],[]⟩
def Ba8:List TOp:=[oo 19 (.mov (.tmp 3)),oo 20 (.call 0 0 (.cst (.fn 110)) [(.tmp 19),(.cst (.str [10]))] [] []),oo 18 (.mov (.tmp 20)),oo 21 (.ext 0 (.tmp 18)),oo 22 (.ext 1 (.tmp 18)),oo 23 (.ext 2 (.tmp 18)),oo 4 (.mov (.tmp 21)),oo 5 (.mov (.tmp 22)),oo 6 (.mov (.tmp 23))]
def Ba9:List TOp:=[oo 24 (.mov (.tmp 6)),oo 25 (.un .not (.tmp 24))]
def Bba:List TOp:=[oo 26 (.mov (.tmp 0)),oo 27 (.len true (.tmp 26)),oo 2 (.mov (.tmp 27))]
def Bbb:List TOp:=[oo 28 (.mov (.tmp 5)),oo 3 (.mov (.tmp 28))]
def A6i:DC:=(.pass 1 (.seq (.ops Ba5) (.seq (.seq (.ops Ba6) (.cond (.tmp 12) (.free (.seq (.ops Ba7) (.keep Ar0 .ret))) .skip)) (.seq (.ops Ba8) (.seq (.seq (.ops Ba9) (.cond (.tmp 25) (.free (.seq (.ops Bba) (.keep Ar0 .ret))) .skip)) (.ops Bbb))))))
def A6h:Kp:=⟨[],[(0,false),(3,false)],[],[],[]⟩
def A6j:Sig:=⟨[(0,none),(3,some (.ty .str))],[],[.str],[],[]⟩
def Bjg:TFd:=⟨1,[(.tmp 2,.bool)],[],(.seq (.ops Ba3) (.seq (.ops Ba4) (.pass 0 (.loop [0,3] [] A6h A6j A6i))))⟩
noncomputable def Avb:Ent:=⟨[.ty .str],[],[.str],⟨(.ty (.int .i64)),[],[],[(.int .i64)],[],[]⟩,none,fun p=>Wz p⟩
theorem A9m:Avb.ok Tryz.prog 88:=Aw hm Tryz.func88 (fd:=Bjg) (by kernel_rfl) (Al (l:=[(108,Sq),(109,Ol),(110,Alu)]) (y:=[]) ⟨Agi,Adn,Aq9,trivial⟩ trivial) (by kernel_rfl) (fun p=>by kernel_rfl)
def A5q:List TOp:=[oo 0 (.alloc [.pv .nilFn,.pv .nilFn,.pv .nilFn,.pv .nilFn,.pv .nilFn,.pv .nilFn,.pv .nilFn,.pv .nilFn])]
def A5r:List TOp:=[ot 1 (.st 0) (.build [.pv .nilFn,.pv .nilFn] [(0,1,(.cst (.fn 127))),(1,1,(.cst (.fn 128)))]),ot 2 (.st 0) (.build [.pv .nilFn,.pv .nilFn] [(0,1,(.cst (.fn 129))),(1,1,(.cst (.fn 130)))]),ot 3 (.st 0) (.build [.pv .nilFn,.pv .nilFn] [(0,1,(.cst (.fn 131))),(1,1,(.cst (.fn 132)))]),ot 4 (.st 0) (.build [.pv .nilFn,.pv .nilFn] [(0,1,(.cst (.fn 133))),(1,1,(.cst (.fn 134)))]),ot 5 (.st 1) (.build [.pv .nilFn,.pv .nilFn,.pv .nilFn,.pv .nilFn,.pv .nilFn,.pv .nilFn,.pv .nilFn,.pv .nilFn] [(0,2,(.tmp 1)),(2,2,(.tmp 2)),(4,2,(.tmp 3)),(6,2,(.tmp 4))]),on (.store 8 (.tmp 0) (.tmp 5))]
def A5p:Kp:=⟨[],[(0,false)],[(.loc 0 0,false)],[],[]⟩
def Bey:TFd:=⟨0,[(.cell 0 true 8,(.st 1))],[],(.seq (.ops A5q) (.seq (.ops A5r) (.keep A5p .ret)))⟩
def Art:Ent:=⟨[],[],[],⟨(.ty (.st 1)),[],[],[(.st 1)],[],[]⟩,none,fun p=>Aqj⟩
theorem A4l:Art.ok Tryz.prog 111:=Aw hm Tryz.func111 (fd:=Bey) (by kernel_rfl) (Al (l:=[]) (y:=[]) trivial trivial) (by kernel_rfl) (fun p=>by kernel_rfl)
def Asf:List TOp:=[oo 2 (.mov (.cst (.bool false)))]
def Asg:List TOp:=[oo 3 (.mov (.tmp 0)),oo 4 (.bin false .geq (.tmp 3) (.cst (.int .u8 97))),oo 5 (.mov (.tmp 4)),og 6 5 true .bool (.mov (.tmp 0)),og 7 5 true .bool (.bin false .leq (.tmp 6) (.cst (.int .u8 122))),oo 8 (.pick (.tmp 5) (.tmp 7) (.cst (.bool false))),oo 2 (.mov (.tmp 8))]
def Ase:Kp:=⟨[],[(2,false)],[],[],[]⟩
def Azm:TFd:=⟨1,[(.tmp 2,.bool)],[],(.seq (.ops Asf) (.seq (.ops Asg) (.keep Ase .ret)))⟩
def Ag8:Ent:=⟨[.ty (.int .u8)],[],[(.int .u8)],⟨(.ty .bool),[],[],[.bool],[],[]⟩,none,fun p=>Hs p⟩
theorem Ads:Ag8.ok Tryz.prog 127:=Aw hm Tryz.func127 (fd:=Azm) (by kernel_rfl) (Al (l:=[]) (y:=[]) trivial trivial) (by kernel_rfl) (fun p=>by kernel_rfl)
def Av0:List TOp:=[oo 2 (.mov (.cst (.bool false)))]
def Av1:List TOp:=[oo 3 (.mov (.tmp 0)),oo 4 (.bin false .geq (.tmp 3) (.cst (.int .u8 48))),oo 5 (.mov (.tmp 4)),og 6 5 true .bool (.mov (.tmp 0)),og 7 5 true .bool (.bin false .leq (.tmp 6) (.cst (.int .u8 57))),oo 8 (.pick (.tmp 5) (.tmp 7) (.cst (.bool false))),oo 2 (.mov (.tmp 8))]
def Avz:Kp:=⟨[],[(2,false)],[],[],[]⟩
def A5m:TFd:=⟨1,[(.tmp 2,.bool)],[],(.seq (.ops Av0) (.seq (.ops Av1) (.keep Avz .ret)))⟩
def Uh:Ent:=⟨[.ty (.int .u8)],[],[(.int .u8)],⟨(.ty .bool),[],[],[.bool],[],[]⟩,none,fun p=>He p⟩
theorem Rc:Uh.ok Tryz.prog 129:=Aw hm Tryz.func129 (fd:=A5m) (by kernel_rfl) (Al (l:=[]) (y:=[]) trivial trivial) (by kernel_rfl) (fun p=>by kernel_rfl)
def Av3:List TOp:=[oo 2 (.mov (.cst (.bool false)))]
def Av4:List TOp:=[oo 3 (.mov (.tmp 0)),oo 4 (.bin false .eql (.tmp 3) (.cst (.int .u8 34))),oo 2 (.mov (.tmp 4))]
def Av2:Kp:=⟨[],[(2,false)],[],[],[]⟩
def A5n:TFd:=⟨1,[(.tmp 2,.bool)],[],(.seq (.ops Av3) (.seq (.ops Av4) (.keep Av2 .ret)))⟩
def Azb:Ent:=⟨[.ty (.int .u8)],[],[(.int .u8)],⟨(.ty .bool),[],[],[.bool],[],[]⟩,none,fun p=>Mz p⟩
theorem Au7:Azb.ok Tryz.prog 131:=Aw hm Tryz.func131 (fd:=A5n) (by kernel_rfl) (Al (l:=[]) (y:=[]) trivial trivial) (by kernel_rfl) (fun p=>by kernel_rfl)
def Av6:List TOp:=[oo 2 (.mov (.cst (.bool false)))]
def Av7:List TOp:=[oo 2 (.mov (.cst (.bool true)))]
def Av5:Kp:=⟨[],[(2,false)],[],[],[]⟩
def A5o:TFd:=⟨1,[(.tmp 2,.bool)],[],(.seq (.ops Av6) (.seq (.ops Av7) (.keep Av5 .ret)))⟩
def Azc:Ent:=⟨[.ty (.int .u8)],[],[(.int .u8)],⟨(.ty .bool),[],[],[.bool],[],[]⟩,none,fun p=>Tz p⟩
theorem Au8:Azc.ok Tryz.prog 133:=Aw hm Tryz.func133 (fd:=A5o) (by kernel_rfl) (Al (l:=[]) (y:=[]) trivial trivial) (by kernel_rfl) (fun p=>by kernel_rfl)
def Ale:Dyn:=⟨[.ty (.int .u8)],[(.int .u8)],⟨(.ty .bool),[],[],[.bool],[],[]⟩,fun f p=>F2 f p⟩
theorem Aqh(g:Nat):(Ale.ent g).ok Tryz.prog g:=by
 intro p r h
 have h:F2 g p=some r:=h
 unfold F2 at h
 split at h
 ·rename_i e;subst e;exact Ads p r h
 split at h
 ·rename_i e;subst e;exact Rc p r h
 split at h
 ·rename_i e;subst e;exact Au7 p r h
 split at h
 ·rename_i e;subst e;exact Au8 p r h
 cases h
def Asi:List TOp:=[oo 2 (.mov (.cst (.bool false)))]
def Asj:List TOp:=[oo 3 (.mov (.tmp 0)),oo 4 (.call 0 0 (.cst (.fn 127)) [(.tmp 3)] [] []),oo 5 (.mov (.tmp 4)),og 6 5 false .bool (.mov (.tmp 0)),og 7 5 false .bool (.call 0 0 (.cst (.fn 129)) [(.tmp 6)] [] []),oo 8 (.pick (.tmp 5) (.cst (.bool true)) (.tmp 7)),oo 9 (.mov (.tmp 8)),og 10 9 false .bool (.mov (.tmp 0)),og 11 9 false .bool (.bin false .eql (.tmp 10) (.cst (.int .u8 95))),oo 12 (.pick (.tmp 9) (.cst (.bool true)) (.tmp 11)),oo 2 (.mov (.tmp 12))]
def Ash:Kp:=⟨[],[(2,false)],[],[],[]⟩
def Azn:TFd:=⟨1,[(.tmp 2,.bool)],[],(.seq (.ops Asi) (.seq (.ops Asj) (.keep Ash .ret)))⟩
def Ag9:Ent:=⟨[.ty (.int .u8)],[],[(.int .u8)],⟨(.ty .bool),[],[],[.bool],[],[]⟩,none,fun p=>Ot p⟩
theorem Asb:Ag9.ok Tryz.prog 146:=Aw hm Tryz.func146 (fd:=Azn) (by kernel_rfl) (Al (l:=[(127,Ag8),(129,Uh)]) (y:=[]) ⟨Ads,Rc,trivial⟩ trivial) (by kernel_rfl) (fun p=>by kernel_rfl)
def A53:List TOp:=[oo 3 (.mov (.cst (.bool false)))]
def A54:List TOp:=[oo 4 (.mov (.tmp 0)),oo 5 (.bin false .gtr (.tmp 4) (.cst (.int .i32 127))),oo 6 (.mov (.tmp 5)),og 7 6 false .bool (.load false 1 (.tmp 1)),og 8 6 false .bool (.mov (.tmp 0)),og 9 6 false .bool (.conv .u8 (.tmp 8)),og 10 6 false .bool (.call 0 0 (.tmp 7) [(.tmp 9)] [] []),og 11 6 false .bool (.un .not (.tmp 10)),oo 12 (.pick (.tmp 6) (.cst (.bool true)) (.tmp 11)),oo 3 (.mov (.tmp 12))]
def A52:Kp:=⟨[],[(3,false)],[],[],[]⟩
def Be0:TFd:=⟨2,[(.tmp 3,.bool)],[],(.seq (.ops A53) (.seq (.ops A54) (.keep A52 .ret)))⟩
def A9k:Ent:=⟨[.ty (.int .i32),.ic [.fnc 146] 0],[],[(.int .i32)],⟨(.ty .bool),[],[],[.bool],[],[]⟩,none,fun p=>Qs p⟩
theorem A4o:A9k.ok Tryz.prog 157:=Aw hm Tryz.func157 (fd:=Be0) (by kernel_rfl) (Al (l:=[(146,Ag9)]) (y:=[]) ⟨Asb,trivial⟩ trivial) (by kernel_rfl) (fun p=>by kernel_rfl)
noncomputable def Ga:Ent:=⟨[.ty .str,.fn 157 [.ic [.fnc 146] 0]],[],[.str],⟨(.ty (.int .i64)),[],[],[(.int .i64)],[],[]⟩,none,fun p=>strings_IndexFunc Qs p⟩
theorem Kk:Ga.ok Tryz.prog 156:=fun p r h=>Hn (f:=Qs) (fun x r h=>A4o x r h) (show strings_IndexFunc Qs _=some _ from h) A4i
def Be4:List TOp:=[oo 3 (.box (.tmp 1)),oo 4 (.mov (.cst (.int .i64 0)))]
def Be5:List TOp:=[oo 6 (.mov (.tmp 0)),oo 7 (.mkfn 157 [(.tmp 3)]),oo 8 (.call 0 0 (.cst (.fn 156)) [(.tmp 6),(.tmp 7)] [] []),oo 5 (.mov (.tmp 8))]
def Be3:Kp:=⟨[.loc 3 0],[(0,false),(3,false)],[],[],[]⟩
def Be6:List TOp:=[oo 9 (.mov (.tmp 5)),oo 10 (.bin false .lss (.tmp 9) (.cst (.int .i64 0)))]
def Be7:List TOp:=[oo 11 (.mov (.tmp 0)),oo 12 (.len true (.tmp 11)),oo 4 (.mov (.tmp 12))]
def Awh:Kp:=⟨[],[(4,false)],[],[],[]⟩
def Be8:List TOp:=[oo 13 (.mov (.tmp 5)),oo 4 (.mov (.tmp 13))]
def Bm6:TFd:=⟨2,[(.tmp 4,.bool)],[],(.seq (.ops Be4) (.seq (.keep Be3 (.ops Be5)) (.seq (.seq (.ops Be6) (.cond (.tmp 10) (.free (.seq (.ops Be7) (.keep Awh .ret))) .skip)) (.seq (.ops Be8) (.keep Awh .ret)))))⟩
noncomputable def A2l:Ent:=⟨[.ty .str,.fnc 146],[],[.str],⟨(.ty (.int .i64)),[],[],[(.int .i64)],[],[]⟩,none,fun p=>At2 p⟩
theorem Bd5:A2l.ok Tryz.prog 145:=Aw hm Tryz.func145 (fd:=Bm6) (by kernel_rfl) (Al (l:=[(156,Ga)]) (y:=[]) ⟨Kk,trivial⟩ trivial) (by kernel_rfl) (fun p=>by kernel_rfl)
def Bbc:List TOp:=[oo 2 (.mov (.cst (.int .i64 0))),oo 3 (.mov (.cst (.int .i64 0)))]
def Bbd:List TOp:=[oo 5 (.mov (.tmp 0)),oo 6 (.call 0 0 (.cst (.fn 145)) [(.tmp 5),(.cst (.fn 146))] [] []),oo 4 (.mov (.tmp 6))]
def Bbe:List TOp:=[oo 7 (.mov (.tmp 4)),oo 8 (.bin false .gtr (.tmp 7) (.cst (.int .i64 32)))]
def Bbf:List TOp:=[oo 2 (.mov (.cst (.int .i64 0))),oo 3 (.mov (.cst (.int .i64 3)))]
def Ar1:Kp:=⟨[],[(2,false),(3,false)],[],[],[]⟩
def Bbg:List TOp:=[oo 9 (.mov (.tmp 4)),oo 2 (.mov (.tmp 9)),oo 3 (.mov (.cst (.int .i64 0)))]
def Bjh:TFd:=⟨1,[(.tmp 2,.bool),(.tmp 3,.bool)],[],(.seq (.ops Bbc) (.seq (.ops Bbd) (.seq (.seq (.ops Bbe) (.cond (.tmp 8) (.free (.seq (.ops Bbf) (.keep Ar1 .ret))) .skip)) (.seq (.ops Bbg) (.keep Ar1 .ret)))))⟩
noncomputable def Bd7:Ent:=⟨[.ty .str],[],[.str],⟨(.tup [(.ty (.int .i64)),(.ty (.int .i64))]),[],[],[(.int .i64),(.int .i64)],[],[]⟩,none,fun p=>Ahd p⟩
theorem A9n:Bd7.ok Tryz.prog 128:=Aw hm Tryz.func128 (fd:=Bjh) (by kernel_rfl) (Al (l:=[(145,A2l)]) (y:=[]) ⟨Bd5,trivial⟩ trivial) (by kernel_rfl) (fun p=>by kernel_rfl)
def Awc:List TOp:=[oo 3 (.mov (.cst (.bool false)))]
def Awd:List TOp:=[oo 4 (.mov (.tmp 0)),oo 5 (.bin false .gtr (.tmp 4) (.cst (.int .i32 127))),oo 6 (.mov (.tmp 5)),og 7 6 false .bool (.load false 1 (.tmp 1)),og 8 6 false .bool (.mov (.tmp 0)),og 9 6 false .bool (.conv .u8 (.tmp 8)),og 10 6 false .bool (.call 0 0 (.tmp 7) [(.tmp 9)] [] []),og 11 6 false .bool (.un .not (.tmp 10)),oo 12 (.pick (.tmp 6) (.cst (.bool true)) (.tmp 11)),oo 3 (.mov (.tmp 12))]
def Awb:Kp:=⟨[],[(3,false)],[],[],[]⟩
def A50:TFd:=⟨2,[(.tmp 3,.bool)],[],(.seq (.ops Awc) (.seq (.ops Awd) (.keep Awb .ret)))⟩
def Azf:Ent:=⟨[.ty (.int .i32),.ic [.fnc 129] 0],[],[(.int .i32)],⟨(.ty .bool),[],[],[.bool],[],[]⟩,none,fun p=>I3 p⟩
theorem Au9:Azf.ok Tryz.prog 157:=Aw hm Tryz.func157 (fd:=A50) (by kernel_rfl) (Al (l:=[(129,Uh)]) (y:=[]) ⟨Rc,trivial⟩ trivial) (by kernel_rfl) (fun p=>by kernel_rfl)
noncomputable def Fg:Ent:=⟨[.ty .str,.fn 157 [.ic [.fnc 129] 0]],[],[.str],⟨(.ty (.int .i64)),[],[],[(.int .i64)],[],[]⟩,none,fun p=>strings_IndexFunc I3 p⟩
theorem Iv:Fg.ok Tryz.prog 156:=fun p r h=>Hn (f:=I3) (fun x r h=>Au9 x r h) (show strings_IndexFunc I3 _=some _ from h) A4i
def A56:List TOp:=[oo 3 (.box (.tmp 1)),oo 4 (.mov (.cst (.int .i64 0)))]
def A57:List TOp:=[oo 6 (.mov (.tmp 0)),oo 7 (.mkfn 157 [(.tmp 3)]),oo 8 (.call 0 0 (.cst (.fn 156)) [(.tmp 6),(.tmp 7)] [] []),oo 5 (.mov (.tmp 8))]
def A55:Kp:=⟨[.loc 3 0],[(0,false),(3,false)],[],[],[]⟩
def A58:List TOp:=[oo 9 (.mov (.tmp 5)),oo 10 (.bin false .lss (.tmp 9) (.cst (.int .i64 0)))]
def A59:List TOp:=[oo 11 (.mov (.tmp 0)),oo 12 (.len true (.tmp 11)),oo 4 (.mov (.tmp 12))]
def Ao0:Kp:=⟨[],[(4,false)],[],[],[]⟩
def A6a:List TOp:=[oo 13 (.mov (.tmp 5)),oo 4 (.mov (.tmp 13))]
def Be1:TFd:=⟨2,[(.tmp 4,.bool)],[],(.seq (.ops A56) (.seq (.keep A55 (.ops A57)) (.seq (.seq (.ops A58) (.cond (.tmp 10) (.free (.seq (.ops A59) (.keep Ao0 .ret))) .skip)) (.seq (.ops A6a) (.keep Ao0 .ret)))))⟩
noncomputable def Arv:Ent:=⟨[.ty .str,.fnc 129],[],[.str],⟨(.ty (.int .i64)),[],[],[(.int .i64)],[],[]⟩,none,fun p=>Qt p⟩
theorem A4p:Arv.ok Tryz.prog 145:=Aw hm Tryz.func145 (fd:=Be1) (by kernel_rfl) (Al (l:=[(156,Fg)]) (y:=[]) ⟨Iv,trivial⟩ trivial) (by kernel_rfl) (fun p=>by kernel_rfl)
def Azp:List TOp:=[oo 2 (.mov (.cst (.int .i64 0))),oo 3 (.mov (.cst (.int .i64 0)))]
def Azq:List TOp:=[oo 7 (.mov (.tmp 0)),oo 8 (.call 0 0 (.cst (.fn 145)) [(.tmp 7),(.cst (.fn 129))] [] []),oo 4 (.mov (.tmp 8))]
def Azr:List TOp:=[oo 5 (.mov (.cst (.int .i64 0)))]
def Azs:List TOp:=[oo 9 (.mov (.tmp 0)),oo 10 (.mov (.tmp 4)),oo 11 (.slc true 0 (.tmp 9) (some (.tmp 10)) none),oo 6 (.mov (.tmp 11))]
def Azt:List TOp:=[oo 12 (.mov (.tmp 6)),oo 13 (.len true (.tmp 12)),oo 14 (.bin false .gtr (.tmp 13) (.cst (.int .i64 1))),oo 15 (.mov (.tmp 14)),og 16 15 true .bool (.mov (.tmp 6)),og 17 15 true .bool (.sidx (.tmp 16) (.cst (.int .i64 0))),og 18 15 true .bool (.bin false .eql (.tmp 17) (.cst (.int .u8 46))),oo 19 (.pick (.tmp 15) (.tmp 18) (.cst (.bool false)))]
def Azu:List TOp:=[oo 20 (.mov (.tmp 6)),oo 21 (.slc true 0 (.tmp 20) (some (.cst (.int .i64 1))) none),oo 22 (.call 0 0 (.cst (.fn 145)) [(.tmp 21),(.cst (.fn 129))] [] []),oo 5 (.mov (.tmp 22))]
def Azo:Kp:=⟨[],[(0,false),(4,false),(5,false)],[],[],[]⟩
def Azx:Sig:=⟨[(0,none),(4,none),(5,some (.ty (.int .i64)))],[],[(.int .i64)],[],[]⟩
def Azv:List TOp:=[oo 24 (.mov (.tmp 4)),oo 25 (.bin false .gtr (.tmp 24) (.cst (.int .i64 15))),oo 26 (.mov (.tmp 25)),og 27 26 false .bool (.mov (.tmp 5)),og 28 26 false .bool (.bin false .gtr (.tmp 27) (.cst (.int .i64 9))),oo 29 (.pick (.tmp 26) (.cst (.bool true)) (.tmp 28)),oo 30 (.mov (.tmp 29)),og 31 30 false .bool (.mov (.tmp 4)),og 32 30 false .bool (.bin false .gtr (.tmp 31) (.cst (.int .i64 1))),og 33 30 false .bool (.mov (.tmp 32)),og 34 33 true .bool (.mov (.tmp 0)),og 35 33 true .bool (.sidx (.tmp 34) (.cst (.int .i64 0))),og 36 33 true .bool (.bin false .eql (.tmp 35) (.cst (.int .u8 48))),og 37 30 false .bool (.pick (.tmp 33) (.tmp 36) (.cst (.bool false))),oo 38 (.pick (.tmp 30) (.cst (.bool true)) (.tmp 37)),oo 23 (.mov (.tmp 38))]
def Azw:List TOp:=[oo 2 (.mov (.cst (.int .i64 0))),oo 3 (.mov (.cst (.int .i64 3)))]
def Rt:Kp:=⟨[],[(2,false),(3,false)],[],[],[]⟩
def Av8:List TOp:=[oo 40 (.mov (.tmp 5)),oo 41 (.bin false .gtr (.tmp 40) (.cst (.int .i64 0))),oo 39 (.mov (.tmp 41))]
def Av9:List TOp:=[oo 42 (.mov (.tmp 4)),oo 43 (.bin false .add (.tmp 42) (.cst (.int .i64 1))),oo 44 (.mov (.tmp 5)),oo 45 (.bin false .add (.tmp 43) (.tmp 44)),oo 2 (.mov (.tmp 45)),oo 3 (.mov (.cst (.int .i64 0)))]
def Awa:List TOp:=[oo 46 (.mov (.tmp 4)),oo 2 (.mov (.tmp 46)),oo 3 (.mov (.cst (.int .i64 0)))]
def Bav:TFd:=⟨1,[(.tmp 2,.bool),(.tmp 3,.bool)],[],(.seq (.ops Azp) (.seq (.ops Azq) (.seq (.ops Azr) (.seq (.seq (.ops Azs) (.seq (.ops Azt) (.join Azo Azx (.cond (.tmp 19) (.ops Azu) .skip)))) (.seq (.pass 0 (.seq (.ops Azv) (.cond (.tmp 23) (.free (.seq (.ops Azw) (.keep Rt .ret))) (.seq (.ops Av8) (.cond (.tmp 39) (.free (.seq (.ops Av9) (.keep Rt .ret))) .skip))))) (.seq (.ops Awa) (.keep Rt .ret)))))))⟩
noncomputable def A4m:Ent:=⟨[.ty .str],[],[.str],⟨(.tup [(.ty (.int .i64)),(.ty (.int .i64))]),[],[],[(.int .i64),(.int .i64)],[],[]⟩,none,fun p=>Rd p⟩
theorem Azd:A4m.ok Tryz.prog 130:=Aw hm Tryz.func130 (fd:=Bav) (by kernel_rfl) (Al (l:=[(145,Arv)]) (y:=[]) ⟨A4p,trivial⟩ trivial) (by kernel_rfl) (fun p=>by kernel_rfl)
def H3:Ent:=⟨[.ty .str,.ty (.int .u8)],[],[.str,(.int .u8)],⟨(.ty (.int .i64)),[],[],[(.int .i64)],[],[]⟩,none,fun p=>strings_IndexByte p.1 p.2⟩
theorem Kj:H3.ok Tryz.prog 147:=fun p r h=>Ai5 (show strings_IndexByte _ _=some _ from h)
def Asm:List TOp:=[oo 2 (.mov (.cst (.bool false)))]
def Asn:List TOp:=[oo 3 (.mov (.tmp 0)),oo 4 (.bin false .geq (.tmp 3) (.cst (.int .u8 32))),oo 5 (.mov (.tmp 4)),og 6 5 true .bool (.mov (.tmp 0)),og 7 5 true .bool (.bin false .leq (.tmp 6) (.cst (.int .u8 126))),oo 8 (.pick (.tmp 5) (.tmp 7) (.cst (.bool false))),oo 2 (.mov (.tmp 8))]
def Asl:Kp:=⟨[],[(2,false)],[],[],[]⟩
def Azy:TFd:=⟨1,[(.tmp 2,.bool)],[],(.seq (.ops Asm) (.seq (.ops Asn) (.keep Asl .ret)))⟩
def Ahb:Ent:=⟨[.ty (.int .u8)],[],[(.int .u8)],⟨(.ty .bool),[],[],[.bool],[],[]⟩,none,fun p=>Ou p⟩
theorem Asc:Ahb.ok Tryz.prog 148:=Aw hm Tryz.func148 (fd:=Azy) (by kernel_rfl) (Al (l:=[]) (y:=[]) trivial trivial) (by kernel_rfl) (fun p=>by kernel_rfl)
def Awf:List TOp:=[oo 3 (.mov (.cst (.bool false)))]
def Awg:List TOp:=[oo 4 (.mov (.tmp 0)),oo 5 (.bin false .gtr (.tmp 4) (.cst (.int .i32 127))),oo 6 (.mov (.tmp 5)),og 7 6 false .bool (.load false 1 (.tmp 1)),og 8 6 false .bool (.mov (.tmp 0)),og 9 6 false .bool (.conv .u8 (.tmp 8)),og 10 6 false .bool (.call 0 0 (.tmp 7) [(.tmp 9)] [] []),og 11 6 false .bool (.un .not (.tmp 10)),oo 12 (.pick (.tmp 6) (.cst (.bool true)) (.tmp 11)),oo 3 (.mov (.tmp 12))]
def Awe:Kp:=⟨[],[(3,false)],[],[],[]⟩
def A51:TFd:=⟨2,[(.tmp 3,.bool)],[],(.seq (.ops Awf) (.seq (.ops Awg) (.keep Awe .ret)))⟩
def Azg:Ent:=⟨[.ty (.int .i32),.ic [.fnc 148] 0],[],[(.int .i32)],⟨(.ty .bool),[],[],[.bool],[],[]⟩,none,fun p=>I4 p⟩
theorem Ava:Azg.ok Tryz.prog 157:=Aw hm Tryz.func157 (fd:=A51) (by kernel_rfl) (Al (l:=[(148,Ahb)]) (y:=[]) ⟨Asc,trivial⟩ trivial) (by kernel_rfl) (fun p=>by kernel_rfl)
noncomputable def Fh:Ent:=⟨[.ty .str,.fn 157 [.ic [.fnc 148] 0]],[],[.str],⟨(.ty (.int .i64)),[],[],[(.int .i64)],[],[]⟩,none,fun p=>strings_IndexFunc I4 p⟩
theorem Iw:Fh.ok Tryz.prog 156:=fun p r h=>Hn (f:=I4) (fun x r h=>Ava x r h) (show strings_IndexFunc I4 _=some _ from h) A4i
def A6c:List TOp:=[oo 3 (.box (.tmp 1)),oo 4 (.mov (.cst (.int .i64 0)))]
def A6d:List TOp:=[oo 6 (.mov (.tmp 0)),oo 7 (.mkfn 157 [(.tmp 3)]),oo 8 (.call 0 0 (.cst (.fn 156)) [(.tmp 6),(.tmp 7)] [] []),oo 5 (.mov (.tmp 8))]
def A6b:Kp:=⟨[.loc 3 0],[(0,false),(3,false)],[],[],[]⟩
def A6e:List TOp:=[oo 9 (.mov (.tmp 5)),oo 10 (.bin false .lss (.tmp 9) (.cst (.int .i64 0)))]
def A6f:List TOp:=[oo 11 (.mov (.tmp 0)),oo 12 (.len true (.tmp 11)),oo 4 (.mov (.tmp 12))]
def Ao1:Kp:=⟨[],[(4,false)],[],[],[]⟩
def A6g:List TOp:=[oo 13 (.mov (.tmp 5)),oo 4 (.mov (.tmp 13))]
def Be2:TFd:=⟨2,[(.tmp 4,.bool)],[],(.seq (.ops A6c) (.seq (.keep A6b (.ops A6d)) (.seq (.seq (.ops A6e) (.cond (.tmp 10) (.free (.seq (.ops A6f) (.keep Ao1 .ret))) .skip)) (.seq (.ops A6g) (.keep Ao1 .ret)))))⟩
noncomputable def Arw:Ent:=⟨[.ty .str,.fnc 148],[],[.str],⟨(.ty (.int .i64)),[],[],[(.int .i64)],[],[]⟩,none,fun p=>Ajn p⟩
theorem A4q:Arw.ok Tryz.prog 145:=Aw hm Tryz.func145 (fd:=Be2) (by kernel_rfl) (Al (l:=[(156,Fh)]) (y:=[]) ⟨Iw,trivial⟩ trivial) (by kernel_rfl) (fun p=>by kernel_rfl)
def Azz:List TOp:=[oo 2 (.mov (.cst (.int .i64 0))),oo 3 (.mov (.cst (.int .i64 0)))]
def Az0:List TOp:=[oo 5 (.mov (.tmp 0)),oo 6 (.slc true 0 (.tmp 5) (some (.cst (.int .i64 1))) none),oo 7 (.call 0 0 (.cst (.fn 147)) [(.tmp 6),(.cst (.int .u8 34))] [] []),oo 4 (.mov (.tmp 7))]
def Az1:List TOp:=[oo 8 (.mov (.tmp 4)),oo 9 (.bin false .lss (.tmp 8) (.cst (.int .i64 0)))]
def Az2:List TOp:=[oo 2 (.mov (.cst (.int .i64 0))),oo 3 (.mov (.cst (.int .i64 14)))]
def U5:Kp:=⟨[],[(2,false),(3,false)],[],[],[]⟩
def Az3:List TOp:=[oo 10 (.mov (.tmp 4)),oo 11 (.bin false .gtr (.tmp 10) (.cst (.int .i64 32))),oo 12 (.mov (.tmp 11)),og 13 12 false .bool (.mov (.tmp 0)),og 14 12 false .bool (.mov (.tmp 4)),og 15 12 false .bool (.bin false .add (.cst (.int .i64 1)) (.tmp 14)),og 16 12 false .bool (.slc true 0 (.tmp 13) (some (.cst (.int .i64 1))) (some (.tmp 15))),og 17 12 false .bool (.call 0 0 (.cst (.fn 145)) [(.tmp 16),(.cst (.fn 148))] [] []),og 18 12 false .bool (.mov (.tmp 4)),og 19 12 false .bool (.bin false .lss (.tmp 17) (.tmp 18)),oo 20 (.pick (.tmp 12) (.cst (.bool true)) (.tmp 19))]
def Az4:List TOp:=[oo 2 (.mov (.cst (.int .i64 0))),oo 3 (.mov (.cst (.int .i64 3)))]
def Az5:List TOp:=[oo 21 (.mov (.tmp 4)),oo 22 (.bin false .add (.tmp 21) (.cst (.int .i64 2))),oo 2 (.mov (.tmp 22)),oo 3 (.mov (.cst (.int .i64 0)))]
def Baw:TFd:=⟨1,[(.tmp 2,.bool),(.tmp 3,.bool)],[],(.seq (.ops Azz) (.seq (.ops Az0) (.seq (.seq (.ops Az1) (.cond (.tmp 9) (.free (.seq (.ops Az2) (.keep U5 .ret))) .skip)) (.seq (.seq (.ops Az3) (.cond (.tmp 20) (.free (.seq (.ops Az4) (.keep U5 .ret))) .skip)) (.seq (.ops Az5) (.keep U5 .ret))))))⟩
noncomputable def A4n:Ent:=⟨[.ty .str],[],[.str],⟨(.tup [(.ty (.int .i64)),(.ty (.int .i64))]),[],[],[(.int .i64),(.int .i64)],[],[]⟩,none,fun p=>Re p⟩
theorem Aze:A4n.ok Tryz.prog 132:=Aw hm Tryz.func132 (fd:=Baw) (by kernel_rfl) (Al (l:=[(147,H3),(145,Arw)]) (y:=[]) ⟨Kj,A4q,trivial⟩ trivial) (by kernel_rfl) (fun p=>by kernel_rfl)
def Sm:Ent:=⟨[.ty .str,.ty .str],[],[.str,.str],⟨(.ty .bool),[],[],[.bool],[],[]⟩,none,fun p=>strings_Contains p.1 p.2⟩
theorem Agh:Sm.ok Tryz.prog 149:=fun p r h=>Ak0 (show strings_Contains _ _=some _ from h)
def Bax:List TOp:=[oo 2 (.mov (.cst (.int .i64 0))),oo 3 (.mov (.cst (.int .i64 0)))]
def Bay:List TOp:=[oo 5 (.mov (.tmp 0)),oo 6 (.len true (.tmp 5)),oo 7 (.bin false .gtr (.tmp 6) (.cst (.int .i64 1))),oo 8 (.mov (.tmp 7)),og 9 8 true .bool (.mov (.tmp 0)),og 10 8 true .bool (.slc true 0 (.tmp 9) none (some (.cst (.int .i64 2)))),og 11 8 true .bool (.call 0 0 (.cst (.fn 149)) [(.cst (.str [60,61,32,62,61,32,46,46])),(.tmp 10)] [] []),oo 12 (.pick (.tmp 8) (.tmp 11) (.cst (.bool false))),oo 13 (.mov (.tmp 12)),og 14 13 true .bool (.mov (.tmp 0)),og 15 13 true .bool (.slc true 0 (.tmp 14) none (some (.cst (.int .i64 2)))),og 16 13 true .bool (.call 0 0 (.cst (.fn 149)) [(.tmp 15),(.cst (.str [32]))] [] []),og 17 13 true .bool (.un .not (.tmp 16)),oo 18 (.pick (.tmp 13) (.tmp 17) (.cst (.bool false))),oo 4 (.mov (.tmp 18))]
def Baz:List TOp:=[oo 2 (.mov (.cst (.int .i64 2))),oo 3 (.mov (.cst (.int .i64 0)))]
def Ah7:Kp:=⟨[],[(2,false),(3,false)],[],[],[]⟩
def Ba0:List TOp:=[oo 20 (.mov (.tmp 0)),oo 21 (.sidx (.tmp 20) (.cst (.int .i64 0))),oo 22 (.call 0 0 (.cst (.fn 147)) [(.cst (.str [123,125,40,41,91,93,59,58,44,37,61,60,62,43,45,42,47])),(.tmp 21)] [] []),oo 23 (.bin false .geq (.tmp 22) (.cst (.int .i64 0))),oo 19 (.mov (.tmp 23))]
def Ba1:List TOp:=[oo 2 (.mov (.cst (.int .i64 1))),oo 3 (.mov (.cst (.int .i64 0)))]
def Ba2:List TOp:=[oo 2 (.mov (.cst (.int .i64 0))),oo 3 (.mov (.cst (.int .i64 14)))]
def Bjf:TFd:=⟨1,[(.tmp 2,.bool),(.tmp 3,.bool)],[],(.seq (.ops Bax) (.seq (.pass 0 (.seq (.ops Bay) (.cond (.tmp 4) (.free (.seq (.ops Baz) (.keep Ah7 .ret))) (.seq (.ops Ba0) (.cond (.tmp 19) (.free (.seq (.ops Ba1) (.keep Ah7 .ret))) .skip))))) (.seq (.ops Ba2) (.keep Ah7 .ret))))⟩
def Bd6:Ent:=⟨[.ty .str],[],[.str],⟨(.tup [(.ty (.int .i64)),(.ty (.int .i64))]),[],[],[(.int .i64),(.int .i64)],[],[]⟩,none,fun p=>Ahc p⟩
theorem A9l:Bd6.ok Tryz.prog 134:=Aw hm Tryz.func134 (fd:=Bjf) (by kernel_rfl) (Al (l:=[(149,Sm),(147,H3)]) (y:=[]) ⟨Agh,Kj,trivial⟩ trivial) (by kernel_rfl) (fun p=>by kernel_rfl)
noncomputable def Alf:Dyn:=⟨[.ty .str],[.str],⟨(.tup [(.ty (.int .i64)),(.ty (.int .i64))]),[],[],[(.int .i64),(.int .i64)],[],[]⟩,fun f p=>F3 f p⟩
theorem Aqi(g:Nat):(Alf.ent g).ok Tryz.prog g:=by
 intro p r h
 have h:F3 g p=some r:=h
 unfold F3 at h
 split at h
 ·rename_i e;subst e;exact A9n p r h
 split at h
 ·rename_i e;subst e;exact Azd p r h
 split at h
 ·rename_i e;subst e;exact Aze p r h
 split at h
 ·rename_i e;subst e;exact A9l p r h
 cases h
def Ban:List TOp:=[oo 2 (.mov (.cst (.int .i64 0))),oo 3 (.mov (.cst (.int .i64 0))),oo 4 (.mov (.cst (.int .i64 0)))]
def Bao:List TOp:=[oo 9 (.call 0 0 (.cst (.fn 111)) [] [] []),oo 10 (.mov (.cst (.int .i64 0)))]
def Bap:List TOp:=[oo 11 (.bin false .lss (.tmp 10) (.cst (.int .i64 4)))]
def Baq:List TOp:=[oo 12 (.mov (.tmp 10)),ot 13 (.st 0) (.aidx 4 2 (.tmp 9) (.tmp 10)),oo 6 (.alloc [.pv .nilFn,.pv .nilFn]),oo 5 (.mov (.tmp 12)),on (.store 2 (.tmp 6) (.tmp 13))]
def Bar:List TOp:=[oo 14 (.fld 0 (.tmp 6)),oo 15 (.load false 1 (.tmp 14)),oo 16 (.mov (.tmp 0)),oo 17 (.sidx (.tmp 16) (.cst (.int .i64 0))),oo 18 (.call 0 0 (.tmp 15) [(.tmp 17)] [] [])]
def Bas:List TOp:=[oo 20 (.fld 1 (.tmp 6)),oo 21 (.load false 1 (.tmp 20)),oo 22 (.mov (.tmp 0)),oo 23 (.call 0 0 (.tmp 21) [(.tmp 22)] [] []),oo 19 (.mov (.tmp 23)),oo 24 (.ext 0 (.tmp 19)),oo 25 (.ext 1 (.tmp 19)),oo 7 (.mov (.tmp 24)),oo 8 (.mov (.tmp 25))]
def Bat:List TOp:=[oo 26 (.mov (.tmp 5)),oo 27 (.mov (.tmp 7)),oo 28 (.mov (.tmp 8)),oo 2 (.mov (.tmp 26)),oo 3 (.mov (.tmp 27)),oo 4 (.mov (.tmp 28))]
def Arz:Kp:=⟨[],[(2,false),(3,false),(4,false)],[],[],[]⟩
def Bau:List TOp:=[oo 29 (.bin false .add (.tmp 10) (.cst (.int .i64 1))),oo 10 (.mov (.tmp 29))]
def Bam:DC:=(.seq (.ops Bap) (.seq (.cond (.tmp 11) .skip (.exit 0)) (.seq (.pass 1 (.seq (.ops Baq) (.seq (.draw [] Bar) (.cond (.tmp 18) (.free (.seq (.ops Bas) (.seq (.ops Bat) (.keep Arz .ret)))) .skip)))) (.ops Bau))))
def A5s:Kp:=⟨[],[(0,false),(9,false),(10,false)],[],[.loc 6 0],[]⟩
def A5v:Sig:=⟨[(0,none),(9,none),(10,some (.ty (.int .i64)))],[],[(.int .i64)],[],[]⟩
def A5t:Kp:=⟨[],[],[],[],[]⟩
def A5w:Sig:=⟨[],[],[],[],[]⟩
def A5u:List TOp:=[oo 2 (.mov (.cst (.int .i64 0))),oo 3 (.mov (.cst (.int .i64 0))),oo 4 (.mov (.cst (.int .i64 14)))]
def Bje:TFd:=⟨1,[(.tmp 2,.bool),(.tmp 3,.bool),(.tmp 4,.bool)],[],(.seq (.ops Ban) (.seq (.seq (.ops Bao) (.joinO A5t A5w (.block 0 (.loop [0,9,10] [] A5s A5v Bam)))) (.seq (.ops A5u) (.keep Arz .ret))))⟩
noncomputable def Amd:Ent:=⟨[.ty .str],[],[.str],⟨(.tup [(.ty (.int .i64)),(.ty (.int .i64)),(.ty (.int .i64))]),[],[],[(.int .i64),(.int .i64),(.int .i64)],[],[]⟩,none,fun p=>Wy p⟩
theorem Aru:Amd.ok Tryz.prog 89:=Aw hm Tryz.func89 (fd:=Bje) (by kernel_rfl) (Al (l:=[(111,Art)]) (y:=[Ale,Alf]) ⟨A4l,trivial⟩ ⟨Aqh,Aqi,trivial⟩) (by kernel_rfl) (fun p=>by kernel_rfl)
def Adv:Ent:=⟨[.ty .str,.ty .str],[],[.str,.str],⟨(.ty (.int .i64)),[],[],[(.int .i64)],[],[]⟩,none,fun p=>strings_Count p.1 p.2⟩
theorem Anm:Adv.ok Tryz.prog 112:=fun p r h=>Aq8 (show strings_Count _ _=some _ from h)
def Jb:Ent:=⟨[.ty .str,.ty (.int .u8)],[],[.str,(.int .u8)],⟨(.ty (.int .i64)),[],[],[(.int .i64)],[],[]⟩,none,fun p=>strings_LastIndexByte p.1 p.2⟩
theorem So:Jb.ok Tryz.prog 113:=fun p r h=>Wi (show strings_LastIndexByte _ _=some _ from h)
def A5y:List TOp:=[oo 2 (.mov (.cst (.int .i64 0))),oo 3 (.mov (.cst (.int .i64 0)))]
def A5z:List TOp:=[oo 4 (.mov (.tmp 0)),oo 5 (.call 0 0 (.cst (.fn 112)) [(.tmp 4),(.cst (.str [10]))] [] []),oo 6 (.bin false .add (.tmp 5) (.cst (.int .i64 1))),oo 7 (.mov (.tmp 0)),oo 8 (.len true (.tmp 7)),oo 9 (.mov (.tmp 0)),oo 10 (.call 0 0 (.cst (.fn 113)) [(.tmp 9),(.cst (.int .u8 10))] [] []),oo 11 (.bin false .sub (.tmp 8) (.tmp 10)),oo 2 (.mov (.tmp 6)),oo 3 (.mov (.tmp 11))]
def A5x:Kp:=⟨[],[(2,false),(3,false)],[],[],[]⟩
def Bez:TFd:=⟨1,[(.tmp 2,.bool),(.tmp 3,.bool)],[],(.seq (.ops A5y) (.seq (.ops A5z) (.keep A5x .ret)))⟩
def Aha:Ent:=⟨[.ty .str],[],[.str],⟨(.tup [(.ty (.int .i64)),(.ty (.int .i64))]),[],[],[(.int .i64),(.int .i64)],[],[]⟩,none,fun p=>Qr p⟩
theorem Aoi:Aha.ok Tryz.prog 90:=Aw hm Tryz.func90 (fd:=Bez) (by kernel_rfl) (Al (l:=[(112,Adv),(113,Jb)]) (y:=[]) ⟨Anm,So,trivial⟩ trivial) (by kernel_rfl) (fun p=>by kernel_rfl)
def Ben:List TOp:=[oo 2 (.mov .nils),oo 3 (.mov (.cst (.int .i64 0))),oo 4 (.mov (.cst (.int .i64 0)))]
def Beo:List TOp:=[oo 12 (.mov (.tmp 0)),oo 13 (.len true (.tmp 12)),oo 14 (.bin false .gtr (.tmp 13) (.cst (.int .i64 8000)))]
def Bep:List TOp:=[oo 2 (.mov .nils),oo 3 (.mov (.cst (.int .i64 0))),oo 4 (.mov (.cst (.int .i64 4)))]
def Acr:Kp:=⟨[],[(2,true),(3,false),(4,false)],[],[],[]⟩
def Beq:List TOp:=[oo 5 (.mov .nils)]
def Ber:List TOp:=[oo 15 (.mov (.tmp 0)),oo 16 (.call 0 0 (.cst (.fn 88)) [(.tmp 15)] [] []),oo 6 (.mov (.tmp 16))]
def Bes:List TOp:=[oo 17 (.mov (.tmp 6)),oo 18 (.mov (.tmp 0)),oo 19 (.len true (.tmp 18)),oo 20 (.bin false .lss (.tmp 17) (.tmp 19))]
def Bet:List TOp:=[oo 22 (.mov (.tmp 0)),oo 23 (.mov (.tmp 6)),oo 24 (.slc true 0 (.tmp 22) (some (.tmp 23)) none),oo 25 (.call 0 0 (.cst (.fn 89)) [(.tmp 24)] [] []),oo 21 (.mov (.tmp 25)),oo 26 (.ext 0 (.tmp 21)),oo 27 (.ext 1 (.tmp 21)),oo 28 (.ext 2 (.tmp 21)),oo 7 (.mov (.tmp 26)),oo 8 (.mov (.tmp 27)),oo 9 (.mov (.tmp 28))]
def Beu:List TOp:=[oo 30 (.mov (.tmp 9)),oo 31 (.bin false .neq (.tmp 30) (.cst (.int .i64 0))),oo 29 (.mov (.tmp 31))]
def Bev:List TOp:=[oo 32 (.mov (.tmp 6)),oo 33 (.mov (.tmp 9)),oo 2 (.mov .nils),oo 3 (.mov (.tmp 32)),oo 4 (.mov (.tmp 33))]
def Bad:List TOp:=[oo 35 (.mov (.tmp 5)),oo 36 (.len false (.tmp 35)),oo 37 (.bin false .eql (.tmp 36) (.cst (.int .i64 1500))),oo 34 (.mov (.tmp 37))]
def Bae:List TOp:=[oo 38 (.mov (.tmp 6)),oo 2 (.mov .nils),oo 3 (.mov (.tmp 38)),oo 4 (.mov (.cst (.int .i64 6)))]
def Baf:List TOp:=[oo 40 (.mov (.tmp 0)),oo 41 (.mov (.tmp 6)),oo 42 (.slc true 0 (.tmp 40) none (some (.tmp 41))),oo 43 (.call 0 0 (.cst (.fn 90)) [(.tmp 42)] [] []),oo 39 (.mov (.tmp 43)),oo 44 (.ext 0 (.tmp 39)),oo 45 (.ext 1 (.tmp 39)),oo 10 (.mov (.tmp 44)),oo 11 (.mov (.tmp 45))]
def Bag:List TOp:=[oo 46 (.mov (.tmp 5)),oo 47 (.mov (.tmp 7)),oo 48 (.mov (.tmp 10)),oo 49 (.mov (.tmp 11)),oo 50 (.mov (.tmp 0)),oo 51 (.mov (.tmp 6)),oo 52 (.mov (.tmp 6)),oo 53 (.mov (.tmp 8)),oo 54 (.bin false .add (.tmp 52) (.tmp 53)),oo 55 (.slc true 0 (.tmp 50) (some (.tmp 51)) (some (.tmp 54))),ot 56 (.st 2) (.build [.pv (.int .i64 0),.pv (.int .i64 0),.pv (.int .i64 0),.pv (.str [])] [(0,1,(.tmp 47)),(1,1,(.tmp 48)),(2,1,(.tmp 49)),(3,1,(.tmp 55))]),ot 57 (.st 2) (.lit false 4 [(.tmp 56)]),ot 58 (.st 2) (.append 5 4 40 (.tmp 46) (.tmp 57)),oo 5 (.mov (.tmp 58))]
def Bah:List TOp:=[oo 59 (.mov (.tmp 6)),oo 60 (.mov (.tmp 8)),oo 61 (.bin false .add (.tmp 59) (.tmp 60)),oo 6 (.mov (.tmp 61))]
def Bai:List TOp:=[oo 62 (.mov (.tmp 6)),oo 63 (.mov (.tmp 0)),oo 64 (.mov (.tmp 6)),oo 65 (.slc true 0 (.tmp 63) (some (.tmp 64)) none),oo 66 (.call 0 0 (.cst (.fn 88)) [(.tmp 65)] [] []),oo 67 (.bin false .add (.tmp 62) (.tmp 66)),oo 6 (.mov (.tmp 67))]
def Bac:DC:=(.seq (.seq (.ops Bes) (.cond (.tmp 20) .skip (.exit 0))) (.pass 1 (.seq (.ops Bet) (.seq (.pass 2 (.seq (.ops Beu) (.cond (.tmp 29) (.free (.seq (.ops Bev) (.keep Acr .ret))) (.seq (.ops Bad) (.cond (.tmp 34) (.free (.seq (.ops Bae) (.keep Acr .ret))) .skip))))) (.seq (.ops Baf) (.seq (.ops Bag) (.seq (.ops Bah) (.ops Bai))))))))
def Baa:Kp:=⟨[],[(0,false),(5,false),(6,false)],[(.loc 5 0,false)],[],[((.slot 5 (.loc 5 0) 4),(.st 2))]⟩
def Bak:Sig:=⟨[(0,none),(5,some (.own (.loc 5 0))),(6,some (.ty (.int .i64)))],[(.loc 5 0,(.row (.st 2)))],[(.int .i64),(.sl (.st 2))],[],[]⟩
def Bab:Kp:=⟨[.loc 5 0],[(5,true)],[],[],[]⟩
def Bal:Sig:=⟨[(5,some (.ty (.sl (.st 2))))],[],[(.sl (.st 2))],[],[]⟩
def Baj:List TOp:=[oo 68 (.mov (.tmp 5)),oo 2 (.mov (.tmp 68)),oo 3 (.mov (.cst (.int .i64 0))),oo 4 (.mov (.cst (.int .i64 0)))]
def Bm5:TFd:=⟨1,[(.tmp 2,.bool),(.tmp 3,.bool),(.tmp 4,.bool)],[],(.seq (.ops Ben) (.seq (.seq (.ops Beo) (.cond (.tmp 14) (.free (.seq (.ops Bep) (.keep Acr .ret))) .skip)) (.seq (.ops Beq) (.seq (.seq (.ops Ber) (.joinO Bab Bal (.block 0 (.loop [0,5,6] [] Baa Bak Bac)))) (.seq (.ops Baj) (.keep Acr .ret))))))⟩
noncomputable def A2k:Ent:=⟨[.ty .str],[],[.str],⟨(.tup [(.ty (.sl (.st 2))),(.ty (.int .i64)),(.ty (.int .i64))]),[],[],[(.sl (.st 2)),(.int .i64),(.int .i64)],[],[]⟩,none,fun p=>Aac p⟩
theorem Bd4:A2k.ok Tryz.prog 52:=Aw hm Tryz.func52 (fd:=Bm5) (by kernel_rfl) (Al (l:=[(88,Avb),(89,Amd),(90,Aha)]) (y:=[]) ⟨A9m,Aru,Aoi,trivial⟩ trivial) (by kernel_rfl) (fun p=>by kernel_rfl)
def A5c:List TOp:=[oo 4 (.mov (.cst (.int .i64 0))),oo 5 (.mov (.cst (.int .i64 0))),oo 6 (.mov (.cst (.int .i64 0)))]
def A5d:List TOp:=[oo 9 (.mov (.tmp 1)),oo 10 (.bin false .lss (.tmp 9) (.cst (.int .i64 0))),oo 11 (.mov (.tmp 10)),og 12 11 false .bool (.mov (.tmp 1)),og 13 11 false .bool (.mov (.tmp 0)),og 14 11 false .bool (.len true (.tmp 13)),og 15 11 false .bool (.bin false .gtr (.tmp 12) (.tmp 14)),oo 16 (.pick (.tmp 11) (.cst (.bool true)) (.tmp 15))]
def A5e:List TOp:=[oo 4 (.mov (.cst (.int .i64 0))),oo 5 (.mov (.cst (.int .i64 0))),oo 6 (.mov (.cst (.int .i64 1)))]
def Aoy:Kp:=⟨[],[(4,false),(5,false),(6,false)],[],[],[]⟩
def A5f:List TOp:=[oo 18 (.mov (.tmp 0)),oo 19 (.mov (.tmp 1)),oo 20 (.slc true 0 (.tmp 18) none (some (.tmp 19))),oo 21 (.call 0 0 (.cst (.fn 90)) [(.tmp 20)] [] []),oo 17 (.mov (.tmp 21)),oo 22 (.ext 0 (.tmp 17)),oo 23 (.ext 1 (.tmp 17)),oo 7 (.mov (.tmp 22)),oo 8 (.mov (.tmp 23))]
def A5g:List TOp:=[oo 24 (.mov (.tmp 7)),oo 25 (.mov (.tmp 8)),oo 4 (.mov (.tmp 24)),oo 5 (.mov (.tmp 25)),oo 6 (.mov (.cst (.int .i64 0)))]
def Bew:TFd:=⟨2,[(.tmp 4,.bool),(.tmp 5,.bool),(.tmp 6,.bool)],[],(.seq (.ops A5c) (.seq (.seq (.ops A5d) (.cond (.tmp 16) (.free (.seq (.ops A5e) (.keep Aoy .ret))) .skip)) (.seq (.ops A5f) (.seq (.ops A5g) (.keep Aoy .ret)))))⟩
def Ag6:Ent:=⟨[.ty .str,.ty (.int .i64)],[],[.str,(.int .i64)],⟨(.tup [(.ty (.int .i64)),(.ty (.int .i64)),(.ty (.int .i64))]),[],[],[(.int .i64),(.int .i64),(.int .i64)],[],[]⟩,none,fun p=>Ww p.1 p.2⟩
theorem Aog:Ag6.ok Tryz.prog 53:=Aw hm Tryz.func53 (fd:=Bew) (by kernel_rfl) (Al (l:=[(90,Aha)]) (y:=[]) ⟨Aoi,trivial⟩ trivial) (by kernel_rfl) (fun p=>by kernel_rfl)
def Awz:List TOp:=[oo 2 (.mov .junk),oo 3 (.mov (.cst (.int .i64 0))),oo 4 (.mov (.cst (.int .i64 0))),oo 5 (.mov (.cst (.int .i64 0)))]
def Aw0:List TOp:=[oo 13 (.mov (.tmp 0)),oo 14 (.call 0 0 (.cst (.fn 52)) [(.tmp 13)] [] []),oo 12 (.mov (.tmp 14)),oo 15 (.ext 0 (.tmp 12)),oo 16 (.ext 1 (.tmp 12)),oo 17 (.ext 2 (.tmp 12)),oo 6 (.mov (.tmp 15)),oo 7 (.mov (.tmp 16)),oo 8 (.mov (.tmp 17))]
def Aw1:List TOp:=[oo 18 (.mov (.tmp 8)),oo 19 (.bin false .eql (.tmp 18) (.cst (.int .i64 0)))]
def Aw2:List TOp:=[oo 20 (.mov (.tmp 6)),ot 21 (.st 3) (.build [.nils,.pv (.int .i64 0),.pv (.bool false)] [(0,1,(.tmp 20))]),oo 22 (.box (.tmp 21)),oo 2 (.mov (.tmp 22)),oo 3 (.mov (.cst (.int .i64 0))),oo 4 (.mov (.cst (.int .i64 0))),oo 5 (.mov (.cst (.int .i64 0)))]
def Awx:Kp:=⟨[],[(2,false),(3,false),(4,false),(5,false)],[(.loc 22 0,false)],[],[]⟩
def Aw3:List TOp:=[oo 24 (.mov (.tmp 0)),oo 25 (.mov (.tmp 7)),oo 26 (.call 0 0 (.cst (.fn 53)) [(.tmp 24),(.tmp 25)] [] []),oo 23 (.mov (.tmp 26)),oo 27 (.ext 0 (.tmp 23)),oo 28 (.ext 1 (.tmp 23)),oo 29 (.ext 2 (.tmp 23)),oo 9 (.mov (.tmp 27)),oo 10 (.mov (.tmp 28)),oo 11 (.mov (.tmp 29))]
def Aw4:List TOp:=[oo 30 (.mov (.tmp 9)),oo 31 (.mov (.tmp 10)),oo 32 (.mov (.tmp 8)),oo 2 (.mov .junk),oo 3 (.mov (.tmp 30)),oo 4 (.mov (.tmp 31)),oo 5 (.mov (.tmp 32))]
def Awy:Kp:=⟨[],[(3,false),(4,false),(5,false)],[],[],[]⟩
def A6w:TFd:=⟨1,[(.tmp 2,.bool),(.tmp 3,.bool),(.tmp 4,.bool),(.tmp 5,.bool)],[.loc 22 0],(.seq (.ops Awz) (.seq (.ops Aw0) (.seq (.seq (.ops Aw1) (.cond (.tmp 19) (.free (.seq (.ops Aw2) (.keep Awx .ret))) .skip)) (.seq (.ops Aw3) (.seq (.ops Aw4) (.keep Awy .ret))))))⟩
noncomputable def Uk:Ent:=⟨[.ty .str],[],[.str],⟨(.tup [(.ptr (.res 0) 0),(.ty (.int .i64)),(.ty (.int .i64)),(.ty (.int .i64))]),[some (.st 3)],[],[(.int .i64),(.int .i64),(.int .i64),(.st 3)],[],[]⟩,(some ⟨(.tup [.dead,(.ty (.int .i64)),(.ty (.int .i64)),(.ty (.int .i64))]),[none],[],[(.int .i64),(.int .i64),(.int .i64)],[],[]⟩),fun p=>Hh p⟩
theorem Ahm:Uk.ok Tryz.prog 29:=Aw hm Tryz.func29 (fd:=A6w) (by kernel_rfl) (Al (l:=[(52,A2k),(53,Ag6)]) (y:=[]) ⟨Bd4,Aog,trivial⟩ trivial) (by kernel_rfl) (fun p=>by kernel_rfl)
def Am9:List TOp:=[oo 4 (.mov (.cst (.bool false)))]
def Ana:List TOp:=[oo 5 (.mov (.tmp 0)),oo 6 (.nchk (.tmp 5)),oo 7 (.fld 2 (.tmp 6)),oo 8 (.load false 1 (.tmp 7)),oo 9 (.un .not (.tmp 8)),oo 10 (.mov (.tmp 9)),og 11 10 true .bool (.mov (.tmp 0)),og 12 10 true .bool (.nchk (.tmp 11)),og 13 10 true .bool (.fld 1 (.tmp 12)),og 14 10 true .bool (.load false 1 (.tmp 13)),og 15 10 true .bool (.mov (.tmp 0)),og 16 10 true .bool (.nchk (.tmp 15)),og 17 10 true .bool (.fld 0 (.tmp 16)),og 18 10 true .bool (.load false 1 (.tmp 17)),og 19 10 true .bool (.len false (.tmp 18)),og 20 10 true .bool (.bin false .lss (.tmp 14) (.tmp 19)),oo 21 (.pick (.tmp 10) (.tmp 20) (.cst (.bool false))),oo 22 (.mov (.tmp 21)),og 23 22 true .bool (.mov (.tmp 0)),og 24 22 true .bool (.nchk (.tmp 23)),og 25 22 true .bool (.fld 0 (.tmp 24)),og 26 22 true .bool (.load false 1 (.tmp 25)),og 27 22 true .bool (.mov (.tmp 0)),og 28 22 true .bool (.nchk (.tmp 27)),og 29 22 true .bool (.fld 1 (.tmp 28)),og 30 22 true .bool (.load false 1 (.tmp 29)),og 31 22 true .bool (.idx 4 (.tmp 26) (.tmp 30)),og 32 22 true .bool (.fld 0 (.tmp 31)),og 33 22 true .bool (.load false 1 (.tmp 32)),og 34 22 true .bool (.bin false .neq (.tmp 33) (.cst (.int .i64 2))),oo 35 (.pick (.tmp 22) (.tmp 34) (.cst (.bool false))),oo 36 (.mov (.tmp 35)),og 37 36 true .bool (.mov (.tmp 0)),og 38 36 true .bool (.nchk (.tmp 37)),og 39 36 true .bool (.fld 0 (.tmp 38)),og 40 36 true .bool (.load false 1 (.tmp 39)),og 41 36 true .bool (.mov (.tmp 0)),og 42 36 true .bool (.nchk (.tmp 41)),og 43 36 true .bool (.fld 1 (.tmp 42)),og 44 36 true .bool (.load false 1 (.tmp 43)),og 45 36 true .bool (.idx 4 (.tmp 40) (.tmp 44)),og 46 36 true .bool (.fld 3 (.tmp 45)),og 47 36 true .bool (.load false 1 (.tmp 46)),og 48 36 true .bool (.mov (.tmp 1)),og 49 36 true .bool (.bin false .eql (.tmp 47) (.tmp 48)),oo 50 (.pick (.tmp 36) (.tmp 49) (.cst (.bool false))),oo 4 (.mov (.tmp 50))]
def Am8:Kp:=⟨[],[(4,false)],[(.ext 0,false)],[],[]⟩
def Aqv:TFd:=⟨2,[(.tmp 4,.bool)],[],(.seq (.ops Am9) (.seq (.draw [] Ana) (.keep Am8 .ret)))⟩
def G1:Ent:=⟨[.ptr (.ext 0) 0,.ty .str],[.st 3],[.str,(.st 3)],⟨(.ty .bool),[],[some .same],[.bool],[],[]⟩,none,fun p=>Bx p.1 p.2⟩
theorem It:G1.ok Tryz.prog 63:=Aw hm Tryz.func63 (fd:=Aqv) (by kernel_rfl) (Al (l:=[]) (y:=[]) trivial trivial) (by kernel_rfl) (fun p=>by kernel_rfl)
def Aip:List TOp:=[oo 4 (.mov (.cst (.bool false)))]
def Aiq:List TOp:=[oo 5 (.mov (.tmp 0)),oo 6 (.mov (.tmp 1)),oo 7 (.call 0 2 (.cst (.fn 63)) [(.tmp 5),(.tmp 6)] [] [.ext 0]),oo 8 (.un .not (.tmp 7))]
def Air:List TOp:=[oo 4 (.mov (.cst (.bool false)))]
def M4:Kp:=⟨[],[(4,false)],[(.ext 0,false)],[],[]⟩
def Ais:List TOp:=[oo 9 (.mov (.tmp 0)),oo 10 (.nchk (.tmp 9)),oo 11 (.fld 1 (.tmp 10)),oo 12 (.load false 1 (.tmp 11)),oo 13 (.bin false .add (.tmp 12) (.cst (.int .i64 1))),oo 14 (.nchk (.tmp 9)),oo 15 (.fld 1 (.tmp 14)),on (.store 1 (.tmp 15) (.tmp 13))]
def Ait:List TOp:=[oo 4 (.mov (.cst (.bool true)))]
def Ane:TFd:=⟨2,[(.tmp 4,.bool)],[],(.seq (.ops Aip) (.seq (.seq (.ops Aiq) (.cond (.tmp 8) (.free (.seq (.ops Air) (.keep M4 .ret))) .skip)) (.seq (.ops Ais) (.seq (.ops Ait) (.keep M4 .ret)))))⟩
def D2:Ent:=⟨[.ptr (.ext 0) 0,.ty .str],[.st 3],[.str,(.st 3)],⟨(.ty .bool),[],[some (.st 3)],[.bool,(.st 3)],[],[]⟩,none,fun p=>Bc p.1 p.2⟩
theorem E5:D2.ok Tryz.prog 54:=Aw hm Tryz.func54 (fd:=Ane) (by kernel_rfl) (Al (l:=[(63,G1)]) (y:=[]) ⟨It,trivial⟩ trivial) (by kernel_rfl) (fun p=>by kernel_rfl)
def Aic:List TOp:=[oo 6 (.mov (.tmp 1)),oo 7 (.len false (.tmp 6)),oo 8 (.mov (.cst (.int .i64 0)))]
def Aid:List TOp:=[oo 9 (.bin false .lss (.tmp 8) (.tmp 7))]
def M2:Kp:=⟨[],[],[(.ext 0,false)],[],[]⟩
def Aie:List TOp:=[oo 10 (.idx 1 (.tmp 6) (.tmp 8)),oo 11 (.load false 1 (.tmp 10)),oo 5 (.mov (.tmp 11))]
def Aif:List TOp:=[oo 12 (.mov (.tmp 0)),oo 13 (.mov (.tmp 5)),oo 14 (.call 0 2 (.cst (.fn 54)) [(.tmp 12),(.tmp 13)] [] [.ext 0]),oo 15 (.un .not (.tmp 14))]
def Aig:List TOp:=[oo 16 (.mov (.tmp 0)),oo 17 (.nchk (.tmp 16)),oo 18 (.fld 2 (.tmp 17)),on (.store 1 (.tmp 18) (.cst (.bool true)))]
def Aih:List TOp:=[oo 19 (.bin false .add (.tmp 8) (.cst (.int .i64 1))),oo 8 (.mov (.tmp 19))]
def Aib:DC:=(.seq (.ops Aid) (.seq (.cond (.tmp 9) .skip (.keep M2 (.exit 0))) (.seq (.pass 1 (.seq (.ops Aie) (.seq (.ops Aif) (.cond (.tmp 15) (.free (.seq (.ops Aig) (.keep M2 .ret))) .skip)))) (.ops Aih))))
def Aia:Kp:=⟨[],[(0,false),(6,false),(7,false),(8,false)],[(.ext 0,false)],[],[]⟩
def Aii:Sig:=⟨[(0,some (.ptr (.ext 0) 0)),(6,none),(7,none),(8,some (.ty (.int .i64)))],[(.ext 0,(.st 3))],[(.int .i64),(.st 3)],[],[]⟩
def Anb:TFd:=⟨2,[],[],(.seq (.ops Aic) (.block 0 (.loop [0,6,7,8] [] Aia Aii Aib)))⟩
noncomputable def D1:Ent:=⟨[.ptr (.ext 0) 0,.ty (.sl .str)],[.st 3],[(.sl .str),(.st 3)],⟨(.tup []),[],[some (.st 3)],[(.st 3)],[],[]⟩,none,fun p=>Am p.1 p.2⟩
theorem E4:D1.ok Tryz.prog 56:=Aw hm Tryz.func56 (fd:=Anb) (by kernel_rfl) (Al (l:=[(54,D2)]) (y:=[]) ⟨E5,trivial⟩ trivial) (by kernel_rfl) (fun p=>by kernel_rfl)
def Ns:List TOp:=[oo 4 (.mov (.cst (.int .i64 0)))]
def Nt:List TOp:=[oo 6 (.mov (.tmp 0)),oo 7 (.len false (.tmp 6)),oo 8 (.mov (.cst (.int .i64 0)))]
def Nu:List TOp:=[oo 9 (.bin false .lss (.tmp 8) (.tmp 7))]
def Nv:List TOp:=[oo 10 (.mov (.tmp 8)),oo 5 (.mov (.tmp 10))]
def Nw:List TOp:=[oo 11 (.mov (.tmp 1)),oo 12 (.mov (.tmp 0)),oo 13 (.mov (.tmp 5)),oo 14 (.idx 1 (.tmp 12) (.tmp 13)),oo 15 (.load false 1 (.tmp 14)),oo 16 (.bin false .eql (.tmp 11) (.tmp 15))]
def Nx:List TOp:=[oo 17 (.mov (.tmp 5)),oo 4 (.mov (.tmp 17))]
def F8:Kp:=⟨[],[(4,false)],[],[],[]⟩
def Ny:List TOp:=[oo 18 (.bin false .add (.tmp 8) (.cst (.int .i64 1))),oo 8 (.mov (.tmp 18))]
def Nr:DC:=(.seq (.ops Nu) (.seq (.cond (.tmp 9) .skip (.exit 0)) (.seq (.pass 1 (.seq (.ops Nv) (.seq (.ops Nw) (.cond (.tmp 16) (.free (.seq (.ops Nx) (.keep F8 .ret))) .skip)))) (.ops Ny))))
def Nq:Kp:=⟨[],[(0,false),(1,false),(7,false),(8,false)],[],[],[]⟩
def Mb:Sig:=⟨[(0,none),(1,none),(7,none),(8,some (.ty (.int .i64)))],[],[(.int .i64)],[],[]⟩
def L9:Kp:=⟨[],[],[],[],[]⟩
def Mc:Sig:=⟨[],[],[],[],[]⟩
def Ma:List TOp:=[oo 4 (.mov (.cst (.int .i64 (-1))))]
def Qh:TFd:=⟨2,[(.tmp 4,.bool)],[],(.seq (.ops Ns) (.seq (.seq (.ops Nt) (.joinO L9 Mc (.block 0 (.loop [0,1,7,8] [] Nq Mb Nr)))) (.seq (.ops Ma) (.keep F8 .ret))))⟩
noncomputable def Gp:Ent:=⟨[.ty (.sl .str),.ty .str],[],[(.sl .str),.str],⟨(.ty (.int .i64)),[],[],[(.int .i64)],[],[]⟩,none,fun p=>Em p.1 p.2⟩
theorem N2:Gp.ok Tryz.prog 139:=Aw hm Tryz.func139 (fd:=Qh) (by kernel_rfl) (Al (l:=[]) (y:=[]) trivial trivial) (by kernel_rfl) (fun p=>by kernel_rfl)
def Kc:List TOp:=[oo 4 (.mov (.cst (.bool false)))]
def Kd:List TOp:=[oo 5 (.mov (.tmp 0)),oo 6 (.mov (.tmp 1)),oo 7 (.call 0 0 (.cst (.fn 139)) [(.tmp 5),(.tmp 6)] [] []),oo 8 (.bin false .geq (.tmp 7) (.cst (.int .i64 0))),oo 4 (.mov (.tmp 8))]
def Kb:Kp:=⟨[],[(4,false)],[],[],[]⟩
def L0:TFd:=⟨2,[(.tmp 4,.bool)],[],(.seq (.ops Kc) (.seq (.ops Kd) (.keep Kb .ret)))⟩
noncomputable def Ff:Ent:=⟨[.ty (.sl .str),.ty .str],[],[(.sl .str),.str],⟨(.ty .bool),[],[],[.bool],[],[]⟩,none,fun p=>Ct p.1 p.2⟩
theorem Ki:Ff.ok Tryz.prog 115:=Aw hm Tryz.func115 (fd:=L0) (by kernel_rfl) (Al (l:=[(139,Gp)]) (y:=[]) ⟨N2,trivial⟩ trivial) (by kernel_rfl) (fun p=>by kernel_rfl)
def A7i:List TOp:=[oo 4 (.mov (.cst (.bool false)))]
def A7j:List TOp:=[ot 6 .str (.lit true 1 [(.cst (.str [105,102])),(.cst (.str [116,104,101,110])),(.cst (.str [101,108,115,101])),(.cst (.str [97,110,100])),(.cst (.str [111,114])),(.cst (.str [110,111,116])),(.cst (.str [109,105,110])),(.cst (.str [109,97,120]))]),oo 5 (.mov (.tmp 6))]
def A7k:List TOp:=[oo 7 (.mov (.tmp 1))]
def A7l:List TOp:=[oo 8 (.mov (.tmp 5)),ot 9 .str (.lit false 1 [(.cst (.str [112,114,111,100,117,99,116])),(.cst (.str [98,97,115,105,115])),(.cst (.str [112,101,114,105,111,100])),(.cst (.str [116,105,101,114,115])),(.cst (.str [102,101,101])),(.cst (.str [109,105,110,105,109,117,109])),(.cst (.str [111,118,101,114,100,114,97,102,116])),(.cst (.str [110,111,116,105,99,101]))]),ot 10 .str (.append 5 1 16 (.tmp 8) (.tmp 9)),oo 5 (.mov (.tmp 10))]
def A7g:Kp:=⟨[.loc 5 0,.loc 6 0],[(0,false),(5,true)],[],[],[]⟩
def A7n:Sig:=⟨[(0,none),(5,some (.ty (.sl .str)))],[],[(.sl .str)],[],[]⟩
def A7m:List TOp:=[oo 11 (.mov (.tmp 5)),oo 12 (.mov (.tmp 0)),oo 13 (.call 0 0 (.cst (.fn 115)) [(.tmp 11),(.tmp 12)] [] []),oo 4 (.mov (.tmp 13))]
def A7h:Kp:=⟨[],[(4,false)],[],[],[]⟩
def Bfc:TFd:=⟨2,[(.tmp 4,.bool)],[],(.seq (.ops A7i) (.seq (.ops A7j) (.seq (.seq (.ops A7k) (.join A7g A7n (.cond (.tmp 7) (.ops A7l) .skip))) (.seq (.ops A7m) (.keep A7h .ret)))))⟩
noncomputable def Aho:Ent:=⟨[.ty .str,.ty .bool],[],[.str,.bool],⟨(.ty .bool),[],[],[.bool],[],[]⟩,none,fun p=>W3 p.1 p.2⟩
theorem Aox:Aho.ok Tryz.prog 96:=Aw hm Tryz.func96 (fd:=Bfc) (by kernel_rfl) (Al (l:=[(115,Ff)]) (y:=[]) ⟨Ki,trivial⟩ trivial) (by kernel_rfl) (fun p=>by kernel_rfl)
def Aij:List TOp:=[oo 6 (.mov (.cst (.str [])))]
def Aik:List TOp:=[oo 7 (.mov (.tmp 0)),oo 8 (.nchk (.tmp 7)),oo 9 (.fld 2 (.tmp 8)),oo 10 (.load false 1 (.tmp 9)),oo 11 (.mov (.tmp 10)),og 12 11 false .bool (.mov (.tmp 0)),og 13 11 false .bool (.nchk (.tmp 12)),og 14 11 false .bool (.fld 1 (.tmp 13)),og 15 11 false .bool (.load false 1 (.tmp 14)),og 16 11 false .bool (.mov (.tmp 0)),og 17 11 false .bool (.nchk (.tmp 16)),og 18 11 false .bool (.fld 0 (.tmp 17)),og 19 11 false .bool (.load false 1 (.tmp 18)),og 20 11 false .bool (.len false (.tmp 19)),og 21 11 false .bool (.bin false .geq (.tmp 15) (.tmp 20)),oo 22 (.pick (.tmp 11) (.cst (.bool true)) (.tmp 21)),oo 23 (.mov (.tmp 22)),og 24 23 false .bool (.mov (.tmp 0)),og 25 23 false .bool (.nchk (.tmp 24)),og 26 23 false .bool (.fld 0 (.tmp 25)),og 27 23 false .bool (.load false 1 (.tmp 26)),og 28 23 false .bool (.mov (.tmp 0)),og 29 23 false .bool (.nchk (.tmp 28)),og 30 23 false .bool (.fld 1 (.tmp 29)),og 31 23 false .bool (.load false 1 (.tmp 30)),og 32 23 false .bool (.idx 4 (.tmp 27) (.tmp 31)),og 33 23 false .bool (.fld 0 (.tmp 32)),og 34 23 false .bool (.load false 1 (.tmp 33)),og 35 23 false .bool (.mov (.tmp 1)),og 36 23 false .bool (.bin false .neq (.tmp 34) (.tmp 35)),oo 37 (.pick (.tmp 23) (.cst (.bool true)) (.tmp 36)),oo 38 (.mov (.tmp 37)),og 39 38 false .bool (.mov (.tmp 1)),og 40 38 false .bool (.bin false .eql (.tmp 39) (.cst (.int .i64 0))),og 41 38 false .bool (.mov (.tmp 40)),og 42 41 true .bool (.mov (.tmp 0)),og 43 41 true .bool (.nchk (.tmp 42)),og 44 41 true .bool (.fld 0 (.tmp 43)),og 45 41 true .bool (.load false 1 (.tmp 44)),og 46 41 true .bool (.mov (.tmp 0)),og 47 41 true .bool (.nchk (.tmp 46)),og 48 41 true .bool (.fld 1 (.tmp 47)),og 49 41 true .bool (.load false 1 (.tmp 48)),og 50 41 true .bool (.idx 4 (.tmp 45) (.tmp 49)),og 51 41 true .bool (.fld 3 (.tmp 50)),og 52 41 true .bool (.load false 1 (.tmp 51)),og 53 41 true .bool (.mov (.tmp 2)),og 54 41 true .bool (.call 0 0 (.cst (.fn 96)) [(.tmp 52),(.tmp 53)] [] []),og 55 38 false .bool (.pick (.tmp 41) (.tmp 54) (.cst (.bool false))),oo 56 (.pick (.tmp 38) (.cst (.bool true)) (.tmp 55))]
def Ail:List TOp:=[oo 57 (.mov (.tmp 0)),oo 58 (.nchk (.tmp 57)),oo 59 (.fld 2 (.tmp 58)),on (.store 1 (.tmp 59) (.cst (.bool true)))]
def Aim:List TOp:=[oo 6 (.mov (.cst (.str [])))]
def M3:Kp:=⟨[],[(6,false)],[(.ext 0,false)],[],[]⟩
def Ain:List TOp:=[oo 60 (.mov (.tmp 0)),oo 61 (.nchk (.tmp 60)),oo 62 (.fld 1 (.tmp 61)),oo 63 (.load false 1 (.tmp 62)),oo 64 (.bin false .add (.tmp 63) (.cst (.int .i64 1))),oo 65 (.nchk (.tmp 60)),oo 66 (.fld 1 (.tmp 65)),on (.store 1 (.tmp 66) (.tmp 64))]
def Aio:List TOp:=[oo 67 (.mov (.tmp 0)),oo 68 (.nchk (.tmp 67)),oo 69 (.fld 0 (.tmp 68)),oo 70 (.load false 1 (.tmp 69)),oo 71 (.mov (.tmp 0)),oo 72 (.nchk (.tmp 71)),oo 73 (.fld 1 (.tmp 72)),oo 74 (.load false 1 (.tmp 73)),oo 75 (.bin false .sub (.tmp 74) (.cst (.int .i64 1))),oo 76 (.idx 4 (.tmp 70) (.tmp 75)),oo 77 (.fld 3 (.tmp 76)),oo 78 (.load false 1 (.tmp 77)),oo 6 (.mov (.tmp 78))]
def Anc:TFd:=⟨3,[(.tmp 6,.bool)],[],(.seq (.ops Aij) (.seq (.seq (.draw [] Aik) (.cond (.tmp 56) (.free (.seq (.ops Ail) (.seq (.ops Aim) (.keep M3 .ret)))) .skip)) (.seq (.ops Ain) (.seq (.draw [] Aio) (.keep M3 .ret)))))⟩
noncomputable def Fk:Ent:=⟨[.ptr (.ext 0) 0,.ty (.int .i64),.ty .bool],[.st 3],[(.int .i64),.bool,(.st 3)],⟨(.ty .str),[],[some (.st 3)],[.str,(.st 3)],[],[]⟩,none,fun p=>A7 p.1 p.2.1 p.2.2⟩
theorem Hj:Fk.ok Tryz.prog 61:=Aw hm Tryz.func61 (fd:=Anc) (by kernel_rfl) (Al (l:=[(96,Aho)]) (y:=[]) ⟨Aox,trivial⟩ trivial) (by kernel_rfl) (fun p=>by kernel_rfl)
def Zm:Ent:=⟨[.nils,.ty (.int .i64)],[],[(.int .i64)],⟨(.own (.res 0)),[some (.row (.st 4))],[],[(.sl (.st 4))],[],[]⟩,none,fun p=>C6 Aa 24 p⟩
theorem Akz:Zm.ok Tryz.prog 114:=fun p r h=>by
 obtain⟨e1,e2⟩:=Zn (show C6 Aa 24 p=some r from h)
 subst e1
 exact App e2
def Rv:List TOp:=[oo 2 (.mov .nils)]
def Rw:List TOp:=[oo 3 (.mov (.cst (.int .i64 0)))]
def Rx:List TOp:=[oo 9 (.mov (.tmp 0)),oo 10 (.len false (.tmp 9)),oo 11 (.mov (.cst (.int .i64 0)))]
def Ry:List TOp:=[oo 12 (.bin false .lss (.tmp 11) (.tmp 10))]
def Rz:List TOp:=[oo 13 (.idx 1 (.tmp 9) (.tmp 11)),oo 14 (.load false 1 (.tmp 13)),oo 5 (.mov (.tmp 14))]
def R0:List TOp:=[oo 15 (.mov (.tmp 3)),oo 16 (.mov (.tmp 5)),oo 17 (.len false (.tmp 16)),oo 18 (.bin false .add (.tmp 15) (.tmp 17)),oo 3 (.mov (.tmp 18))]
def R1:List TOp:=[oo 19 (.mov (.tmp 3)),oo 20 (.bin false .lss (.tmp 19) (.cst (.int .i64 0)))]
def Hk:Kp:=⟨[],[(0,false),(3,false),(9,false),(10,false),(11,false)],[],[],[]⟩
def R3:Sig:=⟨[(0,none),(3,none),(9,none),(10,none),(11,none)],[],[],[],[]⟩
def R2:List TOp:=[oo 22 (.bin false .add (.tmp 11) (.cst (.int .i64 1))),oo 11 (.mov (.tmp 22))]
def P2:DC:=(.seq (.ops Ry) (.seq (.cond (.tmp 12) .skip (.exit 0)) (.seq (.pass 1 (.seq (.ops Rz) (.seq (.ops R0) (.seq (.ops R1) (.join Hk R3 (.cond (.tmp 20) .stuck .skip)))))) (.ops R2))))
def Qb:Sig:=⟨[(0,none),(3,some (.ty (.int .i64))),(9,none),(10,none),(11,some (.ty (.int .i64)))],[],[(.int .i64),(.int .i64)],[],[]⟩
def Py:Kp:=⟨[],[(0,false),(3,false)],[],[],[]⟩
def Qc:Sig:=⟨[(0,none),(3,some (.ty (.int .i64)))],[],[(.int .i64)],[],[]⟩
def P4:List TOp:=[oo 23 (.mov (.tmp 3)),oo 24 (.call 1 3 (.cst (.fn 114)) [.nils,(.tmp 23)] [] []),oo 6 (.mov (.tmp 24))]
def P5:List TOp:=[oo 25 (.mov (.tmp 0)),oo 26 (.len false (.tmp 25)),oo 27 (.mov (.cst (.int .i64 0)))]
def P6:List TOp:=[oo 28 (.bin false .lss (.tmp 27) (.tmp 26))]
def P7:List TOp:=[oo 29 (.idx 1 (.tmp 25) (.tmp 27)),oo 30 (.load false 1 (.tmp 29)),oo 8 (.mov (.tmp 30))]
def P8:List TOp:=[oo 31 (.mov (.tmp 6)),oo 32 (.mov (.tmp 8)),ot 33 (.st 4) (.append 24 2 24 (.tmp 31) (.tmp 32)),oo 6 (.mov (.tmp 33))]
def P9:List TOp:=[oo 34 (.bin false .add (.tmp 27) (.cst (.int .i64 1))),oo 27 (.mov (.tmp 34))]
def P3:DC:=(.seq (.ops P6) (.seq (.cond (.tmp 28) .skip (.exit 2)) (.seq (.pass 3 (.seq (.ops P7) (.ops P8))) (.ops P9))))
def Pz:Kp:=⟨[],[(6,false),(25,false),(26,false),(27,false)],[(.loc 24 0,false)],[],[]⟩
def Qd:Sig:=⟨[(6,some (.own (.loc 24 0))),(25,none),(26,none),(27,some (.ty (.int .i64)))],[(.loc 24 0,(.row (.st 4)))],[(.int .i64),(.sl (.st 4))],[],[]⟩
def P0:Kp:=⟨[.loc 24 0],[(6,true)],[],[],[]⟩
def Qe:Sig:=⟨[(6,some (.ty (.sl (.st 4))))],[],[(.sl (.st 4))],[],[]⟩
def Qa:List TOp:=[oo 35 (.mov (.tmp 6)),oo 2 (.mov (.tmp 35))]
def P1:Kp:=⟨[],[(2,false)],[],[],[]⟩
def V9:TFd:=⟨1,[(.tmp 2,.bool)],[],(.seq (.ops Rv) (.seq (.ops Rw) (.seq (.seq (.ops Rx) (.join Py Qc (.block 0 (.loop [0,3,9,10,11] [] Hk Qb P2)))) (.seq (.ops P4) (.seq (.seq (.ops P5) (.join P0 Qe (.block 2 (.loop [6,25,26,27] [] Pz Qd P3)))) (.seq (.ops Qa) (.keep P1 .ret)))))))⟩
noncomputable def Hx:Ent:=⟨[.ty (.sl (.sl (.st 4)))],[],[(.sl (.sl (.st 4)))],⟨(.ty (.sl (.st 4))),[],[],[(.sl (.st 4))],[],[]⟩,none,fun p=>Dw p⟩
theorem Si:Hx.ok Tryz.prog 93:=Aw hm Tryz.func93 (fd:=V9) (by kernel_rfl) (Al (l:=[(114,Zm)]) (y:=[]) ⟨Akz,trivial⟩ trivial) (by kernel_rfl) (fun p=>by kernel_rfl)
def A1d:List TOp:=[oo 4 (.mov .nils)]
def A1e:List TOp:=[oo 5 (.mov (.tmp 0)),ot 6 (.st 4) (.build [.pv (.int .i64 0),.pv (.str [])] [(0,1,(.tmp 5))]),ot 7 (.st 4) (.lit true 2 [(.tmp 6)]),oo 8 (.mov (.tmp 1)),oo 9 (.call 0 0 (.cst (.fn 93)) [(.tmp 8)] [] []),ot 10 (.st 4) (.append 7 2 24 (.tmp 7) (.tmp 9)),oo 4 (.mov (.tmp 10))]
def A1c:Kp:=⟨[.loc 7 0],[(4,true)],[],[],[]⟩
def Bbk:TFd:=⟨2,[(.tmp 4,.bool)],[],(.seq (.ops A1d) (.seq (.ops A1e) (.keep A1c .ret)))⟩
noncomputable def Ow:Ent:=⟨[.ty (.int .i64),.ty (.sl (.sl (.st 4)))],[],[(.int .i64),(.sl (.sl (.st 4)))],⟨(.ty (.sl (.st 4))),[],[],[(.sl (.st 4))],[],[]⟩,none,fun p=>Co p.1 p.2⟩
theorem Ul:Ow.ok Tryz.prog 57:=Aw hm Tryz.func57 (fd:=Bbk) (by kernel_rfl) (Al (l:=[(93,Hx)]) (y:=[]) ⟨Si,trivial⟩ trivial) (by kernel_rfl) (fun p=>by kernel_rfl)
def Aw9:List TOp:=[oo 0 (.mov .junk)]
def Axa:List TOp:=[om 1 .str (.st 5) (.mkmap .s),ot 2 (.st 5) (.build [.pv (.int .i64 0),.pv (.int .i64 0)] [(0,1,(.cst (.int .i64 13))),(1,1,(.cst (.int .i64 1)))]),on (.mset .s (.tmp 1) (.cst (.str [111,114])) (.tmp 2)),ot 3 (.st 5) (.build [.pv (.int .i64 0),.pv (.int .i64 0)] [(0,1,(.cst (.int .i64 12))),(1,1,(.cst (.int .i64 2)))]),on (.mset .s (.tmp 1) (.cst (.str [97,110,100])) (.tmp 3)),ot 4 (.st 5) (.build [.pv (.int .i64 0),.pv (.int .i64 0)] [(0,1,(.cst (.int .i64 7))),(1,1,(.cst (.int .i64 4)))]),on (.mset .s (.tmp 1) (.cst (.str [60])) (.tmp 4)),ot 5 (.st 5) (.build [.pv (.int .i64 0),.pv (.int .i64 0)] [(0,1,(.cst (.int .i64 8))),(1,1,(.cst (.int .i64 4)))]),on (.mset .s (.tmp 1) (.cst (.str [60,61])) (.tmp 5)),ot 6 (.st 5) (.build [.pv (.int .i64 0),.pv (.int .i64 0)] [(0,1,(.cst (.int .i64 9))),(1,1,(.cst (.int .i64 4)))]),on (.mset .s (.tmp 1) (.cst (.str [61])) (.tmp 6)),ot 7 (.st 5) (.build [.pv (.int .i64 0),.pv (.int .i64 0)] [(0,1,(.cst (.int .i64 10))),(1,1,(.cst (.int .i64 4)))]),on (.mset .s (.tmp 1) (.cst (.str [62])) (.tmp 7)),ot 8 (.st 5) (.build [.pv (.int .i64 0),.pv (.int .i64 0)] [(0,1,(.cst (.int .i64 11))),(1,1,(.cst (.int .i64 4)))]),on (.mset .s (.tmp 1) (.cst (.str [62,61])) (.tmp 8)),ot 9 (.st 5) (.build [.pv (.int .i64 0),.pv (.int .i64 0)] [(0,1,(.cst (.int .i64 3))),(1,1,(.cst (.int .i64 5)))]),on (.mset .s (.tmp 1) (.cst (.str [43])) (.tmp 9)),ot 10 (.st 5) (.build [.pv (.int .i64 0),.pv (.int .i64 0)] [(0,1,(.cst (.int .i64 4))),(1,1,(.cst (.int .i64 5)))]),on (.mset .s (.tmp 1) (.cst (.str [45])) (.tmp 10)),ot 11 (.st 5) (.build [.pv (.int .i64 0),.pv (.int .i64 0)] [(0,1,(.cst (.int .i64 5))),(1,1,(.cst (.int .i64 6)))]),on (.mset .s (.tmp 1) (.cst (.str [42])) (.tmp 11)),ot 12 (.st 5) (.build [.pv (.int .i64 0),.pv (.int .i64 0)] [(0,1,(.cst (.int .i64 6))),(1,1,(.cst (.int .i64 6)))]),on (.mset .s (.tmp 1) (.cst (.str [47])) (.tmp 12)),oo 13 (.mov (.tmp 1)),oo 0 (.mov (.tmp 13))]
def Aw8:Kp:=⟨[],[(0,false)],[(.loc 1 0,false)],[],[]⟩
def A7o:TFd:=⟨0,[(.tmp 0,.bool)],[.loc 1 0],(.seq (.ops Aw9) (.seq (.ops Axa) (.keep Aw8 .ret)))⟩
def Alk:Ent:=⟨[],[],[],⟨(.mp (.res 0)),[some (.map .str (.st 5))],[],[(.mp .str (.st 5))],[],[]⟩,none,fun p=>Ahq⟩
theorem Ahr:Alk.ok Tryz.prog 98:=Aw hm Tryz.func98 (fd:=A7o) (by kernel_rfl) (Al (l:=[]) (y:=[]) trivial trivial) (by kernel_rfl) (fun p=>by kernel_rfl)
def Yr:List TOp:=[oo 4 (.mov (.cst (.int .i64 0))),oo 5 (.mov (.cst (.bool false)))]
def Ys:List TOp:=[oo 8 (.mov (.tmp 0)),oo 9 (.nchk (.tmp 8)),oo 10 (.fld 2 (.tmp 9)),oo 11 (.load false 1 (.tmp 10)),oo 12 (.mov (.tmp 11)),og 13 12 false .bool (.mov (.tmp 0)),og 14 12 false .bool (.nchk (.tmp 13)),og 15 12 false .bool (.fld 1 (.tmp 14)),og 16 12 false .bool (.load false 1 (.tmp 15)),og 17 12 false .bool (.mov (.tmp 0)),og 18 12 false .bool (.nchk (.tmp 17)),og 19 12 false .bool (.fld 0 (.tmp 18)),og 20 12 false .bool (.load false 1 (.tmp 19)),og 21 12 false .bool (.len false (.tmp 20)),og 22 12 false .bool (.bin false .geq (.tmp 16) (.tmp 21)),oo 23 (.pick (.tmp 12) (.cst (.bool true)) (.tmp 22)),oo 24 (.mov (.tmp 23)),og 25 24 false .bool (.mov (.tmp 0)),og 26 24 false .bool (.nchk (.tmp 25)),og 27 24 false .bool (.fld 0 (.tmp 26)),og 28 24 false .bool (.load false 1 (.tmp 27)),og 29 24 false .bool (.mov (.tmp 0)),og 30 24 false .bool (.nchk (.tmp 29)),og 31 24 false .bool (.fld 1 (.tmp 30)),og 32 24 false .bool (.load false 1 (.tmp 31)),og 33 24 false .bool (.idx 4 (.tmp 28) (.tmp 32)),og 34 24 false .bool (.fld 0 (.tmp 33)),og 35 24 false .bool (.load false 1 (.tmp 34)),og 36 24 false .bool (.bin false .eql (.tmp 35) (.cst (.int .i64 2))),oo 37 (.pick (.tmp 24) (.cst (.bool true)) (.tmp 36))]
def Yt:List TOp:=[oo 4 (.mov (.cst (.int .i64 0))),oo 5 (.mov (.cst (.bool false)))]
def Ja:Kp:=⟨[],[(4,false),(5,false)],[(.ext 0,false)],[],[]⟩
def Yu:List TOp:=[oo 39 (.call 1 0 (.cst (.fn 98)) [] [] []),oo 40 (.mov (.tmp 0)),oo 41 (.nchk (.tmp 40)),oo 42 (.fld 0 (.tmp 41)),oo 43 (.load false 1 (.tmp 42)),oo 44 (.mov (.tmp 0)),oo 45 (.nchk (.tmp 44)),oo 46 (.fld 1 (.tmp 45)),oo 47 (.load false 1 (.tmp 46)),oo 48 (.idx 4 (.tmp 43) (.tmp 47)),oo 49 (.fld 3 (.tmp 48)),oo 50 (.load false 1 (.tmp 49)),oo 51 (.mlook .s true (.agg [(.int .i64 0),(.int .i64 0)]) (.tmp 39) (.tmp 50)),oo 38 (.mov (.tmp 51)),oo 52 (.ext 0 (.tmp 38)),oo 53 (.ext 1 (.tmp 38)),oo 6 (.alloc [.pv (.int .i64 0),.pv (.int .i64 0)]),on (.store 2 (.tmp 6) (.tmp 52)),oo 7 (.mov (.tmp 53))]
def Yv:List TOp:=[oo 54 (.fld 0 (.tmp 6)),oo 55 (.load false 1 (.tmp 54)),oo 56 (.mov (.tmp 7)),oo 57 (.mov (.tmp 56)),og 58 57 true .bool (.fld 1 (.tmp 6)),og 59 57 true .bool (.load false 1 (.tmp 58)),og 60 57 true .bool (.mov (.tmp 1)),og 61 57 true .bool (.bin false .eql (.tmp 59) (.tmp 60)),oo 62 (.pick (.tmp 57) (.tmp 61) (.cst (.bool false))),oo 4 (.mov (.tmp 55)),oo 5 (.mov (.tmp 62))]
def Af2:TFd:=⟨2,[(.tmp 4,.bool),(.tmp 5,.bool)],[],(.seq (.ops Yr) (.seq (.seq (.draw [] Ys) (.cond (.tmp 37) (.free (.seq (.ops Yt) (.keep Ja .ret))) .skip)) (.seq (.draw [.loc 39 0,.loc 6 0] Yu) (.seq (.draw [] Yv) (.keep Ja .ret)))))⟩
def Jx:Ent:=⟨[.ptr (.ext 0) 0,.ty (.int .i64)],[.st 3],[(.int .i64),(.st 3)],⟨(.tup [(.ty (.int .i64)),(.ty .bool)]),[],[some .same],[(.int .i64),.bool],[],[]⟩,none,fun p=>Ce p.1 p.2⟩
theorem W4:Jx.ok Tryz.prog 92:=Aw hm Tryz.func92 (fd:=Af2) (by kernel_rfl) (Al (l:=[(98,Alk)]) (y:=[]) ⟨Ahr,trivial⟩ trivial) (by kernel_rfl) (fun p=>by kernel_rfl)
def Akf:List TOp:=[oo 2 (.mov .nils)]
def Akg:List TOp:=[oo 5 (.mov (.tmp 0)),oo 6 (.call 0 2 (.cst (.fn 54)) [(.tmp 5),(.cst (.str [105,102]))] [] [.ext 0]),oo 7 (.un .not (.tmp 6))]
def Akh:List TOp:=[oo 8 (.mov (.tmp 0)),oo 9 (.call 0 2 (.cst (.fn 55)) [(.tmp 8),(.cst (.int .i64 1))] [] [.ext 0]),oo 2 (.mov (.tmp 9))]
def Oi:Kp:=⟨[],[(2,false)],[(.ext 0,false)],[],[]⟩
def Aki:List TOp:=[oo 10 (.mov (.tmp 0)),oo 11 (.call 0 2 (.cst (.fn 30)) [(.tmp 10)] [] [.ext 0]),oo 3 (.mov (.tmp 11))]
def Akj:List TOp:=[oo 12 (.mov (.tmp 0)),ot 13 .str (.lit false 1 [(.cst (.str [116,104,101,110]))]),oo 14 (.call 0 2 (.cst (.fn 56)) [(.tmp 12),(.tmp 13)] [] [.ext 0])]
def Akk:List TOp:=[oo 15 (.mov (.tmp 0)),oo 16 (.call 0 2 (.cst (.fn 30)) [(.tmp 15)] [] [.ext 0]),oo 4 (.mov (.tmp 16))]
def Akl:List TOp:=[oo 17 (.mov (.tmp 0)),ot 18 .str (.lit false 1 [(.cst (.str [101,108,115,101]))]),oo 19 (.call 0 2 (.cst (.fn 56)) [(.tmp 17),(.tmp 18)] [] [.ext 0])]
def Akm:List TOp:=[oo 20 (.mov (.tmp 3)),oo 21 (.mov (.tmp 4)),oo 22 (.mov (.tmp 0)),oo 23 (.call 0 2 (.cst (.fn 30)) [(.tmp 22)] [] [.ext 0]),ot 24 (.sl (.st 4)) (.lit false 1 [(.tmp 20),(.tmp 21),(.tmp 23)]),oo 25 (.call 0 0 (.cst (.fn 57)) [(.cst (.int .i64 15)),(.tmp 24)] [] []),oo 2 (.mov (.tmp 25))]
def Apc:TFd:=⟨1,[(.tmp 2,.bool)],[],(.seq (.ops Akf) (.seq (.seq (.ops Akg) (.cond (.tmp 7) (.free (.seq (.ops Akh) (.keep Oi .ret))) .skip)) (.seq (.ops Aki) (.seq (.ops Akj) (.seq (.ops Akk) (.seq (.ops Akl) (.seq (.ops Akm) (.keep Oi .ret))))))))⟩
noncomputable def Dg(fuel:Nat):Ent:=⟨[.ptr (.ext 0) 0],[.st 3],[(.st 3)],⟨(.ty (.sl (.st 4))),[],[some (.st 3)],[(.sl (.st 4)),(.st 3)],[],[]⟩,none,fun p=>parse_reader_any fuel p⟩
def Af3:List TOp:=[oo 4 (.mov .nils)]
def Af4:List TOp:=[oo 8 (.mov (.tmp 0)),oo 9 (.nchk (.tmp 8)),oo 10 (.fld 2 (.tmp 9)),oo 11 (.load false 1 (.tmp 10))]
def Af5:List TOp:=[oo 4 (.mov .nils)]
def Cv:Kp:=⟨[],[(4,true)],[(.ext 0,false)],[],[]⟩
def Af6:List TOp:=[oo 12 (.mov (.tmp 1))]
def Af7:List TOp:=[oo 14 (.bin false .eql (.tmp 12) (.cst (.int .i64 3))),oo 13 (.mov (.tmp 14))]
def Af8:List TOp:=[oo 15 (.mov (.tmp 0)),oo 16 (.call 0 2 (.cst (.fn 54)) [(.tmp 15),(.cst (.str [110,111,116]))] [] [.ext 0])]
def Af9:List TOp:=[oo 17 (.mov (.tmp 0)),oo 18 (.call 0 2 (.cst (.fn 55)) [(.tmp 17),(.cst (.int .i64 3))] [] [.ext 0]),ot 19 (.sl (.st 4)) (.lit false 1 [(.tmp 18)]),oo 20 (.call 0 0 (.cst (.fn 57)) [(.cst (.int .i64 14)),(.tmp 19)] [] []),oo 4 (.mov (.tmp 20))]
def Aga:List TOp:=[oo 21 (.mov (.tmp 0)),oo 22 (.call 0 2 (.cst (.fn 55)) [(.tmp 21),(.cst (.int .i64 4))] [] [.ext 0]),oo 4 (.mov (.tmp 22))]
def Agb:List TOp:=[oo 24 (.bin false .eql (.tmp 12) (.cst (.int .i64 7))),oo 23 (.mov (.tmp 24))]
def Ac4:List TOp:=[oo 25 (.mov (.tmp 0)),oo 26 (.call 0 2 (.cst (.fn 54)) [(.tmp 25),(.cst (.str [45]))] [] [.ext 0])]
def Ac5:List TOp:=[oo 27 (.mov (.tmp 0)),oo 28 (.call 0 2 (.cst (.fn 55)) [(.tmp 27),(.cst (.int .i64 7))] [] [.ext 0]),ot 29 (.sl (.st 4)) (.lit false 1 [(.tmp 28)]),oo 30 (.call 0 0 (.cst (.fn 57)) [(.cst (.int .i64 2)),(.tmp 29)] [] []),oo 4 (.mov (.tmp 30))]
def Ac6:List TOp:=[oo 31 (.mov (.tmp 0)),oo 32 (.call 0 2 (.cst (.fn 91)) [(.tmp 31)] [] [.ext 0]),oo 4 (.mov (.tmp 32))]
def Ac7:List TOp:=[oo 33 (.mov (.tmp 0)),oo 34 (.mov (.tmp 1)),oo 35 (.bin false .add (.tmp 34) (.cst (.int .i64 1))),oo 36 (.call 0 2 (.cst (.fn 55)) [(.tmp 33),(.tmp 35)] [] [.ext 0]),oo 5 (.mov (.tmp 36))]
def Ac8:List TOp:=[oo 38 (.mov (.tmp 0)),oo 39 (.mov (.tmp 1)),oo 40 (.call 0 2 (.cst (.fn 92)) [(.tmp 38),(.tmp 39)] [] [.ext 0]),oo 37 (.mov (.tmp 40)),oo 41 (.ext 0 (.tmp 37)),oo 42 (.ext 1 (.tmp 37)),oo 6 (.mov (.tmp 41)),oo 7 (.mov (.tmp 42))]
def Ac9:List TOp:=[oo 43 (.mov (.tmp 7))]
def Ada:List TOp:=[oo 50 (.mov (.tmp 0)),oo 51 (.nchk (.tmp 50)),oo 52 (.fld 1 (.tmp 51)),oo 53 (.load false 1 (.tmp 52)),oo 54 (.bin false .add (.tmp 53) (.cst (.int .i64 1))),oo 55 (.nchk (.tmp 50)),oo 56 (.fld 1 (.tmp 55)),on (.store 1 (.tmp 56) (.tmp 54))]
def Adb:List TOp:=[oo 57 (.mov (.tmp 6)),oo 58 (.mov (.tmp 5)),oo 59 (.mov (.tmp 0)),oo 60 (.mov (.tmp 1)),oo 61 (.bin false .add (.tmp 60) (.cst (.int .i64 1))),oo 62 (.call 0 2 (.cst (.fn 55)) [(.tmp 59),(.tmp 61)] [] [.ext 0]),ot 63 (.sl (.st 4)) (.lit false 1 [(.tmp 58),(.tmp 62)]),oo 64 (.call 0 0 (.cst (.fn 57)) [(.tmp 57),(.tmp 63)] [] []),oo 5 (.mov (.tmp 64))]
def Adc:List TOp:=[oo 65 (.mov (.tmp 1)),oo 66 (.bin false .eql (.tmp 65) (.cst (.int .i64 4)))]
def Add:List TOp:=[oo 45 (.mov (.tmp 0)),oo 46 (.mov (.tmp 1)),oo 47 (.call 0 2 (.cst (.fn 92)) [(.tmp 45),(.tmp 46)] [] [.ext 0]),oo 44 (.mov (.tmp 47)),oo 48 (.ext 0 (.tmp 44)),oo 49 (.ext 1 (.tmp 44)),oo 6 (.mov (.tmp 48)),oo 7 (.mov (.tmp 49))]
def Ac3:DC:=(.seq (.seq (.ops Ac9) (.cond (.tmp 43) .skip (.exit 1))) (.seq (.pass 2 (.seq (.ops Ada) (.seq (.ops Adb) (.seq (.ops Adc) (.cond (.tmp 66) (.exit 1) .skip))))) (.ops Add)))
def Ac1:Kp:=⟨[],[(0,false),(1,false),(5,false),(6,false),(7,false)],[(.ext 0,false)],[],[]⟩
def Adf:Sig:=⟨[(0,some (.ptr (.ext 0) 0)),(1,none),(5,some (.ty (.sl (.st 4)))),(6,some (.ty (.int .i64))),(7,some (.ty .bool))],[(.ext 0,(.st 3))],[(.sl (.st 4)),(.int .i64),.bool,(.st 3)],[],[]⟩
def Ac2:Kp:=⟨[],[(5,false)],[(.ext 0,false)],[],[]⟩
def Adg:Sig:=⟨[(5,some (.ty (.sl (.st 4))))],[(.ext 0,(.st 3))],[(.sl (.st 4)),(.st 3)],[],[]⟩
def Ade:List TOp:=[oo 67 (.mov (.tmp 5)),oo 4 (.mov (.tmp 67))]
def Akw:TFd:=⟨2,[(.tmp 4,.bool)],[],(.seq (.ops Af3) (.seq (.seq (.ops Af4) (.cond (.tmp 11) (.free (.seq (.ops Af5) (.keep Cv .ret))) .skip)) (.seq (.seq (.ops Af6) (.pass 0 (.seq (.ops Af7) (.cond (.tmp 13) (.free (.seq (.seq (.ops Af8) (.cond (.tmp 16) (.free (.seq (.ops Af9) (.keep Cv .ret))) .skip)) (.seq (.ops Aga) (.keep Cv .ret)))) (.seq (.ops Agb) (.cond (.tmp 23) (.free (.seq (.seq (.ops Ac4) (.cond (.tmp 26) (.free (.seq (.ops Ac5) (.keep Cv .ret))) .skip)) (.seq (.ops Ac6) (.keep Cv .ret)))) .skip)))))) (.seq (.ops Ac7) (.seq (.seq (.ops Ac8) (.join Ac2 Adg (.block 1 (.loop [0,1,5,6,7] [] Ac1 Adf Ac3)))) (.seq (.ops Ade) (.keep Cv .ret)))))))⟩
noncomputable def Hi(fuel:Nat):Ent:=⟨[.ptr (.ext 0) 0,.ty (.int .i64)],[.st 3],[(.int .i64),(.st 3)],⟨(.ty (.sl (.st 4))),[],[some (.st 3)],[(.sl (.st 4)),(.st 3)],[],[]⟩,none,fun p=>parse_reader_level fuel p.1 p.2⟩
def Yw:List TOp:=[oo 2 (.mov .nils)]
def Yx:List TOp:=[oo 9 (.mov (.tmp 0)),oo 10 (.call 0 2 (.cst (.fn 54)) [(.tmp 9),(.cst (.str [40]))] [] [.ext 0]),oo 8 (.mov (.tmp 10))]
def Yy:List TOp:=[oo 11 (.mov (.tmp 0)),oo 12 (.call 0 2 (.cst (.fn 30)) [(.tmp 11)] [] [.ext 0]),oo 3 (.mov (.tmp 12))]
def Yz:List TOp:=[oo 13 (.mov (.tmp 0)),ot 14 .str (.lit false 1 [(.cst (.str [41]))]),oo 15 (.call 0 2 (.cst (.fn 56)) [(.tmp 13),(.tmp 14)] [] [.ext 0])]
def Y0:List TOp:=[oo 16 (.mov (.tmp 3)),oo 2 (.mov (.tmp 16))]
def Dv:Kp:=⟨[],[(2,false)],[(.ext 0,false)],[],[]⟩
def Y1:List TOp:=[oo 18 (.mov (.tmp 0)),oo 19 (.call 0 2 (.cst (.fn 63)) [(.tmp 18),(.cst (.str [109,105,110]))] [] [.ext 0]),oo 20 (.mov (.tmp 19)),og 21 20 false .bool (.mov (.tmp 0)),og 22 20 false .bool (.call 0 2 (.cst (.fn 63)) [(.tmp 21),(.cst (.str [109,97,120]))] [] [.ext 0]),oo 23 (.pick (.tmp 20) (.cst (.bool true)) (.tmp 22)),oo 17 (.mov (.tmp 23))]
def Y2:List TOp:=[oo 4 (.mov (.cst (.int .i64 16)))]
def Y3:List TOp:=[oo 24 (.mov (.tmp 0)),oo 25 (.call 0 2 (.cst (.fn 63)) [(.tmp 24),(.cst (.str [109,97,120]))] [] [.ext 0])]
def Y4:List TOp:=[oo 4 (.mov (.cst (.int .i64 17)))]
def U8:Kp:=⟨[],[(0,false),(4,false)],[(.ext 0,false)],[],[]⟩
def Vn:Sig:=⟨[(0,some (.ptr (.ext 0) 0)),(4,some (.ty (.int .i64)))],[(.ext 0,(.box [none,none,none]))],[(.int .i64)],[],[]⟩
def Va:List TOp:=[oo 26 (.mov (.tmp 0)),oo 27 (.nchk (.tmp 26)),oo 28 (.fld 1 (.tmp 27)),oo 29 (.load false 1 (.tmp 28)),oo 30 (.bin false .add (.tmp 29) (.cst (.int .i64 1))),oo 31 (.nchk (.tmp 26)),oo 32 (.fld 1 (.tmp 31)),on (.store 1 (.tmp 32) (.tmp 30))]
def Vb:List TOp:=[oo 33 (.mov (.tmp 0)),ot 34 .str (.lit false 1 [(.cst (.str [40]))]),oo 35 (.call 0 2 (.cst (.fn 56)) [(.tmp 33),(.tmp 34)] [] [.ext 0])]
def Vc:List TOp:=[oo 36 (.mov (.tmp 0)),oo 37 (.call 0 2 (.cst (.fn 30)) [(.tmp 36)] [] [.ext 0]),oo 5 (.mov (.tmp 37))]
def Vd:List TOp:=[oo 38 (.mov (.tmp 0)),ot 39 .str (.lit false 1 [(.cst (.str [44]))]),oo 40 (.call 0 2 (.cst (.fn 56)) [(.tmp 38),(.tmp 39)] [] [.ext 0])]
def Ve:List TOp:=[oo 41 (.mov (.tmp 0)),oo 42 (.call 0 2 (.cst (.fn 30)) [(.tmp 41)] [] [.ext 0]),oo 6 (.mov (.tmp 42))]
def Vf:List TOp:=[oo 43 (.mov (.tmp 0)),ot 44 .str (.lit false 1 [(.cst (.str [41]))]),oo 45 (.call 0 2 (.cst (.fn 56)) [(.tmp 43),(.tmp 44)] [] [.ext 0])]
def Vg:List TOp:=[oo 46 (.mov (.tmp 4)),oo 47 (.mov (.tmp 5)),oo 48 (.mov (.tmp 6)),ot 49 (.sl (.st 4)) (.lit false 1 [(.tmp 47),(.tmp 48)]),oo 50 (.call 0 0 (.cst (.fn 57)) [(.tmp 46),(.tmp 49)] [] []),oo 2 (.mov (.tmp 50))]
def Vh:List TOp:=[oo 52 (.mov (.tmp 0)),oo 53 (.nchk (.tmp 52)),oo 54 (.fld 1 (.tmp 53)),oo 55 (.load false 1 (.tmp 54)),oo 56 (.mov (.tmp 0)),oo 57 (.nchk (.tmp 56)),oo 58 (.fld 0 (.tmp 57)),oo 59 (.load false 1 (.tmp 58)),oo 60 (.len false (.tmp 59)),oo 61 (.bin false .lss (.tmp 55) (.tmp 60)),oo 62 (.mov (.tmp 61)),og 63 62 true .bool (.mov (.tmp 0)),og 64 62 true .bool (.nchk (.tmp 63)),og 65 62 true .bool (.fld 0 (.tmp 64)),og 66 62 true .bool (.load false 1 (.tmp 65)),og 67 62 true .bool (.mov (.tmp 0)),og 68 62 true .bool (.nchk (.tmp 67)),og 69 62 true .bool (.fld 1 (.tmp 68)),og 70 62 true .bool (.load false 1 (.tmp 69)),og 71 62 true .bool (.idx 4 (.tmp 66) (.tmp 70)),og 72 62 true .bool (.fld 0 (.tmp 71)),og 73 62 true .bool (.load false 1 (.tmp 72)),og 74 62 true .bool (.bin false .eql (.tmp 73) (.cst (.int .i64 1))),oo 75 (.pick (.tmp 62) (.tmp 74) (.cst (.bool false))),oo 51 (.mov (.tmp 75))]
def Vi:List TOp:=[oo 76 (.mov (.tmp 0)),oo 77 (.call 0 2 (.cst (.fn 61)) [(.tmp 76),(.cst (.int .i64 1)),(.cst (.bool false))] [] [.ext 0]),oo 7 (.mov (.tmp 77))]
def Vj:List TOp:=[oo 78 (.mov (.tmp 0)),oo 79 (.call 0 2 (.cst (.fn 54)) [(.tmp 78),(.cst (.str [37]))] [] [.ext 0])]
def Vk:List TOp:=[oo 80 (.mov (.tmp 7)),oo 81 (.bin false .add (.tmp 80) (.cst (.str [37]))),oo 7 (.mov (.tmp 81))]
def U9:Kp:=⟨[],[(7,false)],[(.ext 0,false)],[],[]⟩
def Vo:Sig:=⟨[(7,some (.ty .str))],[(.ext 0,(.box [none,none,none]))],[.str],[],[]⟩
def Vl:List TOp:=[oo 82 (.mov (.tmp 7)),ot 83 (.st 4) (.build [.pv (.int .i64 0),.pv (.str [])] [(0,1,(.cst (.int .i64 0))),(1,1,(.tmp 82))]),ot 84 (.st 4) (.lit false 2 [(.tmp 83)]),oo 2 (.mov (.tmp 84))]
def Vm:List TOp:=[oo 85 (.mov (.tmp 0)),oo 86 (.call 0 2 (.cst (.fn 61)) [(.tmp 85),(.cst (.int .i64 0)),(.cst (.bool false))] [] [.ext 0]),ot 87 (.st 4) (.build [.pv (.int .i64 0),.pv (.str [])] [(0,1,(.cst (.int .i64 1))),(1,1,(.tmp 86))]),ot 88 (.st 4) (.lit false 2 [(.tmp 87)]),oo 2 (.mov (.tmp 88))]
def Agc:TFd:=⟨1,[(.tmp 2,.bool)],[],(.seq (.ops Yw) (.seq (.pass 0 (.seq (.ops Yx) (.cond (.tmp 8) (.free (.seq (.ops Yy) (.seq (.ops Yz) (.seq (.ops Y0) (.keep Dv .ret))))) (.seq (.ops Y1) (.cond (.tmp 17) (.free (.seq (.ops Y2) (.seq (.seq (.ops Y3) (.join U8 Vn (.cond (.tmp 25) (.ops Y4) .skip))) (.seq (.ops Va) (.seq (.ops Vb) (.seq (.ops Vc) (.seq (.ops Vd) (.seq (.ops Ve) (.seq (.ops Vf) (.seq (.ops Vg) (.keep Dv .ret))))))))))) (.seq (.draw [] Vh) (.cond (.tmp 51) (.free (.seq (.ops Vi) (.seq (.seq (.ops Vj) (.join U9 Vo (.cond (.tmp 79) (.ops Vk) .skip))) (.seq (.ops Vl) (.keep Dv .ret))))) .skip))))))) (.seq (.ops Vm) (.keep Dv .ret))))⟩
noncomputable def Jy(fuel:Nat):Ent:=⟨[.ptr (.ext 0) 0],[.st 3],[(.st 3)],⟨(.ty (.sl (.st 4))),[],[some (.st 3)],[(.sl (.st 4)),(.st 3)],[],[]⟩,none,fun p=>parse_reader_primary fuel p⟩
theorem B2: ∀fuel:Nat,(Dg fuel).ok Tryz.prog 30∧(Hi fuel).ok Tryz.prog 55∧(Jy fuel).ok Tryz.prog 91
 |0=>⟨(fun p r h=>(by have h:none=some r:=h;cases h)),(fun p r h=>(by have h:none=some r:=h;cases h)),(fun p r h=>(by have h:none=some r:=h;cases h))⟩
 |fuel+1=>⟨
  Aw hm Tryz.func30 (fd:=Apc) (by kernel_rfl) (Al (l:=[(54,D2),(55,(Hi fuel)),(30,(Dg fuel)),(56,D1),(57,Ow)]) (y:=[]) ⟨E5,(B2 fuel).2.1,(B2 fuel).1,E4,Ul,trivial⟩ trivial) (by kernel_rfl) (fun p=>by kernel_rfl),
  Aw hm Tryz.func55 (fd:=Akw) (by kernel_rfl) (Al (l:=[(54,D2),(55,(Hi fuel)),(57,Ow),(91,(Jy fuel)),(92,Jx)]) (y:=[]) ⟨E5,(B2 fuel).2.1,Ul,(B2 fuel).2.2,W4,trivial⟩ trivial) (by kernel_rfl) (fun p=>by kernel_rfl),
  Aw hm Tryz.func91 (fd:=Agc) (by kernel_rfl) (Al (l:=[(54,D2),(30,(Dg fuel)),(56,D1),(63,G1),(57,Ow),(61,Fk)]) (y:=[]) ⟨E5,(B2 fuel).1,E4,It,Ul,Hj,trivial⟩ trivial) (by kernel_rfl) (fun p=>by kernel_rfl)⟩
theorem Og(fuel:Nat):(Dg fuel).ok Tryz.prog 30:=(B2 fuel).1
def A6x:List TOp:=[oo 2 (.mov (.cst (.int .i64 0)))]
def A6y:List TOp:=[oo 4 (.mov (.tmp 0)),oo 5 (.bin false .lss (.tmp 4) (.cst (.int .i64 0))),oo 6 (.mov (.tmp 5)),og 7 6 false .bool (.mov (.tmp 0)),og 8 6 false .bool (.bin false .gtr (.tmp 7) (.cst (.int .i64 17))),oo 9 (.pick (.tmp 6) (.cst (.bool true)) (.tmp 8)),oo 3 (.mov (.tmp 9))]
def A6z:List TOp:=[oo 2 (.mov (.cst (.int .i64 (-1))))]
def J4:Kp:=⟨[],[(2,false)],[],[],[]⟩
def A60:List TOp:=[oo 11 (.mov (.tmp 0)),oo 12 (.bin false .leq (.tmp 11) (.cst (.int .i64 1))),oo 10 (.mov (.tmp 12))]
def A61:List TOp:=[oo 2 (.mov (.cst (.int .i64 0)))]
def A62:List TOp:=[oo 14 (.mov (.tmp 0)),oo 15 (.bin false .eql (.tmp 14) (.cst (.int .i64 2))),oo 16 (.mov (.tmp 15)),og 17 16 false .bool (.mov (.tmp 0)),og 18 16 false .bool (.bin false .eql (.tmp 17) (.cst (.int .i64 14))),oo 19 (.pick (.tmp 16) (.cst (.bool true)) (.tmp 18)),oo 13 (.mov (.tmp 19))]
def A63:List TOp:=[oo 2 (.mov (.cst (.int .i64 1)))]
def A64:List TOp:=[oo 21 (.mov (.tmp 0)),oo 22 (.bin false .eql (.tmp 21) (.cst (.int .i64 15))),oo 20 (.mov (.tmp 22))]
def A65:List TOp:=[oo 2 (.mov (.cst (.int .i64 3)))]
def A0s:List TOp:=[oo 2 (.mov (.cst (.int .i64 2)))]
def Bfa:TFd:=⟨1,[(.tmp 2,.bool)],[],(.seq (.ops A6x) (.seq (.pass 0 (.seq (.ops A6y) (.cond (.tmp 3) (.free (.seq (.ops A6z) (.keep J4 .ret))) (.seq (.ops A60) (.cond (.tmp 10) (.free (.seq (.ops A61) (.keep J4 .ret))) (.seq (.ops A62) (.cond (.tmp 13) (.free (.seq (.ops A63) (.keep J4 .ret))) (.seq (.ops A64) (.cond (.tmp 20) (.free (.seq (.ops A65) (.keep J4 .ret))) .skip))))))))) (.seq (.ops A0s) (.keep J4 .ret))))⟩
def Ahn:Ent:=⟨[.ty (.int .i64)],[],[(.int .i64)],⟨(.ty (.int .i64)),[],[],[(.int .i64)],[],[]⟩,none,fun p=>Qw p⟩
theorem Aov:Ahn.ok Tryz.prog 68:=Aw hm Tryz.func68 (fd:=Bfa) (by kernel_rfl) (Al (l:=[]) (y:=[]) trivial trivial) (by kernel_rfl) (fun p=>by kernel_rfl)
def Wf:List TOp:=[oo 4 (.mov (.cst (.bool false)))]
def Wg:List TOp:=[oo 5 (.mov (.tmp 0)),oo 6 (.len true (.tmp 5)),oo 7 (.mov (.tmp 1)),oo 8 (.len true (.tmp 7)),oo 9 (.bin false .geq (.tmp 6) (.tmp 8)),oo 10 (.mov (.tmp 9)),og 11 10 true .bool (.mov (.tmp 0)),og 12 10 true .bool (.mov (.tmp 0)),og 13 10 true .bool (.len true (.tmp 12)),og 14 10 true .bool (.mov (.tmp 1)),og 15 10 true .bool (.len true (.tmp 14)),og 16 10 true .bool (.bin false .sub (.tmp 13) (.tmp 15)),og 17 10 true .bool (.slc true 0 (.tmp 11) (some (.tmp 16)) none),og 18 10 true .bool (.mov (.tmp 1)),og 19 10 true .bool (.bin false .eql (.tmp 17) (.tmp 18)),oo 20 (.pick (.tmp 10) (.tmp 19) (.cst (.bool false))),oo 4 (.mov (.tmp 20))]
def We:Kp:=⟨[],[(4,false)],[],[],[]⟩
def Adi:TFd:=⟨2,[(.tmp 4,.bool)],[],(.seq (.ops Wf) (.seq (.ops Wg) (.keep We .ret)))⟩
def Fx:Ent:=⟨[.ty .str,.ty .str],[],[.str,.str],⟨(.ty .bool),[],[],[.bool],[],[]⟩,none,fun p=>stringslite_HasSuffix p.1 p.2⟩
theorem Ih:Fx.ok Tryz.prog 140:=Aw hm Tryz.func140 (fd:=Adi) (by kernel_rfl) (Al (l:=[]) (y:=[]) trivial trivial) (by kernel_rfl) (fun p=>by kernel_rfl)
def Tf:List TOp:=[oo 4 (.mov (.cst (.str [])))]
def Tg:List TOp:=[oo 5 (.mov (.tmp 0)),oo 6 (.mov (.tmp 1)),oo 7 (.call 0 0 (.cst (.fn 140)) [(.tmp 5),(.tmp 6)] [] [])]
def Th:List TOp:=[oo 8 (.mov (.tmp 0)),oo 9 (.mov (.tmp 0)),oo 10 (.len true (.tmp 9)),oo 11 (.mov (.tmp 1)),oo 12 (.len true (.tmp 11)),oo 13 (.bin false .sub (.tmp 10) (.tmp 12)),oo 14 (.slc true 0 (.tmp 8) none (some (.tmp 13))),oo 4 (.mov (.tmp 14))]
def Hw:Kp:=⟨[],[(4,false)],[],[],[]⟩
def Ti:List TOp:=[oo 15 (.mov (.tmp 0)),oo 4 (.mov (.tmp 15))]
def Zi:TFd:=⟨2,[(.tmp 4,.bool)],[],(.seq (.ops Tf) (.seq (.seq (.ops Tg) (.cond (.tmp 7) (.free (.seq (.ops Th) (.keep Hw .ret))) .skip)) (.seq (.ops Ti) (.keep Hw .ret))))⟩
def Ii:Ent:=⟨[.ty .str,.ty .str],[],[.str,.str],⟨(.ty .str),[],[],[.str],[],[]⟩,none,fun p=>stringslite_TrimSuffix p.1 p.2⟩
theorem Tm:Ii.ok Tryz.prog 120:=Aw hm Tryz.func120 (fd:=Zi) (by kernel_rfl) (Al (l:=[(140,Fx)]) (y:=[]) ⟨Ih,trivial⟩ trivial) (by kernel_rfl) (fun p=>by kernel_rfl)
def Agf:List TOp:=[oo 4 (.mov (.cst (.str [])))]
def Agg:List TOp:=[oo 5 (.mov (.tmp 0)),oo 6 (.mov (.tmp 1)),oo 7 (.call 0 0 (.cst (.fn 120)) [(.tmp 5),(.tmp 6)] [] []),oo 4 (.mov (.tmp 7))]
def Age:Kp:=⟨[],[(4,false)],[],[],[]⟩
def Akx:TFd:=⟨2,[(.tmp 4,.bool)],[],(.seq (.ops Agf) (.seq (.ops Agg) (.keep Age .ret)))⟩
def N3:Ent:=⟨[.ty .str,.ty .str],[],[.str,.str],⟨(.ty .str),[],[],[.str],[],[]⟩,none,fun p=>strings_TrimSuffix p.1 p.2⟩
theorem Agj:N3.ok Tryz.prog 106:=Aw hm Tryz.func106 (fd:=Akx) (by kernel_rfl) (Al (l:=[(120,Ii)]) (y:=[]) ⟨Tm,trivial⟩ trivial) (by kernel_rfl) (fun p=>by kernel_rfl)
def A5h:List TOp:=[oo 1 (.box (.tmp 0)),oo 2 (.mov (.cst (.bool false)))]
def A5i:List TOp:=[oo 6 (.fld 3 (.tmp 1)),oo 7 (.load false 1 (.tmp 6)),oo 8 (.bin false .eql (.tmp 7) (.cst (.str [])))]
def A5j:List TOp:=[oo 2 (.mov (.cst (.bool false)))]
def Aoz:Kp:=⟨[],[(2,false)],[],[],[]⟩
def A5k:List TOp:=[oo 10 (.fld 3 (.tmp 1)),oo 11 (.load false 1 (.tmp 10)),oo 12 (.call 0 0 (.cst (.fn 89)) [(.tmp 11)] [] []),oo 9 (.mov (.tmp 12)),oo 13 (.ext 0 (.tmp 9)),oo 14 (.ext 1 (.tmp 9)),oo 15 (.ext 2 (.tmp 9)),oo 3 (.mov (.tmp 13)),oo 4 (.mov (.tmp 14)),oo 5 (.mov (.tmp 15))]
def A5l:List TOp:=[oo 16 (.mov (.tmp 5)),oo 17 (.bin false .eql (.tmp 16) (.cst (.int .i64 0))),oo 18 (.mov (.tmp 17)),og 19 18 true .bool (.mov (.tmp 3)),og 20 18 true .bool (.fld 0 (.tmp 1)),og 21 18 true .bool (.load false 1 (.tmp 20)),og 22 18 true .bool (.bin false .eql (.tmp 19) (.tmp 21)),oo 23 (.pick (.tmp 18) (.tmp 22) (.cst (.bool false))),oo 24 (.mov (.tmp 23)),og 25 24 true .bool (.mov (.tmp 4)),og 26 24 true .bool (.fld 3 (.tmp 1)),og 27 24 true .bool (.load false 1 (.tmp 26)),og 28 24 true .bool (.len true (.tmp 27)),og 29 24 true .bool (.bin false .eql (.tmp 25) (.tmp 28)),oo 30 (.pick (.tmp 24) (.tmp 29) (.cst (.bool false))),oo 2 (.mov (.tmp 30))]
def Bex:TFd:=⟨1,[(.tmp 2,.bool)],[],(.seq (.ops A5h) (.seq (.seq (.ops A5i) (.cond (.tmp 8) (.free (.seq (.ops A5j) (.keep Aoz .ret))) .skip)) (.seq (.ops A5k) (.seq (.ops A5l) (.keep Aoz .ret)))))⟩
noncomputable def Ag7:Ent:=⟨[.ty (.st 2)],[],[(.st 2)],⟨(.ty .bool),[],[],[.bool],[],[]⟩,none,fun p=>Wx p⟩
theorem Aoh:Ag7.ok Tryz.prog 103:=Aw hm Tryz.func103 (fd:=Bex) (by kernel_rfl) (Al (l:=[(89,Amd)]) (y:=[]) ⟨Aru,trivial⟩ trivial) (by kernel_rfl) (fun p=>by kernel_rfl)
def Asq:List TOp:=[oo 2 (.mov (.cst (.bool false)))]
def Asr:List TOp:=[oo 3 (.mov (.tmp 0)),ot 4 (.st 2) (.build [.pv (.int .i64 0),.pv (.int .i64 0),.pv (.int .i64 0),.pv (.str [])] [(0,1,(.cst (.int .i64 1))),(3,1,(.tmp 3))]),oo 5 (.call 0 0 (.cst (.fn 103)) [(.tmp 4)] [] []),oo 2 (.mov (.tmp 5))]
def Asp:Kp:=⟨[],[(2,false)],[],[],[]⟩
def A1f:TFd:=⟨1,[(.tmp 2,.bool)],[],(.seq (.ops Asq) (.seq (.ops Asr) (.keep Asp .ret)))⟩
noncomputable def Jw:Ent:=⟨[.ty .str],[],[.str],⟨(.ty .bool),[],[],[.bool],[],[]⟩,none,fun p=>E3 p⟩
theorem N9:Jw.ok Tryz.prog 75:=Aw hm Tryz.func75 (fd:=A1f) (by kernel_rfl) (Al (l:=[(103,Ag7)]) (y:=[]) ⟨Aoh,trivial⟩ trivial) (by kernel_rfl) (fun p=>by kernel_rfl)
def A1q:List TOp:=[oo 4 (.mov (.cst (.bool false)))]
def A1r:List TOp:=[oo 5 (.mov (.tmp 0)),ot 6 (.st 2) (.build [.pv (.int .i64 0),.pv (.int .i64 0),.pv (.int .i64 0),.pv (.str [])] [(0,1,(.cst (.int .i64 0))),(3,1,(.tmp 5))]),oo 7 (.call 0 0 (.cst (.fn 103)) [(.tmp 6)] [] []),oo 8 (.mov (.tmp 7)),og 9 8 true .bool (.mov (.tmp 0)),og 10 8 true .bool (.mov (.tmp 1)),og 11 8 true .bool (.call 0 0 (.cst (.fn 96)) [(.tmp 9),(.tmp 10)] [] []),og 12 8 true .bool (.un .not (.tmp 11)),oo 13 (.pick (.tmp 8) (.tmp 12) (.cst (.bool false))),oo 4 (.mov (.tmp 13))]
def A1p:Kp:=⟨[],[(4,false)],[],[],[]⟩
def Bbm:TFd:=⟨2,[(.tmp 4,.bool)],[],(.seq (.ops A1q) (.seq (.ops A1r) (.keep A1p .ret)))⟩
noncomputable def Aaq:Ent:=⟨[.ty .str,.ty .bool],[],[.str,.bool],⟨(.ty .bool),[],[],[.bool],[],[]⟩,none,fun p=>Lm p.1 p.2⟩
theorem Alm:Aaq.ok Tryz.prog 74:=Aw hm Tryz.func74 (fd:=Bbm) (by kernel_rfl) (Al (l:=[(103,Ag7),(96,Aho)]) (y:=[]) ⟨Aoh,Aox,trivial⟩ trivial) (by kernel_rfl) (fun p=>by kernel_rfl)
def A0t:List TOp:=[oo 1 (.box (.tmp 0)),oo 2 (.mov (.cst (.bool false)))]
def A0u:List TOp:=[oo 3 (.fld 0 (.tmp 1)),oo 4 (.load false 1 (.tmp 3))]
def A0v:List TOp:=[oo 6 (.bin false .eql (.tmp 4) (.cst (.int .i64 0))),oo 5 (.mov (.tmp 6))]
def A0w:List TOp:=[oo 7 (.fld 1 (.tmp 1)),oo 8 (.load false 1 (.tmp 7)),oo 9 (.call 0 0 (.cst (.fn 106)) [(.tmp 8),(.cst (.str [37]))] [] []),oo 10 (.call 0 0 (.cst (.fn 75)) [(.tmp 9)] [] []),oo 2 (.mov (.tmp 10))]
def U7:Kp:=⟨[],[(2,false)],[],[],[]⟩
def A0x:List TOp:=[oo 12 (.bin false .eql (.tmp 4) (.cst (.int .i64 1))),oo 11 (.mov (.tmp 12))]
def A0y:List TOp:=[oo 13 (.fld 1 (.tmp 1)),oo 14 (.load false 1 (.tmp 13)),oo 15 (.call 0 0 (.cst (.fn 74)) [(.tmp 14),(.cst (.bool false))] [] []),oo 2 (.mov (.tmp 15))]
def A0z:List TOp:=[oo 16 (.fld 1 (.tmp 1)),oo 17 (.load false 1 (.tmp 16)),oo 18 (.bin false .eql (.tmp 17) (.cst (.str []))),oo 2 (.mov (.tmp 18))]
def Bbj:TFd:=⟨1,[(.tmp 2,.bool)],[],(.seq (.ops A0t) (.seq (.seq (.ops A0u) (.pass 0 (.seq (.ops A0v) (.cond (.tmp 5) (.free (.seq (.ops A0w) (.keep U7 .ret))) (.seq (.ops A0x) (.cond (.tmp 11) (.free (.seq (.ops A0y) (.keep U7 .ret))) .skip)))))) (.seq (.ops A0z) (.keep U7 .ret))))⟩
noncomputable def Aow:Ent:=⟨[.ty (.st 4)],[],[(.st 4)],⟨(.ty .bool),[],[],[.bool],[],[]⟩,none,fun p=>Aan p⟩
theorem Azl:Aow.ok Tryz.prog 81:=Aw hm Tryz.func81 (fd:=Bbj) (by kernel_rfl) (Al (l:=[(106,N3),(75,Jw),(74,Aaq)]) (y:=[]) ⟨Agj,N9,Alm,trivial⟩ trivial) (by kernel_rfl) (fun p=>by kernel_rfl)
def A1g:List TOp:=[oo 2 (.mov .nils),oo 3 (.mov (.cst (.int .i64 0)))]
def A1h:List TOp:=[oo 8 (.mov (.tmp 0)),oo 9 (.len false (.tmp 8)),oo 10 (.bin false .eql (.tmp 9) (.cst (.int .i64 0))),oo 11 (.mov (.tmp 10)),og 12 11 false .bool (.mov (.tmp 0)),og 13 11 false .bool (.idx 2 (.tmp 12) (.cst (.int .i64 0))),og 14 11 false .bool (.fld 0 (.tmp 13)),og 15 11 false .bool (.load false 1 (.tmp 14)),og 16 11 false .bool (.call 0 0 (.cst (.fn 68)) [(.tmp 15)] [] []),og 17 11 false .bool (.bin false .lss (.tmp 16) (.cst (.int .i64 0))),oo 18 (.pick (.tmp 11) (.cst (.bool true)) (.tmp 17)),oo 19 (.mov (.tmp 18)),og 20 19 false .bool (.mov (.tmp 0)),og 21 19 false .bool (.idx 2 (.tmp 20) (.cst (.int .i64 0))),og 22 19 false (.st 4) (.load true 2 (.tmp 21)),og 23 19 false .bool (.call 0 0 (.cst (.fn 81)) [(.tmp 22)] [] []),og 24 19 false .bool (.un .not (.tmp 23)),oo 25 (.pick (.tmp 19) (.cst (.bool true)) (.tmp 24))]
def A1i:List TOp:=[oo 2 (.mov .nils),oo 3 (.mov (.cst (.int .i64 0)))]
def V8:Kp:=⟨[],[(2,true),(3,false)],[],[],[]⟩
def A1j:List TOp:=[oo 26 (.mov (.tmp 0)),ot 27 (.st 4) (.slc false 2 (.tmp 26) (some (.cst (.int .i64 1))) none),oo 4 (.mov (.tmp 27)),oo 5 (.mov (.cst (.int .i64 0)))]
def A1k:List TOp:=[oo 28 (.mov (.tmp 0)),oo 29 (.idx 2 (.tmp 28) (.cst (.int .i64 0))),oo 30 (.fld 0 (.tmp 29)),oo 31 (.load false 1 (.tmp 30)),oo 32 (.call 0 0 (.cst (.fn 68)) [(.tmp 31)] [] []),oo 33 (.mov (.cst (.int .i64 0)))]
def A1l:List TOp:=[oo 34 (.bin false .lss (.tmp 33) (.tmp 32))]
def A1m:List TOp:=[oo 36 (.mov (.tmp 4)),oo 37 (.call 0 0 (.cst (.fn 46)) [(.tmp 36)] [] []),oo 35 (.mov (.tmp 37)),oo 38 (.ext 0 (.tmp 35)),oo 39 (.ext 1 (.tmp 35)),oo 6 (.mov (.tmp 38)),oo 7 (.mov (.tmp 39))]
def A1n:List TOp:=[oo 40 (.mov (.tmp 7)),oo 41 (.bin false .eql (.tmp 40) (.cst (.int .i64 0)))]
def A1o:List TOp:=[oo 2 (.mov .nils),oo 3 (.mov (.cst (.int .i64 0)))]
def Axo:List TOp:=[oo 42 (.mov (.tmp 6)),oo 43 (.mov (.tmp 5)),oo 44 (.mov (.tmp 7)),oo 45 (.mm true (.tmp 43) [(.tmp 44)]),oo 4 (.mov (.tmp 42)),oo 5 (.mov (.tmp 45))]
def Axp:List TOp:=[oo 46 (.bin false .add (.tmp 33) (.cst (.int .i64 1))),oo 33 (.mov (.tmp 46))]
def Axn:DC:=(.seq (.ops A1l) (.seq (.cond (.tmp 34) .skip (.exit 0)) (.seq (.pass 1 (.seq (.ops A1m) (.seq (.seq (.ops A1n) (.cond (.tmp 41) (.free (.seq (.ops A1o) (.keep V8 .ret))) .skip)) (.ops Axo)))) (.ops Axp))))
def Axl:Kp:=⟨[],[(4,false),(5,false),(32,false),(33,false)],[],[],[]⟩
def Axr:Sig:=⟨[(4,some (.ty (.sl (.st 4)))),(5,some (.ty (.int .i64))),(32,none),(33,some (.ty (.int .i64)))],[],[(.sl (.st 4)),(.int .i64),(.int .i64)],[],[]⟩
def Axm:Kp:=⟨[],[(4,false),(5,false)],[],[],[]⟩
def Axs:Sig:=⟨[(4,some (.ty (.sl (.st 4)))),(5,some (.ty (.int .i64)))],[],[(.sl (.st 4)),(.int .i64)],[],[]⟩
def Axq:List TOp:=[oo 47 (.mov (.tmp 4)),oo 48 (.mov (.tmp 5)),oo 49 (.bin false .add (.tmp 48) (.cst (.int .i64 1))),oo 2 (.mov (.tmp 47)),oo 3 (.mov (.tmp 49))]
def Bbl:TFd:=⟨1,[(.tmp 2,.bool),(.tmp 3,.bool)],[],(.seq (.ops A1g) (.seq (.seq (.ops A1h) (.cond (.tmp 25) (.free (.seq (.ops A1i) (.keep V8 .ret))) .skip)) (.seq (.ops A1j) (.seq (.seq (.ops A1k) (.joinO Axm Axs (.block 0 (.loop [4,5,32,33] [] Axl Axr Axn)))) (.seq (.ops Axq) (.keep V8 .ret))))))⟩
noncomputable def Aap(fuel:Nat):Ent:=⟨[.ty (.sl (.st 4))],[],[(.sl (.st 4))],⟨(.tup [(.ty (.sl (.st 4))),(.ty (.int .i64))]),[],[],[(.sl (.st 4)),(.int .i64)],[],[]⟩,none,fun p=>Iu fuel p⟩
theorem All: ∀fuel:Nat,(Aap fuel).ok Tryz.prog 46
 |0=>fun p r h=>by have h:none=some r:=h;cases h
 |fuel+1=>Aw hm Tryz.func46 (fd:=Bbl) (by kernel_rfl) (Al (l:=[(68,Ahn),(81,Aow),(46,(Aap fuel))]) (y:=[]) ⟨Aov,Azl,(All fuel),trivial⟩ trivial) (by kernel_rfl) (fun p=>by kernel_rfl)
def Awi:List TOp:=[oo 2 (.mov (.cst (.int .i64 0)))]
def Awj:List TOp:=[oo 5 (.mov (.tmp 0)),oo 6 (.len false (.tmp 5)),oo 7 (.bin false .gtr (.tmp 6) (.cst (.int .i64 200)))]
def Awk:List TOp:=[oo 2 (.mov (.cst (.int .i64 0)))]
def Ru:Kp:=⟨[],[(2,false)],[],[],[]⟩
def Awl:List TOp:=[oo 9 (.mov (.tmp 0)),oo 10 (.call 0 0 (.cst (.fn 46)) [(.tmp 9)] [] []),oo 8 (.mov (.tmp 10)),oo 11 (.ext 0 (.tmp 8)),oo 12 (.ext 1 (.tmp 8)),oo 3 (.mov (.tmp 11)),oo 4 (.mov (.tmp 12))]
def Awm:List TOp:=[oo 13 (.mov (.tmp 3)),oo 14 (.len false (.tmp 13)),oo 15 (.bin false .gtr (.tmp 14) (.cst (.int .i64 0))),oo 16 (.mov (.tmp 15)),og 17 16 false .bool (.mov (.tmp 4)),og 18 16 false .bool (.bin false .gtr (.tmp 17) (.cst (.int .i64 24))),oo 19 (.pick (.tmp 16) (.cst (.bool true)) (.tmp 18))]
def Awn:List TOp:=[oo 2 (.mov (.cst (.int .i64 0)))]
def Awo:List TOp:=[oo 20 (.mov (.tmp 4)),oo 2 (.mov (.tmp 20))]
def A6t:TFd:=⟨1,[(.tmp 2,.bool)],[],(.seq (.ops Awi) (.seq (.seq (.ops Awj) (.cond (.tmp 7) (.free (.seq (.ops Awk) (.keep Ru .ret))) .skip)) (.seq (.ops Awl) (.seq (.seq (.ops Awm) (.cond (.tmp 19) (.free (.seq (.ops Awn) (.keep Ru .ret))) .skip)) (.seq (.ops Awo) (.keep Ru .ret))))))⟩
noncomputable def Ui:Ent:=⟨[.ty (.sl (.st 4))],[],[(.sl (.st 4))],⟨(.ty (.int .i64)),[],[],[(.int .i64)],[],[]⟩,none,fun p=>M0 p⟩
theorem Ahk:Ui.ok Tryz.prog 21:=Aw hm Tryz.func21 (fd:=A6t) (by kernel_rfl) (Al (l:=[(46,(Aap 100000))]) (y:=[]) ⟨(All 100000),trivial⟩ trivial) (by kernel_rfl) (fun p=>by kernel_rfl)
def Awv:List TOp:=[oo 2 (.mov (.cst (.bool false)))]
def Aww:List TOp:=[oo 3 (.mov (.tmp 0)),oo 4 (.call 0 0 (.cst (.fn 21)) [(.tmp 3)] [] []),oo 5 (.bin false .gtr (.tmp 4) (.cst (.int .i64 0))),oo 2 (.mov (.tmp 5))]
def Awu:Kp:=⟨[],[(2,false)],[],[],[]⟩
def A6v:TFd:=⟨1,[(.tmp 2,.bool)],[],(.seq (.ops Awv) (.seq (.ops Aww) (.keep Awu .ret)))⟩
noncomputable def Gs:Ent:=⟨[.ty (.sl (.st 4))],[],[(.sl (.st 4))],⟨(.ty .bool),[],[],[.bool],[],[]⟩,none,fun p=>D9 p⟩
theorem Hg:Gs.ok Tryz.prog 23:=Aw hm Tryz.func23 (fd:=A6v) (by kernel_rfl) (Al (l:=[(21,Ui)]) (y:=[]) ⟨Ahk,trivial⟩ trivial) (by kernel_rfl) (fun p=>by kernel_rfl)
def Akn:List TOp:=[oo 6 (.mov (.cst (.int .i64 0))),oo 7 (.mov (.cst (.int .i64 0))),oo 8 (.mov (.cst (.int .i64 0)))]
def Ako:List TOp:=[oo 13 (.mov (.tmp 0)),oo 14 (.nchk (.tmp 13)),oo 15 (.fld 1 (.tmp 14)),oo 16 (.load false 1 (.tmp 15)),oo 17 (.mov (.tmp 0)),oo 18 (.nchk (.tmp 17)),oo 19 (.fld 0 (.tmp 18)),oo 20 (.load false 1 (.tmp 19)),oo 21 (.len false (.tmp 20)),oo 22 (.bin false .lss (.tmp 16) (.tmp 21)),oo 12 (.mov (.tmp 22))]
def Akp:List TOp:=[oo 23 (.mov (.tmp 0)),oo 24 (.nchk (.tmp 23)),oo 25 (.fld 0 (.tmp 24)),oo 26 (.load false 1 (.tmp 25)),oo 27 (.mov (.tmp 0)),oo 28 (.nchk (.tmp 27)),oo 29 (.fld 1 (.tmp 28)),oo 30 (.load false 1 (.tmp 29)),oo 31 (.idx 4 (.tmp 26) (.tmp 30)),oo 32 (.fld 1 (.tmp 31)),oo 33 (.load false 1 (.tmp 32)),oo 34 (.mov (.tmp 0)),oo 35 (.nchk (.tmp 34)),oo 36 (.fld 0 (.tmp 35)),oo 37 (.load false 1 (.tmp 36)),oo 38 (.mov (.tmp 0)),oo 39 (.nchk (.tmp 38)),oo 40 (.fld 1 (.tmp 39)),oo 41 (.load false 1 (.tmp 40)),oo 42 (.idx 4 (.tmp 37) (.tmp 41)),oo 43 (.fld 2 (.tmp 42)),oo 44 (.load false 1 (.tmp 43)),oo 6 (.mov (.tmp 33)),oo 7 (.mov (.tmp 44)),oo 8 (.mov (.cst (.int .i64 14)))]
def Fl:Kp:=⟨[],[(6,false),(7,false),(8,false)],[(.ext 0,false)],[],[]⟩
def Akq:List TOp:=[oo 46 (.mov (.tmp 0)),oo 47 (.nchk (.tmp 46)),oo 48 (.fld 2 (.tmp 47)),oo 49 (.load false 1 (.tmp 48)),oo 45 (.mov (.tmp 49))]
def Akr:List TOp:=[oo 51 (.mov (.tmp 1)),oo 52 (.mov (.tmp 1)),oo 53 (.len true (.tmp 52)),oo 54 (.call 0 0 (.cst (.fn 53)) [(.tmp 51),(.tmp 53)] [] []),oo 50 (.mov (.tmp 54)),oo 55 (.ext 0 (.tmp 50)),oo 56 (.ext 1 (.tmp 50)),oo 57 (.ext 2 (.tmp 50)),oo 9 (.mov (.tmp 55)),oo 10 (.mov (.tmp 56)),oo 11 (.mov (.tmp 57))]
def Aks:List TOp:=[oo 58 (.mov (.tmp 9)),oo 59 (.mov (.tmp 10)),oo 6 (.mov (.tmp 58)),oo 7 (.mov (.tmp 59)),oo 8 (.mov (.cst (.int .i64 14)))]
def Akt:List TOp:=[oo 61 (.mov (.tmp 2)),oo 62 (.un .not (.tmp 61)),oo 60 (.mov (.tmp 62))]
def Aku:List TOp:=[oo 6 (.mov (.cst (.int .i64 1))),oo 7 (.mov (.cst (.int .i64 1))),oo 8 (.mov (.cst (.int .i64 4)))]
def Akv:List TOp:=[oo 6 (.mov (.cst (.int .i64 0))),oo 7 (.mov (.cst (.int .i64 0))),oo 8 (.mov (.cst (.int .i64 0)))]
def Apd:TFd:=⟨3,[(.tmp 6,.bool),(.tmp 7,.bool),(.tmp 8,.bool)],[],(.seq (.ops Akn) (.seq (.pass 0 (.seq (.draw [] Ako) (.cond (.tmp 12) (.free (.seq (.draw [] Akp) (.keep Fl .ret))) (.seq (.ops Akq) (.cond (.tmp 45) (.free (.seq (.ops Akr) (.seq (.ops Aks) (.keep Fl .ret)))) (.seq (.ops Akt) (.cond (.tmp 60) (.free (.seq (.ops Aku) (.keep Fl .ret))) .skip))))))) (.seq (.ops Akv) (.keep Fl .ret))))⟩
def Ir:Ent:=⟨[.ptr (.ext 0) 0,.ty .str,.ty .bool],[.st 3],[.str,.bool,(.st 3)],⟨(.tup [(.ty (.int .i64)),(.ty (.int .i64)),(.ty (.int .i64))]),[],[some .same],[(.int .i64),(.int .i64),(.int .i64)],[],[]⟩,none,fun p=>Fq p.1 p.2.1 p.2.2⟩
theorem Oh:Ir.ok Tryz.prog 31:=Aw hm Tryz.func31 (fd:=Apd) (by kernel_rfl) (Al (l:=[(53,Ag6)]) (y:=[]) ⟨Aog,trivial⟩ trivial) (by kernel_rfl) (fun p=>by kernel_rfl)
def A0j:List TOp:=[oo 2 (.mov .nils),oo 3 (.mov (.cst (.int .i64 0))),oo 4 (.mov (.cst (.int .i64 0))),oo 5 (.mov (.cst (.int .i64 0)))]
def A0k:List TOp:=[oo 15 (.mov (.tmp 0)),oo 16 (.call 1 0 (.cst (.fn 29)) [(.tmp 15)] [] []),oo 14 (.mov (.tmp 16)),oo 17 (.ext 0 (.tmp 14)),oo 18 (.ext 1 (.tmp 14)),oo 19 (.ext 2 (.tmp 14)),oo 20 (.ext 3 (.tmp 14)),oo 6 (.mov (.tmp 17)),oo 7 (.mov (.tmp 18)),oo 8 (.mov (.tmp 19)),oo 9 (.mov (.tmp 20))]
def A0l:List TOp:=[oo 21 (.mov (.tmp 9)),oo 22 (.bin false .neq (.tmp 21) (.cst (.int .i64 0)))]
def A0m:List TOp:=[oo 23 (.mov (.tmp 7)),oo 24 (.mov (.tmp 8)),oo 25 (.mov (.tmp 9)),oo 2 (.mov .nils),oo 3 (.mov (.tmp 23)),oo 4 (.mov (.tmp 24)),oo 5 (.mov (.tmp 25))]
def U6:Kp:=⟨[],[(2,true),(3,false),(4,false),(5,false)],[],[],[]⟩
def A0n:List TOp:=[oo 26 (.mov (.tmp 6)),oo 27 (.call 0 2 (.cst (.fn 30)) [(.tmp 26)] [] [.loc 16 0]),oo 10 (.mov (.tmp 27))]
def A0o:List TOp:=[oo 29 (.mov (.tmp 6)),oo 30 (.mov (.tmp 0)),oo 31 (.mov (.tmp 10)),oo 32 (.call 0 0 (.cst (.fn 23)) [(.tmp 31)] [] []),oo 33 (.call 0 2 (.cst (.fn 31)) [(.tmp 29),(.tmp 30),(.tmp 32)] [] [.loc 16 0]),oo 28 (.mov (.tmp 33)),oo 34 (.ext 0 (.tmp 28)),oo 35 (.ext 1 (.tmp 28)),oo 36 (.ext 2 (.tmp 28)),oo 11 (.mov (.tmp 34)),oo 12 (.mov (.tmp 35)),oo 13 (.mov (.tmp 36))]
def A0p:List TOp:=[oo 37 (.mov (.tmp 13)),oo 38 (.bin false .neq (.tmp 37) (.cst (.int .i64 0)))]
def A0q:List TOp:=[oo 39 (.mov (.tmp 11)),oo 40 (.mov (.tmp 12)),oo 41 (.mov (.tmp 13)),oo 2 (.mov .nils),oo 3 (.mov (.tmp 39)),oo 4 (.mov (.tmp 40)),oo 5 (.mov (.tmp 41))]
def A0r:List TOp:=[oo 42 (.mov (.tmp 10)),oo 2 (.mov (.tmp 42)),oo 3 (.mov (.cst (.int .i64 0))),oo 4 (.mov (.cst (.int .i64 0))),oo 5 (.mov (.cst (.int .i64 0)))]
def Bbi:TFd:=⟨1,[(.tmp 2,.bool),(.tmp 3,.bool),(.tmp 4,.bool),(.tmp 5,.bool)],[],(.seq (.ops A0j) (.seq (.ops A0k) (.seq (.seq (.ops A0l) (.cond (.tmp 22) (.free (.seq (.ops A0m) (.keep U6 .ret))) .skip)) (.seq (.ops A0n) (.seq (.seq (.ops A0o) (.seq (.ops A0p) (.cond (.tmp 38) (.free (.seq (.ops A0q) (.keep U6 .ret))) .skip))) (.seq (.ops A0r) (.keep U6 .ret)))))))⟩
noncomputable def Aam:Ent:=⟨[.ty .str],[],[.str],⟨(.tup [(.ty (.sl (.st 4))),(.ty (.int .i64)),(.ty (.int .i64)),(.ty (.int .i64))]),[],[],[(.sl (.st 4)),(.int .i64),(.int .i64),(.int .i64)],[],[]⟩,none,fun p=>B3 p⟩
theorem Alh:Aam.ok Tryz.prog 9:=Aw hm Tryz.func9 (fd:=Bbi) (by kernel_rfl) (Al (l:=[(29,Uk),(30,(Dg 100000)),(23,Gs),(31,Ir)]) (y:=[]) ⟨Ahm,(Og 100000),Hg,Oh,trivial⟩ trivial) (by kernel_rfl) (fun p=>by kernel_rfl)
def Alj:Ent:=⟨[.ty (.int .i64)],[],[.int .i64],⟨(.tup [(.ty (.int .i64)),(.ty .str),(.ty (.int .i64)),(.ty (.int .i64))]),[],[],[(.int .i64),.str,(.int .i64),(.int .i64)],[],[]⟩,none,fun p=>Ahp p⟩
theorem Aqu:Alj.ok Tryz.prog 67:=fun p r h=>by
 have h:some (placeOf p)=some r:=h
 cases h
 exact Avy (es:=List.map (Bto Blg Ar.pv) (Ca.map fun p=>(p.1,(⟨p.2.1,p.2.2⟩:Ar)))) (by kernel_rfl) (Ahr () _ (by kernel_rfl))
def Wa:List TOp:=[oo 4 (.mov (.cst (.str []))),oo 5 (.mov (.cst (.bool false)))]
def Wb:List TOp:=[oo 6 (.mov (.tmp 0)),oo 7 (.mov (.tmp 1)),oo 8 (.call 0 0 (.cst (.fn 140)) [(.tmp 6),(.tmp 7)] [] []),oo 9 (.un .not (.tmp 8))]
def Wc:List TOp:=[oo 10 (.mov (.tmp 0)),oo 4 (.mov (.tmp 10)),oo 5 (.mov (.cst (.bool false)))]
def H9:Kp:=⟨[],[(4,false),(5,false)],[],[],[]⟩
def Wd:List TOp:=[oo 11 (.mov (.tmp 0)),oo 12 (.mov (.tmp 0)),oo 13 (.len true (.tmp 12)),oo 14 (.mov (.tmp 1)),oo 15 (.len true (.tmp 14)),oo 16 (.bin false .sub (.tmp 13) (.tmp 15)),oo 17 (.slc true 0 (.tmp 11) none (some (.tmp 16))),oo 4 (.mov (.tmp 17)),oo 5 (.mov (.cst (.bool true)))]
def Adh:TFd:=⟨2,[(.tmp 4,.bool),(.tmp 5,.bool)],[],(.seq (.ops Wa) (.seq (.seq (.ops Wb) (.cond (.tmp 9) (.free (.seq (.ops Wc) (.keep H9 .ret))) .skip)) (.seq (.ops Wd) (.keep H9 .ret))))⟩
def Jc:Ent:=⟨[.ty .str,.ty .str],[],[.str,.str],⟨(.tup [(.ty .str),(.ty .bool)]),[],[],[.str,.bool],[],[]⟩,none,fun p=>stringslite_CutSuffix p.1 p.2⟩
theorem Wj:Jc.ok Tryz.prog 117:=Aw hm Tryz.func117 (fd:=Adh) (by kernel_rfl) (Al (l:=[(140,Fx)]) (y:=[]) ⟨Ih,trivial⟩ trivial) (by kernel_rfl) (fun p=>by kernel_rfl)
def Aiy:List TOp:=[oo 4 (.mov (.cst (.str []))),oo 5 (.mov (.cst (.bool false)))]
def Aiz:List TOp:=[oo 6 (.mov (.tmp 0)),oo 7 (.mov (.tmp 1)),oo 8 (.call 0 0 (.cst (.fn 117)) [(.tmp 6),(.tmp 7)] [] []),oo 9 (.ext 0 (.tmp 8)),oo 10 (.ext 1 (.tmp 8)),oo 4 (.mov (.tmp 9)),oo 5 (.mov (.tmp 10))]
def Aix:Kp:=⟨[],[(4,false),(5,false)],[],[],[]⟩
def Ang:TFd:=⟨2,[(.tmp 4,.bool),(.tmp 5,.bool)],[],(.seq (.ops Aiy) (.seq (.ops Aiz) (.keep Aix .ret)))⟩
def Oj:Ent:=⟨[.ty .str,.ty .str],[],[.str,.str],⟨(.tup [(.ty .str),(.ty .bool)]),[],[],[.str,.bool],[],[]⟩,none,fun p=>strings_CutSuffix p.1 p.2⟩
theorem Ai3:Oj.ok Tryz.prog 99:=Aw hm Tryz.func99 (fd:=Ang) (by kernel_rfl) (Al (l:=[(117,Jc)]) (y:=[]) ⟨Wj,trivial⟩ trivial) (by kernel_rfl) (fun p=>by kernel_rfl)
def Zl:Ent:=⟨[.nils,.ty (.int .i64)],[],[(.int .i64)],⟨(.own (.res 0)),[some (.row .str)],[],[(.sl .str)],[],[]⟩,none,fun p=>C6 (List UInt8) 16 p⟩
theorem Aky:Zl.ok Tryz.prog 100:=fun p r h=>by
 obtain⟨e1,e2⟩:=Zn (show C6 (List UInt8) 16 p=some r from h)
 subst e1
 exact Apo e2
def Ln:List TOp:=[oo 2 (.mov .nils)]
def Lo:List TOp:=[oo 3 (.mov (.cst (.int .i64 0)))]
def Lq:List TOp:=[oo 9 (.mov (.tmp 0)),oo 10 (.len false (.tmp 9)),oo 11 (.mov (.cst (.int .i64 0)))]
def Lr:List TOp:=[oo 12 (.bin false .lss (.tmp 11) (.tmp 10))]
def Ls:List TOp:=[oo 13 (.idx 1 (.tmp 9) (.tmp 11)),oo 14 (.load false 1 (.tmp 13)),oo 5 (.mov (.tmp 14))]
def Lu:List TOp:=[oo 15 (.mov (.tmp 3)),oo 16 (.mov (.tmp 5)),oo 17 (.len false (.tmp 16)),oo 18 (.bin false .add (.tmp 15) (.tmp 17)),oo 3 (.mov (.tmp 18))]
def Lv:List TOp:=[oo 19 (.mov (.tmp 3)),oo 20 (.bin false .lss (.tmp 19) (.cst (.int .i64 0)))]
def Fu:Kp:=⟨[],[(0,false),(3,false),(9,false),(10,false),(11,false)],[],[],[]⟩
def Lx:Sig:=⟨[(0,none),(3,none),(9,none),(10,none),(11,none)],[],[],[],[]⟩
def Lw:List TOp:=[oo 22 (.bin false .add (.tmp 11) (.cst (.int .i64 1))),oo 11 (.mov (.tmp 22))]
def Ks:DC:=(.seq (.ops Lr) (.seq (.cond (.tmp 12) .skip (.exit 0)) (.seq (.pass 1 (.seq (.ops Ls) (.seq (.ops Lu) (.seq (.ops Lv) (.join Fu Lx (.cond (.tmp 20) .stuck .skip)))))) (.ops Lw))))
def K3:Sig:=⟨[(0,none),(3,some (.ty (.int .i64))),(9,none),(10,none),(11,some (.ty (.int .i64)))],[],[(.int .i64),(.int .i64)],[],[]⟩
def Kn:Kp:=⟨[],[(0,false),(3,false)],[],[],[]⟩
def K4:Sig:=⟨[(0,none),(3,some (.ty (.int .i64)))],[],[(.int .i64)],[],[]⟩
def Ku:List TOp:=[oo 23 (.mov (.tmp 3)),oo 24 (.call 1 3 (.cst (.fn 100)) [.nils,(.tmp 23)] [] []),oo 6 (.mov (.tmp 24))]
def Kv:List TOp:=[oo 25 (.mov (.tmp 0)),oo 26 (.len false (.tmp 25)),oo 27 (.mov (.cst (.int .i64 0)))]
def Kw:List TOp:=[oo 28 (.bin false .lss (.tmp 27) (.tmp 26))]
def Kx:List TOp:=[oo 29 (.idx 1 (.tmp 25) (.tmp 27)),oo 30 (.load false 1 (.tmp 29)),oo 8 (.mov (.tmp 30))]
def Ky:List TOp:=[oo 31 (.mov (.tmp 6)),oo 32 (.mov (.tmp 8)),ot 33 .str (.append 24 1 16 (.tmp 31) (.tmp 32)),oo 6 (.mov (.tmp 33))]
def Kz:List TOp:=[oo 34 (.bin false .add (.tmp 27) (.cst (.int .i64 1))),oo 27 (.mov (.tmp 34))]
def Kt:DC:=(.seq (.ops Kw) (.seq (.cond (.tmp 28) .skip (.exit 2)) (.seq (.pass 3 (.seq (.ops Kx) (.ops Ky))) (.ops Kz))))
def Ko:Kp:=⟨[],[(6,false),(25,false),(26,false),(27,false)],[(.loc 24 0,false)],[],[]⟩
def K5:Sig:=⟨[(6,some (.own (.loc 24 0))),(25,none),(26,none),(27,some (.ty (.int .i64)))],[(.loc 24 0,(.row .str))],[(.int .i64),(.sl .str)],[],[]⟩
def Kq:Kp:=⟨[.loc 24 0],[(6,true)],[],[],[]⟩
def K6:Sig:=⟨[(6,some (.ty (.sl .str)))],[],[(.sl .str)],[],[]⟩
def K0:List TOp:=[oo 35 (.mov (.tmp 6)),oo 2 (.mov (.tmp 35))]
def Kr:Kp:=⟨[],[(2,false)],[],[],[]⟩
def Oa:TFd:=⟨1,[(.tmp 2,.bool)],[],(.seq (.ops Ln) (.seq (.ops Lo) (.seq (.seq (.ops Lq) (.join Kn K4 (.block 0 (.loop [0,3,9,10,11] [] Fu K3 Ks)))) (.seq (.ops Ku) (.seq (.seq (.ops Kv) (.join Kq K6 (.block 2 (.loop [6,25,26,27] [] Ko K5 Kt)))) (.seq (.ops K0) (.keep Kr .ret)))))))⟩
noncomputable def Dr:Ent:=⟨[.ty (.sl (.sl .str))],[],[(.sl (.sl .str))],⟨(.ty (.sl .str)),[],[],[(.sl .str)],[],[]⟩,none,fun p=>Aj p⟩
theorem Fw:Dr.ok Tryz.prog 70:=Aw hm Tryz.func70 (fd:=Oa) (by kernel_rfl) (Al (l:=[(100,Zl)]) (y:=[]) ⟨Aky,trivial⟩ trivial) (by kernel_rfl) (fun p=>by kernel_rfl)
def Axt:List TOp:=[oo 3 (.box (.tmp 0)),oo 6 (.mov .nils)]
def Axu:List TOp:=[oo 10 (.fld 0 (.tmp 3)),oo 11 (.load false 1 (.tmp 10))]
def Axv:List TOp:=[oo 13 (.bin false .eql (.tmp 11) (.cst (.int .i64 0))),oo 12 (.mov (.tmp 13))]
def Axw:List TOp:=[oo 15 (.fld 1 (.tmp 3)),oo 16 (.load false 1 (.tmp 15)),oo 17 (.call 0 0 (.cst (.fn 99)) [(.tmp 16),(.cst (.str [37]))] [] []),oo 14 (.mov (.tmp 17)),oo 18 (.ext 0 (.tmp 14)),oo 19 (.ext 1 (.tmp 14)),oo 7 (.mov (.tmp 18)),oo 8 (.mov (.tmp 19))]
def Axx:List TOp:=[oo 20 (.mov (.tmp 8))]
def Axy:List TOp:=[oo 21 (.mov (.tmp 7)),ot 22 .str (.lit false 1 [(.tmp 21),(.cst (.str [37]))]),oo 6 (.mov (.tmp 22))]
def Dq:Kp:=⟨[.loc 33 0,.loc 40 0],[(6,true)],[],[],[]⟩
def Axz:List TOp:=[oo 23 (.fld 1 (.tmp 3)),oo 24 (.load false 1 (.tmp 23)),ot 25 .str (.lit false 1 [(.tmp 24)]),oo 6 (.mov (.tmp 25))]
def Ax0:List TOp:=[oo 27 (.bin false .eql (.tmp 11) (.cst (.int .i64 1))),oo 26 (.mov (.tmp 27))]
def Ax1:List TOp:=[oo 28 (.fld 1 (.tmp 3)),oo 29 (.load false 1 (.tmp 28)),ot 30 .str (.lit false 1 [(.tmp 29)]),oo 6 (.mov (.tmp 30))]
def Atg:List TOp:=[oo 32 (.bin false .eql (.tmp 11) (.cst (.int .i64 2))),oo 31 (.mov (.tmp 32))]
def Ath:List TOp:=[ot 33 .str (.lit true 1 [(.cst (.str [45]))]),oo 34 (.mov (.tmp 2)),oo 35 (.idx 1 (.tmp 34) (.cst (.int .i64 0))),oo 36 (.load false 1 (.tmp 35)),ot 37 .str (.append 33 1 16 (.tmp 33) (.tmp 36)),oo 6 (.mov (.tmp 37))]
def Ati:List TOp:=[oo 39 (.bin false .eql (.tmp 11) (.cst (.int .i64 14))),oo 38 (.mov (.tmp 39))]
def Atj:List TOp:=[ot 40 .str (.lit true 1 [(.cst (.str [110,111,116]))]),oo 41 (.mov (.tmp 2)),oo 42 (.idx 1 (.tmp 41) (.cst (.int .i64 0))),oo 43 (.load false 1 (.tmp 42)),ot 44 .str (.append 40 1 16 (.tmp 40) (.tmp 43)),oo 6 (.mov (.tmp 44))]
def Atk:List TOp:=[oo 46 (.bin false .eql (.tmp 11) (.cst (.int .i64 15))),oo 45 (.mov (.tmp 46))]
def Atl:List TOp:=[ot 47 .str (.lit false 1 [(.cst (.str [105,102]))]),oo 48 (.mov (.tmp 2)),oo 49 (.idx 1 (.tmp 48) (.cst (.int .i64 0))),oo 50 (.load false 1 (.tmp 49)),ot 51 .str (.lit false 1 [(.cst (.str [116,104,101,110]))]),oo 52 (.mov (.tmp 2)),oo 53 (.idx 1 (.tmp 52) (.cst (.int .i64 1))),oo 54 (.load false 1 (.tmp 53)),ot 55 .str (.lit false 1 [(.cst (.str [101,108,115,101]))]),oo 56 (.mov (.tmp 2)),oo 57 (.idx 1 (.tmp 56) (.cst (.int .i64 2))),oo 58 (.load false 1 (.tmp 57)),ot 59 (.sl .str) (.lit false 1 [(.tmp 47),(.tmp 50),(.tmp 51),(.tmp 54),(.tmp 55),(.tmp 58)]),oo 60 (.call 0 0 (.cst (.fn 70)) [(.tmp 59)] [] []),oo 6 (.mov (.tmp 60))]
def Atm:List TOp:=[oo 62 (.bin false .eql (.tmp 11) (.cst (.int .i64 16))),oo 61 (.mov (.tmp 62))]
def Atn:List TOp:=[oo 63 (.bin false .eql (.tmp 11) (.cst (.int .i64 17))),oo 61 (.mov (.tmp 63))]
def Ate:Kp:=⟨[],[(1,false),(2,false),(3,false),(61,false)],[(.loc 3 0,false)],[],[]⟩
def Att:Sig:=⟨[(1,none),(2,none),(3,some (.ptr (.loc 3 0) 0)),(61,some (.ty .bool))],[(.loc 3 0,(.box [none,none]))],[.bool],[],[]⟩
def Ato:List TOp:=[oo 9 (.mov (.cst (.str [109,105,110])))]
def Atp:List TOp:=[oo 64 (.fld 0 (.tmp 3)),oo 65 (.load false 1 (.tmp 64)),oo 66 (.bin false .eql (.tmp 65) (.cst (.int .i64 17)))]
def Atq:List TOp:=[oo 9 (.mov (.cst (.str [109,97,120])))]
def Atf:Kp:=⟨[],[(2,false),(9,false)],[],[.loc 3 0],[]⟩
def Atu:Sig:=⟨[(2,none),(9,some (.ty .str))],[],[.str],[],[]⟩
def Atr:List TOp:=[oo 67 (.mov (.tmp 9)),ot 68 .str (.lit false 1 [(.tmp 67),(.cst (.str [40]))]),oo 69 (.mov (.tmp 2)),oo 70 (.idx 1 (.tmp 69) (.cst (.int .i64 0))),oo 71 (.load false 1 (.tmp 70)),ot 72 .str (.lit false 1 [(.cst (.str [44]))]),oo 73 (.mov (.tmp 2)),oo 74 (.idx 1 (.tmp 73) (.cst (.int .i64 1))),oo 75 (.load false 1 (.tmp 74)),ot 76 .str (.lit false 1 [(.cst (.str [41]))]),ot 77 (.sl .str) (.lit false 1 [(.tmp 68),(.tmp 71),(.tmp 72),(.tmp 75),(.tmp 76)]),oo 78 (.call 0 0 (.cst (.fn 70)) [(.tmp 77)] [] []),oo 6 (.mov (.tmp 78))]
def Ats:List TOp:=[oo 79 (.mov (.tmp 2)),oo 80 (.idx 1 (.tmp 79) (.cst (.int .i64 0))),oo 81 (.load false 1 (.tmp 80)),oo 82 (.mov (.tmp 1)),ot 83 .str (.lit false 1 [(.tmp 82)]),oo 84 (.mov (.tmp 2)),oo 85 (.idx 1 (.tmp 84) (.cst (.int .i64 1))),oo 86 (.load false 1 (.tmp 85)),ot 87 (.sl .str) (.lit false 1 [(.tmp 81),(.tmp 83),(.tmp 86)]),oo 88 (.call 0 0 (.cst (.fn 70)) [(.tmp 87)] [] []),oo 6 (.mov (.tmp 88))]
def A7q:TFd:=⟨3,[(.tmp 6,.bool)],[],(.seq (.ops Axt) (.seq (.seq (.ops Axu) (.pass 0 (.seq (.ops Axv) (.cond (.tmp 12) (.free (.seq (.seq (.ops Axw) (.seq (.ops Axx) (.cond (.tmp 20) (.free (.seq (.ops Axy) (.keep Dq .ret))) .skip))) (.seq (.ops Axz) (.keep Dq .ret)))) (.seq (.ops Ax0) (.cond (.tmp 26) (.free (.seq (.ops Ax1) (.keep Dq .ret))) (.seq (.ops Atg) (.cond (.tmp 31) (.free (.seq (.ops Ath) (.keep Dq .ret))) (.seq (.ops Ati) (.cond (.tmp 38) (.free (.seq (.ops Atj) (.keep Dq .ret))) (.seq (.ops Atk) (.cond (.tmp 45) (.free (.seq (.draw [] Atl) (.keep Dq .ret))) (.seq (.seq (.ops Atm) (.join Ate Att (.cond (.tmp 61) .skip (.ops Atn)))) (.cond (.tmp 61) (.free (.seq (.ops Ato) (.seq (.seq (.ops Atp) (.join Atf Atu (.cond (.tmp 66) (.ops Atq) .skip))) (.seq (.draw [] Atr) (.keep Dq .ret))))) .skip)))))))))))))) (.seq (.draw [] Ats) (.keep Dq .ret))))⟩
noncomputable def Aln:Ent:=⟨[.ty (.st 4),.ty .str,.ty (.sl (.sl .str))],[],[(.st 4),.str,(.sl (.sl .str))],⟨(.ty (.sl .str)),[],[],[(.sl .str)],[],[]⟩,none,fun p=>T4 p.1 p.2.1 p.2.2⟩
theorem Avx:Aln.ok Tryz.prog 69:=Aw hm Tryz.func69 (fd:=A7q) (by kernel_rfl) (Al (l:=[(99,Oj),(70,Dr)]) (y:=[]) ⟨Ai3,Fw,trivial⟩ trivial) (by kernel_rfl) (fun p=>by kernel_rfl)
def Axb:List TOp:=[oo 4 (.mov .nils),oo 5 (.mov .nils)]
def Axc:List TOp:=[oo 18 (.mov (.tmp 0)),oo 19 (.idx 2 (.tmp 18) (.cst (.int .i64 0))),ot 20 (.st 4) (.load true 2 (.tmp 19)),oo 21 (.mov (.tmp 0)),ot 22 (.st 4) (.slc false 2 (.tmp 21) (some (.cst (.int .i64 1))) none),oo 6 (.alloc [.pv (.int .i64 0),.pv (.str [])]),on (.store 2 (.tmp 6) (.tmp 20)),oo 7 (.mov (.tmp 22))]
def Axd:List TOp:=[oo 8 (.mov .nils)]
def Axe:List TOp:=[oo 24 (.fld 0 (.tmp 6)),oo 25 (.load false 1 (.tmp 24)),oo 26 (.call 0 0 (.cst (.fn 67)) [(.tmp 25)] [] []),oo 23 (.mov (.tmp 26)),oo 27 (.ext 0 (.tmp 23)),oo 28 (.ext 1 (.tmp 23)),oo 29 (.ext 2 (.tmp 23)),oo 30 (.ext 3 (.tmp 23)),oo 9 (.mov (.tmp 27)),oo 10 (.mov (.tmp 28)),oo 11 (.mov (.tmp 29)),oo 12 (.mov (.tmp 30))]
def Axf:List TOp:=[oo 31 (.mov (.tmp 11)),oo 32 (.mov (.tmp 12)),ot 33 (.int .i64) (.lit false 1 [(.tmp 31),(.tmp 32),(.cst (.int .i64 0))]),oo 13 (.mov (.tmp 33))]
def Axg:List TOp:=[oo 34 (.fld 0 (.tmp 6)),oo 35 (.load false 1 (.tmp 34))]
def Axh:List TOp:=[oo 37 (.bin false .eql (.tmp 35) (.cst (.int .i64 2))),oo 36 (.mov (.tmp 37))]
def Axi:List TOp:=[ot 38 (.int .i64) (.lit false 1 [(.cst (.int .i64 7))]),oo 9 (.mov (.cst (.int .i64 7))),oo 13 (.mov (.tmp 38))]
def Axj:List TOp:=[oo 40 (.bin false .eql (.tmp 35) (.cst (.int .i64 14))),oo 39 (.mov (.tmp 40))]
def Axk:List TOp:=[ot 41 (.int .i64) (.lit false 1 [(.cst (.int .i64 3))]),oo 9 (.mov (.cst (.int .i64 3))),oo 13 (.mov (.tmp 41))]
def Asy:List TOp:=[oo 43 (.bin false .eql (.tmp 35) (.cst (.int .i64 15))),oo 42 (.mov (.tmp 43))]
def Asz:List TOp:=[oo 9 (.mov (.cst (.int .i64 0)))]
def Ass:Kp:=⟨[],[(1,false),(6,false),(7,false),(8,false),(9,false),(10,false),(13,false)],[(.loc 6 0,false)],[],[]⟩
def Ata:Sig:=⟨[(1,none),(6,some (.ptr (.loc 6 0) 0)),(7,none),(8,some .nils),(9,some (.ty (.int .i64))),(10,none),(13,some (.ty (.sl (.int .i64))))],[(.loc 6 0,(.box [none,none]))],[(.int .i64),(.sl (.int .i64))],[],[]⟩
def As0:List TOp:=[oo 44 (.fld 0 (.tmp 6)),oo 45 (.load false 1 (.tmp 44)),oo 46 (.call 0 0 (.cst (.fn 68)) [(.tmp 45)] [] []),oo 47 (.mov (.cst (.int .i64 0)))]
def As1:List TOp:=[oo 48 (.bin false .lss (.tmp 47) (.tmp 46))]
def As2:List TOp:=[oo 49 (.mov (.tmp 47)),oo 14 (.mov (.tmp 49))]
def As3:List TOp:=[oo 51 (.mov (.tmp 7)),oo 52 (.mov (.tmp 13)),oo 53 (.mov (.tmp 14)),oo 54 (.idx 1 (.tmp 52) (.tmp 53)),oo 55 (.load false 1 (.tmp 54)),oo 56 (.call 0 0 (.cst (.fn 37)) [(.tmp 51),(.tmp 55)] [] []),oo 50 (.mov (.tmp 56)),oo 57 (.ext 0 (.tmp 50)),oo 58 (.ext 1 (.tmp 50)),oo 15 (.mov (.tmp 57)),oo 16 (.mov (.tmp 58))]
def As4:List TOp:=[oo 59 (.mov (.tmp 8)),oo 60 (.mov (.tmp 15)),ot 61 (.sl .str) (.lit false 1 [(.tmp 60)]),ot 62 (.sl .str) (.append 8 1 24 (.tmp 59) (.tmp 61)),oo 63 (.mov (.tmp 16)),oo 8 (.mov (.tmp 62)),oo 7 (.mov (.tmp 63))]
def As5:List TOp:=[oo 64 (.bin false .add (.tmp 47) (.cst (.int .i64 1))),oo 47 (.mov (.tmp 64))]
def Asx:DC:=(.seq (.ops As1) (.seq (.cond (.tmp 48) .skip (.exit 1)) (.seq (.pass 2 (.seq (.ops As2) (.seq (.ops As3) (.ops As4)))) (.ops As5))))
def Ast:Kp:=⟨[],[(1,false),(6,false),(7,false),(8,false),(9,false),(10,false),(13,false),(46,false),(47,false)],[(.loc 8 0,false),(.loc 6 0,false)],[],[((.slot 8 (.loc 8 0) 1),(.sl .str))]⟩
def Atb:Sig:=⟨[(1,none),(6,some (.ptr (.loc 6 0) 0)),(7,some (.ty (.sl (.st 4)))),(8,some (.own (.loc 8 0))),(9,none),(10,none),(13,none),(46,none),(47,some (.ty (.int .i64)))],[(.loc 8 0,(.row (.sl .str))),(.loc 6 0,(.box [none,none]))],[(.sl (.st 4)),(.int .i64),(.sl (.sl .str))],[],[]⟩
def Asu:Kp:=⟨[.loc 8 0],[(1,false),(6,false),(7,false),(8,true),(9,false),(10,false)],[(.loc 6 0,false)],[],[]⟩
def Atc:Sig:=⟨[(1,none),(6,some (.ptr (.loc 6 0) 0)),(7,some (.ty (.sl (.st 4)))),(8,some (.ty (.sl (.sl .str)))),(9,none),(10,none)],[(.loc 6 0,(.box [none,none]))],[(.sl (.st 4)),(.sl (.sl .str))],[],[]⟩
def As6:List TOp:=[ot 65 (.st 4) (.load true 2 (.tmp 6)),oo 66 (.mov (.tmp 10)),oo 67 (.mov (.tmp 8)),oo 68 (.call 0 0 (.cst (.fn 69)) [(.tmp 65),(.tmp 66),(.tmp 67)] [] []),oo 17 (.mov (.tmp 68))]
def As7:List TOp:=[oo 69 (.mov (.tmp 9)),oo 70 (.mov (.tmp 1)),oo 71 (.bin false .lss (.tmp 69) (.tmp 70))]
def As8:List TOp:=[ot 72 .str (.lit false 1 [(.cst (.str [40]))]),oo 73 (.mov (.tmp 17)),ot 74 .str (.lit false 1 [(.cst (.str [41]))]),ot 75 (.sl .str) (.lit false 1 [(.tmp 72),(.tmp 73),(.tmp 74)]),oo 76 (.call 0 0 (.cst (.fn 70)) [(.tmp 75)] [] []),oo 17 (.mov (.tmp 76))]
def Asv:Kp:=⟨[],[(7,false),(17,false)],[],[.loc 6 0],[]⟩
def Atd:Sig:=⟨[(7,none),(17,some (.ty (.sl .str)))],[],[(.sl .str)],[],[]⟩
def As9:List TOp:=[oo 77 (.mov (.tmp 17)),oo 78 (.mov (.tmp 7)),oo 4 (.mov (.tmp 77)),oo 5 (.mov (.tmp 78))]
def Asw:Kp:=⟨[],[(4,false),(5,false)],[],[],[]⟩
def A7p:TFd:=⟨2,[(.tmp 4,.bool),(.tmp 5,.bool)],[],(.seq (.ops Axb) (.seq (.draw [.loc 6 0] Axc) (.seq (.ops Axd) (.seq (.ops Axe) (.seq (.ops Axf) (.seq (.seq (.ops Axg) (.pass 0 (.seq (.ops Axh) (.join Ass Ata (.cond (.tmp 36) (.ops Axi) (.seq (.ops Axj) (.cond (.tmp 39) (.ops Axk) (.seq (.ops Asy) (.cond (.tmp 42) (.ops Asz) .skip))))))))) (.seq (.seq (.ops As0) (.join Asu Atc (.block 1 (.loop [1,6,7,8,9,10,13,46,47] [] Ast Atb Asx)))) (.seq (.ops As6) (.seq (.seq (.ops As7) (.join Asv Atd (.cond (.tmp 71) (.ops As8) .skip))) (.seq (.ops As9) (.keep Asw .ret)))))))))))⟩
noncomputable def Mn(fuel:Nat):Ent:=⟨[.ty (.sl (.st 4)),.ty (.int .i64)],[],[(.sl (.st 4)),(.int .i64)],⟨(.tup [(.ty (.sl .str)),(.ty (.sl (.st 4)))]),[],[],[(.sl .str),(.sl (.st 4))],[],[]⟩,none,fun p=>F5 fuel p.1 p.2⟩
theorem Ri: ∀fuel:Nat,(Mn fuel).ok Tryz.prog 37
 |0=>fun p r h=>by have h:none=some r:=h;cases h
 |fuel+1=>Aw hm Tryz.func37 (fd:=A7p) (by kernel_rfl) (Al (l:=[(67,Alj),(68,Ahn),(37,(Mn fuel)),(69,Aln),(70,Dr)]) (y:=[]) ⟨Aqu,Aov,(Ri fuel),Avx,Fw,trivial⟩ trivial) (by kernel_rfl) (fun p=>by kernel_rfl)
def Sn:Ent:=⟨[.ty (.sl .str),.ty .str],[],[(.sl .str),.str],⟨(.ty .str),[],[],[.str],[],[]⟩,none,fun p=>strings_Join p.1 p.2⟩
theorem T9:Sn.ok Tryz.prog 38:=fun p r h=>Aty (show strings_Join _ _=some _ from h)
def Awp:List TOp:=[oo 2 (.mov (.cst (.str []))),oo 3 (.mov (.cst (.int .i64 0)))]
def Awq:List TOp:=[oo 6 (.mov (.tmp 0)),oo 7 (.call 0 0 (.cst (.fn 23)) [(.tmp 6)] [] []),oo 8 (.un .not (.tmp 7))]
def Awr:List TOp:=[oo 2 (.mov (.cst (.str []))),oo 3 (.mov (.cst (.int .i64 1)))]
def Ah8:Kp:=⟨[],[(2,false),(3,false)],[],[],[]⟩
def Aws:List TOp:=[oo 10 (.mov (.tmp 0)),oo 11 (.call 0 0 (.cst (.fn 37)) [(.tmp 10),(.cst (.int .i64 0))] [] []),oo 9 (.mov (.tmp 11)),oo 12 (.ext 0 (.tmp 9)),oo 13 (.ext 1 (.tmp 9)),oo 4 (.mov (.tmp 12)),oo 5 (.mov (.tmp 13))]
def Awt:List TOp:=[oo 14 (.mov (.tmp 4)),oo 15 (.call 0 0 (.cst (.fn 38)) [(.tmp 14),(.cst (.str [32]))] [] []),oo 2 (.mov (.tmp 15)),oo 3 (.mov (.cst (.int .i64 0)))]
def A6u:TFd:=⟨1,[(.tmp 2,.bool),(.tmp 3,.bool)],[],(.seq (.ops Awp) (.seq (.seq (.ops Awq) (.cond (.tmp 8) (.free (.seq (.ops Awr) (.keep Ah8 .ret))) .skip)) (.seq (.ops Aws) (.seq (.ops Awt) (.keep Ah8 .ret)))))⟩
noncomputable def Uj:Ent:=⟨[.ty (.sl (.st 4))],[],[(.sl (.st 4))],⟨(.tup [(.ty .str),(.ty (.int .i64))]),[],[],[.str,(.int .i64)],[],[]⟩,none,fun p=>E2 p⟩
theorem Ahl:Uj.ok Tryz.prog 17:=Aw hm Tryz.func17 (fd:=A6u) (by kernel_rfl) (Al (l:=[(23,Gs),(37,(Mn 100000)),(38,Sn)]) (y:=[]) ⟨Hg,(Ri 100000),T9,trivial⟩ trivial) (by kernel_rfl) (fun p=>by kernel_rfl)
def Acw:List TOp:=[oo 4 (.mov (.cst (.str [])))]
def Acx:List TOp:=[oo 6 (.mov (.tmp 0)),oo 7 (.mov (.tmp 1)),ot 8 .str (.lit false 1 [(.tmp 7)]),oo 9 (.call 0 2 (.cst (.fn 56)) [(.tmp 6),(.tmp 8)] [] [.ext 0])]
def Acy:List TOp:=[oo 10 (.mov (.tmp 0)),oo 11 (.call 0 2 (.cst (.fn 61)) [(.tmp 10),(.cst (.int .i64 1)),(.cst (.bool true))] [] [.ext 0]),oo 5 (.mov (.tmp 11))]
def Acz:List TOp:=[oo 12 (.mov (.tmp 0)),ot 13 .str (.lit false 1 [(.cst (.str [59]))]),oo 14 (.call 0 2 (.cst (.fn 56)) [(.tmp 12),(.tmp 13)] [] [.ext 0])]
def Ac0:List TOp:=[oo 15 (.mov (.tmp 5)),oo 4 (.mov (.tmp 15))]
def Acv:Kp:=⟨[],[(4,false)],[(.ext 0,false)],[],[]⟩
def Ah9:TFd:=⟨2,[(.tmp 4,.bool)],[],(.seq (.ops Acw) (.seq (.ops Acx) (.seq (.ops Acy) (.seq (.ops Acz) (.seq (.ops Ac0) (.keep Acv .ret))))))⟩
noncomputable def Le:Ent:=⟨[.ptr (.ext 0) 0,.ty .str],[.st 3],[.str,(.st 3)],⟨(.ty .str),[],[some (.st 3)],[.str,(.st 3)],[],[]⟩,none,fun p=>Cp p.1 p.2⟩
theorem Aao:Le.ok Tryz.prog 62:=Aw hm Tryz.func62 (fd:=Ah9) (by kernel_rfl) (Al (l:=[(56,D1),(61,Fk)]) (y:=[]) ⟨E4,Hj,trivial⟩ trivial) (by kernel_rfl) (fun p=>by kernel_rfl)
def Y5:List TOp:=[oo 2 (.alloc [.pv (.str []),.pv (.str []),.pv (.str []),.pv (.str []),.nils,.nils,.pv (.str []),.pv (.str []),.pv (.str [])])]
def Y6:List TOp:=[oo 3 (.alloc [.pv (.str []),.pv (.str []),.pv (.str []),.pv (.str []),.nils,.nils,.pv (.str []),.pv (.str []),.pv (.str [])])]
def Y7:List TOp:=[oo 6 (.mov (.tmp 0)),ot 7 .str (.lit false 1 [(.cst (.str [112,114,111,100,117,99,116]))]),oo 8 (.call 0 2 (.cst (.fn 56)) [(.tmp 6),(.tmp 7)] [] [.ext 0])]
def Y8:List TOp:=[oo 9 (.mov (.tmp 0)),oo 10 (.call 0 2 (.cst (.fn 61)) [(.tmp 9),(.cst (.int .i64 0)),(.cst (.bool true))] [] [.ext 0]),oo 11 (.mov (.tmp 0)),oo 12 (.call 0 2 (.cst (.fn 61)) [(.tmp 11),(.cst (.int .i64 0)),(.cst (.bool true))] [] [.ext 0]),oo 13 (.fld 0 (.tmp 3)),on (.store 1 (.tmp 13) (.tmp 10)),oo 14 (.fld 1 (.tmp 3)),on (.store 1 (.tmp 14) (.tmp 12))]
def Y9:List TOp:=[oo 15 (.mov (.tmp 0)),ot 16 .str (.lit false 1 [(.cst (.str [123])),(.cst (.str [98,97,115,105,115]))]),oo 17 (.call 0 2 (.cst (.fn 56)) [(.tmp 15),(.tmp 16)] [] [.ext 0])]
def Za:List TOp:=[oo 18 (.mov (.tmp 0)),oo 19 (.call 0 2 (.cst (.fn 61)) [(.tmp 18),(.cst (.int .i64 0)),(.cst (.bool true))] [] [.ext 0]),oo 20 (.fld 2 (.tmp 3)),on (.store 1 (.tmp 20) (.tmp 19))]
def Zb:List TOp:=[oo 21 (.mov (.tmp 0)),ot 22 .str (.lit false 1 [(.cst (.str [59]))]),oo 23 (.call 0 2 (.cst (.fn 56)) [(.tmp 21),(.tmp 22)] [] [.ext 0])]
def Zc:List TOp:=[oo 24 (.mov (.tmp 0)),oo 25 (.call 0 2 (.cst (.fn 62)) [(.tmp 24),(.cst (.str [112,101,114,105,111,100]))] [] [.ext 0]),oo 26 (.fld 3 (.tmp 3)),on (.store 1 (.tmp 26) (.tmp 25))]
def Zd:List TOp:=[oo 27 (.mov (.tmp 0)),ot 28 .str (.lit false 1 [(.cst (.str [116,105,101,114,115])),(.cst (.str [123]))]),oo 29 (.call 0 2 (.cst (.fn 56)) [(.tmp 27),(.tmp 28)] [] [.ext 0])]
def Ze:List TOp:=[oo 4 (.mov (.cst (.bool true)))]
def Vt:List TOp:=[oo 30 (.mov (.tmp 0)),oo 31 (.nchk (.tmp 30)),oo 32 (.fld 2 (.tmp 31)),oo 33 (.load false 1 (.tmp 32)),oo 34 (.un .not (.tmp 33)),oo 35 (.mov (.tmp 34)),og 36 35 true .bool (.mov (.tmp 4)),og 37 35 true .bool (.mov (.tmp 36)),og 38 37 false .bool (.mov (.tmp 0)),og 39 37 false .bool (.call 0 2 (.cst (.fn 63)) [(.tmp 38),(.cst (.str [125]))] [] [.ext 0]),og 40 37 false .bool (.un .not (.tmp 39)),og 41 35 true .bool (.pick (.tmp 37) (.cst (.bool true)) (.tmp 40)),oo 42 (.pick (.tmp 35) (.tmp 41) (.cst (.bool false)))]
def Vu:List TOp:=[oo 43 (.mov (.tmp 0)),oo 44 (.call 0 2 (.cst (.fn 61)) [(.tmp 43),(.cst (.int .i64 1)),(.cst (.bool true))] [] [.ext 0]),ot 45 (.st 6) (.build [.pv (.str []),.pv (.str [])] [(0,1,(.tmp 44))]),oo 5 (.alloc [.pv (.str []),.pv (.str [])]),on (.store 2 (.tmp 5) (.tmp 45))]
def Vv:List TOp:=[oo 46 (.mov (.tmp 0)),ot 47 .str (.lit false 1 [(.cst (.str [58]))]),oo 48 (.call 0 2 (.cst (.fn 56)) [(.tmp 46),(.tmp 47)] [] [.ext 0])]
def Vw:List TOp:=[oo 49 (.mov (.tmp 0)),oo 50 (.call 0 2 (.cst (.fn 61)) [(.tmp 49),(.cst (.int .i64 1)),(.cst (.bool true))] [] [.ext 0]),oo 51 (.fld 1 (.tmp 5)),on (.store 1 (.tmp 51) (.tmp 50))]
def Vx:List TOp:=[oo 52 (.mov (.tmp 0)),ot 53 .str (.lit false 1 [(.cst (.str [37])),(.cst (.str [59]))]),oo 54 (.call 0 2 (.cst (.fn 56)) [(.tmp 52),(.tmp 53)] [] [.ext 0])]
def Vy:List TOp:=[oo 55 (.fld 4 (.tmp 3)),oo 56 (.load false 1 (.tmp 55)),ot 57 (.st 6) (.load true 2 (.tmp 5)),ot 58 (.st 6) (.lit false 2 [(.tmp 57)]),ot 59 (.st 6) (.append 500003 2 32 (.tmp 56) (.tmp 58)),oo 60 (.fld 4 (.tmp 3)),on (.store 1 (.tmp 60) (.tmp 59))]
def Vz:List TOp:=[oo 4 (.mov (.cst (.bool false)))]
def Vs:DC:=(.seq (.seq (.ops Vt) (.cond (.tmp 42) .skip (.exit 0))) (.seq (.pass 1 (.seq (.ops Vu) (.seq (.ops Vv) (.seq (.ops Vw) (.seq (.ops Vx) (.ops Vy)))))) (.ops Vz)))
def Vp:Kp:=⟨[],[(0,false),(2,false),(3,false),(4,false)],[(.loc 500003 0,false),(.ext 0,false),(.loc 2 0,false),(.loc 3 0,true)],[.loc 5 0],[((.cell (.loc 3 0) 4 (.loc 500003 0) 2),(.st 6))]⟩
def V6:Sig:=⟨[(0,some (.ptr (.ext 0) 0)),(2,some (.ptr (.loc 2 0) 0)),(3,some (.ptr (.loc 3 0) 0)),(4,some (.ty .bool))],[(.loc 500003 0,(.row (.st 6))),(.ext 0,(.st 3)),(.loc 2 0,(.box [none,none,none,none,some .nils,some .nils,none,none,none])),(.loc 3 0,(.box [some (.ty .str),some (.ty .str),some (.ty .str),some (.ty .str),some (.own (.loc 500003 0)),some (.ty (.sl (.st 4))),some (.ty .str),some (.ty .str),some (.ty .str)]))],[.bool,(.st 3),.str,.str,.str,.str,(.sl (.st 4)),.str,.str,.str,(.sl (.st 6))],[0,2,3,4,5,6,7,8,9,10,1],[0,10,1,2,3,4,5,6,7,8,9]⟩
def Vq:Kp:=⟨[.loc 500003 0],[(0,false),(2,false),(3,false)],[(.ext 0,false),(.loc 2 0,false),(.loc 3 0,true)],[],[]⟩
def V7:Sig:=⟨[(0,some (.ptr (.ext 0) 0)),(2,some (.ptr (.loc 2 0) 0)),(3,some (.ptr (.loc 3 0) 0))],[(.ext 0,(.st 3)),(.loc 2 0,(.box [none,none,none,none,some .nils,some .nils,none,none,none])),(.loc 3 0,(.st 7))],[(.st 3),(.st 7)],[],[]⟩
def V0:List TOp:=[oo 61 (.mov (.tmp 0)),ot 62 .str (.lit false 1 [(.cst (.str [125])),(.cst (.str [102,101,101]))]),oo 63 (.call 0 2 (.cst (.fn 56)) [(.tmp 61),(.tmp 62)] [] [.ext 0])]
def V1:List TOp:=[oo 64 (.mov (.tmp 0)),oo 65 (.call 0 2 (.cst (.fn 30)) [(.tmp 64)] [] [.ext 0]),oo 66 (.fld 5 (.tmp 3)),on (.store 1 (.tmp 66) (.tmp 65))]
def V2:List TOp:=[oo 67 (.mov (.tmp 0)),ot 68 .str (.lit false 1 [(.cst (.str [59]))]),oo 69 (.call 0 2 (.cst (.fn 56)) [(.tmp 67),(.tmp 68)] [] [.ext 0])]
def V3:List TOp:=[oo 70 (.mov (.tmp 0)),oo 71 (.call 0 2 (.cst (.fn 62)) [(.tmp 70),(.cst (.str [109,105,110,105,109,117,109]))] [] [.ext 0]),oo 72 (.mov (.tmp 0)),oo 73 (.call 0 2 (.cst (.fn 62)) [(.tmp 72),(.cst (.str [111,118,101,114,100,114,97,102,116]))] [] [.ext 0]),oo 74 (.mov (.tmp 0)),oo 75 (.call 0 2 (.cst (.fn 62)) [(.tmp 74),(.cst (.str [110,111,116,105,99,101]))] [] [.ext 0]),oo 76 (.fld 6 (.tmp 3)),on (.store 1 (.tmp 76) (.tmp 71)),oo 77 (.fld 7 (.tmp 3)),on (.store 1 (.tmp 77) (.tmp 73)),oo 78 (.fld 8 (.tmp 3)),on (.store 1 (.tmp 78) (.tmp 75))]
def V4:List TOp:=[oo 79 (.mov (.tmp 0)),ot 80 .str (.lit false 1 [(.cst (.str [125]))]),oo 81 (.call 0 2 (.cst (.fn 56)) [(.tmp 79),(.tmp 80)] [] [.ext 0])]
def V5:List TOp:=[ot 82 (.st 7) (.load true 9 (.tmp 3)),on (.store 9 (.tmp 2) (.tmp 82))]
def Vr:Kp:=⟨[],[(2,false)],[(.ext 0,false),(.loc 2 0,false)],[],[]⟩
def Agd:TFd:=⟨1,[(.cell 2 true 9,(.st 7))],[],(.seq (.ops Y5) (.seq (.ops Y6) (.seq (.ops Y7) (.seq (.ops Y8) (.seq (.ops Y9) (.seq (.ops Za) (.seq (.ops Zb) (.seq (.ops Zc) (.seq (.ops Zd) (.seq (.seq (.ops Ze) (.join Vq V7 (.block 0 (.loop [0,2,3,4] [] Vp V6 Vs)))) (.seq (.ops V0) (.seq (.ops V1) (.seq (.ops V2) (.seq (.ops V3) (.seq (.ops V4) (.seq (.ops V5) (.keep Vr .ret)))))))))))))))))⟩
noncomputable def Jz:Ent:=⟨[.ptr (.ext 0) 0],[.st 3],[(.st 3)],⟨(.ty (.st 7)),[],[some (.st 3)],[(.st 7),(.st 3)],[],[]⟩,none,fun p=>Dp p⟩
theorem W5:Jz.ok Tryz.prog 35:=Aw hm Tryz.func35 (fd:=Agd) (by kernel_rfl) (Al (l:=[(56,D1),(61,Fk),(62,Le),(63,G1),(30,(Dg 100000))]) (y:=[]) ⟨E4,Hj,Aao,It,(Og 100000),trivial⟩ trivial) (by kernel_rfl) (fun p=>by kernel_rfl)
def A6k:List TOp:=[oo 2 (.mov .nils),oo 3 (.mov (.cst (.int .i64 0))),oo 4 (.mov (.cst (.int .i64 0))),oo 5 (.mov (.cst (.int .i64 0)))]
def A6l:List TOp:=[oo 17 (.mov (.tmp 0)),oo 18 (.call 1 0 (.cst (.fn 29)) [(.tmp 17)] [] []),oo 16 (.mov (.tmp 18)),oo 19 (.ext 0 (.tmp 16)),oo 20 (.ext 1 (.tmp 16)),oo 21 (.ext 2 (.tmp 16)),oo 22 (.ext 3 (.tmp 16)),oo 6 (.mov (.tmp 19)),oo 7 (.mov (.tmp 20)),oo 8 (.mov (.tmp 21)),oo 9 (.mov (.tmp 22))]
def A6m:List TOp:=[oo 23 (.mov (.tmp 9)),oo 24 (.bin false .neq (.tmp 23) (.cst (.int .i64 0)))]
def A6n:List TOp:=[oo 25 (.mov (.tmp 7)),oo 26 (.mov (.tmp 8)),oo 27 (.mov (.tmp 9)),oo 2 (.mov .nils),oo 3 (.mov (.tmp 25)),oo 4 (.mov (.tmp 26)),oo 5 (.mov (.tmp 27))]
def Acs:Kp:=⟨[],[(2,true),(3,false),(4,false),(5,false)],[],[],[]⟩
def A6o:List TOp:=[oo 10 (.mov .nils)]
def A6p:List TOp:=[oo 11 (.mov (.cst (.bool true)))]
def A6q:List TOp:=[oo 28 (.mov (.tmp 6)),oo 29 (.nchk (.tmp 28)),oo 30 (.fld 2 (.tmp 29)),oo 31 (.load false 1 (.tmp 30)),oo 32 (.un .not (.tmp 31)),oo 33 (.mov (.tmp 32)),og 34 33 true .bool (.mov (.tmp 6)),og 35 33 true .bool (.nchk (.tmp 34)),og 36 33 true .bool (.fld 1 (.tmp 35)),og 37 33 true .bool (.load false 1 (.tmp 36)),og 38 33 true .bool (.mov (.tmp 6)),og 39 33 true .bool (.nchk (.tmp 38)),og 40 33 true .bool (.fld 0 (.tmp 39)),og 41 33 true .bool (.load false 1 (.tmp 40)),og 42 33 true .bool (.len false (.tmp 41)),og 43 33 true .bool (.bin false .lss (.tmp 37) (.tmp 42)),oo 44 (.pick (.tmp 33) (.tmp 43) (.cst (.bool false)))]
def A6r:List TOp:=[oo 45 (.mov (.tmp 6)),oo 46 (.call 0 2 (.cst (.fn 35)) [(.tmp 45)] [] [.loc 18 0]),oo 12 (.alloc [.pv (.str []),.pv (.str []),.pv (.str []),.pv (.str []),.nils,.nils,.pv (.str []),.pv (.str []),.pv (.str [])]),on (.store 9 (.tmp 12) (.tmp 46))]
def A6s:List TOp:=[oo 47 (.mov (.tmp 11)),oo 48 (.mov (.tmp 47)),og 49 48 true .bool (.fld 4 (.tmp 12)),og 50 48 true .bool (.load false 1 (.tmp 49)),og 51 48 true .bool (.len false (.tmp 50)),og 52 48 true .bool (.bin false .leq (.tmp 51) (.cst (.int .i64 8))),oo 53 (.pick (.tmp 48) (.tmp 52) (.cst (.bool false))),oo 54 (.mov (.tmp 53)),og 55 54 true .bool (.fld 5 (.tmp 12)),og 56 54 true .bool (.load false 1 (.tmp 55)),og 57 54 true .bool (.call 0 0 (.cst (.fn 23)) [(.tmp 56)] [] []),oo 58 (.pick (.tmp 54) (.tmp 57) (.cst (.bool false))),oo 11 (.mov (.tmp 58))]
def Az9:List TOp:=[oo 59 (.mov (.tmp 10)),ot 60 (.st 7) (.load true 9 (.tmp 12)),ot 61 (.st 7) (.lit false 9 [(.tmp 60)]),ot 62 (.st 7) (.append 10 9 160 (.tmp 59) (.tmp 61)),oo 10 (.mov (.tmp 62))]
def Az8:DC:=(.seq (.seq (.draw [] A6q) (.cond (.tmp 44) .skip (.exit 0))) (.pass 1 (.seq (.ops A6r) (.seq (.ops A6s) (.ops Az9)))))
def Az6:Kp:=⟨[],[(0,false),(6,false),(10,false),(11,false)],[(.loc 10 0,false),(.loc 18 0,false)],[.loc 12 0],[((.slot 10 (.loc 10 0) 9),(.st 7))]⟩
def A0e:Sig:=⟨[(0,none),(6,some (.ptr (.loc 18 0) 0)),(10,some (.own (.loc 10 0))),(11,some (.ty .bool))],[(.loc 10 0,(.row (.st 7))),(.loc 18 0,(.st 3))],[.bool,(.st 3),(.sl (.st 7))],[0,2,1],[0,2,1]⟩
def Az7:Kp:=⟨[.loc 10 0],[(0,false),(6,false),(10,true),(11,false)],[(.loc 18 0,false)],[],[]⟩
def A0f:Sig:=⟨[(0,none),(6,some (.ptr (.loc 18 0) 0)),(10,some (.ty (.sl (.st 7)))),(11,some (.ty .bool))],[(.loc 18 0,(.st 3))],[(.sl (.st 7)),.bool,(.st 3)],[],[]⟩
def A0a:List TOp:=[oo 64 (.mov (.tmp 6)),oo 65 (.mov (.tmp 0)),oo 66 (.mov (.tmp 11)),oo 67 (.mov (.tmp 66)),og 68 67 true .bool (.mov (.tmp 10)),og 69 67 true .bool (.len false (.tmp 68)),og 70 67 true .bool (.bin false .leq (.tmp 69) (.cst (.int .i64 16))),oo 71 (.pick (.tmp 67) (.tmp 70) (.cst (.bool false))),oo 72 (.call 0 2 (.cst (.fn 31)) [(.tmp 64),(.tmp 65),(.tmp 71)] [] [.loc 18 0]),oo 63 (.mov (.tmp 72)),oo 73 (.ext 0 (.tmp 63)),oo 74 (.ext 1 (.tmp 63)),oo 75 (.ext 2 (.tmp 63)),oo 13 (.mov (.tmp 73)),oo 14 (.mov (.tmp 74)),oo 15 (.mov (.tmp 75))]
def A0b:List TOp:=[oo 76 (.mov (.tmp 15)),oo 77 (.bin false .neq (.tmp 76) (.cst (.int .i64 0)))]
def A0c:List TOp:=[oo 78 (.mov (.tmp 13)),oo 79 (.mov (.tmp 14)),oo 80 (.mov (.tmp 15)),oo 2 (.mov .nils),oo 3 (.mov (.tmp 78)),oo 4 (.mov (.tmp 79)),oo 5 (.mov (.tmp 80))]
def A0d:List TOp:=[oo 81 (.mov (.tmp 10)),oo 2 (.mov (.tmp 81)),oo 3 (.mov (.cst (.int .i64 0))),oo 4 (.mov (.cst (.int .i64 0))),oo 5 (.mov (.cst (.int .i64 0)))]
def Be9:TFd:=⟨1,[(.tmp 2,.bool),(.tmp 3,.bool),(.tmp 4,.bool),(.tmp 5,.bool)],[],(.seq (.ops A6k) (.seq (.ops A6l) (.seq (.seq (.ops A6m) (.cond (.tmp 24) (.free (.seq (.ops A6n) (.keep Acs .ret))) .skip)) (.seq (.ops A6o) (.seq (.ops A6p) (.seq (.join Az7 A0f (.block 0 (.loop [0,6,10,11] [] Az6 A0e Az8))) (.seq (.seq (.ops A0a) (.seq (.ops A0b) (.cond (.tmp 77) (.free (.seq (.ops A0c) (.keep Acs .ret))) .skip))) (.seq (.ops A0d) (.keep Acs .ret)))))))))⟩
noncomputable def Ahj:Ent:=⟨[.ty .str],[],[.str],⟨(.tup [(.ty (.sl (.st 7))),(.ty (.int .i64)),(.ty (.int .i64)),(.ty (.int .i64))]),[],[],[(.sl (.st 7)),(.int .i64),(.int .i64),(.int .i64)],[],[]⟩,none,fun p=>Eb p⟩
theorem Aot:Ahj.ok Tryz.prog 12:=Aw hm Tryz.func12 (fd:=Be9) (by kernel_rfl) (Al (l:=[(29,Uk),(35,Jz),(23,Gs),(31,Ir)]) (y:=[]) ⟨Ahm,W5,Hg,Oh,trivial⟩ trivial) (by kernel_rfl) (fun p=>by kernel_rfl)
def Aw6:List TOp:=[oo 1 (.box (.tmp 0)),oo 2 (.mov (.cst (.bool false)))]
def Aw7:List TOp:=[oo 3 (.fld 0 (.tmp 1)),oo 4 (.load false 1 (.tmp 3)),oo 5 (.call 0 0 (.cst (.fn 75)) [(.tmp 4)] [] []),oo 6 (.un .not (.tmp 5)),oo 7 (.mov (.tmp 6)),og 8 7 false .bool (.fld 1 (.tmp 1)),og 9 7 false .bool (.load false 1 (.tmp 8)),og 10 7 false .bool (.call 0 0 (.cst (.fn 75)) [(.tmp 9)] [] []),og 11 7 false .bool (.un .not (.tmp 10)),oo 12 (.pick (.tmp 7) (.cst (.bool true)) (.tmp 11)),oo 2 (.mov (.tmp 12))]
def Aw5:Kp:=⟨[],[(2,false)],[],[],[]⟩
def A66:TFd:=⟨1,[(.tmp 2,.bool)],[],(.seq (.ops Aw6) (.seq (.ops Aw7) (.keep Aw5 .ret)))⟩
noncomputable def Ali:Ent:=⟨[.ty (.st 6)],[],[(.st 6)],⟨(.ty .bool),[],[],[.bool],[],[]⟩,none,fun p=>M1 p⟩
theorem Avw:Ali.ok Tryz.prog 76:=Aw hm Tryz.func76 (fd:=A66) (by kernel_rfl) (Al (l:=[(75,Jw)]) (y:=[]) ⟨N9,trivial⟩ trivial) (by kernel_rfl) (fun p=>by kernel_rfl)
def M7:List TOp:=[oo 4 (.mov (.cst (.int .i64 0)))]
def M8:List TOp:=[oo 6 (.mov (.tmp 0)),oo 7 (.len false (.tmp 6)),oo 8 (.mov (.cst (.int .i64 0)))]
def M9:List TOp:=[oo 9 (.bin false .lss (.tmp 8) (.tmp 7))]
def Na:List TOp:=[oo 10 (.mov (.tmp 8)),oo 5 (.mov (.tmp 10))]
def Nb:List TOp:=[oo 11 (.mov (.tmp 1)),oo 12 (.mov (.tmp 0)),oo 13 (.mov (.tmp 5)),oo 14 (.idx 2 (.tmp 12) (.tmp 13)),ot 15 (.st 6) (.load true 2 (.tmp 14)),oo 16 (.call 0 0 (.tmp 11) [(.tmp 15)] [] [])]
def Nc:List TOp:=[oo 17 (.mov (.tmp 5)),oo 4 (.mov (.tmp 17))]
def F6:Kp:=⟨[],[(4,false)],[],[],[]⟩
def Nf:List TOp:=[oo 18 (.bin false .add (.tmp 8) (.cst (.int .i64 1))),oo 8 (.mov (.tmp 18))]
def M6:DC:=(.seq (.ops M9) (.seq (.cond (.tmp 9) .skip (.exit 0)) (.seq (.pass 1 (.seq (.ops Na) (.seq (.ops Nb) (.cond (.tmp 16) (.free (.seq (.ops Nc) (.keep F6 .ret))) .skip)))) (.ops Nf))))
def M5:Kp:=⟨[],[(0,false),(1,false),(7,false),(8,false)],[],[],[]⟩
def L3:Sig:=⟨[(0,none),(1,some (.fnc 76)),(7,none),(8,some (.ty (.int .i64)))],[],[(.int .i64)],[],[]⟩
def L1:Kp:=⟨[],[],[],[],[]⟩
def L4:Sig:=⟨[],[],[],[],[]⟩
def L2:List TOp:=[oo 4 (.mov (.cst (.int .i64 (-1))))]
def Qf:TFd:=⟨2,[(.tmp 4,.bool)],[],(.seq (.ops M7) (.seq (.seq (.ops M8) (.joinO L1 L4 (.block 0 (.loop [0,1,7,8] [] M5 L3 M6)))) (.seq (.ops L2) (.keep F6 .ret))))⟩
noncomputable def Gm:Ent:=⟨[.ty (.sl (.st 6)),.fnc 76],[],[(.sl (.st 6))],⟨(.ty (.int .i64)),[],[],[(.int .i64)],[],[]⟩,none,fun p=>Ek p⟩
theorem N0:Gm.ok Tryz.prog 104:=Aw hm Tryz.func104 (fd:=Qf) (by kernel_rfl) (Al (l:=[(76,Ali)]) (y:=[]) ⟨Avw,trivial⟩ trivial) (by kernel_rfl) (fun p=>by kernel_rfl)
def J6:List TOp:=[oo 4 (.mov (.cst (.bool false)))]
def J7:List TOp:=[oo 5 (.mov (.tmp 0)),oo 6 (.mov (.tmp 1)),oo 7 (.call 0 0 (.cst (.fn 104)) [(.tmp 5),(.tmp 6)] [] []),oo 8 (.bin false .geq (.tmp 7) (.cst (.int .i64 0))),oo 4 (.mov (.tmp 8))]
def J5:Kp:=⟨[],[(4,false)],[],[],[]⟩
def Ly:TFd:=⟨2,[(.tmp 4,.bool)],[],(.seq (.ops J6) (.seq (.ops J7) (.keep J5 .ret)))⟩
noncomputable def Fc:Ent:=⟨[.ty (.sl (.st 6)),.fnc 76],[],[(.sl (.st 6))],⟨(.ty .bool),[],[],[.bool],[],[]⟩,none,fun p=>Cr p⟩
theorem Kg:Fc.ok Tryz.prog 77:=Aw hm Tryz.func77 (fd:=Ly) (by kernel_rfl) (Al (l:=[(104,Gm)]) (y:=[]) ⟨N0,trivial⟩ trivial) (by kernel_rfl) (fun p=>by kernel_rfl)
def A69:List TOp:=[oo 1 (.box (.tmp 0)),oo 2 (.mov (.cst (.bool false)))]
def A7a:List TOp:=[oo 8 (.fld 0 (.tmp 1)),oo 9 (.load false 1 (.tmp 8)),oo 10 (.fld 1 (.tmp 1)),oo 11 (.load false 1 (.tmp 10)),oo 12 (.fld 2 (.tmp 1)),oo 13 (.load false 1 (.tmp 12)),ot 14 .str (.lit false 1 [(.tmp 9),(.tmp 11),(.tmp 13)]),oo 15 (.len false (.tmp 14)),oo 16 (.mov (.cst (.int .i64 0)))]
def A7b:List TOp:=[oo 17 (.bin false .lss (.tmp 16) (.tmp 15))]
def A7c:List TOp:=[oo 18 (.idx 1 (.tmp 14) (.tmp 16)),oo 19 (.load false 1 (.tmp 18)),oo 4 (.mov (.tmp 19))]
def A7d:List TOp:=[oo 20 (.mov (.tmp 4)),oo 21 (.call 0 0 (.cst (.fn 74)) [(.tmp 20),(.cst (.bool true))] [] []),oo 22 (.un .not (.tmp 21))]
def A7e:List TOp:=[oo 2 (.mov (.cst (.bool false)))]
def Acu:Kp:=⟨[],[(2,false)],[],[],[]⟩
def A7f:List TOp:=[oo 23 (.bin false .add (.tmp 16) (.cst (.int .i64 1))),oo 16 (.mov (.tmp 23))]
def A68:DC:=(.seq (.ops A7b) (.seq (.cond (.tmp 17) .skip (.exit 0)) (.seq (.pass 1 (.seq (.ops A7c) (.seq (.ops A7d) (.cond (.tmp 22) (.free (.seq (.ops A7e) (.keep Acu .ret))) .skip)))) (.ops A7f))))
def A67:Kp:=⟨[],[(1,false),(14,false),(15,false),(16,false)],[(.loc 1 0,false)],[],[]⟩
def A1a:Sig:=⟨[(1,some (.ptr (.loc 1 0) 0)),(14,none),(15,none),(16,some (.ty (.int .i64)))],[(.loc 1 0,(.box [none,none,none,none,none,none,none,none,none]))],[(.int .i64)],[],[]⟩
def Alp:Kp:=⟨[],[(1,false)],[(.loc 1 0,false)],[],[]⟩
def Alq:Sig:=⟨[(1,some (.ptr (.loc 1 0) 0))],[(.loc 1 0,(.box [none,none,none,none,none,none,none,none,none]))],[],[],[]⟩
def A02:List TOp:=[oo 24 (.fld 3 (.tmp 1)),oo 25 (.load false 1 (.tmp 24)),oo 26 (.fld 6 (.tmp 1)),oo 27 (.load false 1 (.tmp 26)),oo 28 (.fld 7 (.tmp 1)),oo 29 (.load false 1 (.tmp 28)),oo 30 (.fld 8 (.tmp 1)),oo 31 (.load false 1 (.tmp 30)),ot 32 .str (.lit false 1 [(.tmp 25),(.tmp 27),(.tmp 29),(.tmp 31)]),oo 33 (.len false (.tmp 32)),oo 34 (.mov (.cst (.int .i64 0)))]
def A03:List TOp:=[oo 35 (.bin false .lss (.tmp 34) (.tmp 33))]
def A04:List TOp:=[oo 36 (.idx 1 (.tmp 32) (.tmp 34)),oo 37 (.load false 1 (.tmp 36)),oo 6 (.mov (.tmp 37))]
def A05:List TOp:=[oo 38 (.mov (.tmp 6)),oo 39 (.call 0 0 (.cst (.fn 75)) [(.tmp 38)] [] []),oo 40 (.un .not (.tmp 39))]
def A06:List TOp:=[oo 2 (.mov (.cst (.bool false)))]
def A07:List TOp:=[oo 41 (.bin false .add (.tmp 34) (.cst (.int .i64 1))),oo 34 (.mov (.tmp 41))]
def A01:DC:=(.seq (.ops A03) (.seq (.cond (.tmp 35) .skip (.exit 2)) (.seq (.pass 3 (.seq (.ops A04) (.seq (.ops A05) (.cond (.tmp 40) (.free (.seq (.ops A06) (.keep Acu .ret))) .skip)))) (.ops A07))))
def A00:Kp:=⟨[],[(1,false),(32,false),(33,false),(34,false)],[(.loc 1 0,false)],[],[]⟩
def A1b:Sig:=⟨[(1,some (.ptr (.loc 1 0) 0)),(32,none),(33,none),(34,some (.ty (.int .i64)))],[(.loc 1 0,(.box [none,none,none,none,none,none,none,none,none]))],[(.int .i64)],[],[]⟩
def A08:List TOp:=[oo 7 (.mov (.cst (.fn 76)))]
def A09:List TOp:=[oo 42 (.fld 4 (.tmp 1)),oo 43 (.load false 1 (.tmp 42)),oo 44 (.len false (.tmp 43)),oo 45 (.bin false .geq (.tmp 44) (.cst (.int .i64 1))),oo 46 (.mov (.tmp 45)),og 47 46 true .bool (.fld 4 (.tmp 1)),og 48 46 true .bool (.load false 1 (.tmp 47)),og 49 46 true .bool (.len false (.tmp 48)),og 50 46 true .bool (.bin false .leq (.tmp 49) (.cst (.int .i64 8))),oo 51 (.pick (.tmp 46) (.tmp 50) (.cst (.bool false))),oo 52 (.mov (.tmp 51)),og 53 52 true .bool (.fld 4 (.tmp 1)),og 54 52 true .bool (.load false 1 (.tmp 53)),og 55 52 true .bool (.mov (.tmp 7)),og 56 52 true .bool (.call 0 0 (.cst (.fn 77)) [(.tmp 54),(.tmp 55)] [] []),og 57 52 true .bool (.un .not (.tmp 56)),oo 58 (.pick (.tmp 52) (.tmp 57) (.cst (.bool false))),oo 59 (.mov (.tmp 58)),og 60 59 true .bool (.fld 5 (.tmp 1)),og 61 59 true .bool (.load false 1 (.tmp 60)),og 62 59 true .bool (.call 0 0 (.cst (.fn 23)) [(.tmp 61)] [] []),oo 63 (.pick (.tmp 59) (.tmp 62) (.cst (.bool false))),oo 2 (.mov (.tmp 63))]
def Bfb:TFd:=⟨1,[(.tmp 2,.bool)],[],(.seq (.ops A69) (.seq (.seq (.ops A7a) (.joinO Alp Alq (.block 0 (.loop [1,14,15,16] [] A67 A1a A68)))) (.seq (.seq (.ops A02) (.joinO Alp Alq (.block 2 (.loop [1,32,33,34] [] A00 A1b A01)))) (.seq (.ops A08) (.seq (.ops A09) (.keep Acu .ret))))))⟩
noncomputable def Ary:Ent:=⟨[.ty (.st 7)],[],[(.st 7)],⟨(.ty .bool),[],[],[.bool],[],[]⟩,none,fun p=>Ajt p⟩
theorem A48:Ary.ok Tryz.prog 43:=Aw hm Tryz.func43 (fd:=Bfb) (by kernel_rfl) (Al (l:=[(74,Aaq),(75,Jw),(77,Fc),(23,Gs)]) (y:=[]) ⟨Alm,N9,Kg,Hg,trivial⟩ trivial) (by kernel_rfl) (fun p=>by kernel_rfl)
def Akd:List TOp:=[oo 1 (.box (.tmp 0)),oo 2 (.mov (.cst (.bool false)))]
def Ake:List TOp:=[ot 3 (.st 7) (.load true 9 (.tmp 1)),oo 4 (.call 0 0 (.cst (.fn 43)) [(.tmp 3)] [] []),oo 5 (.un .not (.tmp 4)),oo 2 (.mov (.tmp 5))]
def Akc:Kp:=⟨[],[(2,false)],[],[],[]⟩
def Ao2:TFd:=⟨1,[(.tmp 2,.bool)],[],(.seq (.ops Akd) (.seq (.ops Ake) (.keep Akc .ret)))⟩
noncomputable def Rg:Ent:=⟨[.ty (.st 7)],[],[(.st 7)],⟨(.ty .bool),[],[],[.bool],[],[]⟩,none,fun p=>Fp p⟩
theorem Aj5:Rg.ok Tryz.prog 42:=Aw hm Tryz.func42 (fd:=Ao2) (by kernel_rfl) (Al (l:=[(43,Ary)]) (y:=[]) ⟨A48,trivial⟩ trivial) (by kernel_rfl) (fun p=>by kernel_rfl)
def Ni:List TOp:=[oo 4 (.mov (.cst (.int .i64 0)))]
def Nj:List TOp:=[oo 6 (.mov (.tmp 0)),oo 7 (.len false (.tmp 6)),oo 8 (.mov (.cst (.int .i64 0)))]
def Nk:List TOp:=[oo 9 (.bin false .lss (.tmp 8) (.tmp 7))]
def Nl:List TOp:=[oo 10 (.mov (.tmp 8)),oo 5 (.mov (.tmp 10))]
def Nm:List TOp:=[oo 11 (.mov (.tmp 1)),oo 12 (.mov (.tmp 0)),oo 13 (.mov (.tmp 5)),oo 14 (.idx 9 (.tmp 12) (.tmp 13)),ot 15 (.st 7) (.load true 9 (.tmp 14)),oo 16 (.call 0 0 (.tmp 11) [(.tmp 15)] [] [])]
def Nn:List TOp:=[oo 17 (.mov (.tmp 5)),oo 4 (.mov (.tmp 17))]
def F7:Kp:=⟨[],[(4,false)],[],[],[]⟩
def Np:List TOp:=[oo 18 (.bin false .add (.tmp 8) (.cst (.int .i64 1))),oo 8 (.mov (.tmp 18))]
def Nh:DC:=(.seq (.ops Nk) (.seq (.cond (.tmp 9) .skip (.exit 0)) (.seq (.pass 1 (.seq (.ops Nl) (.seq (.ops Nm) (.cond (.tmp 16) (.free (.seq (.ops Nn) (.keep F7 .ret))) .skip)))) (.ops Np))))
def Ng:Kp:=⟨[],[(0,false),(1,false),(7,false),(8,false)],[],[],[]⟩
def L7:Sig:=⟨[(0,none),(1,some (.fnc 42)),(7,none),(8,some (.ty (.int .i64)))],[],[(.int .i64)],[],[]⟩
def L5:Kp:=⟨[],[],[],[],[]⟩
def L8:Sig:=⟨[],[],[],[],[]⟩
def L6:List TOp:=[oo 4 (.mov (.cst (.int .i64 (-1))))]
def Qg:TFd:=⟨2,[(.tmp 4,.bool)],[],(.seq (.ops Ni) (.seq (.seq (.ops Nj) (.joinO L5 L8 (.block 0 (.loop [0,1,7,8] [] Ng L7 Nh)))) (.seq (.ops L6) (.keep F7 .ret))))⟩
noncomputable def Gn:Ent:=⟨[.ty (.sl (.st 7)),.fnc 42],[],[(.sl (.st 7))],⟨(.ty (.int .i64)),[],[],[(.int .i64)],[],[]⟩,none,fun p=>El p⟩
theorem N1:Gn.ok Tryz.prog 78:=Aw hm Tryz.func78 (fd:=Qg) (by kernel_rfl) (Al (l:=[(42,Rg)]) (y:=[]) ⟨Aj5,trivial⟩ trivial) (by kernel_rfl) (fun p=>by kernel_rfl)
def J9:List TOp:=[oo 4 (.mov (.cst (.bool false)))]
def Ka:List TOp:=[oo 5 (.mov (.tmp 0)),oo 6 (.mov (.tmp 1)),oo 7 (.call 0 0 (.cst (.fn 78)) [(.tmp 5),(.tmp 6)] [] []),oo 8 (.bin false .geq (.tmp 7) (.cst (.int .i64 0))),oo 4 (.mov (.tmp 8))]
def J8:Kp:=⟨[],[(4,false)],[],[],[]⟩
def Lz:TFd:=⟨2,[(.tmp 4,.bool)],[],(.seq (.ops J9) (.seq (.ops Ka) (.keep J8 .ret)))⟩
noncomputable def Fe:Ent:=⟨[.ty (.sl (.st 7)),.fnc 42],[],[(.sl (.st 7))],⟨(.ty .bool),[],[],[.bool],[],[]⟩,none,fun p=>Cs p⟩
theorem Kh:Fe.ok Tryz.prog 44:=Aw hm Tryz.func44 (fd:=Lz) (by kernel_rfl) (Al (l:=[(78,Gn)]) (y:=[]) ⟨N1,trivial⟩ trivial) (by kernel_rfl) (fun p=>by kernel_rfl)
def Ao3:List TOp:=[oo 2 (.mov (.cst (.str []))),oo 3 (.mov (.cst (.int .i64 0)))]
def Ao4:List TOp:=[oo 4 (.mov (.cst (.fn 42)))]
def Ao5:List TOp:=[oo 12 (.mov (.tmp 0)),oo 13 (.len false (.tmp 12)),oo 14 (.bin false .gtr (.tmp 13) (.cst (.int .i64 16))),oo 15 (.mov (.tmp 14)),og 16 15 false .bool (.mov (.tmp 0)),og 17 15 false .bool (.mov (.tmp 4)),og 18 15 false .bool (.call 0 0 (.cst (.fn 44)) [(.tmp 16),(.tmp 17)] [] []),oo 19 (.pick (.tmp 15) (.cst (.bool true)) (.tmp 18))]
def Ao6:List TOp:=[oo 2 (.mov (.cst (.str []))),oo 3 (.mov (.cst (.int .i64 1)))]
def T5:Kp:=⟨[],[(2,false),(3,false)],[],[],[]⟩
def Ao7:List TOp:=[oo 5 (.mov .nils)]
def Ao8:List TOp:=[oo 20 (.mov (.tmp 0)),oo 21 (.len false (.tmp 20)),oo 22 (.mov (.cst (.int .i64 0)))]
def Ao9:List TOp:=[oo 23 (.bin false .lss (.tmp 22) (.tmp 21))]
def Apa:List TOp:=[oo 24 (.idx 9 (.tmp 20) (.tmp 22)),ot 25 (.st 7) (.load true 9 (.tmp 24)),oo 7 (.alloc [.pv (.str []),.pv (.str []),.pv (.str []),.pv (.str []),.nils,.nils,.pv (.str []),.pv (.str []),.pv (.str [])]),on (.store 9 (.tmp 7) (.tmp 25))]
def Apb:List TOp:=[oo 26 (.mov (.tmp 5)),oo 27 (.fld 0 (.tmp 7)),oo 28 (.load false 1 (.tmp 27)),oo 29 (.fld 1 (.tmp 7)),oo 30 (.load false 1 (.tmp 29)),oo 31 (.fld 2 (.tmp 7)),oo 32 (.load false 1 (.tmp 31)),oo 33 (.fld 3 (.tmp 7)),oo 34 (.load false 1 (.tmp 33)),ot 35 .str (.lit false 1 [(.cst (.str [112,114,111,100,117,99,116])),(.tmp 28),(.tmp 30),(.cst (.str [123])),(.cst (.str [98,97,115,105,115])),(.tmp 32),(.cst (.str [59])),(.cst (.str [112,101,114,105,111,100])),(.tmp 34),(.cst (.str [59])),(.cst (.str [116,105,101,114,115])),(.cst (.str [123]))]),ot 36 .str (.append 5 1 16 (.tmp 26) (.tmp 35)),oo 5 (.mov (.tmp 36))]
def Amu:List TOp:=[oo 37 (.fld 4 (.tmp 7)),oo 38 (.load false 1 (.tmp 37)),oo 39 (.len false (.tmp 38)),oo 40 (.mov (.cst (.int .i64 0)))]
def Amv:List TOp:=[oo 41 (.bin false .lss (.tmp 40) (.tmp 39))]
def Amw:List TOp:=[oo 42 (.idx 2 (.tmp 38) (.tmp 40)),ot 43 (.st 6) (.load true 2 (.tmp 42)),oo 9 (.alloc [.pv (.str []),.pv (.str [])]),on (.store 2 (.tmp 9) (.tmp 43))]
def Amx:List TOp:=[oo 44 (.mov (.tmp 5)),oo 45 (.fld 0 (.tmp 9)),oo 46 (.load false 1 (.tmp 45)),oo 47 (.fld 1 (.tmp 9)),oo 48 (.load false 1 (.tmp 47)),ot 49 .str (.lit false 1 [(.tmp 46),(.cst (.str [58])),(.tmp 48),(.cst (.str [37])),(.cst (.str [59]))]),ot 50 .str (.append 5 1 16 (.tmp 44) (.tmp 49)),oo 5 (.mov (.tmp 50))]
def Amy:List TOp:=[oo 51 (.bin false .add (.tmp 40) (.cst (.int .i64 1))),oo 40 (.mov (.tmp 51))]
def Ams:DC:=(.seq (.ops Amv) (.seq (.cond (.tmp 41) .skip (.exit 2)) (.seq (.pass 3 (.seq (.ops Amw) (.ops Amx))) (.ops Amy))))
def Amo:Kp:=⟨[],[(5,false),(7,false),(20,false),(21,false),(22,false),(38,false),(39,false),(40,false)],[(.loc 5 0,false),(.loc 7 0,false)],[.loc 9 0],[]⟩
def Am4:Sig:=⟨[(5,some (.own (.loc 5 0))),(7,some (.ptr (.loc 7 0) 0)),(20,none),(21,none),(22,none),(38,none),(39,none),(40,some (.ty (.int .i64)))],[(.loc 5 0,(.row .str)),(.loc 7 0,(.box [none,none,none,none,none,none,none,none,none]))],[(.int .i64),(.sl .str)],[],[]⟩
def Amp:Kp:=⟨[],[(5,false),(7,false),(20,false),(21,false),(22,false)],[(.loc 5 0,false),(.loc 7 0,false)],[],[]⟩
def Am5:Sig:=⟨[(5,some (.own (.loc 5 0))),(7,some (.ptr (.loc 7 0) 0)),(20,none),(21,none),(22,none)],[(.loc 5 0,(.row .str)),(.loc 7 0,(.box [none,none,none,none,none,none,none,none,none]))],[(.sl .str)],[],[]⟩
def Amz:List TOp:=[oo 53 (.fld 5 (.tmp 7)),oo 54 (.load false 1 (.tmp 53)),oo 55 (.call 0 0 (.cst (.fn 37)) [(.tmp 54),(.cst (.int .i64 0))] [] []),oo 52 (.mov (.tmp 55)),oo 56 (.ext 0 (.tmp 52)),oo 57 (.ext 1 (.tmp 52)),oo 10 (.mov (.tmp 56)),oo 11 (.mov (.tmp 57))]
def Am0:List TOp:=[oo 58 (.mov (.tmp 5)),ot 59 .str (.lit false 1 [(.cst (.str [125])),(.cst (.str [102,101,101]))]),ot 60 .str (.append 5 1 16 (.tmp 58) (.tmp 59)),oo 61 (.mov (.tmp 10)),ot 62 .str (.append 60 1 16 (.tmp 60) (.tmp 61)),oo 5 (.mov (.tmp 62))]
def Am1:List TOp:=[oo 63 (.mov (.tmp 5)),oo 64 (.fld 6 (.tmp 7)),oo 65 (.load false 1 (.tmp 64)),oo 66 (.fld 7 (.tmp 7)),oo 67 (.load false 1 (.tmp 66)),oo 68 (.fld 8 (.tmp 7)),oo 69 (.load false 1 (.tmp 68)),ot 70 .str (.lit false 1 [(.cst (.str [59])),(.cst (.str [109,105,110,105,109,117,109])),(.tmp 65),(.cst (.str [59])),(.cst (.str [111,118,101,114,100,114,97,102,116])),(.tmp 67),(.cst (.str [59])),(.cst (.str [110,111,116,105,99,101])),(.tmp 69),(.cst (.str [59])),(.cst (.str [125]))]),ot 71 .str (.append 5 1 16 (.tmp 63) (.tmp 70)),oo 5 (.mov (.tmp 71))]
def Am2:List TOp:=[oo 72 (.bin false .add (.tmp 22) (.cst (.int .i64 1))),oo 22 (.mov (.tmp 72))]
def Amt:DC:=(.seq (.ops Ao9) (.seq (.cond (.tmp 23) .skip (.exit 0)) (.seq (.pass 1 (.seq (.ops Apa) (.seq (.ops Apb) (.seq (.seq (.ops Amu) (.join Amp Am5 (.block 2 (.loop [5,7,20,21,22,38,39,40] [] Amo Am4 Ams)))) (.seq (.ops Amz) (.seq (.ops Am0) (.ops Am1))))))) (.ops Am2))))
def Amq:Kp:=⟨[],[(5,false),(20,false),(21,false),(22,false)],[(.loc 5 0,false)],[.loc 7 0],[((.slot 5 (.loc 5 0) 1),.str)]⟩
def Am6:Sig:=⟨[(5,some (.own (.loc 5 0))),(20,none),(21,none),(22,some (.ty (.int .i64)))],[(.loc 5 0,(.row .str))],[(.int .i64),(.sl .str)],[],[]⟩
def Amr:Kp:=⟨[.loc 5 0],[(5,true)],[],[],[]⟩
def Am7:Sig:=⟨[(5,some (.ty (.sl .str)))],[],[(.sl .str)],[],[]⟩
def Am3:List TOp:=[oo 73 (.mov (.tmp 5)),oo 74 (.call 0 0 (.cst (.fn 38)) [(.tmp 73),(.cst (.str [32]))] [] []),oo 2 (.mov (.tmp 74)),oo 3 (.mov (.cst (.int .i64 0)))]
def Aso:TFd:=⟨1,[(.tmp 2,.bool),(.tmp 3,.bool)],[],(.seq (.ops Ao3) (.seq (.ops Ao4) (.seq (.seq (.ops Ao5) (.cond (.tmp 19) (.free (.seq (.ops Ao6) (.keep T5 .ret))) .skip)) (.seq (.ops Ao7) (.seq (.seq (.ops Ao8) (.join Amr Am7 (.block 0 (.loop [5,20,21,22] [] Amq Am6 Amt)))) (.seq (.ops Am3) (.keep T5 .ret)))))))⟩
noncomputable def Ll:Ent:=⟨[.ty (.sl (.st 7))],[],[(.sl (.st 7))],⟨(.tup [(.ty .str),(.ty (.int .i64))]),[],[],[.str,(.int .i64)],[],[]⟩,none,fun p=>Dn p⟩
theorem T3:Ll.ok Tryz.prog 19:=Aw hm Tryz.func19 (fd:=Aso) (by kernel_rfl) (Al (l:=[(44,Fe),(37,(Mn 100000)),(38,Sn)]) (y:=[]) ⟨Kh,(Ri 100000),T9,trivial⟩ trivial) (by kernel_rfl) (fun p=>by kernel_rfl)
def Acd:List TOp:=[oo 4 (.mov (.cst (.bool false)))]
def Ace:List TOp:=[oo 6 (.mov (.tmp 0)),oo 7 (.len false (.tmp 6)),oo 8 (.mov (.tmp 1)),oo 9 (.len false (.tmp 8)),oo 10 (.bin false .neq (.tmp 7) (.tmp 9))]
def Acf:List TOp:=[oo 4 (.mov (.cst (.bool false)))]
def Gk:Kp:=⟨[],[(4,false)],[],[],[]⟩
def Acg:List TOp:=[oo 5 (.mov (.cst (.int .i64 0)))]
def Ach:List TOp:=[oo 11 (.mov (.tmp 5)),oo 12 (.mov (.tmp 0)),oo 13 (.len false (.tmp 12)),oo 14 (.bin false .lss (.tmp 11) (.tmp 13))]
def Aci:List TOp:=[oo 17 (.mov (.tmp 0)),oo 18 (.mov (.tmp 5)),oo 19 (.idx 2 (.tmp 17) (.tmp 18)),ot 20 (.st 4) (.load true 2 (.tmp 19)),oo 21 (.mov (.tmp 1)),oo 22 (.mov (.tmp 5)),oo 23 (.idx 2 (.tmp 21) (.tmp 22)),ot 24 (.st 4) (.load true 2 (.tmp 23)),oo 25 (.eqs true [.i,.s] (.tmp 20) (.tmp 24))]
def Acj:List TOp:=[oo 4 (.mov (.cst (.bool false)))]
def Ack:List TOp:=[oo 15 (.mov (.tmp 5)),oo 16 (.bin false .add (.tmp 15) (.cst (.int .i64 1))),oo 5 (.mov (.tmp 16))]
def Acc:DC:=(.seq (.seq (.ops Ach) (.cond (.tmp 14) .skip (.exit 0))) (.seq (.pass 1 (.seq (.draw [] Aci) (.cond (.tmp 25) (.free (.seq (.ops Acj) (.keep Gk .ret))) .skip))) (.ops Ack)))
def Ym:Kp:=⟨[],[(0,false),(1,false),(5,false)],[],[],[]⟩
def Yp:Sig:=⟨[(0,none),(1,none),(5,some (.ty (.int .i64)))],[],[(.int .i64)],[],[]⟩
def Yn:Kp:=⟨[],[],[],[],[]⟩
def Yq:Sig:=⟨[],[],[],[],[]⟩
def Yo:List TOp:=[oo 4 (.mov (.cst (.bool true)))]
def Ah6:TFd:=⟨2,[(.tmp 4,.bool)],[],(.seq (.ops Acd) (.seq (.seq (.ops Ace) (.cond (.tmp 10) (.free (.seq (.ops Acf) (.keep Gk .ret))) .skip)) (.seq (.seq (.ops Acg) (.joinO Yn Yq (.block 0 (.loop [0,1,5] [] Ym Yp Acc)))) (.seq (.ops Yo) (.keep Gk .ret)))))⟩
noncomputable def En:Ent:=⟨[.ty (.sl (.st 4)),.ty (.sl (.st 4))],[],[(.sl (.st 4)),(.sl (.st 4))],⟨(.ty .bool),[],[],[.bool],[],[]⟩,none,fun p=>Bw p.1 p.2⟩
theorem Gf:En.ok Tryz.prog 11:=Aw hm Tryz.func11 (fd:=Ah6) (by kernel_rfl) (Al (l:=[]) (y:=[]) trivial trivial) (by kernel_rfl) (fun p=>by kernel_rfl)
def Sw:List TOp:=[oo 4 (.mov (.cst (.bool false)))]
def Sx:List TOp:=[oo 6 (.mov (.tmp 0)),oo 7 (.len false (.tmp 6)),oo 8 (.mov (.tmp 1)),oo 9 (.len false (.tmp 8)),oo 10 (.bin false .neq (.tmp 7) (.tmp 9))]
def Sy:List TOp:=[oo 4 (.mov (.cst (.bool false)))]
def Et:Kp:=⟨[],[(4,false)],[],[],[]⟩
def S0:List TOp:=[oo 11 (.mov (.tmp 0)),oo 12 (.len false (.tmp 11)),oo 13 (.mov (.cst (.int .i64 0)))]
def S1:List TOp:=[oo 14 (.bin false .lss (.tmp 13) (.tmp 12))]
def S2:List TOp:=[oo 15 (.mov (.tmp 13)),oo 5 (.mov (.tmp 15))]
def S3:List TOp:=[oo 16 (.mov (.tmp 0)),oo 17 (.mov (.tmp 5)),oo 18 (.idx 2 (.tmp 16) (.tmp 17)),ot 19 (.st 6) (.load true 2 (.tmp 18)),oo 20 (.mov (.tmp 1)),oo 21 (.mov (.tmp 5)),oo 22 (.idx 2 (.tmp 20) (.tmp 21)),ot 23 (.st 6) (.load true 2 (.tmp 22)),oo 24 (.eqs true [.s,.s] (.tmp 19) (.tmp 23))]
def S4:List TOp:=[oo 4 (.mov (.cst (.bool false)))]
def S5:List TOp:=[oo 25 (.bin false .add (.tmp 13) (.cst (.int .i64 1))),oo 13 (.mov (.tmp 25))]
def R6:DC:=(.seq (.ops S1) (.seq (.cond (.tmp 14) .skip (.exit 0)) (.seq (.pass 1 (.seq (.ops S2) (.seq (.draw [] S3) (.cond (.tmp 24) (.free (.seq (.ops S4) (.keep Et .ret))) .skip)))) (.ops S5))))
def R4:Kp:=⟨[],[(0,false),(1,false),(12,false),(13,false)],[],[],[]⟩
def R8:Sig:=⟨[(0,none),(1,none),(12,none),(13,some (.ty (.int .i64)))],[],[(.int .i64)],[],[]⟩
def R5:Kp:=⟨[],[],[],[],[]⟩
def R9:Sig:=⟨[],[],[],[],[]⟩
def R7:List TOp:=[oo 4 (.mov (.cst (.bool true)))]
def Zf:TFd:=⟨2,[(.tmp 4,.bool)],[],(.seq (.ops Sw) (.seq (.seq (.ops Sx) (.cond (.tmp 10) (.free (.seq (.ops Sy) (.keep Et .ret))) .skip)) (.seq (.seq (.ops S0) (.joinO R5 R9 (.block 0 (.loop [0,1,12,13] [] R4 R8 R6)))) (.seq (.ops R7) (.keep Et .ret)))))⟩
noncomputable def Ie:Ent:=⟨[.ty (.sl (.st 6)),.ty (.sl (.st 6))],[],[(.sl (.st 6)),(.sl (.st 6))],⟨(.ty .bool),[],[],[.bool],[],[]⟩,none,fun p=>D5 p.1 p.2⟩
theorem Tj:Ie.ok Tryz.prog 48:=Aw hm Tryz.func48 (fd:=Zf) (by kernel_rfl) (Al (l:=[]) (y:=[]) trivial trivial) (by kernel_rfl) (fun p=>by kernel_rfl)
def S6:List TOp:=[oo 4 (.mov (.cst (.bool false)))]
def S7:List TOp:=[oo 6 (.mov (.tmp 0)),oo 7 (.len false (.tmp 6)),oo 8 (.mov (.tmp 1)),oo 9 (.len false (.tmp 8)),oo 10 (.bin false .neq (.tmp 7) (.tmp 9))]
def S8:List TOp:=[oo 4 (.mov (.cst (.bool false)))]
def Eu:Kp:=⟨[],[(4,false)],[],[],[]⟩
def S9:List TOp:=[oo 11 (.mov (.tmp 0)),oo 12 (.len false (.tmp 11)),oo 13 (.mov (.cst (.int .i64 0)))]
def Ta:List TOp:=[oo 14 (.bin false .lss (.tmp 13) (.tmp 12))]
def Tb:List TOp:=[oo 15 (.mov (.tmp 13)),oo 5 (.mov (.tmp 15))]
def Tc:List TOp:=[oo 16 (.mov (.tmp 0)),oo 17 (.mov (.tmp 5)),oo 18 (.idx 2 (.tmp 16) (.tmp 17)),ot 19 (.st 4) (.load true 2 (.tmp 18)),oo 20 (.mov (.tmp 1)),oo 21 (.mov (.tmp 5)),oo 22 (.idx 2 (.tmp 20) (.tmp 21)),ot 23 (.st 4) (.load true 2 (.tmp 22)),oo 24 (.eqs true [.i,.s] (.tmp 19) (.tmp 23))]
def Td:List TOp:=[oo 4 (.mov (.cst (.bool false)))]
def Te:List TOp:=[oo 25 (.bin false .add (.tmp 13) (.cst (.int .i64 1))),oo 13 (.mov (.tmp 25))]
def Sc:DC:=(.seq (.ops Ta) (.seq (.cond (.tmp 14) .skip (.exit 0)) (.seq (.pass 1 (.seq (.ops Tb) (.seq (.draw [] Tc) (.cond (.tmp 24) (.free (.seq (.ops Td) (.keep Eu .ret))) .skip)))) (.ops Te))))
def Sa:Kp:=⟨[],[(0,false),(1,false),(12,false),(13,false)],[],[],[]⟩
def Se:Sig:=⟨[(0,none),(1,none),(12,none),(13,some (.ty (.int .i64)))],[],[(.int .i64)],[],[]⟩
def Sb:Kp:=⟨[],[],[],[],[]⟩
def Sf:Sig:=⟨[],[],[],[],[]⟩
def Sd:List TOp:=[oo 4 (.mov (.cst (.bool true)))]
def Zg:TFd:=⟨2,[(.tmp 4,.bool)],[],(.seq (.ops S6) (.seq (.seq (.ops S7) (.cond (.tmp 10) (.free (.seq (.ops S8) (.keep Eu .ret))) .skip)) (.seq (.seq (.ops S9) (.joinO Sb Sf (.block 0 (.loop [0,1,12,13] [] Sa Se Sc)))) (.seq (.ops Sd) (.keep Eu .ret)))))⟩
noncomputable def Ig:Ent:=⟨[.ty (.sl (.st 4)),.ty (.sl (.st 4))],[],[(.sl (.st 4)),(.sl (.st 4))],⟨(.ty .bool),[],[],[.bool],[],[]⟩,none,fun p=>D6 p.1 p.2⟩
theorem Tl:Ig.ok Tryz.prog 49:=Aw hm Tryz.func49 (fd:=Zg) (by kernel_rfl) (Al (l:=[]) (y:=[]) trivial trivial) (by kernel_rfl) (fun p=>by kernel_rfl)
def A0h:List TOp:=[oo 2 (.box (.tmp 0)),oo 3 (.box (.tmp 1)),oo 4 (.mov (.cst (.bool false)))]
def A0i:List TOp:=[oo 5 (.fld 4 (.tmp 2)),oo 6 (.load false 1 (.tmp 5)),oo 7 (.fld 4 (.tmp 3)),oo 8 (.load false 1 (.tmp 7)),oo 9 (.call 0 0 (.cst (.fn 48)) [(.tmp 6),(.tmp 8)] [] []),oo 10 (.mov (.tmp 9)),og 11 10 true .bool (.fld 5 (.tmp 2)),og 12 10 true .bool (.load false 1 (.tmp 11)),og 13 10 true .bool (.fld 5 (.tmp 3)),og 14 10 true .bool (.load false 1 (.tmp 13)),og 15 10 true .bool (.call 0 0 (.cst (.fn 49)) [(.tmp 12),(.tmp 14)] [] []),oo 16 (.pick (.tmp 10) (.tmp 15) (.cst (.bool false))),oo 17 (.mov (.tmp 16)),og 18 17 true .bool (.fld 0 (.tmp 2)),og 19 17 true .bool (.load false 1 (.tmp 18)),og 20 17 true .bool (.fld 0 (.tmp 3)),og 21 17 true .bool (.load false 1 (.tmp 20)),og 22 17 true .bool (.bin false .eql (.tmp 19) (.tmp 21)),oo 23 (.pick (.tmp 17) (.tmp 22) (.cst (.bool false))),oo 24 (.mov (.tmp 23)),og 25 24 true .bool (.fld 1 (.tmp 2)),og 26 24 true .bool (.load false 1 (.tmp 25)),og 27 24 true .bool (.fld 1 (.tmp 3)),og 28 24 true .bool (.load false 1 (.tmp 27)),og 29 24 true .bool (.bin false .eql (.tmp 26) (.tmp 28)),oo 30 (.pick (.tmp 24) (.tmp 29) (.cst (.bool false))),oo 31 (.mov (.tmp 30)),og 32 31 true .bool (.fld 2 (.tmp 2)),og 33 31 true .bool (.load false 1 (.tmp 32)),og 34 31 true .bool (.fld 2 (.tmp 3)),og 35 31 true .bool (.load false 1 (.tmp 34)),og 36 31 true .bool (.bin false .eql (.tmp 33) (.tmp 35)),oo 37 (.pick (.tmp 31) (.tmp 36) (.cst (.bool false))),oo 38 (.mov (.tmp 37)),og 39 38 true .bool (.fld 3 (.tmp 2)),og 40 38 true .bool (.load false 1 (.tmp 39)),og 41 38 true .bool (.fld 3 (.tmp 3)),og 42 38 true .bool (.load false 1 (.tmp 41)),og 43 38 true .bool (.bin false .eql (.tmp 40) (.tmp 42)),oo 44 (.pick (.tmp 38) (.tmp 43) (.cst (.bool false))),oo 45 (.mov (.tmp 44)),og 46 45 true .bool (.fld 6 (.tmp 2)),og 47 45 true .bool (.load false 1 (.tmp 46)),og 48 45 true .bool (.fld 6 (.tmp 3)),og 49 45 true .bool (.load false 1 (.tmp 48)),og 50 45 true .bool (.bin false .eql (.tmp 47) (.tmp 49)),oo 51 (.pick (.tmp 45) (.tmp 50) (.cst (.bool false))),oo 52 (.mov (.tmp 51)),og 53 52 true .bool (.fld 7 (.tmp 2)),og 54 52 true .bool (.load false 1 (.tmp 53)),og 55 52 true .bool (.fld 7 (.tmp 3)),og 56 52 true .bool (.load false 1 (.tmp 55)),og 57 52 true .bool (.bin false .eql (.tmp 54) (.tmp 56)),oo 58 (.pick (.tmp 52) (.tmp 57) (.cst (.bool false))),oo 59 (.mov (.tmp 58)),og 60 59 true .bool (.fld 8 (.tmp 2)),og 61 59 true .bool (.load false 1 (.tmp 60)),og 62 59 true .bool (.fld 8 (.tmp 3)),og 63 59 true .bool (.load false 1 (.tmp 62)),og 64 59 true .bool (.bin false .eql (.tmp 61) (.tmp 63)),oo 65 (.pick (.tmp 59) (.tmp 64) (.cst (.bool false))),oo 4 (.mov (.tmp 65))]
def A0g:Kp:=⟨[],[(4,false)],[],[],[]⟩
def Bbh:TFd:=⟨2,[(.tmp 4,.bool)],[],(.seq (.ops A0h) (.seq (.ops A0i) (.keep A0g .ret)))⟩
noncomputable def Aou:Ent:=⟨[.ty (.st 7),.ty (.st 7)],[],[(.st 7),(.st 7)],⟨(.ty .bool),[],[],[.bool],[],[]⟩,none,fun p=>Rh p.1 p.2⟩
theorem Azk:Aou.ok Tryz.prog 24:=Aw hm Tryz.func24 (fd:=Bbh) (by kernel_rfl) (Al (l:=[(48,Ie),(49,Ig)]) (y:=[]) ⟨Tj,Tl,trivial⟩ trivial) (by kernel_rfl) (fun p=>by kernel_rfl)
end Go.Av.G
end
