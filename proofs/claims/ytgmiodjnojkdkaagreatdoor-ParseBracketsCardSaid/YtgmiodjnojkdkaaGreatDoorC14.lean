import Derived.ProofKit
import Derived.SizedLaws
import Derived.Test.YtgmiodjnojkdkaaGreatDoorC13
set_option linter.all false
section
namespace Go.Av
open Go Go.ChangeShapes Go.WideShapes Go.ChangeAt Go.RowKit
inductive TT where
 |int (k:IntKind)
 |bool
 |str
 |slice (t:TT)
 |unit
 |field (t r:TT)
 |struct (t:TT)
def TT.sz:TT→Nat
 | .unit=>0
 | .field t r=>t.sz+r.sz
 | .struct t=>t.sz
 |_=>1
def TT.pack:TT→List PV→PV
 | .struct _,xs=> .agg xs
 | .unit,xs=> .agg xs
 | .field _ _,xs=> .agg xs
 |_,xs=>xs.headD .nilI
def TT.Of:TT→List PV→Prop
 | .int k,xs=> ∃n,xs=[.int k n]∧k.min≤n∧n≤k.max
 | .bool,xs=> ∃b,xs=[.bool b]
 | .str,xs=> ∃s,xs=[.str s]∧s.length≤reachBytes
 | .slice t,xs=> ∃ys:List (List PV),xs=[.slice (ys.map t.pack)]∧ys.length≤maxLen∧ ∀y∈ys,t.Of y
 | .unit,xs=>xs=[]
 | .field t r,xs=> ∃a b,xs=a++b∧t.Of a∧r.Of b
 | .struct t,xs=>t.Of xs
def Gn(P:Program)(rd:TypeId→TT→Bool):Nat→List Field→TT→Bool
 |_,[],.unit=>true
 |off,f::fs,.field t r=>f.offset==off&&(P.cellsOf f.type==t.sz&&(rd f.type t&&Gn P rd (off+t.sz) fs r))
 |_,_,_=>false
def reads(P:Program):Nat→TypeId→TT→Bool
 |0,_,_=>false
 |n+1,t,τ=>match P.underlying t,τ with
  |some (.int k),.int k'=>k==k'
  |some .bool,.bool=>true
  |some .string,.str=>true
  |some (.slice e),.slice r=>P.cellsOf e==r.sz&&(decide (0<r.sz)&&reads P n e r)
  |some (.struct fs),.struct r=>P.cellsOf t==r.sz&&Gn P (reads P n) 0 fs.toList r
  |_,_=>false
theorem TT.Of.len: ∀{t:TT} {xs:List PV},t.Of xs→xs.length=t.sz
 | .int k,xs,⟨n,h,_⟩=>by subst h;rfl
 | .bool,xs,⟨b,h⟩=>by subst h;rfl
 | .str,xs,⟨s,h,_⟩=>by subst h;rfl
 | .slice t,xs,⟨ys,h,_⟩=>by subst h;rfl
 | .unit,xs,h=>by simp[TT.Of] at h;subst h;rfl
 | .field t r,xs,⟨a,b,h,ha,hb⟩=>by subst h;simp[TT.sz,ha.len,hb.len]
 | .struct t,xs,h=>TT.Of.len (t:=t) h
theorem TT.Of.one: ∀{t:TT} {xs:List PV},t.Of xs→ ∀x∈xs,x.one=true
 | .int k,xs,⟨n,h,_⟩=>by subst h;simp[PV.one]
 | .bool,xs,⟨b,h⟩=>by subst h;simp[PV.one]
 | .str,xs,⟨s,h,_⟩=>by subst h;simp[PV.one]
 | .slice t,xs,⟨ys,h,_⟩=>by subst h;simp[PV.one]
 | .unit,xs,h=>by simp[TT.Of] at h;subst h;simp
 | .field t r,xs,⟨a,b,h,ha,hb⟩=>by
  subst h
  intro x hx
  rcases List.mem_append.1 hx with hx|hx
  ·exact ha.one x hx
  ·exact hb.one x hx
 | .struct t,xs,h=>TT.Of.one (t:=t) h
theorem La{t:TT}{xs:List PV}(h:t.Of xs):(t.pack xs).cells=xs:=by
 cases t with
 |struct t=>rfl
 |int k=>obtain⟨n,rfl,_⟩:=h;rfl
 |bool=>obtain⟨n,rfl⟩:=h;rfl
 |str=>obtain⟨n,rfl,_⟩:=h;rfl
 |slice t=>obtain⟨n,rfl,_⟩:=h;rfl
 |unit=>rfl
 |field t r=>rfl
def Qs(w:World)(ok:Nat→Prop)(xs:List PV)(us:List Value):Prop:=xs.length=us.length∧ ∀(j:Nat) (x:PV) (u:Value),xs[j]? =some x→us[j]? =some u→A9 w ok x u
theorem Qs.append{w:World}{ok:Nat→Prop}{xs xs':List PV}{us us':List Value}(h:Qs w ok xs us)(h':Qs w ok xs' us'):Qs w ok (xs++xs') (us++us'):=by
 refine⟨by simp[h.1,h'.1],fun j x u hx hu=>?_⟩
 by_cases hj:j<xs.length
 ·rw[List.getElem?_append_left hj] at hx
  rw[List.getElem?_append_left (h.1▸hj)] at hu
  exact h.2 j x u hx hu
 ·rw[List.getElem?_append_right (by omega)] at hx
  rw[List.getElem?_append_right (by rw[←h.1];omega),←h.1] at hu
  exact h'.2 _ x u hx hu
theorem Qs.single{w:World}{ok:Nat→Prop}{x:PV}{u:Value}(h:A9 w ok x u):Qs w ok [x] [u]:=by
 refine⟨rfl,fun j y v hy hv=>?_⟩
 cases j with
 |zero=>simp at hy hv;subst hy;subst hv;exact h
 |succ j=>simp at hy
section
variable {H:Type} {enc:TypeId×Value→H} {P:Program} {W:World}
theorem Beh{n m:Nat}{cs:List Value}(IH: ∀(t:TypeId) (τ:TT) (cs:List Value) (x:DataW H×List MemPlace),reads P n t τ=true→DataW.trod enc P W 0 (fun _=>true) true m t cs=some x→(∀k∈x.1.weights P t,k≤reachBytes)→cs.length=τ.sz∧ ∃xs,τ.Of xs∧Qs W (· <W.heap.size) xs cs):
  ∀(fs:List Field) (τ:TT) (off:Nat),Gn P (reads P n) off fs τ=true→(∀f∈fs,∃x,DataW.trod enc P W 0 (fun _=>true) true m f.type ((cs.drop f.offset).take (P.cellsOf f.type))=some x∧ ∀k∈x.1.weights P f.type,k≤reachBytes)→off+τ.sz=cs.length→
   ∃xs,τ.Of xs∧Qs W (· <W.heap.size) xs (cs.drop off)
 |[],.unit,off,h,ht,hl=>⟨[],rfl,by simp[TT.sz] at hl;subst hl;exact⟨by simp,fun j x u hx=>by simp at hx⟩⟩
 |f::fs,.field t r,off,h,ht,hl=>by
  simp only[Gn,Bool.and_eq_true,beq_iff_eq] at h
  obtain⟨rfl,hc,hr,hF⟩:=h
  obtain⟨x,hx,hxw⟩:=ht f (by simp)
  obtain⟨hlen,xs,ho,hL⟩:=IH _ _ _ _ hr hx hxw
  simp only[TT.sz] at hl
  obtain⟨ys,ho',hL'⟩:=Beh IH fs r (f.offset+t.sz) hF (fun g hg=>ht g (by simp[hg])) (by omega)
  refine⟨xs++ys,⟨xs,ys,rfl,ho,ho'⟩,?_⟩
  have e:cs.drop f.offset=(cs.drop f.offset).take (P.cellsOf f.type)++cs.drop (f.offset+t.sz):=by
   rw[hc,←List.drop_drop]
   exact(List.take_append_drop _ _).symm
  rw[e]
  exact hL.append hL'
 |[],.int _,_,h,_,_=>by simp[Gn] at h
 |[],.bool,_,h,_,_=>by simp[Gn] at h
 |[],.str,_,h,_,_=>by simp[Gn] at h
 |[],.slice _,_,h,_,_=>by simp[Gn] at h
 |[],.field _ _,_,h,_,_=>by simp[Gn] at h
 |[],.struct _,_,h,_,_=>by simp[Gn] at h
 |_::_,.int _,_,h,_,_=>by simp[Gn] at h
 |_::_,.bool,_,h,_,_=>by simp[Gn] at h
 |_::_,.str,_,h,_,_=>by simp[Gn] at h
 |_::_,.slice _,_,h,_,_=>by simp[Gn] at h
 |_::_,.unit,_,h,_,_=>by simp[Gn] at h
 |_::_,.struct _,_,h,_,_=>by simp[Gn] at h
theorem Bje{n m:Nat}{e:TypeId}{τ:TT}(IH: ∀(t:TypeId) (τ:TT) (cs:List Value) (x:DataW H×List MemPlace),reads P n t τ=true→DataW.trod enc P W 0 (fun _=>true) true m t cs=some x→(∀k∈x.1.weights P t,k≤reachBytes)→cs.length=τ.sz∧ ∃xs,τ.Of xs∧Qs W (· <W.heap.size) xs cs)
  (hc:P.cellsOf e=τ.sz)(h0:0<τ.sz)(hr:reads P n e τ=true){a:Addr}{len:Nat}{elems:List (DataW H×List MemPlace)}(hl:elems.length=len)(hwt: ∀e2∈elems,∀k∈e2.1.weights P e,k≤reachBytes)
  (h: ∀i,i<len→(W.cells? 0 (a.add (i*P.cellsOf e)) (P.cellsOf e)).bind (DataW.trod enc P W 0 (fun _=>true) true m e)=elems[i]?):
  ∃(ys:List (List PV)) (us:Nat→Nat→Value),ys.length=len∧(∀y∈ys,τ.Of y)∧(0<len→a.spot=none)∧(∀i j,i<len→j<τ.sz→a.block<W.heap.size∧W.cell? ⟨a.block,a.off+i*τ.sz+j,none⟩=some (us i j))∧
   ∀(i j:Nat) (y:List PV) (x:PV),ys[i]? =some y→y[j]? =some x→A9 W (· <W.heap.size) x (us i j):=by
 have key: ∀i,∃q:List PV×List Value,i<len→W.cells? 0 (a.add (i*P.cellsOf e)) (P.cellsOf e)=some q.2∧q.2.length=τ.sz∧τ.Of q.1∧Qs W (· <W.heap.size) q.1 q.2:=by
  intro i
  by_cases hi:i<len
  ·have:=h i hi
   rw[List.getElem?_eq_getElem (by omega)] at this
   obtain⟨cs,h1,h2⟩:=Option.bind_eq_some_iff.1 this
   obtain⟨h3,xs,h4,h5⟩:=IH _ _ _ _ hr h2 (hwt _ (List.getElem_mem _))
   exact⟨(xs,cs),fun _=>⟨h1,h3,h4,h5⟩⟩
  ·exact⟨([],[]),fun h=>absurd h hi⟩
 obtain⟨f,hf⟩:=Classical.skolem.1 key
 have hcell: ∀i,i<len→ ∀j,j<τ.sz→W.cell? ((a.add (i*τ.sz)).add j)=some (((f i).2[j]?).getD default):=by
  intro i hi j hj
  obtain⟨h1,h2,h3,h4⟩:=hf i hi
  rw[hc] at h1
  rw[(World.cells?_some h1).2.2 j hj,List.getElem?_eq_getElem (by omega)]
  rfl
 have hspot:0<len→a.spot=none:=by
  intro hlen
  have:=hcell 0 hlen 0 h0
  simp only[Nat.zero_mul,Addr.add,if_true] at this
  unfold World.cell? at this
  cases hs:a.spot with
  |none=>rfl
  |some s=>rw[hs] at this;split at this<;>simp at this
 refine⟨(List.range len).map fun i=>(f i).1,fun i j=>((f i).2[j]?).getD default,by simp,?_,hspot,?_,?_⟩
 ·intro y hy
  simp only[List.mem_map,List.mem_range] at hy
  obtain⟨i,hi,rfl⟩:=hy
  exact(hf i hi).2.2.1
 ·intro i j hi hj
  have hs:=hspot (by omega)
  have hh:=hcell i hi j hj
  have e1:(a.add (i*τ.sz)).add j=⟨a.block,a.off+i*τ.sz+j,none⟩:=by
   rcases a with⟨b,o,s⟩
   simp only at hs
   subst hs
   unfold Addr.add
   split<;>split<;>simp_all
  rw[e1] at hh
  refine⟨?_,hh⟩
  unfold World.cell? at hh
  split at hh
  ·rename_i hb
   exact(Array.getElem?_eq_some_iff.1 hb).1
  ·cases hh
 ·intro i j y x hy hx
  simp only[List.getElem?_map,Option.map_eq_some_iff] at hy
  obtain⟨i',hi',rfl⟩:=hy
  have hi:i<len:=by
   have:=(List.getElem?_eq_some_iff.1 hi').1
   simpa using this
  obtain rfl:i=i':=by simpa [List.getElem?_range hi] using hi'
  obtain⟨h1,h2,h3,h4⟩:=hf i hi
  have hj:j<(f i).2.length:=by
   rw[←h4.1]
   exact(List.getElem?_eq_some_iff.1 hx).1
  have:=h4.2 j x (f i).2[j] hx (List.getElem?_eq_getElem hj)
  simpa [List.getElem?_eq_getElem hj] using this
theorem Aas{e:TypeId}{d:DataW H}: ∀{l:List (DataW H)},d∈l→ ∀{k:Nat},k∈d.weights P e→k∈DataW.weightsAll P e l
 |[],h,_,_=>by cases h
 |a::l,h,k,hk=>by
  simp only[DataW.weightsAll,List.mem_append]
  rcases List.mem_cons.1 h with rfl|h
  ·exact Or.inl hk
  ·exact Or.inr (Aas h hk)
theorem Bgw: ∀(m n:Nat) (t:TypeId) (τ:TT) (cs:List Value) (x:DataW H×List MemPlace),reads P n t τ=true→DataW.trod enc P W 0 (fun _=>true) true m t cs=some x→(∀k∈x.1.weights P t,k≤reachBytes)→cs.length=τ.sz∧ ∃xs,τ.Of xs∧Qs W (· <W.heap.size) xs cs
 |m,0,t,τ,cs,x,hr,h,hw=>by simp[reads] at hr
 |0,n+1,t,τ,cs,x,hr,h,hw=>by simp[DataW.trod] at h
 |m+1,n+1,t,τ,cs,x,hr,h,hws=>by
  have IH:=Bgw m n
  unfold reads at hr
  split at hr
  ·rename_i k k' ht
   obtain rfl:k=k':=by simpa using hr
   obtain⟨i,rfl,_,hw⟩:=DataW.trod_int ht h
   simp only[Lit.wf,Bool.and_eq_true,decide_eq_true_eq] at hw
   exact⟨rfl,_,⟨i,rfl,hw.1,hw.2⟩,.single (.int k i)⟩
  ·rename_i ht
   obtain⟨b,rfl,_⟩:=DataW.trod_bool ht h
   exact⟨rfl,_,⟨b,rfl⟩,.single (.bool b)⟩
  ·rename_i ht
   obtain⟨s,rfl,hx2,hw⟩:=DataW.trod_string ht h
   exact⟨rfl,_,⟨s.data.toList,rfl,hws _ (by rw[hx2];simp[DataW.weights])⟩,.single (by simpa using A9.str (w:=W) (ok:=(· <W.heap.size)) s.data.toList)⟩
  ·rename_i e r ht
   simp only[Bool.and_eq_true,beq_iff_eq,decide_eq_true_eq] at hr
   obtain⟨hc,h0,hr⟩:=hr
   rcases DataW.trod_slice ht h with⟨rfl,_⟩|⟨a,len,cap,elems,rest,m',hm,rfl,hx2,_,hlc,hcm,hel,hat,_,_⟩
   ·exact⟨rfl,_,⟨[],rfl,Nat.zero_le _,by simp⟩,.single (.slice [] none 0 0 r.sz (fun _ _=>default) rfl (Nat.le_refl _) (by simp) (by simp) (by intro i j hi;omega) (by omega) (by intro i j x y hx;simp at hx))⟩
   ·obtain rfl:m=m':=by omega
    obtain⟨ys,us,hl,ho,hs,hcell,hlie⟩:=Bje IH hc h0 hr hel (fun e2 he2 k hk=>hws k (by
     rw[hx2]
     unfold DataW.weights
     rw[ht]
     simp only[List.mem_cons,List.mem_append]
     exact Or.inr (Or.inl (Aas (List.mem_map.2 ⟨e2,he2,rfl⟩) hk)))) hat
    refine⟨rfl,_,⟨ys,rfl,by omega,ho⟩,.single (.slice _ (some a) len cap r.sz us (by simp[hl]) hlc ?_ ?_ ?_ ?_ ?_)⟩
    ·intro x hx
     obtain⟨y,hy,rfl⟩:=List.mem_map.1 hx
     rw[La (ho y hy)]
     exact(ho y hy).len
    ·intro x hx
     obtain⟨y,hy,rfl⟩:=List.mem_map.1 hx
     rw[La (ho y hy)]
     exact(ho y hy).one
    ·intro i j hi hj
     exact⟨a,rfl,hs (by omega),(hcell i j hi hj).1,(hcell i j hi hj).2⟩
    ·intro h;exact⟨a,rfl,hs h⟩
    ·intro i j x y hx hy
     simp only[List.getElem?_map,Option.map_eq_some_iff] at hx
     obtain⟨z,hz,rfl⟩:=hx
     rw[La (ho z (List.mem_of_getElem? hz))] at hy
     exact hlie i j z y hz hy
  ·rename_i fs r ht
   simp only[Bool.and_eq_true,beq_iff_eq] at hr
   obtain⟨hc,hF⟩:=hr
   obtain⟨xs,m',hm,hx2,hlen,hxl,hf⟩:=DataW.trod_struct ht h
   obtain rfl:m=m':=by omega
   refine⟨by rw[hlen,hc];rfl,?_⟩
   obtain⟨ys,ho,hL⟩:=Beh (cs:=cs) IH fs.toList r 0 hF (fun f hf'=>by
    obtain⟨i,hi,he⟩:=List.getElem_of_mem hf'
    have hi':i<fs.size:=by simpa using hi
    have:=hf i f (by rw[Array.getElem?_eq_getElem hi'];simpa using he)
    rw[List.getElem?_eq_getElem (by omega)] at this
    refine⟨_,this,fun k hk=>hws k ?_⟩
    rw[hx2]
    unfold DataW.weights
    rw[ht]
    refine DataW.weights_mem_each (j:=i) (t:=f.type) (d:=(xs[i]'(by omega)).1) ?_ ?_ k hk
    ·rw[List.getElem?_map,List.getElem?_eq_getElem hi]
     simp[he]
    ·rw[List.getElem?_map,List.getElem?_eq_getElem (by omega)]
     rfl) (by rw[hlen,hc];simp)
   exact⟨ys,ho,by simpa using hL⟩
  ·cases hr
theorem Bjd{n base:Nat}{t:TypeId}{τ:TT}{v:Value}{d:DataW H}{ps:List MemPlace}(hr:reads P n t τ=true)(hok:Value.okWide P W .any base t v)(h:DataW.Trod enc P W 0 (fun _=>true) true t v d ps)(hw: ∀k∈d.weights P t,k≤reachBytes):
  ∃xs,τ.Of xs∧A9 W (· <W.heap.size) (τ.pack xs) v:=by
 obtain⟨m,hm⟩:=h
 obtain⟨hlen,xs,ho,hL⟩:=Bgw m n t τ _ _ hr hm hw
 refine⟨xs,ho,?_⟩
 have one: ∀u,v=u→u.cells= #[u]→(τ.pack xs).cells=[τ.pack xs]→A9 W (· <W.heap.size) (τ.pack xs) v:=by
  intro u hu hc hp
  subst hu
  rw[La ho] at hp
  rw[hc,hp] at hL
  exact hL.2 0 _ _ rfl rfl
 cases n with
 |zero=>simp[reads] at hr
 |succ n=>
  unfold reads at hr
  split at hr
  ·rename_i ht
   obtain⟨i,rfl⟩:=okWide_int ht hok
   obtain⟨k,rfl,_⟩:=ho
   exact one _ rfl rfl rfl
  ·rename_i ht
   obtain⟨i,rfl⟩:=okWide_bool ht hok
   obtain⟨k,rfl⟩:=ho
   exact one _ rfl rfl rfl
  ·rename_i ht
   obtain⟨i,rfl⟩:=okWide_string ht hok
   obtain⟨k,rfl,_⟩:=ho
   exact one _ rfl rfl rfl
  ·rename_i ht
   obtain⟨a,l,c,rfl⟩:=okWide_slice ht hok
   obtain⟨k,rfl,_⟩:=ho
   exact one _ rfl rfl rfl
  ·rename_i ht
   obtain⟨us,rfl,hs⟩:=okWide_struct ht hok
   simp only[TT.pack]
   have:=A9.agg (w:=W) (ok:=(· <W.heap.size)) xs us.toList (by simpa [Value.cells] using hL.1) (fun x hx=>TT.Of.one ho x hx) (by simpa [Value.cells] using hL.2)
   simpa using this
  ·cases hr
theorem A8a{α:Type}{f:α→PV}{τ:TT}{wf:α→Prop}(hh: ∀xs,τ.Of xs→ ∃x,wf x∧τ.pack xs=f x): ∀ys:List (List PV),(∀y∈ys,τ.Of y)→ ∃l:List α,l.length=ys.length∧(∀x∈l,wf x)∧ys.map τ.pack=l.map f
 |[],_=>⟨[],rfl,by simp,rfl⟩
 |y::ys,h=>by
  obtain⟨x,hx,he⟩:=hh y (h y (by simp))
  obtain⟨l,h0,h1,h2⟩:=A8a hh ys (fun z hz=>h z (by simp[hz]))
  refine⟨x::l,by simp[h0],?_,by simp[he,h2]⟩
  intro z hz
  rcases List.mem_cons.1 hz with rfl|hz
  ·exact hx
  ·exact h1 z hz
theorem Agz{W':World}(hl:laidOutB P=true)(hb:Below W.heap.size W W'){sp:Nat→Bool}: ∀{ts:List TypeId} {vs:List Value} {ds:List (DataW H)} {ps:List MemPlace},
  (∀t∈ts,P.readableRec t=true∧t<P.types.size)→DataW.TrodAll enc P W 0 (fun _=>true) true ts vs ds ps→(∀p∈ps,p.block<W.heap.size)→(∀p∈ps,sp p.block=true)→DataW.TrodAll enc P W' 0 sp true ts vs ds ps
 |[],_,_,_,_,h,_,_=>by
  obtain⟨rfl,rfl,rfl⟩:=trodAll_nil h
  rfl
 |t::ts,_,_,_,hr,h,hlt,hs=>by
  obtain⟨v,vs,d,ds,a,b,rfl,rfl,rfl,h1,h2⟩:=trodAll_cons h
  exact⟨a,b,WideElems.Trod_stays hl (hr t (by simp)).1 (hr t (by simp)).2 h1 (fun p hp=>hb.same (hlt p (by simp[hp]))) (fun p hp=>hs p (by simp[hp])),Agz hl hb (fun u hu=>hr u (by simp[hu])) h2 (fun p hp=>hlt p (by simp[hp])) (fun p hp=>hs p (by simp[hp])),rfl⟩
theorem Aqa{W':World}(hb:Below W.heap.size W W')(may:MemPlace→Prop):W.keptBut W' may:=by
 refine⟨hb.os,hb.output,fun i hi=>?_⟩
 rw[hb.block i hi]
 split<;>simp_all
theorem A9x{f:Func}{s:ChangeSpec}{apart fresh handsOn again:Bool}{W':World}{args:Array Value}{ds gs:List (DataW H)}{before:List MemPlace}{tb:TypeId}
  (hl:laidOutB P=true)(hp: ∀t∈f.params.toList,P.readableRec t=true∧t<P.types.size)(hr:f.resultTypes= #[tb])(hb:P.underlying tb=some .bool)(hv:s.vars=[])
  (hW:DataW.Whole enc P f.params.toList s.vars apart W args.toList ds gs before)(h1:(s.fn H (ds++gs)).results=[.lit (.bool true)])(h2:(s.fn H (ds++gs)).args=ds)(h3:(s.fn H (ds++gs)).vars=[])
  (hbel:Below W.heap.size W W'):s.post enc P f apart fresh handsOn again W args (.bool true) W':=by
 have hlt:=hW.lt
 have hW0:=hW
 obtain⟨p,q,hA,hV,rfl,hz,hn⟩:=hW
 rw[hv] at hV
 obtain⟨rfl,rfl⟩:=trodVars_none hV
 have hres: ∀(b:Nat) (sp:Nat→Bool) (hd:Bool),DataW.TrodAll enc P W' b sp hd f.resultTypes.toList ((Value.bool true).resultList f.resultTypes.size) [.lit (.bool true)] []:=by
  intro b sp hd
  rw[hr]
  exact trodAll_mk1 ⟨1,by simp[DataW.trod,Value.cells,hb]⟩
 have hargs: ∀sp:Nat→Bool,(∀x∈p,sp x.block=true)→DataW.TrodAll enc P W' 0 sp true f.params.toList args.toList ds p:=fun sp hs=>Agz hl hbel hp hA (fun x hx=>hlt x (by simp[hx])) hs
 refine⟨ds,[],p++[],[],p,[],hW0,by rw[h1];exact hres _ _ _,by rw[h2];exact hargs _ (fun x hx=>by simpa using hlt x (by simp[hx])),by rw[h3,hv];rfl,Aqa hbel _,fun _=>?_⟩
 refine⟨?_,_,[],([]++p)++[],⟨[]++p,[],trodAll_append (hargs _ (fun _ _=>rfl)) (hres _ _ _),by rw[hv];rfl,rfl,?_,?_⟩,?_⟩
 ·exact ok_one (f:=f) hr rfl (okWide_bool_mk hb true)
 ·intro b off hm
  have hm':MemPlace.cell b off∈p:=by simpa using hm
  have h0:=hz b off (by simpa using hm')
  have hlb:=hlt _ (by simpa using hm':MemPlace.cell b off∈p++[])
  unfold World.frozen? at h0⊢
  rw[hbel.block b hlb]
  exact h0
 ·intro ha
  simpa using hn ha
 ·intro x hx _
  simpa using hx
def AllOf:List TT→List PV→Prop
 |[],xs=>xs=[]
 |τ::ts,xs=> ∃cs ys,xs=τ.pack cs::ys∧τ.Of cs∧AllOf ts ys
theorem Bgv{n base:Nat}: ∀{ts:List TypeId} {τs:List TT} {vs:List Value} {ds:List (DataW H)} {ps:List MemPlace},ts.length=τs.length→(∀p∈ts.zip τs,reads P n p.1 p.2=true)→
  (∀(j:Nat) t v,ts[j]? =some t→vs[j]? =some v→Value.okWide P W .any base t v)→DataW.TrodAll enc P W 0 (fun _=>true) true ts vs ds ps→(∀(j:Nat) t d,ts[j]? =some t→ds[j]? =some d→ ∀k∈DataW.weights P t d,k≤reachBytes)→ds.length=ts.length∧ ∃xs,AllOf τs xs∧Qs W (· <W.heap.size) xs vs
 |[],τs,_,_,_,hl,_,_,h,_=>by
  obtain⟨rfl,rfl,rfl⟩:=trodAll_nil h
  cases τs with
  |nil=>exact⟨rfl,[],rfl,rfl,fun j x u hx=>by simp at hx⟩
  |cons=>cases hl
 |t::ts,τs,_,_,_,hl,hr,hok,h,hw=>by
  obtain⟨v,vs,d,ds,a,b,rfl,rfl,rfl,h1,h2⟩:=trodAll_cons h
  cases τs with
  |nil=>cases hl
  |cons τ τs=>
   obtain⟨cs,ho,hL⟩:=Bjd (hr (t,τ) (by simp)) (hok 0 t v rfl rfl) h1 (hw 0 t d rfl rfl)
   obtain⟨hlen,ys,hos,hLs⟩:=Bgv (by simpa using hl) (fun p hp=>hr p (by simp[hp])) (fun j t v ht hv=>hok (j+1) t v (by simpa using ht) (by simpa using hv)) h2 (fun j t d ht hd=>hw (j+1) t d (by simpa using ht) (by simpa using hd))
   exact⟨by simp[hlen],_,⟨cs,ys,rfl,ho,hos⟩,(Qs.single hL).append hLs⟩
theorem A3x{f:FuncId}{vs:List Value}{xs:List PV}(hc:Bg P f (xs.map .pv) [] ⟨.pv (.bool true),[],[]⟩)(hl:Qs W (· <W.heap.size) xs vs)(hG:GOK W (· <W.heap.size)):
  Calls P f vs.toArray W fun e W'=>e= .returned (.bool true)∧Below W.heap.size W W':=by
 refine(hc.2 W vs (fun _=>⟨none,0⟩) (· <W.heap.size) (fun b hb=>⟨hb,fun i hi=>by cases hi⟩) hG (fun i j b hi=>by cases hi) (fun i xs hx=>by simp at hx) (by simpa using hl.1) ?_).mono ?_
 ·intro j x v hx hv
  simp only[List.getElem?_map,Option.map_eq_some_iff] at hx
  obtain⟨y,hy,rfl⟩:=hx
  exact .pv _ _ (hl.2 j y v hy hv)
 ·rintro e W' ⟨v,δ,rfl,ha⟩
  refine⟨?_,ha.quiet.os,ha.quiet.tape,ha.quiet.out,ha.size,fun b hb=>ha.frame b hb (fun⟨i,hi,_⟩=>by cases hi)⟩
  cases ha.val with
  |pv _ _ h=>cases h;rfl
theorem Bho{f:FuncId}{fn:Func}{s:ChangeSpec}{apart fresh handsOn again:Bool}{n:Nat}{tb:TypeId}(τs:List TT)
  (hl:laidOutB P=true)(hp:fn.params.toList.all (fun t=>P.readableRec t&&decide (t<P.types.size))=true)(hr:fn.resultTypes= #[tb])(hb:P.underlying tb=some .bool)(hv:s.vars=[])
  (ht:fn.params.toList.length=τs.length)(hrd:(fn.params.toList.zip τs).all (fun p=>reads P n p.1 p.2)=true)(hs: ∀ds:List (DataW H),ds.length=fn.params.toList.length→s.fn H ds={results:=[.lit (.bool true)],args:=ds})
  (hc: ∀xs:List PV,AllOf τs xs→Bg P f (xs.map .pv) [] ⟨.pv (.bool true),[],[]⟩):
  ∀(W:World) (base:Nat) (args:Array Value) (ds gs:List (DataW H)) (before:List MemPlace),
   (∀(j:Nat) t v,fn.params[j]? =some t→args[j]? =some v→Value.okWide P W .any base t v)→
   DataW.Whole enc P fn.params.toList s.vars apart W args.toList ds gs before→
   (DataW.weightsEach P (fn.params.toList++s.plain.varTypes P) (ds++gs)).all (· ≤reachBytes)=true→
   GOK W (· <W.heap.size)→
   Calls P f args W fun e W'=> ∃v,e= .returned v∧s.post enc P fn apart fresh handsOn again W args v W':=by
 intro W base args ds gs before hok hW hz hG
 have hW0:=hW
 obtain⟨p,q,hA,hV,rfl,_,_⟩:=hW
 rw[hv] at hV
 obtain⟨rfl,rfl⟩:=trodVars_none hV
 obtain⟨hlen,xs,ho,hL⟩:=Bgv (n:=n) (base:=base) ht (by simpa using hrd) (fun j t v h1 h2=>hok j t v (by simpa using h1) (by simpa using h2)) hA (fun j t d h1 h2 k hk=>by
  have hj:=(List.getElem?_eq_some_iff.1 h1).1
  have hj2:=(List.getElem?_eq_some_iff.1 h2).1
  have:=DataW.weights_mem_each (P:=P) (ts:=fn.params.toList++s.plain.varTypes P) (ds:=ds++[]) (j:=j) (t:=t) (d:=d) (by rw[List.getElem?_append_left hj];exact h1) (by rw[List.getElem?_append_left hj2];exact h2) k hk
  have h3:=List.all_eq_true.1 hz k this
  simpa using h3)
 have hs':s.fn H (ds++[])={results:=[.lit (.bool true)],args:=ds}:=by rw[List.append_nil];exact hs ds hlen
 refine(A3x (hc xs ho) hL hG).mono fun e W' ⟨he,hb'⟩=>⟨_,he,?_⟩
 exact A9x (P:=P) hl (fun t ht=>by have:=List.all_eq_true.1 hp t ht;simpa using this) hr hb hv hW0 (by rw[hs']) (by rw[hs']) (by rw[hs']) hb'
end
def inR(k:IntKind)(n:Int):Prop:=k.min≤n∧n≤k.max
theorem of_slice{α:Type}{f:α→PV}{τ:TT}{wf:α→Prop}(hh: ∀xs,τ.Of xs→ ∃x,wf x∧τ.pack xs=f x){xs:List PV}(h:(TT.slice τ).Of xs): ∃l:List α,(l.length≤maxLen∧ ∀x∈l,wf x)∧xs=[.slice (l.map f)]:=by
 obtain⟨ys,rfl,hl,hy⟩:=h
 obtain⟨l,h0,h1,h2⟩:=A8a hh ys hy
 exact⟨l,⟨by omega,h1⟩,by rw[h2]⟩
end Go.Av
end
section
set_option maxRecDepth 100000
set_option maxHeartbeats 8000000
namespace Go.Av.G
open Go Go.Av Go.Proofs
structure Bi where
 F5:Nat
 On:Nat
 deriving DecidableEq,Inhabited
def Bi.cl(x:Bi):List PV:=[.fn x.F5,.fn x.On]
def Bi.pv(x:Bi):PV:= .agg x.cl
structure Bo where
 f_0:Bi
 f_1:Bi
 f_2:Bi
 f_3:Bi
 deriving DecidableEq,Inhabited
def Bo.cl(x:Bo):List PV:=[.fn x.f_0.F5,.fn x.f_0.On,.fn x.f_1.F5,.fn x.f_1.On,.fn x.f_2.F5,.fn x.f_2.On,.fn x.f_3.F5,.fn x.f_3.On]
def Bo.pv(x:Bo):PV:= .agg x.cl
structure Ac where
 Ad:Int
 Vm:Int
 Afc:Int
 Ag:List UInt8
 deriving DecidableEq,Inhabited
def Ac.cl(x:Ac):List PV:=[.int .i64 x.Ad,.int .i64 x.Vm,.int .i64 x.Afc,.str x.Ag]
def Ac.pv(x:Ac):PV:= .agg x.cl
def Ac.same(x y:Ac):Bool:=((x.Ad==y.Ad)&&((x.Vm==y.Vm)&&((x.Afc==y.Afc)&&((x.Ag==y.Ag)&&true))))
theorem Ac.same_iff(x y:Ac):Ac.same x y=decide (x=y):=by
 rw[Bool.eq_iff_iff];rcases x with⟨_,_,_,_⟩;rcases y with⟨_,_,_,_⟩;simp[Ac.same,Ac.mk.injEq,and_assoc]
def Ac.tt:TT:= .struct (.field (.int .i64) (.field (.int .i64) (.field (.int .i64) (.field .str .unit))))
def Ac.wf(x:Ac):Prop:=inR .i64 x.Ad∧inR .i64 x.Vm∧inR .i64 x.Afc∧x.Ag.length≤reachBytes
theorem Ac.of{xs:List PV}(hh:Ac.tt.Of xs): ∃x:Ac,x.wf∧Ac.tt.pack xs=Ac.pv x:=by
 obtain⟨a0,b0,rfl,h0,hh⟩:=hh
 obtain⟨a1,b1,rfl,h1,hh⟩:=hh
 obtain⟨a2,b2,rfl,h2,hh⟩:=hh
 obtain⟨a3,b3,rfl,h3,hh⟩:=hh
 obtain rfl:_=[]:=hh
 obtain⟨n0,rfl,w0⟩:=h0
 obtain⟨n1,rfl,w1⟩:=h1
 obtain⟨n2,rfl,w2⟩:=h2
 obtain⟨n3,rfl,w3⟩:=h3
 exact⟨⟨n0,n1,n2,n3⟩,⟨w0,w1,w2,w3⟩,rfl⟩
structure Ab where
 Hz:List Ac
 Cl:Int
 B3:Bool
 deriving DecidableEq,Inhabited
def Ab.cl(x:Ab):List PV:=[.slice (List.map Ac.pv x.Hz),.int .i64 x.Cl,.bool x.B3]
def Ab.pv(x:Ab):PV:= .agg x.cl
def Ab.tt:TT:= .struct (.field (.slice Ac.tt) (.field (.int .i64) (.field .bool .unit)))
def Ab.wf(x:Ab):Prop:=(x.Hz.length≤maxLen∧ ∀x'∈x.Hz,Ac.wf x')∧inR .i64 x.Cl∧True
theorem Ab.of{xs:List PV}(hh:Ab.tt.Of xs): ∃x:Ab,x.wf∧Ab.tt.pack xs=Ab.pv x:=by
 obtain⟨a0,b0,rfl,h0,hh⟩:=hh
 obtain⟨a1,b1,rfl,h1,hh⟩:=hh
 obtain⟨a2,b2,rfl,h2,hh⟩:=hh
 obtain rfl:_=[]:=hh
 obtain⟨n0,w0,rfl⟩:=of_slice (f:=Ac.pv) (wf:=Ac.wf) (fun xs h=>Ac.of h) h0
 obtain⟨n1,rfl,w1⟩:=h1
 obtain⟨n2,rfl⟩:=h2
 exact⟨⟨n0,n1,n2⟩,⟨w0,w1,trivial⟩,rfl⟩
structure Aa where
 Ad:Int
 Ag:List UInt8
 deriving DecidableEq,Inhabited
def Aa.cl(x:Aa):List PV:=[.int .i64 x.Ad,.str x.Ag]
def Aa.pv(x:Aa):PV:= .agg x.cl
def Aa.same(x y:Aa):Bool:=((x.Ad==y.Ad)&&((x.Ag==y.Ag)&&true))
theorem Aa.same_iff(x y:Aa):Aa.same x y=decide (x=y):=by
 rw[Bool.eq_iff_iff];rcases x with⟨_,_⟩;rcases y with⟨_,_⟩;simp[Aa.same,Aa.mk.injEq,and_assoc]
def Aa.tt:TT:= .struct (.field (.int .i64) (.field .str .unit))
def Aa.wf(x:Aa):Prop:=inR .i64 x.Ad∧x.Ag.length≤reachBytes
theorem Aa.of{xs:List PV}(hh:Aa.tt.Of xs): ∃x:Aa,x.wf∧Aa.tt.pack xs=Aa.pv x:=by
 obtain⟨a0,b0,rfl,h0,hh⟩:=hh
 obtain⟨a1,b1,rfl,h1,hh⟩:=hh
 obtain rfl:_=[]:=hh
 obtain⟨n0,rfl,w0⟩:=h0
 obtain⟨n1,rfl,w1⟩:=h1
 exact⟨⟨n0,n1⟩,⟨w0,w1⟩,rfl⟩
structure Ap where
 Adi:Int
 Vn:Int
 deriving DecidableEq,Inhabited
def Ap.cl(x:Ap):List PV:=[.int .i64 x.Adi,.int .i64 x.Vn]
def Ap.pv(x:Ap):PV:= .agg x.cl
def Ap.same(x y:Ap):Bool:=((x.Adi==y.Adi)&&((x.Vn==y.Vn)&&true))
theorem Ap.same_iff(x y:Ap):Ap.same x y=decide (x=y):=by
 rw[Bool.eq_iff_iff];rcases x with⟨_,_⟩;rcases y with⟨_,_⟩;simp[Ap.same,Ap.mk.injEq,and_assoc]
def Ap.tt:TT:= .struct (.field (.int .i64) (.field (.int .i64) .unit))
def Ap.wf(x:Ap):Prop:=inR .i64 x.Adi∧inR .i64 x.Vn
theorem Ap.of{xs:List PV}(hh:Ap.tt.Of xs): ∃x:Ap,x.wf∧Ap.tt.pack xs=Ap.pv x:=by
 obtain⟨a0,b0,rfl,h0,hh⟩:=hh
 obtain⟨a1,b1,rfl,h1,hh⟩:=hh
 obtain rfl:_=[]:=hh
 obtain⟨n0,rfl,w0⟩:=h0
 obtain⟨n1,rfl,w1⟩:=h1
 exact⟨⟨n0,n1⟩,⟨w0,w1⟩,rfl⟩
structure Am where
 Hx:List UInt8
 Hy:List UInt8
 deriving DecidableEq,Inhabited
def Am.cl(x:Am):List PV:=[.str x.Hx,.str x.Hy]
def Am.pv(x:Am):PV:= .agg x.cl
def Am.same(x y:Am):Bool:=((x.Hx==y.Hx)&&((x.Hy==y.Hy)&&true))
theorem Am.same_iff(x y:Am):Am.same x y=decide (x=y):=by
 rw[Bool.eq_iff_iff];rcases x with⟨_,_⟩;rcases y with⟨_,_⟩;simp[Am.same,Am.mk.injEq,and_assoc]
def Am.tt:TT:= .struct (.field .str (.field .str .unit))
def Am.wf(x:Am):Prop:=x.Hx.length≤reachBytes∧x.Hy.length≤reachBytes
theorem Am.of{xs:List PV}(hh:Am.tt.Of xs): ∃x:Am,x.wf∧Am.tt.pack xs=Am.pv x:=by
 obtain⟨a0,b0,rfl,h0,hh⟩:=hh
 obtain⟨a1,b1,rfl,h1,hh⟩:=hh
 obtain rfl:_=[]:=hh
 obtain⟨n0,rfl,w0⟩:=h0
 obtain⟨n1,rfl,w1⟩:=h1
 exact⟨⟨n0,n1⟩,⟨w0,w1⟩,rfl⟩
structure Af where
 F4:List UInt8
 Lj:List UInt8
 Dz:List UInt8
 C3:List UInt8
 A2:List Am
 Ft:List Aa
 Cn:List UInt8
 Bu:List UInt8
 Cu:List UInt8
 deriving DecidableEq,Inhabited
def Af.cl(x:Af):List PV:=[.str x.F4,.str x.Lj,.str x.Dz,.str x.C3,.slice (List.map Am.pv x.A2),.slice (List.map Aa.pv x.Ft),.str x.Cn,.str x.Bu,.str x.Cu]
def Af.pv(x:Af):PV:= .agg x.cl
def Af.tt:TT:= .struct (.field .str (.field .str (.field .str (.field .str (.field (.slice Am.tt) (.field (.slice Aa.tt) (.field .str (.field .str (.field .str .unit)))))))))
def Af.wf(x:Af):Prop:=x.F4.length≤reachBytes∧x.Lj.length≤reachBytes∧x.Dz.length≤reachBytes∧x.C3.length≤reachBytes∧(x.A2.length≤maxLen∧ ∀x'∈x.A2,Am.wf x')∧(x.Ft.length≤maxLen∧ ∀x'∈x.Ft,Aa.wf x')∧x.Cn.length≤reachBytes∧x.Bu.length≤reachBytes∧x.Cu.length≤reachBytes
theorem Af.of{xs:List PV}(hh:Af.tt.Of xs): ∃x:Af,x.wf∧Af.tt.pack xs=Af.pv x:=by
 obtain⟨a0,b0,rfl,h0,hh⟩:=hh
 obtain⟨a1,b1,rfl,h1,hh⟩:=hh
 obtain⟨a2,b2,rfl,h2,hh⟩:=hh
 obtain⟨a3,b3,rfl,h3,hh⟩:=hh
 obtain⟨a4,b4,rfl,h4,hh⟩:=hh
 obtain⟨a5,b5,rfl,h5,hh⟩:=hh
 obtain⟨a6,b6,rfl,h6,hh⟩:=hh
 obtain⟨a7,b7,rfl,h7,hh⟩:=hh
 obtain⟨a8,b8,rfl,h8,hh⟩:=hh
 obtain rfl:_=[]:=hh
 obtain⟨n0,rfl,w0⟩:=h0
 obtain⟨n1,rfl,w1⟩:=h1
 obtain⟨n2,rfl,w2⟩:=h2
 obtain⟨n3,rfl,w3⟩:=h3
 obtain⟨n4,w4,rfl⟩:=of_slice (f:=Am.pv) (wf:=Am.wf) (fun xs h=>Am.of h) h4
 obtain⟨n5,w5,rfl⟩:=of_slice (f:=Aa.pv) (wf:=Aa.wf) (fun xs h=>Aa.of h) h5
 obtain⟨n6,rfl,w6⟩:=h6
 obtain⟨n7,rfl,w7⟩:=h7
 obtain⟨n8,rfl,w8⟩:=h8
 exact⟨⟨n0,n1,n2,n3,n4,n5,n6,n7,n8⟩,⟨w0,w1,w2,w3,w4,w5,w6,w7,w8⟩,rfl⟩
structure As where
 Ad:Int
 Alu:Int
 f_E:Int
 deriving DecidableEq,Inhabited
def As.cl(x:As):List PV:=[.int .i64 x.Ad,.int .i64 x.Alu,.int .i64 x.f_E]
def As.pv(x:As):PV:= .agg x.cl
def As.same(x y:As):Bool:=((x.Ad==y.Ad)&&((x.Alu==y.Alu)&&((x.f_E==y.f_E)&&true)))
theorem As.same_iff(x y:As):As.same x y=decide (x=y):=by
 rw[Bool.eq_iff_iff];rcases x with⟨_,_,_⟩;rcases y with⟨_,_,_⟩;simp[As.same,As.mk.injEq,and_assoc]
def As.tt:TT:= .struct (.field (.int .i64) (.field (.int .i64) (.field (.int .i64) .unit)))
def As.wf(x:As):Prop:=inR .i64 x.Ad∧inR .i64 x.Alu∧inR .i64 x.f_E
theorem As.of{xs:List PV}(hh:As.tt.Of xs): ∃x:As,x.wf∧As.tt.pack xs=As.pv x:=by
 obtain⟨a0,b0,rfl,h0,hh⟩:=hh
 obtain⟨a1,b1,rfl,h1,hh⟩:=hh
 obtain⟨a2,b2,rfl,h2,hh⟩:=hh
 obtain rfl:_=[]:=hh
 obtain⟨n0,rfl,w0⟩:=h0
 obtain⟨n1,rfl,w1⟩:=h1
 obtain⟨n2,rfl,w2⟩:=h2
 exact⟨⟨n0,n1,n2⟩,⟨w0,w1,w2⟩,rfl⟩
structure Ax where
 f_L:List Ac
 Bhh:Int
 Bgj:Bool
 deriving DecidableEq,Inhabited
def Ax.cl(x:Ax):List PV:=[.slice (List.map Ac.pv x.f_L),.int .i64 x.Bhh,.bool x.Bgj]
def Ax.pv(x:Ax):PV:= .agg x.cl
def Ax.tt:TT:= .struct (.field (.slice Ac.tt) (.field (.int .i64) (.field .bool .unit)))
def Ax.wf(x:Ax):Prop:=(x.f_L.length≤maxLen∧ ∀x'∈x.f_L,Ac.wf x')∧inR .i64 x.Bhh∧True
theorem Ax.of{xs:List PV}(hh:Ax.tt.Of xs): ∃x:Ax,x.wf∧Ax.tt.pack xs=Ax.pv x:=by
 obtain⟨a0,b0,rfl,h0,hh⟩:=hh
 obtain⟨a1,b1,rfl,h1,hh⟩:=hh
 obtain⟨a2,b2,rfl,h2,hh⟩:=hh
 obtain rfl:_=[]:=hh
 obtain⟨n0,w0,rfl⟩:=of_slice (f:=Ac.pv) (wf:=Ac.wf) (fun xs h=>Ac.of h) h0
 obtain⟨n1,rfl,w1⟩:=h1
 obtain⟨n2,rfl⟩:=h2
 exact⟨⟨n0,n1,n2⟩,⟨w0,w1,trivial⟩,rfl⟩
structure Al where
 Afd:Int
 Ag:List UInt8
 deriving DecidableEq,Inhabited
def Al.cl(x:Al):List PV:=[.int .i64 x.Afd,.str x.Ag]
def Al.pv(x:Al):PV:= .agg x.cl
def Al.same(x y:Al):Bool:=((x.Afd==y.Afd)&&((x.Ag==y.Ag)&&true))
theorem Al.same_iff(x y:Al):Al.same x y=decide (x=y):=by
 rw[Bool.eq_iff_iff];rcases x with⟨_,_⟩;rcases y with⟨_,_⟩;simp[Al.same,Al.mk.injEq,and_assoc]
def Al.tt:TT:= .struct (.field (.int .i64) (.field .str .unit))
def Al.wf(x:Al):Prop:=inR .i64 x.Afd∧x.Ag.length≤reachBytes
theorem Al.of{xs:List PV}(hh:Al.tt.Of xs): ∃x:Al,x.wf∧Al.tt.pack xs=Al.pv x:=by
 obtain⟨a0,b0,rfl,h0,hh⟩:=hh
 obtain⟨a1,b1,rfl,h1,hh⟩:=hh
 obtain rfl:_=[]:=hh
 obtain⟨n0,rfl,w0⟩:=h0
 obtain⟨n1,rfl,w1⟩:=h1
 exact⟨⟨n0,n1⟩,⟨w0,w1⟩,rfl⟩
instance dicS:Str where
 S:=fun i=>match i with
  |0=>Bi
  |1=>Bo
  |2=>Ac
  |3=>Ab
  |4=>Aa
  |5=>Ap
  |6=>Am
  |7=>Af
  |8=>As
  |9=>Ax
  |10=>Al
  |_=>Unit
instance dicC:Cel where
 ts:=fun i=>match i with
  |0=>[.fn,.fn]
  |1=>[.fn,.fn,.fn,.fn,.fn,.fn,.fn,.fn]
  |2=>[(.int .i64),(.int .i64),(.int .i64),.str]
  |3=>[(.sl (.st 2)),(.int .i64),.bool]
  |4=>[(.int .i64),.str]
  |5=>[(.int .i64),(.int .i64)]
  |6=>[.str,.str]
  |7=>[.str,.str,.str,.str,(.sl (.st 6)),(.sl (.st 4)),.str,.str,.str]
  |8=>[(.int .i64),(.int .i64),(.int .i64)]
  |9=>[(.sl (.st 2)),(.int .i64),.bool]
  |10=>[(.int .i64),.str]
  |_+11=>[]
 get:=fun i=>match i with
  |0=>fun(x:Bi)=>(x.F5,x.On,())
  |1=>fun(x:Bo)=>(x.f_0.F5,x.f_0.On,x.f_1.F5,x.f_1.On,x.f_2.F5,x.f_2.On,x.f_3.F5,x.f_3.On,())
  |2=>fun(x:Ac)=>(x.Ad,x.Vm,x.Afc,x.Ag,())
  |3=>fun(x:Ab)=>(x.Hz,x.Cl,x.B3,())
  |4=>fun(x:Aa)=>(x.Ad,x.Ag,())
  |5=>fun(x:Ap)=>(x.Adi,x.Vn,())
  |6=>fun(x:Am)=>(x.Hx,x.Hy,())
  |7=>fun(x:Af)=>(x.F4,x.Lj,x.Dz,x.C3,x.A2,x.Ft,x.Cn,x.Bu,x.Cu,())
  |8=>fun(x:As)=>(x.Ad,x.Alu,x.f_E,())
  |9=>fun(x:Ax)=>(x.f_L,x.Bhh,x.Bgj,())
  |10=>fun(x:Al)=>(x.Afd,x.Ag,())
  |_+11=>fun _=>()
 put:=fun i=>match i with
  |0=>fun t=>(⟨t.1,t.2.1⟩:Bi)
  |1=>fun t=>(⟨⟨t.1,t.2.1⟩,⟨t.2.2.1,t.2.2.2.1⟩,⟨t.2.2.2.2.1,t.2.2.2.2.2.1⟩,⟨t.2.2.2.2.2.2.1,t.2.2.2.2.2.2.2.1⟩⟩:Bo)
  |2=>fun t=>(⟨t.1,t.2.1,t.2.2.1,t.2.2.2.1⟩:Ac)
  |3=>fun t=>(⟨t.1,t.2.1,t.2.2.1⟩:Ab)
  |4=>fun t=>(⟨t.1,t.2.1⟩:Aa)
  |5=>fun t=>(⟨t.1,t.2.1⟩:Ap)
  |6=>fun t=>(⟨t.1,t.2.1⟩:Am)
  |7=>fun t=>(⟨t.1,t.2.1,t.2.2.1,t.2.2.2.1,t.2.2.2.2.1,t.2.2.2.2.2.1,t.2.2.2.2.2.2.1,t.2.2.2.2.2.2.2.1,t.2.2.2.2.2.2.2.2.1⟩:Af)
  |8=>fun t=>(⟨t.1,t.2.1,t.2.2.1⟩:As)
  |9=>fun t=>(⟨t.1,t.2.1,t.2.2.1⟩:Ax)
  |10=>fun t=>(⟨t.1,t.2.1⟩:Al)
  |_+11=>fun _=>()
 cl:=fun i=>match i with
  |0=>Bi.cl
  |1=>Bo.cl
  |2=>Ac.cl
  |3=>Ab.cl
  |4=>Aa.cl
  |5=>Ap.cl
  |6=>Am.cl
  |7=>Af.cl
  |8=>As.cl
  |9=>Ax.cl
  |10=>Al.cl
  |_+11=>fun _=>[]
 z:=fun i=>match i with
  |0=>(default:Bi)
  |1=>(default:Bo)
  |2=>(default:Ac)
  |3=>(default:Ab)
  |4=>(default:Aa)
  |5=>(default:Ap)
  |6=>(default:Am)
  |7=>(default:Af)
  |8=>(default:As)
  |9=>(default:Ax)
  |10=>(default:Al)
  |_+11=>()
instance dic:Dic where
 scal:=fun i=>match i with
  |0=>rfl
  |1=>rfl
  |2=>rfl
  |3=>rfl
  |4=>rfl
  |5=>rfl
  |6=>rfl
  |7=>rfl
  |8=>rfl
  |9=>rfl
  |10=>rfl
  |_+11=>rfl
 cl_get:=fun i=>match i with
  |0=>fun _=>rfl
  |1=>fun _=>rfl
  |2=>fun _=>rfl
  |3=>fun _=>rfl
  |4=>fun _=>rfl
  |5=>fun _=>rfl
  |6=>fun _=>rfl
  |7=>fun _=>rfl
  |8=>fun _=>rfl
  |9=>fun _=>rfl
  |10=>fun _=>rfl
  |_+11=>fun _=>rfl
 cl_mk:=fun i=>match i with
  |0=>fun _=>rfl
  |1=>fun _=>rfl
  |2=>fun _=>rfl
  |3=>fun _=>rfl
  |4=>fun _=>rfl
  |5=>fun _=>rfl
  |6=>fun _=>rfl
  |7=>fun _=>rfl
  |8=>fun _=>rfl
  |9=>fun _=>rfl
  |10=>fun _=>rfl
  |_+11=>fun _=>rfl
noncomputable def Ti(s1:List UInt8):Option Int:=
 Bf (fun(qj2:List UInt8)=>match qj2 with
  |rest3=>(
   (Bs rest3 [32,9,10]).bind fun x4=>
   (strings_HasPrefix x4 [35]).bind fun x5=>
   if (!x5)=true then
    some (.inr (IntKind.wrap .i64 ((s1.length:Int)-(x4.length:Int))))
   else
    (strings_Cut x4 [10]).bind fun x6=>
    if (!x6.2.2)=true then
     some (.inr (s1.length:Int))
    else
     some (.inl x6.2.1):Option ((List UInt8)⊕Int))) s1
def Ahm:Option Bo:=
 some (⟨(⟨127,128⟩:Bi),(⟨129,130⟩:Bi),(⟨131,132⟩:Bi),(⟨133,134⟩:Bi)⟩:Bo)
def Gi(b1:Int):Option Bool:=
 (some (decide (b1≥97))).bind fun c2=>
 some (c2&&(decide (b1≤122)))
def F6(b1:Int):Option Bool:=
 (some (decide (b1≥48))).bind fun c2=>
 some (c2&&(decide (b1≤57)))
def Ll(b1:Int):Option Bool:=
 some (b1==34)
def Q2(x1:Int):Option Bool:=
 some true
def Ez(f:Nat)(a0:Int):Option Bool:=if f=127 then Gi a0 else if f=129 then F6 a0 else if f=131 then Ll a0 else if f=133 then Q2 a0 else none
def Na(b1:Int):Option Bool:=
 (Gi b1).bind fun x2=>
 (gdO (!x2) (F6 b1) (default:Bool)).bind fun x3=>
 (some (x2||x3)).bind fun c4=>
 some (c4||(b1==95))
def Oa(r1:Int):Option Bool:=
 (some (decide (r1>127))).bind fun c2=>
 (gdO (!c2) (Na (IntKind.wrap .u8 r1)) (default:Bool)).bind fun x3=>
 some (c2||(!x3))
noncomputable def Ak2(s1:List UInt8):Option Int:=
 (strings_IndexFunc Oa s1).bind fun x2=>
 if (decide (x2<0))=true then
  some (s1.length:Int)
 else
  some x2
noncomputable def Ze(s1:List UInt8):Option (Int×Int):=
 (Ak2 s1).bind fun x2=>
 if (decide (x2>32))=true then
  some (0,3)
 else
  some (x2,0)
def Hg(r1:Int):Option Bool:=
 (some (decide (r1>127))).bind fun c2=>
 (gdO (!c2) (F6 (IntKind.wrap .u8 r1)) (default:Bool)).bind fun x3=>
 some (c2||(!x3))
noncomputable def Ob(s1:List UInt8):Option Int:=
 (strings_IndexFunc Hg s1).bind fun x2=>
 if (decide (x2<0))=true then
  some (s1.length:Int)
 else
  some x2
noncomputable def Ot(s1:List UInt8):Option (Int×Int):=
 (Ob s1).bind fun x2=>
 (slO s1 x2 (s1.length:Int)).bind fun x3=>
 (some (decide ((x3.length:Int)>1))).bind fun c4=>
 (gdO c4 (byO x3 0) 0).bind fun x5=>
 ((if (c4&&(x5==46))=true then
   (slO x3 1 (x3.length:Int)).bind fun x7=>
   (Ob x7).bind fun x8=>
   some x8
 else
  some 0):Option Int).bind fun j6=>
 (some (decide (x2>15))).bind fun c10=>
 (some (c10||(decide (j6>9)))).bind fun c11=>
 (some (decide (x2>1))).bind fun c12=>
 (gdO (!c11&&c12) (byO s1 0) 0).bind fun x13=>
 if (c11||(c12&&(x13==48)))=true then
  some (0,3)
 else
  if (decide (j6>0))=true then
   some (IntKind.wrap .i64 ((IntKind.wrap .i64 (x2+1))+j6),0)
  else
   some (x2,0)
def Nb(b1:Int):Option Bool:=
 (some (decide (b1≥32))).bind fun c2=>
 some (c2&&(decide (b1≤126)))
def Hh(r1:Int):Option Bool:=
 (some (decide (r1>127))).bind fun c2=>
 (gdO (!c2) (Nb (IntKind.wrap .u8 r1)) (default:Bool)).bind fun x3=>
 some (c2||(!x3))
noncomputable def Aa3(s1:List UInt8):Option Int:=
 (strings_IndexFunc Hh s1).bind fun x2=>
 if (decide (x2<0))=true then
  some (s1.length:Int)
 else
  some x2
noncomputable def Ou(s1:List UInt8):Option (Int×Int):=
 (slO s1 1 (s1.length:Int)).bind fun x2=>
 (strings_IndexByte x2 34).bind fun x3=>
 if (decide (x3<0))=true then
  some (0,14)
 else
  (some (decide (x3>32))).bind fun c4=>
  (gdO (!c4) (slO s1 1 (IntKind.wrap .i64 (1+x3))) (default:List UInt8)).bind fun x5=>
  (gdO (!c4) (Aa3 x5) (default:Int)).bind fun x6=>
  if (c4||(decide (x6<x3)))=true then
   some (0,3)
  else
   some (IntKind.wrap .i64 (x3+2),0)
def Zd(s1:List UInt8):Option (Int×Int):=
 (some (decide ((s1.length:Int)>1))).bind fun c2=>
 (gdO c2 (slO s1 0 2) (default:List UInt8)).bind fun x3=>
 (gdO c2 (strings_Contains [60,61,32,62,61,32,46,46] x3) (default:Bool)).bind fun x4=>
 (some (c2&&x4)).bind fun c5=>
 (gdO c5 (slO s1 0 2) (default:List UInt8)).bind fun x6=>
 (gdO c5 (strings_Contains x6 [32]) (default:Bool)).bind fun x7=>
 if (c5&&(!x7))=true then
  some (2,0)
 else
  (byO s1 0).bind fun x8=>
  (strings_IndexByte [123,125,40,41,91,93,59,58,44,37,61,60,62,43,45,42,47] x8).bind fun x9=>
  if (decide (x9≥0))=true then
   some (1,0)
  else
   some (0,14)
noncomputable def E0(f:Nat)(a0:List UInt8):Option (Int×Int):=if f=128 then Ze a0 else if f=130 then Ot a0 else if f=132 then Ou a0 else if f=134 then Zd a0 else none
noncomputable def Th(s1:List UInt8):Option (Int×Int×Int):=
 (Ahm).bind fun x2=>
 ((Bf (fun(qj3:Int)=>match qj3 with
   |x4=>(
    if (decide (x4<4))=true then
     (rdO [x2.f_0,x2.f_1,x2.f_2,x2.f_3] x4).bind fun x5=>
     (byO s1 0).bind fun x6=>
     (Ez x5.F5 x6).bind fun x7=>
     if x7=true then
      (E0 x5.On s1).bind fun x8=>
      some (.inr (.inr (x4,x8.1,x8.2)))
     else
      some (.inl (IntKind.wrap .i64 (x4+1)))
    else
     some (.inr (.inl ())):Option (Int⊕(Unit⊕(Int×Int×Int))))) 0):Option (Unit⊕(Int×Int×Int))).bind fun j3=>match j3 with
 | .inr o=>some o
 | .inl _=>
 some (0,0,14)
def N9(s1:List UInt8):Option (Int×Int):=
 (strings_Count s1 [10]).bind fun x2=>
 (strings_LastIndexByte s1 10).bind fun x3=>
 some (IntKind.wrap .i64 (x2+1),IntKind.wrap .i64 ((s1.length:Int)-x3))
noncomputable def Vq(text1:List UInt8):Option ((List Ac)×Int×Int):=
 if (decide ((text1.length:Int)>8000))=true then
  some (([]:List Ac),0,4)
 else
  (Ti text1).bind fun x2=>
  ((Bf (fun(qj3:Int×(List Ac))=>match qj3 with
    |(at_4,row5)=>(
     if (decide (at_4<(text1.length:Int)))=true then
      (slO text1 at_4 (text1.length:Int)).bind fun x6=>
      (Th x6).bind fun x7=>
      if (x7.2.2 !=0)=true then
       some (.inr (.inr (([]:List Ac),at_4,x7.2.2)))
      else
       if ((row5.length:Int)==1500)=true then
        some (.inr (.inr (([]:List Ac),at_4,6)))
       else
        (slO text1 0 at_4).bind fun x8=>
        (N9 x8).bind fun x9=>
        (slO text1 at_4 (IntKind.wrap .i64 (at_4+x7.2.1))).bind fun x10=>
        (apO 40 row5 [(⟨x7.1,x9.1,x9.2,x10⟩:Ac)]).bind fun x11=>
        (slO text1 (IntKind.wrap .i64 (at_4+x7.2.1)) (text1.length:Int)).bind fun x12=>
        (Ti x12).bind fun x13=>
        some (.inl (IntKind.wrap .i64 ((IntKind.wrap .i64 (at_4+x7.2.1))+x13),x11))
     else
      some (.inr (.inl row5)):Option ((Int×(List Ac))⊕((List Ac)⊕((List Ac)×Int×Int))))) (x2,([]:List Ac))):Option ((List Ac)⊕((List Ac)×Int×Int))).bind fun j3=>match j3 with
  | .inr o=>some o
  | .inl out14=>
  some (out14,0,0)
def Tf(text1:List UInt8)(at_2:Int):Option (Int×Int×Int):=
 (some (decide (at_2<0))).bind fun c3=>
 if (c3||(decide (at_2>(text1.length:Int))))=true then
  some (0,0,1)
 else
  (slO text1 0 at_2).bind fun x4=>
  (N9 x4).bind fun x5=>
  some (x5.1,x5.2,0)
noncomputable def Lo(text1:List UInt8):Option ((Int×Int×Int×Ab)⊕(Int×Int×Int)):=
 (Vq text1).bind fun x2=>
 if (x2.2.2==0)=true then
  some (.inl (0,0,0,(⟨x2.1,0,false⟩:Ab)))
 else
  (Tf text1 x2.2.1).bind fun x3=>
  some (.inr (x3.1,x3.2.1,x2.2.2))
def Bl(s1:List UInt8)(e2:Ab):Option Bool:=
 (some (!e2.B3)).bind fun c3=>
 (some (c3&&(decide (e2.Cl<(e2.Hz.length:Int))))).bind fun c4=>
 (gdO c4 (rdO e2.Hz e2.Cl) (default:Ac)).bind fun x5=>
 (some (c4&&(x5.Ad !=2))).bind fun c6=>
 (gdO c6 (rdO e2.Hz e2.Cl) (default:Ac)).bind fun x7=>
 some (c6&&(x7.Ag==s1))
def A8(s1:List UInt8)(e2:Ab):Option (Bool×Ab):=
 (Bl s1 e2).bind fun x3=>
 if (!x3)=true then
  some (false,e2)
 else
  some (true,(⟨e2.Hz,IntKind.wrap .i64 (e2.Cl+1),e2.B3⟩:Ab))
noncomputable def Aj(l1:List (List UInt8))(e2:Ab):Option Ab:=
 Bf (fun(qj3:Int×Ab)=>match qj3 with
  |(x4,r5)=>(
   if (decide (x4<(l1.length:Int)))=true then
    (rdO l1 x4).bind fun x6=>
    (A8 x6 r5).bind fun x7=>
    if (!x7.1)=true then
     some (.inr (⟨x7.2.Hz,x7.2.Cl,true⟩:Ab))
    else
     some (.inl (IntKind.wrap .i64 (x4+1),x7.2))
   else
    some (.inr r5):Option ((Int×Ab)⊕Ab))) (0,e2)
noncomputable def Ds(s1:List (List UInt8))(v2:List UInt8):Option Int:=
 ((Bf (fun(qj3:Int)=>match qj3 with
   |x4=>(
    if (decide (x4<(s1.length:Int)))=true then
     (rdO s1 x4).bind fun x5=>
     if (v2==x5)=true then
      some (.inr (.inr x4))
     else
      some (.inl (IntKind.wrap .i64 (x4+1)))
    else
     some (.inr (.inl ())):Option (Int⊕(Unit⊕Int)))) 0):Option (Unit⊕Int)).bind fun j3=>match j3 with
 | .inr o=>some o
 | .inl _=>
 some (-1)
noncomputable def Cc(s1:List (List UInt8))(v2:List UInt8):Option Bool:=
 (Ds s1 v2).bind fun x3=>
 some (decide (x3≥0))
noncomputable def To(s1:List UInt8)(product2:Bool):Option Bool:=
 ((if product2=true then
   (apO 16 [[105,102],[116,104,101,110],[101,108,115,101],[97,110,100],[111,114],[110,111,116],[109,105,110],[109,97,120]] [[112,114,111,100,117,99,116],[98,97,115,105,115],[112,101,114,105,111,100],[116,105,101,114,115],[102,101,101],[109,105,110,105,109,117,109],[111,118,101,114,100,114,97,102,116],[110,111,116,105,99,101]]).bind fun x4=>
   some x4
 else
  some [[105,102],[116,104,101,110],[101,108,115,101],[97,110,100],[111,114],[110,111,116],[109,105,110],[109,97,120]]):Option (List (List UInt8))).bind fun j3=>
 (Cc j3 s1).bind fun x6=>
 some x6
noncomputable def A3(kind1:Int)(product2:Bool)(e3:Ab):Option ((List UInt8)×Ab):=
 (some e3.B3).bind fun c4=>
 (some (c4||(decide (e3.Cl≥(e3.Hz.length:Int))))).bind fun c5=>
 (gdO (!c5) (rdO e3.Hz e3.Cl) (default:Ac)).bind fun x6=>
 (some (c5||(x6.Ad !=kind1))).bind fun c7=>
 (some (kind1==0)).bind fun c8=>
 (gdO (!c7&&c8) (rdO e3.Hz e3.Cl) (default:Ac)).bind fun x9=>
 (gdO (!c7&&c8) (To x9.Ag product2) (default:Bool)).bind fun x10=>
 if (c7||(c8&&x10))=true then
  some ([],(⟨e3.Hz,e3.Cl,true⟩:Ab))
 else
  (rdO e3.Hz (IntKind.wrap .i64 ((IntKind.wrap .i64 (e3.Cl+1))-1))).bind fun x11=>
  some (x11.Ag,(⟨e3.Hz,IntKind.wrap .i64 (e3.Cl+1),e3.B3⟩:Ab))
noncomputable def Db(slices1:List (List Aa)):Option (List Aa):=
 ((Bf (fun(qj2:Int×Int)=>match qj2 with
   |(size3,x4)=>(
    if (decide (x4<(slices1.length:Int)))=true then
     (rdO slices1 x4).bind fun x5=>
     ((if (decide ((IntKind.wrap .i64 (size3+(x5.length:Int)))<0))=true then
       none
     else
      some ()):Option Unit).bind fun _=>
     some (.inl (IntKind.wrap .i64 (size3+(x5.length:Int)),IntKind.wrap .i64 (x4+1)))
    else
     some (.inr size3):Option ((Int×Int)⊕Int))) (0,0)):Option Int).bind fun j2=>
 (Cq Aa 24 j2).bind fun x8=>
 ((Bf (fun(qj9:Int×(List Aa))=>match qj9 with
   |(x10,row11)=>(
    if (decide (x10<(slices1.length:Int)))=true then
     (rdO slices1 x10).bind fun x12=>
     (apO 24 row11 x12).bind fun x13=>
     some (.inl (IntKind.wrap .i64 (x10+1),x13))
    else
     some (.inr row11):Option ((Int×(List Aa))⊕(List Aa)))) (0,x8)):Option (List Aa)).bind fun j9=>
 some j9
noncomputable def B7(kind1:Int)(l2:List (List Aa)):Option (List Aa):=
 (Db l2).bind fun x3=>
 (apO 24 [(⟨kind1,[]⟩:Aa)] x3).bind fun x4=>
 some x4
def Zq:Option (List ((List UInt8)×Ap)):=
 some (mset (mset (mset (mset (mset (mset (mset (mset (mset (mset (mset ([]:List ((List UInt8)×Ap)) [111,114] (⟨13,1⟩:Ap)) [97,110,100] (⟨12,2⟩:Ap)) [60] (⟨7,4⟩:Ap)) [60,61] (⟨8,4⟩:Ap)) [61] (⟨9,4⟩:Ap)) [62] (⟨10,4⟩:Ap)) [62,61] (⟨11,4⟩:Ap)) [43] (⟨3,5⟩:Ap)) [45] (⟨4,5⟩:Ap)) [42] (⟨5,6⟩:Ap)) [47] (⟨6,6⟩:Ap))
def B0(level1:Int)(e2:Ab):Option (Int×Bool):=
 (some e2.B3).bind fun c3=>
 (some (c3||(decide (e2.Cl≥(e2.Hz.length:Int))))).bind fun c4=>
 (gdO (!c4) (rdO e2.Hz e2.Cl) (default:Ac)).bind fun x5=>
 if (c4||(x5.Ad==2))=true then
  some (0,false)
 else
  (Zq).bind fun x6=>
  (rdO e2.Hz e2.Cl).bind fun x7=>
  (some ((Aqi x6 x7.Ag).isSome)).bind fun c8=>
  some (((Aqi x6 x7.Ag).getD ((⟨0,0⟩:Ap):Ap)).Adi,(c8&&((((Aqi x6 x7.Ag).getD ((⟨0,0⟩:Ap):Ap)).Vn)==level1)))
mutual
noncomputable def parse_reader_any:Nat→Ab→Option ((List Aa)×Ab)
 |0,_=>none
 |fuel+1,e1=>
  (A8 [105,102] e1).bind fun x2=>
  if (!x2.1)=true then
   (parse_reader_level fuel 1 x2.2).bind fun x3=>
   some (x3.1,x3.2)
  else
   (parse_reader_any fuel x2.2).bind fun x4=>
   (Aj [[116,104,101,110]] x4.2).bind fun x5=>
   (parse_reader_any fuel x5).bind fun x6=>
   (Aj [[101,108,115,101]] x6.2).bind fun x7=>
   (parse_reader_any fuel x7).bind fun x8=>
   (B7 15 [x4.1,x6.1,x8.1]).bind fun x9=>
   some (x9,x8.2)
noncomputable def parse_reader_level:Nat→Int→Ab→Option ((List Aa)×Ab)
 |0,_,_=>none
 |fuel+1,n1,e2=>
  if e2.B3=true then
   some (([]:List Aa),e2)
  else
   if (n1==3)=true then
    (A8 [110,111,116] e2).bind fun x3=>
    if x3.1=true then
     (parse_reader_level fuel 3 x3.2).bind fun x4=>
     (B7 14 [x4.1]).bind fun x5=>
     some (x5,x4.2)
    else
     (parse_reader_level fuel 4 x3.2).bind fun x6=>
     some (x6.1,x6.2)
   else
    if (n1==7)=true then
     (A8 [45] e2).bind fun x7=>
     if x7.1=true then
      (parse_reader_level fuel 7 x7.2).bind fun x8=>
      (B7 2 [x8.1]).bind fun x9=>
      some (x9,x8.2)
     else
      (parse_reader_primary fuel x7.2).bind fun x10=>
      some (x10.1,x10.2)
    else
     (parse_reader_level fuel (IntKind.wrap .i64 (n1+1)) e2).bind fun x11=>
     (B0 n1 x11.2).bind fun x12=>
     ((Bf (fun(qj13:(List Aa)×Int×Bool×Ab)=>match qj13 with
       |(out14,kind15,is16,r17)=>(
        if is16=true then
         (parse_reader_level fuel (IntKind.wrap .i64 (n1+1)) (⟨r17.Hz,IntKind.wrap .i64 (r17.Cl+1),r17.B3⟩:Ab)).bind fun x18=>
         (B7 kind15 [out14,x18.1]).bind fun x19=>
         if (n1==4)=true then
          some (.inr (x19,x18.2))
         else
          (B0 n1 x18.2).bind fun x20=>
          some (.inl (x19,x20.1,x20.2,x18.2))
        else
         some (.inr (out14,r17)):Option (((List Aa)×Int×Bool×Ab)⊕((List Aa)×Ab)))) (x11.1,x12.1,x12.2,x11.2)):Option ((List Aa)×Ab)).bind fun(out21,r22)=>
     some (out21,r22)
noncomputable def parse_reader_primary:Nat→Ab→Option ((List Aa)×Ab)
 |0,_=>none
 |fuel+1,e1=>
  (A8 [40] e1).bind fun x2=>
  if x2.1=true then
   (parse_reader_any fuel x2.2).bind fun x3=>
   (Aj [[41]] x3.2).bind fun x4=>
   some (x3.1,x4)
  else
   (Bl [109,105,110] x2.2).bind fun x5=>
   (gdO (!x5) (Bl [109,97,120] x2.2) (default:Bool)).bind fun x6=>
   if (x5||x6)=true then
    (Bl [109,97,120] (⟨(bif !x5 then x2.2.Hz else x2.2.Hz),(bif !x5 then x2.2.Cl else x2.2.Cl),(bif !x5 then x2.2.B3 else x2.2.B3)⟩:Ab)).bind fun x7=>
    ((if x7=true then
      some 17
    else
     some 16):Option Int).bind fun j8=>
    (Aj [[40]] (⟨(bif !x5 then x2.2.Hz else x2.2.Hz),IntKind.wrap .i64 ((bif !x5 then x2.2.Cl else x2.2.Cl)+1),(bif !x5 then x2.2.B3 else x2.2.B3)⟩:Ab)).bind fun x10=>
    (parse_reader_any fuel x10).bind fun x11=>
    (Aj [[44]] x11.2).bind fun x12=>
    (parse_reader_any fuel x12).bind fun x13=>
    (Aj [[41]] x13.2).bind fun x14=>
    (B7 j8 [x11.1,x13.1]).bind fun x15=>
    some (x15,x14)
   else
    (some (decide ((bif !x5 then x2.2.Cl else x2.2.Cl)<((bif !x5 then x2.2.Hz else x2.2.Hz).length:Int)))).bind fun c16=>
    (gdO c16 (rdO (bif !x5 then x2.2.Hz else x2.2.Hz) (bif !x5 then x2.2.Cl else x2.2.Cl)) (default:Ac)).bind fun x17=>
    if (c16&&(x17.Ad==1))=true then
     (A3 1 false (⟨(bif !x5 then x2.2.Hz else x2.2.Hz),(bif !x5 then x2.2.Cl else x2.2.Cl),(bif !x5 then x2.2.B3 else x2.2.B3)⟩:Ab)).bind fun x18=>
     (A8 [37] x18.2).bind fun x19=>
     ((if x19.1=true then
       (Hw x18.1 [37]).bind fun x21=>
       some x21
     else
      some x18.1):Option (List UInt8)).bind fun j20=>
     some ([(⟨0,j20⟩:Aa)],x19.2)
    else
     (A3 0 false (⟨(bif !x5 then x2.2.Hz else x2.2.Hz),(bif !x5 then x2.2.Cl else x2.2.Cl),(bif !x5 then x2.2.B3 else x2.2.B3)⟩:Ab)).bind fun x23=>
     some ([(⟨1,x23.1⟩:Aa)],x23.2)
end
def Od(kind1:Int):Option Int:=
 (some (decide (kind1<0))).bind fun c2=>
 if (c2||(decide (kind1>17)))=true then
  some (-1)
 else
  if (decide (kind1≤1))=true then
   some 0
  else
   (some (kind1==2)).bind fun c3=>
   if (c3||(kind1==14))=true then
    some 1
   else
    if (kind1==15)=true then
     some 3
    else
     some 2
def stringslite_HasSuffix(s1:List UInt8)(suffix2:List UInt8):Option Bool:=
 (some (decide ((s1.length:Int)≥(suffix2.length:Int)))).bind fun c3=>
 (gdO c3 (slO s1 (IntKind.wrap .i64 ((s1.length:Int)-(suffix2.length:Int))) (s1.length:Int)) (default:List UInt8)).bind fun x4=>
 some (c3&&(x4==suffix2))
def stringslite_TrimSuffix(s1:List UInt8)(suffix2:List UInt8):Option (List UInt8):=
 (stringslite_HasSuffix s1 suffix2).bind fun x3=>
 if x3=true then
  (slO s1 0 (IntKind.wrap .i64 ((s1.length:Int)-(suffix2.length:Int)))).bind fun x4=>
  some x4
 else
  some s1
def strings_TrimSuffix(s1:List UInt8)(suffix2:List UInt8):Option (List UInt8):=
 (stringslite_TrimSuffix s1 suffix2).bind fun x3=>
 some x3
noncomputable def Tg(t1:Ac):Option Bool:=
 if (t1.Ag==[])=true then
  some false
 else
  (Th t1.Ag).bind fun x2=>
  (some (x2.2.2==0)).bind fun c3=>
  (some (c3&&(x2.1==t1.Ad))).bind fun c4=>
  some (c4&&(x2.2.1==(t1.Ag.length:Int)))
noncomputable def D2(s1:List UInt8):Option Bool:=
 (Tg (⟨1,0,0,s1⟩:Ac)).bind fun x2=>
 some x2
noncomputable def J1(s1:List UInt8)(product2:Bool):Option Bool:=
 (Tg (⟨0,0,0,s1⟩:Ac)).bind fun x3=>
 (gdO x3 (To s1 product2) (default:Bool)).bind fun x4=>
 some (x3&&(!x4))
noncomputable def V1(n1:Aa):Option Bool:=
 if (n1.Ad==0)=true then
  (strings_TrimSuffix n1.Ag [37]).bind fun x2=>
  (D2 x2).bind fun x3=>
  some x3
 else
  if (n1.Ad==1)=true then
   (J1 n1.Ag false).bind fun x4=>
   some x4
  else
   some (n1.Ag==[])
noncomputable def Ha:Nat→(List Aa)→Option ((List Aa)×Int)
 |0,_=>none
 |fuel+1,l1=>
  (some ((l1.length:Int)==0)).bind fun c2=>
  (gdO (!c2) (rdO l1 0) (default:Aa)).bind fun x3=>
  (gdO (!c2) (Od x3.Ad) (default:Int)).bind fun x4=>
  (some (c2||(decide (x4<0)))).bind fun c5=>
  (gdO (!c5) (rdO l1 0) (default:Aa)).bind fun x6=>
  (gdO (!c5) (V1 x6) (default:Bool)).bind fun x7=>
  if (c5||(!x7))=true then
   some (([]:List Aa),0)
  else
   (slO l1 1 (l1.length:Int)).bind fun x8=>
   (rdO l1 0).bind fun x9=>
   (Od x9.Ad).bind fun x10=>
   ((Bf (fun(qj11:(List Aa)×Int×Int)=>match qj11 with
     |(rest12,deep13,x14)=>(
      if (decide (x14<x10))=true then
       (Ha fuel rest12).bind fun x15=>
       if (x15.2==0)=true then
        some (.inr (.inr (([]:List Aa),0)))
       else
        some (.inl (x15.1,(if x15.2>deep13 then x15.2 else deep13),IntKind.wrap .i64 (x14+1)))
      else
       some (.inr (.inl (rest12,deep13))):Option (((List Aa)×Int×Int)⊕(((List Aa)×Int)⊕((List Aa)×Int))))) (x8,0,0)):Option (((List Aa)×Int)⊕((List Aa)×Int))).bind fun j11=>match j11 with
   | .inr o=>some o
   | .inl (rest16,deep17)=>
   some (rest16,IntKind.wrap .i64 (deep17+1))
noncomputable def Lm(l1:List Aa):Option Int:=
 if (decide ((l1.length:Int)>200))=true then
  some 0
 else
  (Ha 100000 l1).bind fun x2=>
  (some (decide ((x2.1.length:Int)>0))).bind fun c3=>
  if (c3||(decide (x2.2>24)))=true then
   some 0
  else
   some x2.2
noncomputable def Dk(l1:List Aa):Option Bool:=
 (Lm l1).bind fun x2=>
 some (decide (x2>0))
def Ep(text1:List UInt8)(fits2:Bool)(e3:Ab):Option (Int×Int×Int):=
 if (decide (e3.Cl<(e3.Hz.length:Int)))=true then
  (rdO e3.Hz e3.Cl).bind fun x4=>
  (rdO e3.Hz e3.Cl).bind fun x5=>
  some (x4.Vm,x5.Afc,14)
 else
  if e3.B3=true then
   (Tf text1 (text1.length:Int)).bind fun x6=>
   some (x6.1,x6.2.1,14)
  else
   if (!fits2)=true then
    some (1,1,4)
   else
    some (0,0,0)
noncomputable def Bz(text1:List UInt8):Option ((List Aa)×Int×Int×Int):=
 (Lo text1).bind fun x2=>match x2 with
 | .inl a3=>
  if (a3.2.2.1 !=0)=true then
   some (([]:List Aa),a3.1,a3.2.1,a3.2.2.1)
  else
   (parse_reader_any 100000 a3.2.2.2).bind fun x5=>
   (Dk x5.1).bind fun x6=>
   (Ep text1 x6 x5.2).bind fun x7=>
   if (x7.2.2 !=0)=true then
    some (([]:List Aa),x7.1,x7.2.1,x7.2.2)
   else
    some (x5.1,0,0,0)
 | .inr b4=>
  if (b4.2.2 !=0)=true then
   some (([]:List Aa),b4.1,b4.2.1,b4.2.2)
  else
   none
def stringslite_CutSuffix(s1:List UInt8)(suffix2:List UInt8):Option ((List UInt8)×Bool):=
 (stringslite_HasSuffix s1 suffix2).bind fun x3=>
 if (!x3)=true then
  some (s1,false)
 else
  (slO s1 0 (IntKind.wrap .i64 ((s1.length:Int)-(suffix2.length:Int)))).bind fun x4=>
  some (x4,true)
def strings_CutSuffix(s1:List UInt8)(suffix2:List UInt8):Option ((List UInt8)×Bool):=
 (stringslite_CutSuffix s1 suffix2).bind fun x3=>
 some (x3.1,x3.2)
noncomputable def Ah(slices1:List (List (List UInt8))):Option (List (List UInt8)):=
 ((Bf (fun(qj2:Int×Int)=>match qj2 with
   |(size3,x4)=>(
    if (decide (x4<(slices1.length:Int)))=true then
     (rdO slices1 x4).bind fun x5=>
     ((if (decide ((IntKind.wrap .i64 (size3+(x5.length:Int)))<0))=true then
       none
     else
      some ()):Option Unit).bind fun _=>
     some (.inl (IntKind.wrap .i64 (size3+(x5.length:Int)),IntKind.wrap .i64 (x4+1)))
    else
     some (.inr size3):Option ((Int×Int)⊕Int))) (0,0)):Option Int).bind fun j2=>
 (Cq (List UInt8) 16 j2).bind fun x8=>
 ((Bf (fun(qj9:Int×(List (List UInt8)))=>match qj9 with
   |(x10,row11)=>(
    if (decide (x10<(slices1.length:Int)))=true then
     (rdO slices1 x10).bind fun x12=>
     (apO 16 row11 x12).bind fun x13=>
     some (.inl (IntKind.wrap .i64 (x10+1),x13))
    else
     some (.inr row11):Option ((Int×(List (List UInt8)))⊕(List (List UInt8))))) (0,x8)):Option (List (List UInt8))).bind fun j9=>
 some j9
noncomputable def Q4(n1:Aa)(s2:List UInt8)(parts3:List (List (List UInt8))):Option (List (List UInt8)):=
 if (n1.Ad==0)=true then
  (strings_CutSuffix n1.Ag [37]).bind fun x4=>
  if x4.2=true then
   some [x4.1,[37]]
  else
   some [n1.Ag]
 else
  if (n1.Ad==1)=true then
   some [n1.Ag]
  else
   if (n1.Ad==2)=true then
    (rdO parts3 0).bind fun x5=>
    (apO 16 [[45]] x5).bind fun x6=>
    some x6
   else
    if (n1.Ad==14)=true then
     (rdO parts3 0).bind fun x7=>
     (apO 16 [[110,111,116]] x7).bind fun x8=>
     some x8
    else
     if (n1.Ad==15)=true then
      (rdO parts3 0).bind fun x9=>
      (rdO parts3 1).bind fun x10=>
      (rdO parts3 2).bind fun x11=>
      (Ah [[[105,102]],x9,[[116,104,101,110]],x10,[[101,108,115,101]],x11]).bind fun x12=>
      some x12
     else
      ((if (n1.Ad==16)=true then
        some (n1.Ad==16)
      else
       some (n1.Ad==17)):Option Bool).bind fun j13=>
      if j13=true then
       ((if (n1.Ad==17)=true then
         some [109,97,120]
       else
        some [109,105,110]):Option (List UInt8)).bind fun j15=>
       (rdO parts3 0).bind fun x17=>
       (rdO parts3 1).bind fun x18=>
       (Ah [[j15,[40]],x17,[[44]],x18,[[41]]]).bind fun x19=>
       some x19
      else
       (rdO parts3 0).bind fun x20=>
       (rdO parts3 1).bind fun x21=>
       (Ah [x20,[s2],x21]).bind fun x22=>
       some x22
noncomputable def E2:Nat→(List Aa)→Int→Option ((List (List UInt8))×(List Aa))
 |0,_,_=>none
 |fuel+1,l1,level2=>
  (rdO l1 0).bind fun x3=>
  (slO l1 1 (l1.length:Int)).bind fun x4=>
  (Zp x3.Ad).bind fun x5=>
  ((if (x3.Ad==2)=true then
    some (7,[7])
  else
   if (x3.Ad==14)=true then
    some (3,[3])
   else
    if (x3.Ad==15)=true then
     some (0,[x5.2.2.1,x5.2.2.2,0])
    else
     some (x5.1,[x5.2.2.1,x5.2.2.2,0])):Option (Int×(List Int))).bind fun(own7,sides8)=>
  (Od x3.Ad).bind fun x9=>
  ((Bf (fun(qj10:(List Aa)×Int×(List (List (List UInt8))))=>match qj10 with
    |(rest11,x12,row13)=>(
     if (decide (x12<x9))=true then
      (rdO sides8 x12).bind fun x14=>
      (E2 fuel rest11 x14).bind fun x15=>
      (apO 24 row13 [x15.1]).bind fun x16=>
      some (.inl (x15.2,IntKind.wrap .i64 (x12+1),x16))
     else
      some (.inr (rest11,row13)):Option (((List Aa)×Int×(List (List (List UInt8))))⊕((List Aa)×(List (List (List UInt8))))))) (x4,0,([]:List (List (List UInt8))))):Option ((List Aa)×(List (List (List UInt8))))).bind fun(rest17,parts18)=>
  (Q4 x3 x5.2.1 parts18).bind fun x19=>
  ((if (decide (own7<level2))=true then
    (Ah [[[40]],x19,[[41]]]).bind fun x21=>
    some x21
  else
   some x19):Option (List (List UInt8))).bind fun j20=>
  some (j20,rest17)
noncomputable def Ln(l1:List Aa):Option ((List UInt8)×Int):=
 (Dk l1).bind fun x2=>
 if (!x2)=true then
  some ([],1)
 else
  (E2 100000 l1 0).bind fun x3=>
  (strings_Join x3.1 [32]).bind fun x4=>
  some (x4,0)
noncomputable def B8(s1:List UInt8)(e2:Ab):Option ((List UInt8)×Ab):=
 (Aj [s1] e2).bind fun x3=>
 (A3 1 true x3).bind fun x4=>
 (Aj [[59]] x4.2).bind fun x5=>
 some (x4.1,x5)
noncomputable def C5(e1:Ab):Option (Af×Ab):=
 (Aj [[112,114,111,100,117,99,116]] e1).bind fun x2=>
 (A3 0 true x2).bind fun x3=>
 (A3 0 true x3.2).bind fun x4=>
 (Aj [[123],[98,97,115,105,115]] x4.2).bind fun x5=>
 (A3 0 true x5).bind fun x6=>
 (Aj [[59]] x6.2).bind fun x7=>
 (B8 [112,101,114,105,111,100] x7).bind fun x8=>
 (Aj [[116,105,101,114,115],[123]] x8.2).bind fun x9=>
 ((Bf (fun(qj10:Bool×Ab×(List UInt8)×(List UInt8)×(List UInt8)×(List UInt8)×(List Aa)×(List UInt8)×(List UInt8)×(List UInt8)×(List Am))=>match qj10 with
   |(first11,r12,d13,d14,d15,d16,d17,d18,d19,d20,row21)=>(
    (some (!r12.B3)).bind fun c22=>
    (gdO (c22&& !first11) (Bl [125] r12) (default:Bool)).bind fun x23=>
    if (c22&&(first11||(!x23)))=true then
     (A3 1 true (⟨(bif (c22&& !first11) then r12.Hz else r12.Hz),(bif (c22&& !first11) then r12.Cl else r12.Cl),(bif (c22&& !first11) then r12.B3 else r12.B3)⟩:Ab)).bind fun x24=>
     (Aj [[58]] x24.2).bind fun x25=>
     (A3 1 true x25).bind fun x26=>
     (Aj [[37],[59]] x26.2).bind fun x27=>
     (apO 32 row21 [(⟨x24.1,x26.1⟩:Am)]).bind fun x28=>
     some (.inl (false,x27,d13,d14,d15,d16,d17,d18,d19,d20,x28))
    else
     some (.inr ((⟨(bif (c22&& !first11) then r12.Hz else r12.Hz),(bif (c22&& !first11) then r12.Cl else r12.Cl),(bif (c22&& !first11) then r12.B3 else r12.B3)⟩:Ab),(⟨d13,d14,d15,d16,row21,d17,d18,d19,d20⟩:Af))):Option ((Bool×Ab×(List UInt8)×(List UInt8)×(List UInt8)×(List UInt8)×(List Aa)×(List UInt8)×(List UInt8)×(List UInt8)×(List Am))⊕(Ab×Af)))) (true,x9,x3.1,x4.1,x6.1,x8.1,([]:List Aa),[],[],[],([]:List Am))):Option (Ab×Af)).bind fun(r29,d30)=>
 (Aj [[125],[102,101,101]] r29).bind fun x31=>
 (parse_reader_any 100000 x31).bind fun x32=>
 (Aj [[59]] x32.2).bind fun x33=>
 (B8 [109,105,110,105,109,117,109] x33).bind fun x34=>
 (B8 [111,118,101,114,100,114,97,102,116] x34.2).bind fun x35=>
 (B8 [110,111,116,105,99,101] x35.2).bind fun x36=>
 (Aj [[125]] x36.2).bind fun x37=>
 some ((⟨d30.F4,d30.Lj,d30.Dz,d30.C3,d30.A2,x32.1,x34.1,x35.1,x36.1⟩:Af),x37)
noncomputable def Tm(text1:List UInt8):Option ((List Af)×Int×Int×Int):=
 (Lo text1).bind fun x2=>match x2 with
 | .inl a3=>
  if (a3.2.2.1 !=0)=true then
   some (([]:List Af),a3.1,a3.2.1,a3.2.2.1)
  else
   ((Bf (fun(qj5:Bool×Ab×(List Af))=>match qj5 with
     |(fits6,x7,row8)=>(
      (some (!x7.B3)).bind fun c9=>
      if (c9&&(decide (x7.Cl<(x7.Hz.length:Int))))=true then
       (C5 x7).bind fun x10=>
       (some (fits6&&(decide ((x10.1.A2.length:Int)≤8)))).bind fun c11=>
       (gdO c11 (Dk x10.1.Ft) (default:Bool)).bind fun x12=>
       (apO 160 row8 [x10.1]).bind fun x13=>
       some (.inl ((c11&&x12),x10.2,x13))
      else
       some (.inr (row8,fits6,x7)):Option ((Bool×Ab×(List Af))⊕((List Af)×Bool×Ab)))) (true,a3.2.2.2,([]:List Af))):Option ((List Af)×Bool×Ab)).bind fun(out14,fits15,x16)=>
   (Ep text1 (fits15&&(decide ((out14.length:Int)≤16))) x16).bind fun x17=>
   if (x17.2.2 !=0)=true then
    some (([]:List Af),x17.1,x17.2.1,x17.2.2)
   else
    some (out14,0,0,0)
 | .inr b4=>
  if (b4.2.2 !=0)=true then
   some (([]:List Af),b4.1,b4.2.1,b4.2.2)
  else
   none
noncomputable def Lq(b1:Am):Option Bool:=
 (D2 b1.Hx).bind fun x2=>
 (some (!x2)).bind fun c3=>
 (gdO (!c3) (D2 b1.Hy) (default:Bool)).bind fun x4=>
 some (c3||(!x4))
noncomputable def Dq(s1:List Am):Option Int:=
 ((Bf (fun(qj2:Int)=>match qj2 with
   |x3=>(
    if (decide (x3<(s1.length:Int)))=true then
     (rdO s1 x3).bind fun x4=>
     (Lq x4).bind fun x5=>
     if x5=true then
      some (.inr (.inr x3))
     else
      some (.inl (IntKind.wrap .i64 (x3+1)))
    else
     some (.inr (.inl ())):Option (Int⊕(Unit⊕Int)))) 0):Option (Unit⊕Int)).bind fun j2=>match j2 with
 | .inr o=>some o
 | .inl _=>
 some (-1)
noncomputable def Ca(s1:List Am):Option Bool:=
 (Dq s1).bind fun x2=>
 some (decide (x2≥0))
noncomputable def Aba(d1:Af):Option Bool:=
 ((Bf (fun(qj2:Int)=>match qj2 with
   |x3=>(
    if (decide (x3<([d1.F4,d1.Lj,d1.Dz].length:Int)))=true then
     (rdO [d1.F4,d1.Lj,d1.Dz] x3).bind fun x4=>
     (J1 x4 true).bind fun x5=>
     if (!x5)=true then
      some (.inr (.inr false))
     else
      some (.inl (IntKind.wrap .i64 (x3+1)))
    else
     some (.inr (.inl ())):Option (Int⊕(Unit⊕Bool)))) 0):Option (Unit⊕Bool)).bind fun j2=>match j2 with
 | .inr o=>some o
 | .inl _=>
 ((Bf (fun(qj6:Int)=>match qj6 with
   |x7=>(
    if (decide (x7<([d1.C3,d1.Cn,d1.Bu,d1.Cu].length:Int)))=true then
     (rdO [d1.C3,d1.Cn,d1.Bu,d1.Cu] x7).bind fun x8=>
     (D2 x8).bind fun x9=>
     if (!x9)=true then
      some (.inr (.inr false))
     else
      some (.inl (IntKind.wrap .i64 (x7+1)))
    else
     some (.inr (.inl ())):Option (Int⊕(Unit⊕Bool)))) 0):Option (Unit⊕Bool)).bind fun j6=>match j6 with
 | .inr o=>some o
 | .inl _=>
 (some (decide ((d1.A2.length:Int)≥1))).bind fun c10=>
 (some (c10&&(decide ((d1.A2.length:Int)≤8)))).bind fun c11=>
 (gdO c11 (Ca d1.A2) (default:Bool)).bind fun x12=>
 (some (c11&&(!x12))).bind fun c13=>
 (gdO c13 (Dk d1.Ft) (default:Bool)).bind fun x14=>
 some (c13&&x14)
noncomputable def Eo(d1:Af):Option Bool:=
 (Aba d1).bind fun x2=>
 some (!x2)
noncomputable def Dr(s1:List Af):Option Int:=
 ((Bf (fun(qj2:Int)=>match qj2 with
   |x3=>(
    if (decide (x3<(s1.length:Int)))=true then
     (rdO s1 x3).bind fun x4=>
     (Eo x4).bind fun x5=>
     if x5=true then
      some (.inr (.inr x3))
     else
      some (.inl (IntKind.wrap .i64 (x3+1)))
    else
     some (.inr (.inl ())):Option (Int⊕(Unit⊕Int)))) 0):Option (Unit⊕Int)).bind fun j2=>match j2 with
 | .inr o=>some o
 | .inl _=>
 some (-1)
noncomputable def Cb(s1:List Af):Option Bool:=
 (Dr s1).bind fun x2=>
 some (decide (x2≥0))
noncomputable def H6(l1:List Af):Option ((List UInt8)×Int):=
 (some (decide ((l1.length:Int)>16))).bind fun c2=>
 (gdO (!c2) (Cb l1) (default:Bool)).bind fun x3=>
 if (c2||x3)=true then
  some ([],1)
 else
  ((Bf (fun(qj4:Int×(List (List UInt8)))=>match qj4 with
    |(x5,row6)=>(
     if (decide (x5<(l1.length:Int)))=true then
      (rdO l1 x5).bind fun x7=>
      (apO 16 row6 [[112,114,111,100,117,99,116],x7.F4,x7.Lj,[123],[98,97,115,105,115],x7.Dz,[59],[112,101,114,105,111,100],x7.C3,[59],[116,105,101,114,115],[123]]).bind fun x8=>
      ((Bf (fun(qj9:Int×(List (List UInt8)))=>match qj9 with
        |(x10,row11)=>(
         if (decide (x10<(x7.A2.length:Int)))=true then
          (rdO x7.A2 x10).bind fun x12=>
          (apO 16 row11 [x12.Hx,[58],x12.Hy,[37],[59]]).bind fun x13=>
          some (.inl (IntKind.wrap .i64 (x10+1),x13))
         else
          some (.inr row11):Option ((Int×(List (List UInt8)))⊕(List (List UInt8))))) (0,x8)):Option (List (List UInt8))).bind fun j9=>
      (E2 100000 x7.Ft 0).bind fun x15=>
      (apO 16 j9 [[125],[102,101,101]]).bind fun x16=>
      (apO 16 x16 x15.1).bind fun x17=>
      (apO 16 x17 [[59],[109,105,110,105,109,117,109],x7.Cn,[59],[111,118,101,114,100,114,97,102,116],x7.Bu,[59],[110,111,116,105,99,101],x7.Cu,[59],[125]]).bind fun x18=>
      some (.inl (IntKind.wrap .i64 (x5+1),x18))
     else
      some (.inr row6):Option ((Int×(List (List UInt8)))⊕(List (List UInt8))))) (0,([]:List (List UInt8)))):Option (List (List UInt8))).bind fun j4=>
  (strings_Join j4 [32]).bind fun x20=>
  some (x20,0)
noncomputable def Bt(a1:List Aa)(b2:List Aa):Option Bool:=
 if ((a1.length:Int)!=(b2.length:Int))=true then
  some false
 else
  ((Bf (fun(qj3:Int)=>match qj3 with
    |i4=>(
     if (decide (i4<(a1.length:Int)))=true then
      (rdO a1 i4).bind fun x5=>
      (rdO b2 i4).bind fun x6=>
      if (!(Aa.same x5 x6))=true then
       some (.inr (.inr false))
      else
       some (.inl (IntKind.wrap .i64 (i4+1)))
     else
      some (.inr (.inl ())):Option (Int⊕(Unit⊕Bool)))) 0):Option (Unit⊕Bool)).bind fun j3=>match j3 with
  | .inr o=>some o
  | .inl _=>
  some true
noncomputable def Dg(s11:List Am)(s22:List Am):Option Bool:=
 if ((s11.length:Int)!=(s22.length:Int))=true then
  some false
 else
  ((Bf (fun(qj3:Int)=>match qj3 with
    |x4=>(
     if (decide (x4<(s11.length:Int)))=true then
      (rdO s11 x4).bind fun x5=>
      (rdO s22 x4).bind fun x6=>
      if (!(Am.same x5 x6))=true then
       some (.inr (.inr false))
      else
       some (.inl (IntKind.wrap .i64 (x4+1)))
     else
      some (.inr (.inl ())):Option (Int⊕(Unit⊕Bool)))) 0):Option (Unit⊕Bool)).bind fun j3=>match j3 with
  | .inr o=>some o
  | .inl _=>
  some true
noncomputable def Dh(s11:List Aa)(s22:List Aa):Option Bool:=
 if ((s11.length:Int)!=(s22.length:Int))=true then
  some false
 else
  ((Bf (fun(qj3:Int)=>match qj3 with
    |x4=>(
     if (decide (x4<(s11.length:Int)))=true then
      (rdO s11 x4).bind fun x5=>
      (rdO s22 x4).bind fun x6=>
      if (!(Aa.same x5 x6))=true then
       some (.inr (.inr false))
      else
       some (.inl (IntKind.wrap .i64 (x4+1)))
     else
      some (.inr (.inl ())):Option (Int⊕(Unit⊕Bool)))) 0):Option (Unit⊕Bool)).bind fun j3=>match j3 with
  | .inr o=>some o
  | .inl _=>
  some true
noncomputable def Ox(a1:Af)(b2:Af):Option Bool:=
 (Dg a1.A2 b2.A2).bind fun x3=>
 (gdO x3 (Dh a1.Ft b2.Ft) (default:Bool)).bind fun x4=>
 (some (x3&&x4)).bind fun c5=>
 (some (c5&&(a1.F4==b2.F4))).bind fun c6=>
 (some (c6&&(a1.Lj==b2.Lj))).bind fun c7=>
 (some (c7&&(a1.Dz==b2.Dz))).bind fun c8=>
 (some (c8&&(a1.C3==b2.C3))).bind fun c9=>
 (some (c9&&(a1.Cn==b2.Cn))).bind fun c10=>
 (some (c10&&(a1.Bu==b2.Bu))).bind fun c11=>
 some (c11&&(a1.Cu==b2.Cu))
noncomputable def Cm:Option Bool:=
 (Bz [97,45,98,32,45,32,99,42,45,50,37]).bind fun x1=>
 (Ln x1.1).bind fun x2=>
 (Bz [40,97,32,60,32,49,41,32,61,32,40,110,111,116,32,98,41]).bind fun x3=>
 (Ln x3.1).bind fun x4=>
 (Bz [97,10,32,60,32,98,32,60,32,99]).bind fun x5=>
 (Bz [40,97]).bind fun x6=>
 (Tm [112,114,111,100,117,99,116,32,115,97,118,101,32,101,117,114,32,123,32,98,97,115,105,115,32,97,99,116,51,54,53,32,59,32,112,101,114,105,111,100,32,51,32,59,32,116,105,101,114,115,32,123,32,48,32,58,32,49,46,50,53,32,37,32,59,32,53,48,48,32,58,32,50,32,37,32,59,32,125,32,102,101,101,32,105,102,32,98,97,108,97,110,99,101,32,60,32,49,48,32,116,104,101,110,32,49,32,101,108,115,101,32,48,32,59,32,109,105,110,105,109,117,109,32,53,32,59,32,111,118,101,114,100,114,97,102,116,32,48,32,59,32,110,111,116,105,99,101,32,51,48,32,59,32,125]).bind fun x7=>
 (H6 x7.1).bind fun x8=>
 (Bt x1.1 [(⟨4,[]⟩:Aa),(⟨4,[]⟩:Aa),(⟨1,[97]⟩:Aa),(⟨1,[98]⟩:Aa),(⟨5,[]⟩:Aa),(⟨1,[99]⟩:Aa),(⟨2,[]⟩:Aa),(⟨0,[50,37]⟩:Aa)]).bind fun x9=>
 if ((x7.1.length:Int)!=1)=true then
  some false
 else
  (some (x1.2.2.2==0)).bind fun c10=>
  (some (c10&&x9)).bind fun c11=>
  (some (c11&&(x2.2==0))).bind fun c12=>
  (some (c12&&(x2.1==[97,32,45,32,98,32,45,32,99,32,42,32,45,32,50,32,37]))).bind fun c13=>
  (gdO c13 (Lm x1.1) (default:Int)).bind fun x14=>
  (some (c13&&(x14==4))).bind fun c15=>
  (some (c15&&(x3.2.2.2==0))).bind fun c16=>
  (some (c16&&(x4.2==0))).bind fun c17=>
  (some (c17&&(x4.1==[40,32,97,32,60,32,49,32,41,32,61,32,40,32,110,111,116,32,98,32,41]))).bind fun c18=>
  (some (c18&&(x5.2.2.2==14))).bind fun c19=>
  (some (c19&&(x5.2.1==2))).bind fun c20=>
  (some (c20&&(x5.2.2.1==6))).bind fun c21=>
  (some (c21&&(x6.2.2.2==14))).bind fun c22=>
  (some (c22&&(x6.2.1==1))).bind fun c23=>
  (some (c23&&(x6.2.2.1==3))).bind fun c24=>
  (some (c24&&(x7.2.2.2==0))).bind fun c25=>
  (some (c25&&(x8.2==0))).bind fun c26=>
  (some (c26&&(x8.1==[112,114,111,100,117,99,116,32,115,97,118,101,32,101,117,114,32,123,32,98,97,115,105,115,32,97,99,116,51,54,53,32,59,32,112,101,114,105,111,100,32,51,32,59,32,116,105,101,114,115,32,123,32,48,32,58,32,49,46,50,53,32,37,32,59,32,53,48,48,32,58,32,50,32,37,32,59,32,125,32,102,101,101,32,105,102,32,98,97,108,97,110,99,101,32,60,32,49,48,32,116,104,101,110,32,49,32,101,108,115,101,32,48,32,59,32,109,105,110,105,109,117,109,32,53,32,59,32,111,118,101,114,100,114,97,102,116,32,48,32,59,32,110,111,116,105,99,101,32,51,48,32,59,32,125]))).bind fun c27=>
  (gdO c27 (rdO x7.1 0) (default:Af)).bind fun x28=>
  (some (c27&&((x28.A2.length:Int)==2))).bind fun c29=>
  (gdO c29 (rdO x7.1 0) (default:Af)).bind fun x30=>
  (gdO c29 (rdO x30.A2 1) (default:Am)).bind fun x31=>
  (some (c29&&(x31.Hy==[50]))).bind fun c32=>
  (gdO c32 (rdO x7.1 0) (default:Af)).bind fun x33=>
  (some (c32&&(x33.Cu==[51,48]))).bind fun c34=>
  (gdO c34 (rdO x7.1 0) (default:Af)).bind fun x35=>
  (gdO c34 (rdO x7.1 0) (default:Af)).bind fun x36=>
  (gdO c34 (Ox x35 x36) (default:Bool)).bind fun x37=>
  (some (c34&&x37)).bind fun c38=>
  (gdO c38 (Dk [(⟨2,[]⟩:Aa)]) (default:Bool)).bind fun x39=>
  (some (c38&&(!x39))).bind fun c40=>
  (gdO c40 (Dk x1.1) (default:Bool)).bind fun x41=>
  some (c40&&x41)
def Be(l1:List Ac)(at_2:Int)(s3:List UInt8):Option Bool:=
 (some (decide (at_2<(l1.length:Int)))).bind fun c4=>
 (gdO c4 (rdO l1 at_2) (default:Ac)).bind fun x5=>
 (some (c4&&(x5.Ad !=2))).bind fun c6=>
 (gdO c6 (rdO l1 at_2) (default:Ac)).bind fun x7=>
 some (c6&&(x7.Ag==s3))
noncomputable def S9(l1:List (List UInt8))(s2:List UInt8):Option Bool:=
 ((Bf (fun(qj3:Int)=>match qj3 with
   |i4=>(
    if (decide (i4<(l1.length:Int)))=true then
     (rdO l1 i4).bind fun x5=>
     if (x5==s2)=true then
      some (.inr (.inr true))
     else
      some (.inl (IntKind.wrap .i64 (i4+1)))
    else
     some (.inr (.inl ())):Option (Int⊕(Unit⊕Bool)))) 0):Option (Unit⊕Bool)).bind fun j3=>match j3 with
 | .inr o=>some o
 | .inl _=>
 some false
noncomputable def Ae7(s1:List UInt8)(product2:Bool):Option Bool:=
 (S9 [[105,102],[116,104,101,110],[101,108,115,101],[97,110,100],[111,114],[110,111,116],[109,105,110],[109,97,120]] s1).bind fun x3=>
 (S9 [[112,114,111,100,117,99,116],[98,97,115,105,115],[112,101,114,105,111,100],[116,105,101,114,115],[102,101,101],[109,105,110,105,109,117,109],[111,118,101,114,100,114,97,102,116],[110,111,116,105,99,101]] s1).bind fun x4=>
 some (x3||(product2&&x4))
def Adg(t1:Ac):Option (Int×Int):=
 if (t1.Ad==2)=true then
  some (0,0)
 else
  if (t1.Ag==[111,114])=true then
   some (13,1)
  else
   if (t1.Ag==[97,110,100])=true then
    some (12,2)
   else
    if (t1.Ag==[60])=true then
     some (7,4)
    else
     if (t1.Ag==[60,61])=true then
      some (8,4)
     else
      if (t1.Ag==[61])=true then
       some (9,4)
      else
       if (t1.Ag==[62])=true then
        some (10,4)
       else
        if (t1.Ag==[62,61])=true then
         some (11,4)
        else
         if (t1.Ag==[43])=true then
          some (3,5)
         else
          if (t1.Ag==[45])=true then
           some (4,5)
          else
           if (t1.Ag==[42])=true then
            some (5,6)
           else
            if (t1.Ag==[47])=true then
             some (6,6)
            else
             some (0,0)
def Cx(kind1:Int)(a2:List Aa)(b3:List Aa)(c4:List Aa):Option (List Aa):=
 (apO 24 [(⟨kind1,[]⟩:Aa)] a2).bind fun x5=>
 (apO 24 x5 b3).bind fun x6=>
 (apO 24 x6 c4).bind fun x7=>
 some x7
mutual
noncomputable def cashbookref15_climb:Nat→(List Ac)→Int→Int→Option ((List Aa)×Int×Bool)
 |0,_,_,_=>none
 |fuel+1,l1,at_2,level3=>
  (cashbookref15_first fuel l1 at_2 level3).bind fun x4=>
  if (decide (x4.2.2<0))=true then
   some (([]:List Aa),x4.2.1,false)
  else
   ((Bf (fun(qj5:(List Aa)×Int×Int)=>match qj5 with
     |(out6,i7,own8)=>(
      if (decide (i7<(l1.length:Int)))=true then
       (rdO l1 i7).bind fun x9=>
       (Adg x9).bind fun x10=>
       ((if (x10.2==4)=true then
         some 5
       else
        some x10.2):Option Int).bind fun j11=>
       (some (x10.2==0)).bind fun c13=>
       (some (c13||(decide (x10.2<level3)))).bind fun c14=>
       if (c14||(decide (own8<j11)))=true then
        some (.inr (.inr (out6,i7,true)))
       else
        (cashbookref15_climb fuel l1 (IntKind.wrap .i64 (i7+1)) (IntKind.wrap .i64 (x10.2+1))).bind fun x15=>
        if (!x15.2.2)=true then
         some (.inr (.inr (([]:List Aa),x15.2.1,false)))
        else
         (Cx x10.1 out6 x15.1 ([]:List Aa)).bind fun x16=>
         some (.inl (x16,x15.2.1,x10.2))
      else
       some (.inr (.inl (out6,i7))):Option (((List Aa)×Int×Int)⊕(((List Aa)×Int)⊕((List Aa)×Int×Bool))))) (x4.1,x4.2.1,x4.2.2)):Option (((List Aa)×Int)⊕((List Aa)×Int×Bool))).bind fun j5=>match j5 with
   | .inr o=>some o
   | .inl (out17,i18)=>
   some (out17,i18,true)
noncomputable def cashbookref15_first:Nat→(List Ac)→Int→Int→Option ((List Aa)×Int×Int)
 |0,_,_,_=>none
 |fuel+1,l1,at_2,level3=>
  (some (level3==0)).bind fun c4=>
  (gdO c4 (Be l1 at_2 [105,102]) (default:Bool)).bind fun x5=>
  if (c4&&x5)=true then
   (cashbookref15_climb fuel l1 (IntKind.wrap .i64 (at_2+1)) 0).bind fun x6=>
   (some (!x6.2.2)).bind fun c7=>
   (gdO (!c7) (Be l1 x6.2.1 [116,104,101,110]) (default:Bool)).bind fun x8=>
   if (c7||(!x8))=true then
    some (([]:List Aa),x6.2.1,(-1))
   else
    (cashbookref15_climb fuel l1 (IntKind.wrap .i64 (x6.2.1+1)) 0).bind fun x9=>
    (some (!x9.2.2)).bind fun c10=>
    (gdO (!c10) (Be l1 x9.2.1 [101,108,115,101]) (default:Bool)).bind fun x11=>
    if (c10||(!x11))=true then
     some (([]:List Aa),x9.2.1,(-1))
    else
     (cashbookref15_climb fuel l1 (IntKind.wrap .i64 (x9.2.1+1)) 0).bind fun x12=>
     if (!x12.2.2)=true then
      some (([]:List Aa),x12.2.1,(-1))
     else
      (Cx 15 x6.1 x9.1 x12.1).bind fun x13=>
      some (x13,x12.2.1,0)
  else
   (some (decide (level3≤3))).bind fun c14=>
   (gdO c14 (Be l1 at_2 [110,111,116]) (default:Bool)).bind fun x15=>
   if (c14&&x15)=true then
    (cashbookref15_climb fuel l1 (IntKind.wrap .i64 (at_2+1)) 3).bind fun x16=>
    if (!x16.2.2)=true then
     some (([]:List Aa),x16.2.1,(-1))
    else
     (Cx 14 x16.1 ([]:List Aa) ([]:List Aa)).bind fun x17=>
     some (x17,x16.2.1,3)
   else
    (Be l1 at_2 [45]).bind fun x18=>
    if x18=true then
     (cashbookref15_climb fuel l1 (IntKind.wrap .i64 (at_2+1)) 7).bind fun x19=>
     if (!x19.2.2)=true then
      some (([]:List Aa),x19.2.1,(-1))
     else
      (Cx 2 x19.1 ([]:List Aa) ([]:List Aa)).bind fun x20=>
      some (x20,x19.2.1,7)
    else
     (cashbookref15_primary fuel l1 at_2).bind fun x21=>
     some (x21.1,x21.2.1,x21.2.2)
noncomputable def cashbookref15_primary:Nat→(List Ac)→Int→Option ((List Aa)×Int×Int)
 |0,_,_=>none
 |fuel+1,l1,at_2=>
  if (decide (at_2≥(l1.length:Int)))=true then
   some (([]:List Aa),at_2,(-1))
  else
   (rdO l1 at_2).bind fun x3=>
   (Be l1 at_2 [40]).bind fun x4=>
   if x4=true then
    (cashbookref15_climb fuel l1 (IntKind.wrap .i64 (at_2+1)) 0).bind fun x5=>
    (some (!x5.2.2)).bind fun c6=>
    (gdO (!c6) (Be l1 x5.2.1 [41]) (default:Bool)).bind fun x7=>
    if (c6||(!x7))=true then
     some (([]:List Aa),x5.2.1,(-1))
    else
     some (x5.1,IntKind.wrap .i64 (x5.2.1+1),8)
   else
    (Be l1 at_2 [109,105,110]).bind fun x8=>
    (gdO (!x8) (Be l1 at_2 [109,97,120]) (default:Bool)).bind fun x9=>
    if (x8||x9)=true then
     (Be l1 (IntKind.wrap .i64 (at_2+1)) [40]).bind fun x10=>
     if (!x10)=true then
      some (([]:List Aa),IntKind.wrap .i64 (at_2+1),(-1))
     else
      (cashbookref15_climb fuel l1 (IntKind.wrap .i64 (at_2+2)) 0).bind fun x11=>
      (some (!x11.2.2)).bind fun c12=>
      (gdO (!c12) (Be l1 x11.2.1 [44]) (default:Bool)).bind fun x13=>
      if (c12||(!x13))=true then
       some (([]:List Aa),x11.2.1,(-1))
      else
       (cashbookref15_climb fuel l1 (IntKind.wrap .i64 (x11.2.1+1)) 0).bind fun x14=>
       (some (!x14.2.2)).bind fun c15=>
       (gdO (!c15) (Be l1 x14.2.1 [41]) (default:Bool)).bind fun x16=>
       if (c15||(!x16))=true then
        some (([]:List Aa),x14.2.1,(-1))
       else
        if (x3.Ag==[109,105,110])=true then
         (Cx 16 x11.1 x14.1 ([]:List Aa)).bind fun x17=>
         some (x17,IntKind.wrap .i64 (x14.2.1+1),8)
        else
         (Cx 17 x11.1 x14.1 ([]:List Aa)).bind fun x18=>
         some (x18,IntKind.wrap .i64 (x14.2.1+1),8)
    else
     (some (x3.Ad==1)).bind fun c19=>
     (gdO c19 (Be l1 (IntKind.wrap .i64 (at_2+1)) [37]) (default:Bool)).bind fun x20=>
     if (c19&&x20)=true then
      (Hw x3.Ag [37]).bind fun x21=>
      some ([(⟨0,x21⟩:Aa)],IntKind.wrap .i64 (at_2+2),8)
     else
      (Ae7 x3.Ag false).bind fun x22=>
      (some (x3.Ad==1)).bind fun c23=>
      (some (x3.Ad==0)).bind fun c24=>
      if (c23||(c24&&(!x22)))=true then
       some ([(⟨IntKind.wrap .i64 (1-x3.Ad),x3.Ag⟩:Aa)],IntKind.wrap .i64 (at_2+1),8)
      else
       some (([]:List Aa),at_2,(-1))
end
def Bn(kind1:Int)(a2:List Aa)(b3:List Aa):Option (List Aa):=
 (apO 24 [(⟨kind1,[]⟩:Aa)] a2).bind fun x4=>
 (apO 24 ([]:List Aa) x4).bind fun x5=>
 (apO 24 x5 b3).bind fun x6=>
 some x6
def F1(kind1:Int)(a2:List Aa)(b3:List Aa):Option (List Aa):=
 (apO 24 [(⟨kind1,[]⟩:Aa)] a2).bind fun x4=>
 (apO 24 ([]:List Aa) x4).bind fun x5=>
 (apO 24 x5 b3).bind fun x6=>
 some x6
def Ch(e1:Int)(is2:Bool):Option Bool:=
 (some (e1==0)).bind fun c3=>
 (some (c3&&is2)).bind fun c4=>
 (some (c4||(e1==4))).bind fun c5=>
 some (c5||(e1==6))
noncomputable def Cj(s1:List UInt8)(t2:List UInt8)(k3:Int):Option Bool:=
 (some (decide ((s1.length:Int)>1000))).bind fun c4=>
 if (c4||(decide ((t2.length:Int)>1000)))=true then
  (Cm).bind fun x5=>
  some x5
 else
  (Bz s1).bind fun x6=>
  (Bz t2).bind fun x7=>
  (some (x6.2.2.2 !=0)).bind fun c8=>
  if (c8||(x7.2.2.2 !=0))=true then
   (Cm).bind fun x9=>
   some x9
  else
   (Bfs .i64 (IntKind.wrap .i64 k3) ([[43],[45],[42],[47],[60],[60,61],[61],[62],[62,61],[97,110,100],[111,114]].length:Int)).bind fun x10=>
   (Hw [40,40,10] s1).bind fun x11=>
   (Hw x11 [10,41,41]).bind fun x12=>
   (Bz x12).bind fun x13=>
   (Bt x13.1 x6.1).bind fun x14=>
   (Hw [40] s1).bind fun x15=>
   (Hw x15 [10,41]).bind fun x16=>
   (rdO [[43],[45],[42],[47],[60],[60,61],[61],[62],[62,61],[97,110,100],[111,114]] x10).bind fun x17=>
   (Hw x16 x17).bind fun x18=>
   (Hw x18 [10,40]).bind fun x19=>
   (Hw x19 t2).bind fun x20=>
   (Hw x20 [10,41]).bind fun x21=>
   (Bz x21).bind fun x22=>
   (rdO [3,4,5,6,7,8,9,10,11,12,13] x10).bind fun x23=>
   (Bn x23 x6.1 x7.1).bind fun x24=>
   (Bt x22.1 x24).bind fun x25=>
   (Hw [110,111,116,32,40] s1).bind fun x26=>
   (Hw x26 [10,41,32,97,110,100,32,45,40]).bind fun x27=>
   (Hw x27 t2).bind fun x28=>
   (Hw x28 [10,41,32,60,32,105,102,49]).bind fun x29=>
   (Bz x29).bind fun x30=>
   (Bn 14 x6.1 ([]:List Aa)).bind fun x31=>
   (Bn 2 x7.1 ([]:List Aa)).bind fun x32=>
   (Bn 7 x32 [(⟨1,[105,102,49]⟩:Aa)]).bind fun x33=>
   (Bn 12 x31 x33).bind fun x34=>
   (Bt x30.1 x34).bind fun x35=>
   (Hw [105,102,32] s1).bind fun x36=>
   (Hw x36 [10,116,104,101,110,32]).bind fun x37=>
   (Hw x37 t2).bind fun x38=>
   (Hw x38 [10,101,108,115,101,32,109,97,120,40]).bind fun x39=>
   (Hw x39 s1).bind fun x40=>
   (Hw x40 [10,44]).bind fun x41=>
   (Hw x41 t2).bind fun x42=>
   (Hw x42 [10,41]).bind fun x43=>
   (Bz x43).bind fun x44=>
   (F1 15 x6.1 x7.1).bind fun x45=>
   (Bn 17 x6.1 x7.1).bind fun x46=>
   (apO 24 x45 x46).bind fun x47=>
   (Bt x44.1 x47).bind fun x48=>
   (Cm).bind fun x49=>
   (gdO x49 (Ch x13.2.2.2 x14) (default:Bool)).bind fun x50=>
   (some (x49&&x50)).bind fun c51=>
   (gdO c51 (Ch x22.2.2.2 x25) (default:Bool)).bind fun x52=>
   (some (c51&&x52)).bind fun c53=>
   (gdO c53 (Ch x30.2.2.2 x35) (default:Bool)).bind fun x54=>
   (some (c53&&x54)).bind fun c55=>
   (gdO c55 (Ch x44.2.2.2 x48) (default:Bool)).bind fun x56=>
   some (c55&&x56)
end Go.Av.G
end
section
set_option maxRecDepth 100000
set_option maxHeartbeats 8000000
namespace Go.Av.G
open Go Go.Av Go.Proofs
def Pt:Ent:=⟨[.ty .str,.ty .str],[],[.str,.str],⟨(.ty .str),[],[],[.str],[],[]⟩,none,fun p=>Bs p.1 p.2⟩
theorem Yl:Pt.ok Tryz.prog 108:=fun p r h=>Acg (show Bs _ _=some _ from h)
def M5:Ent:=⟨[.ty .str,.ty .str],[],[.str,.str],⟨(.ty .bool),[],[],[.bool],[],[]⟩,none,fun p=>strings_HasPrefix p.1 p.2⟩
theorem Xn:M5.ok Tryz.prog 109:=fun p r h=>Aan (show strings_HasPrefix _ _=some _ from h)
def Ac9:Ent:=⟨[.ty .str,.ty .str],[],[.str,.str],⟨(.tup [(.ty .str),(.ty .str),(.ty .bool)]),[],[],[.str,.str,.bool],[],[]⟩,none,fun p=>strings_Cut p.1 p.2⟩
theorem Ah8:Ac9.ok Tryz.prog 110:=fun p r h=>Apo (show strings_Cut _ _=some _ from h)
def A1o:List TOp:=[oo 2 (.mov (.cst (.int .i64 0)))]
def A1p:List TOp:=[oo 7 (.mov (.tmp 0)),oo 3 (.mov (.tmp 7))]
def A1q:List TOp:=[oo 8 (.mov (.tmp 3)),oo 9 (.call 0 0 (.cst (.fn 108)) [(.tmp 8),(.cst (.str [32,9,10]))] [] []),oo 3 (.mov (.tmp 9))]
def A1r:List TOp:=[oo 10 (.mov (.tmp 3)),oo 11 (.call 0 0 (.cst (.fn 109)) [(.tmp 10),(.cst (.str [35]))] [] []),oo 12 (.un .not (.tmp 11))]
def A1s:List TOp:=[oo 13 (.mov (.tmp 0)),oo 14 (.len true (.tmp 13)),oo 15 (.mov (.tmp 3)),oo 16 (.len true (.tmp 15)),oo 17 (.bin false .sub (.tmp 14) (.tmp 16)),oo 2 (.mov (.tmp 17))]
def Ai3:Kp:=⟨[],[(2,false)],[],[],[]⟩
def A1t:List TOp:=[oo 19 (.mov (.tmp 3)),oo 20 (.call 0 0 (.cst (.fn 110)) [(.tmp 19),(.cst (.str [10]))] [] []),oo 18 (.mov (.tmp 20)),oo 21 (.ext 0 (.tmp 18)),oo 22 (.ext 1 (.tmp 18)),oo 23 (.ext 2 (.tmp 18)),oo 4 (.mov (.tmp 21)),oo 5 (.mov (.tmp 22)),oo 6 (.mov (.tmp 23))]
def A1u:List TOp:=[oo 24 (.mov (.tmp 6)),oo 25 (.un .not (.tmp 24))]
def A1v:List TOp:=[oo 26 (.mov (.tmp 0)),oo 27 (.len true (.tmp 26)),oo 2 (.mov (.tmp 27))]
def A1w:List TOp:=[oo 28 (.mov (.tmp 5)),oo 3 (.mov (.tmp 28))]
def Aw9:DC:=(.pass 1 (.seq (.ops A1q) (.seq (.seq (.ops A1r) (.cond (.tmp 12) (.free (.seq (.ops A1s) (.keep Ai3 .ret))) .skip)) (.seq (.ops A1t) (.seq (.seq (.ops A1u) (.cond (.tmp 25) (.free (.seq (.ops A1v) (.keep Ai3 .ret))) .skip)) (.ops A1w))))))
def Aw8:Kp:=⟨[],[(0,false),(3,false)],[],[],[]⟩
def Axa:Sig:=⟨[(0,none),(3,some (.ty .str))],[],[.str],[],[]⟩
def A9v:TFd:=⟨1,[(.tmp 2,.bool)],[],(.seq (.ops A1o) (.seq (.ops A1p) (.pass 0 (.loop [0,3] [] Aw8 Axa Aw9))))⟩
noncomputable def Amg:Ent:=⟨[.ty .str],[],[.str],⟨(.ty (.int .i64)),[],[],[(.int .i64)],[],[]⟩,none,fun p=>Ti p⟩
theorem Az6:Amg.ok Tryz.prog 88:=Ay hm Tryz.func88 (fd:=A9v) (by kernel_rfl) (Ao (l:=[(108,Pt),(109,M5),(110,Ac9)]) (y:=[]) ⟨Yl,Xn,Ah8,trivial⟩ trivial) (by kernel_rfl) (fun p=>by kernel_rfl)
def Awh:List TOp:=[oo 0 (.alloc [.pv .nilFn,.pv .nilFn,.pv .nilFn,.pv .nilFn,.pv .nilFn,.pv .nilFn,.pv .nilFn,.pv .nilFn])]
def Awi:List TOp:=[ot 1 (.st 0) (.build [.pv .nilFn,.pv .nilFn] [(0,1,(.cst (.fn 127))),(1,1,(.cst (.fn 128)))]),ot 2 (.st 0) (.build [.pv .nilFn,.pv .nilFn] [(0,1,(.cst (.fn 129))),(1,1,(.cst (.fn 130)))]),ot 3 (.st 0) (.build [.pv .nilFn,.pv .nilFn] [(0,1,(.cst (.fn 131))),(1,1,(.cst (.fn 132)))]),ot 4 (.st 0) (.build [.pv .nilFn,.pv .nilFn] [(0,1,(.cst (.fn 133))),(1,1,(.cst (.fn 134)))]),ot 5 (.st 1) (.build [.pv .nilFn,.pv .nilFn,.pv .nilFn,.pv .nilFn,.pv .nilFn,.pv .nilFn,.pv .nilFn,.pv .nilFn] [(0,2,(.tmp 1)),(2,2,(.tmp 2)),(4,2,(.tmp 3)),(6,2,(.tmp 4))]),on (.store 8 (.tmp 0) (.tmp 5))]
def Awg:Kp:=⟨[],[(0,false)],[(.loc 0 0,false)],[],[]⟩
def A5m:TFd:=⟨0,[(.cell 0 true 8,(.st 1))],[],(.seq (.ops Awh) (.seq (.ops Awi) (.keep Awg .ret)))⟩
def Aiv:Ent:=⟨[],[],[],⟨(.ty (.st 1)),[],[],[(.st 1)],[],[]⟩,none,fun p=>Ahm⟩
theorem Avh:Aiv.ok Tryz.prog 111:=Ay hm Tryz.func111 (fd:=A5m) (by kernel_rfl) (Ao (l:=[]) (y:=[]) trivial trivial) (by kernel_rfl) (fun p=>by kernel_rfl)
def Ajg:List TOp:=[oo 2 (.mov (.cst (.bool false)))]
def Ajh:List TOp:=[oo 3 (.mov (.tmp 0)),oo 4 (.bin false .geq (.tmp 3) (.cst (.int .u8 97))),oo 5 (.mov (.tmp 4)),og 6 5 true .bool (.mov (.tmp 0)),og 7 5 true .bool (.bin false .leq (.tmp 6) (.cst (.int .u8 122))),oo 8 (.pick (.tmp 5) (.tmp 7) (.cst (.bool false))),oo 2 (.mov (.tmp 8))]
def Ajf:Kp:=⟨[],[(2,false)],[],[],[]⟩
def Aqm:TFd:=⟨1,[(.tmp 2,.bool)],[],(.seq (.ops Ajg) (.seq (.ops Ajh) (.keep Ajf .ret)))⟩
def Y9:Ent:=⟨[.ty (.int .u8)],[],[(.int .u8)],⟨(.ty .bool),[],[],[.bool],[],[]⟩,none,fun p=>Gi p⟩
theorem Xr:Y9.ok Tryz.prog 127:=Ay hm Tryz.func127 (fd:=Aqm) (by kernel_rfl) (Ao (l:=[]) (y:=[]) trivial trivial) (by kernel_rfl) (fun p=>by kernel_rfl)
def Am1:List TOp:=[oo 2 (.mov (.cst (.bool false)))]
def Am2:List TOp:=[oo 3 (.mov (.tmp 0)),oo 4 (.bin false .geq (.tmp 3) (.cst (.int .u8 48))),oo 5 (.mov (.tmp 4)),og 6 5 true .bool (.mov (.tmp 0)),og 7 5 true .bool (.bin false .leq (.tmp 6) (.cst (.int .u8 57))),oo 8 (.pick (.tmp 5) (.tmp 7) (.cst (.bool false))),oo 2 (.mov (.tmp 8))]
def Am0:Kp:=⟨[],[(2,false)],[],[],[]⟩
def Awd:TFd:=⟨1,[(.tmp 2,.bool)],[],(.seq (.ops Am1) (.seq (.ops Am2) (.keep Am0 .ret)))⟩
def Rg:Ent:=⟨[.ty (.int .u8)],[],[(.int .u8)],⟨(.ty .bool),[],[],[.bool],[],[]⟩,none,fun p=>F6 p⟩
theorem Oq:Rg.ok Tryz.prog 129:=Ay hm Tryz.func129 (fd:=Awd) (by kernel_rfl) (Ao (l:=[]) (y:=[]) trivial trivial) (by kernel_rfl) (fun p=>by kernel_rfl)
def Am4:List TOp:=[oo 2 (.mov (.cst (.bool false)))]
def Am5:List TOp:=[oo 3 (.mov (.tmp 0)),oo 4 (.bin false .eql (.tmp 3) (.cst (.int .u8 34))),oo 2 (.mov (.tmp 4))]
def Am3:Kp:=⟨[],[(2,false)],[],[],[]⟩
def Awe:TFd:=⟨1,[(.tmp 2,.bool)],[],(.seq (.ops Am4) (.seq (.ops Am5) (.keep Am3 .ret)))⟩
def Aqc:Ent:=⟨[.ty (.int .u8)],[],[(.int .u8)],⟨(.ty .bool),[],[],[.bool],[],[]⟩,none,fun p=>Ll p⟩
theorem Amc:Aqc.ok Tryz.prog 131:=Ay hm Tryz.func131 (fd:=Awe) (by kernel_rfl) (Ao (l:=[]) (y:=[]) trivial trivial) (by kernel_rfl) (fun p=>by kernel_rfl)
def Am7:List TOp:=[oo 2 (.mov (.cst (.bool false)))]
def Am8:List TOp:=[oo 2 (.mov (.cst (.bool true)))]
def Am6:Kp:=⟨[],[(2,false)],[],[],[]⟩
def Awf:TFd:=⟨1,[(.tmp 2,.bool)],[],(.seq (.ops Am7) (.seq (.ops Am8) (.keep Am6 .ret)))⟩
def Aqd:Ent:=⟨[.ty (.int .u8)],[],[(.int .u8)],⟨(.ty .bool),[],[],[.bool],[],[]⟩,none,fun p=>Q2 p⟩
theorem Amd:Aqd.ok Tryz.prog 133:=Ay hm Tryz.func133 (fd:=Awf) (by kernel_rfl) (Ao (l:=[]) (y:=[]) trivial trivial) (by kernel_rfl) (fun p=>by kernel_rfl)
def Acr:Dyn:=⟨[.ty (.int .u8)],[(.int .u8)],⟨(.ty .bool),[],[],[.bool],[],[]⟩,fun f p=>Ez f p⟩
theorem Ahk(g:Nat):(Acr.ent g).ok Tryz.prog g:=by
 intro p r h
 have h:Ez g p=some r:=h
 unfold Ez at h
 split at h
 ·rename_i e;subst e;exact Xr p r h
 split at h
 ·rename_i e;subst e;exact Oq p r h
 split at h
 ·rename_i e;subst e;exact Amc p r h
 split at h
 ·rename_i e;subst e;exact Amd p r h
 cases h
def Ajj:List TOp:=[oo 2 (.mov (.cst (.bool false)))]
def Ajk:List TOp:=[oo 3 (.mov (.tmp 0)),oo 4 (.call 0 0 (.cst (.fn 127)) [(.tmp 3)] [] []),oo 5 (.mov (.tmp 4)),og 6 5 false .bool (.mov (.tmp 0)),og 7 5 false .bool (.call 0 0 (.cst (.fn 129)) [(.tmp 6)] [] []),oo 8 (.pick (.tmp 5) (.cst (.bool true)) (.tmp 7)),oo 9 (.mov (.tmp 8)),og 10 9 false .bool (.mov (.tmp 0)),og 11 9 false .bool (.bin false .eql (.tmp 10) (.cst (.int .u8 95))),oo 12 (.pick (.tmp 9) (.cst (.bool true)) (.tmp 11)),oo 2 (.mov (.tmp 12))]
def Aji:Kp:=⟨[],[(2,false)],[],[],[]⟩
def Aqn:TFd:=⟨1,[(.tmp 2,.bool)],[],(.seq (.ops Ajj) (.seq (.ops Ajk) (.keep Aji .ret)))⟩
def Za:Ent:=⟨[.ty (.int .u8)],[],[(.int .u8)],⟨(.ty .bool),[],[],[.bool],[],[]⟩,none,fun p=>Na p⟩
theorem Ajd:Za.ok Tryz.prog 146:=Ay hm Tryz.func146 (fd:=Aqn) (by kernel_rfl) (Ao (l:=[(127,Y9),(129,Rg)]) (y:=[]) ⟨Xr,Oq,trivial⟩ trivial) (by kernel_rfl) (fun p=>by kernel_rfl)
def Awu:List TOp:=[oo 3 (.mov (.cst (.bool false)))]
def Awv:List TOp:=[oo 4 (.mov (.tmp 0)),oo 5 (.bin false .gtr (.tmp 4) (.cst (.int .i32 127))),oo 6 (.mov (.tmp 5)),og 7 6 false .bool (.load false 1 (.tmp 1)),og 8 6 false .bool (.mov (.tmp 0)),og 9 6 false .bool (.conv .u8 (.tmp 8)),og 10 6 false .bool (.call 0 0 (.tmp 7) [(.tmp 9)] [] []),og 11 6 false .bool (.un .not (.tmp 10)),oo 12 (.pick (.tmp 6) (.cst (.bool true)) (.tmp 11)),oo 3 (.mov (.tmp 12))]
def Awt:Kp:=⟨[],[(3,false)],[],[],[]⟩
def A5o:TFd:=⟨2,[(.tmp 3,.bool)],[],(.seq (.ops Awu) (.seq (.ops Awv) (.keep Awt .ret)))⟩
def Az4:Ent:=⟨[.ty (.int .i32),.ic [.fnc 146] 0],[],[(.int .i32)],⟨(.ty .bool),[],[],[.bool],[],[]⟩,none,fun p=>Oa p⟩
theorem Avk:Az4.ok Tryz.prog 157:=Ay hm Tryz.func157 (fd:=A5o) (by kernel_rfl) (Ao (l:=[(146,Za)]) (y:=[]) ⟨Ajd,trivial⟩ trivial) (by kernel_rfl) (fun p=>by kernel_rfl)
noncomputable def E6:Ent:=⟨[.ty .str,.fn 157 [.ic [.fnc 146] 0]],[],[.str],⟨(.ty (.int .i64)),[],[],[(.int .i64)],[],[]⟩,none,fun p=>strings_IndexFunc Oa p⟩
theorem Ix:E6.ok Tryz.prog 156:=fun p r h=>Gd (f:=Oa) (fun x r h=>Avk x r h) (show strings_IndexFunc Oa _=some _ from h) Avf
def A5s:List TOp:=[oo 3 (.box (.tmp 1)),oo 4 (.mov (.cst (.int .i64 0)))]
def A5t:List TOp:=[oo 6 (.mov (.tmp 0)),oo 7 (.mkfn 157 [(.tmp 3)]),oo 8 (.call 0 0 (.cst (.fn 156)) [(.tmp 6),(.tmp 7)] [] []),oo 5 (.mov (.tmp 8))]
def A5r:Kp:=⟨[.loc 3 0],[(0,false),(3,false)],[],[],[]⟩
def A5u:List TOp:=[oo 9 (.mov (.tmp 5)),oo 10 (.bin false .lss (.tmp 9) (.cst (.int .i64 0)))]
def A5v:List TOp:=[oo 11 (.mov (.tmp 0)),oo 12 (.len true (.tmp 11)),oo 4 (.mov (.tmp 12))]
def Anj:Kp:=⟨[],[(4,false)],[],[],[]⟩
def A5w:List TOp:=[oo 13 (.mov (.tmp 5)),oo 4 (.mov (.tmp 13))]
def Bdg:TFd:=⟨2,[(.tmp 4,.bool)],[],(.seq (.ops A5s) (.seq (.keep A5r (.ops A5t)) (.seq (.seq (.ops A5u) (.cond (.tmp 10) (.free (.seq (.ops A5v) (.keep Anj .ret))) .skip)) (.seq (.ops A5w) (.keep Anj .ret)))))⟩
noncomputable def Atj:Ent:=⟨[.ty .str,.fnc 146],[],[.str],⟨(.ty (.int .i64)),[],[],[(.int .i64)],[],[]⟩,none,fun p=>Ak2 p⟩
theorem A4o:Atj.ok Tryz.prog 145:=Ay hm Tryz.func145 (fd:=Bdg) (by kernel_rfl) (Ao (l:=[(156,E6)]) (y:=[]) ⟨Ix,trivial⟩ trivial) (by kernel_rfl) (fun p=>by kernel_rfl)
def A1x:List TOp:=[oo 2 (.mov (.cst (.int .i64 0))),oo 3 (.mov (.cst (.int .i64 0)))]
def A1y:List TOp:=[oo 5 (.mov (.tmp 0)),oo 6 (.call 0 0 (.cst (.fn 145)) [(.tmp 5),(.cst (.fn 146))] [] []),oo 4 (.mov (.tmp 6))]
def A1z:List TOp:=[oo 7 (.mov (.tmp 4)),oo 8 (.bin false .gtr (.tmp 7) (.cst (.int .i64 32)))]
def A10:List TOp:=[oo 2 (.mov (.cst (.int .i64 0))),oo 3 (.mov (.cst (.int .i64 3)))]
def Ai4:Kp:=⟨[],[(2,false),(3,false)],[],[],[]⟩
def A11:List TOp:=[oo 9 (.mov (.tmp 4)),oo 2 (.mov (.tmp 9)),oo 3 (.mov (.cst (.int .i64 0)))]
def A9w:TFd:=⟨1,[(.tmp 2,.bool),(.tmp 3,.bool)],[],(.seq (.ops A1x) (.seq (.ops A1y) (.seq (.seq (.ops A1z) (.cond (.tmp 8) (.free (.seq (.ops A10) (.keep Ai4 .ret))) .skip)) (.seq (.ops A11) (.keep Ai4 .ret)))))⟩
noncomputable def A4q:Ent:=⟨[.ty .str],[],[.str],⟨(.tup [(.ty (.int .i64)),(.ty (.int .i64))]),[],[],[(.int .i64),(.int .i64)],[],[]⟩,none,fun p=>Ze p⟩
theorem Az7:A4q.ok Tryz.prog 128:=Ay hm Tryz.func128 (fd:=A9w) (by kernel_rfl) (Ao (l:=[(145,Atj)]) (y:=[]) ⟨A4o,trivial⟩ trivial) (by kernel_rfl) (fun p=>by kernel_rfl)
def Ane:List TOp:=[oo 3 (.mov (.cst (.bool false)))]
def Anf:List TOp:=[oo 4 (.mov (.tmp 0)),oo 5 (.bin false .gtr (.tmp 4) (.cst (.int .i32 127))),oo 6 (.mov (.tmp 5)),og 7 6 false .bool (.load false 1 (.tmp 1)),og 8 6 false .bool (.mov (.tmp 0)),og 9 6 false .bool (.conv .u8 (.tmp 8)),og 10 6 false .bool (.call 0 0 (.tmp 7) [(.tmp 9)] [] []),og 11 6 false .bool (.un .not (.tmp 10)),oo 12 (.pick (.tmp 6) (.cst (.bool true)) (.tmp 11)),oo 3 (.mov (.tmp 12))]
def Anc:Kp:=⟨[],[(3,false)],[],[],[]⟩
def Awr:TFd:=⟨2,[(.tmp 3,.bool)],[],(.seq (.ops Ane) (.seq (.ops Anf) (.keep Anc .ret)))⟩
def Aqg:Ent:=⟨[.ty (.int .i32),.ic [.fnc 129] 0],[],[(.int .i32)],⟨(.ty .bool),[],[],[.bool],[],[]⟩,none,fun p=>Hg p⟩
theorem Ame:Aqg.ok Tryz.prog 157:=Ay hm Tryz.func157 (fd:=Awr) (by kernel_rfl) (Ao (l:=[(129,Rg)]) (y:=[]) ⟨Oq,trivial⟩ trivial) (by kernel_rfl) (fun p=>by kernel_rfl)
noncomputable def Ee:Ent:=⟨[.ty .str,.fn 157 [.ic [.fnc 129] 0]],[],[.str],⟨(.ty (.int .i64)),[],[],[(.int .i64)],[],[]⟩,none,fun p=>strings_IndexFunc Hg p⟩
theorem Hb:Ee.ok Tryz.prog 156:=fun p r h=>Gd (f:=Hg) (fun x r h=>Ame x r h) (show strings_IndexFunc Hg _=some _ from h) Avf
def Awx:List TOp:=[oo 3 (.box (.tmp 1)),oo 4 (.mov (.cst (.int .i64 0)))]
def Awy:List TOp:=[oo 6 (.mov (.tmp 0)),oo 7 (.mkfn 157 [(.tmp 3)]),oo 8 (.call 0 0 (.cst (.fn 156)) [(.tmp 6),(.tmp 7)] [] []),oo 5 (.mov (.tmp 8))]
def Aww:Kp:=⟨[.loc 3 0],[(0,false),(3,false)],[],[],[]⟩
def Awz:List TOp:=[oo 9 (.mov (.tmp 5)),oo 10 (.bin false .lss (.tmp 9) (.cst (.int .i64 0)))]
def Aw0:List TOp:=[oo 11 (.mov (.tmp 0)),oo 12 (.len true (.tmp 11)),oo 4 (.mov (.tmp 12))]
def Af4:Kp:=⟨[],[(4,false)],[],[],[]⟩
def Aw1:List TOp:=[oo 13 (.mov (.tmp 5)),oo 4 (.mov (.tmp 13))]
def A5p:TFd:=⟨2,[(.tmp 4,.bool)],[],(.seq (.ops Awx) (.seq (.keep Aww (.ops Awy)) (.seq (.seq (.ops Awz) (.cond (.tmp 10) (.free (.seq (.ops Aw0) (.keep Af4 .ret))) .skip)) (.seq (.ops Aw1) (.keep Af4 .ret)))))⟩
noncomputable def Aix:Ent:=⟨[.ty .str,.fnc 129],[],[.str],⟨(.ty (.int .i64)),[],[],[(.int .i64)],[],[]⟩,none,fun p=>Ob p⟩
theorem Avl:Aix.ok Tryz.prog 145:=Ay hm Tryz.func145 (fd:=A5p) (by kernel_rfl) (Ao (l:=[(156,Ee)]) (y:=[]) ⟨Hb,trivial⟩ trivial) (by kernel_rfl) (fun p=>by kernel_rfl)
def Aqp:List TOp:=[oo 2 (.mov (.cst (.int .i64 0))),oo 3 (.mov (.cst (.int .i64 0)))]
def Aqq:List TOp:=[oo 7 (.mov (.tmp 0)),oo 8 (.call 0 0 (.cst (.fn 145)) [(.tmp 7),(.cst (.fn 129))] [] []),oo 4 (.mov (.tmp 8))]
def Aqr:List TOp:=[oo 5 (.mov (.cst (.int .i64 0)))]
def Aqs:List TOp:=[oo 9 (.mov (.tmp 0)),oo 10 (.mov (.tmp 4)),oo 11 (.slc true 0 (.tmp 9) (some (.tmp 10)) none),oo 6 (.mov (.tmp 11))]
def Aqt:List TOp:=[oo 12 (.mov (.tmp 6)),oo 13 (.len true (.tmp 12)),oo 14 (.bin false .gtr (.tmp 13) (.cst (.int .i64 1))),oo 15 (.mov (.tmp 14)),og 16 15 true .bool (.mov (.tmp 6)),og 17 15 true .bool (.sidx (.tmp 16) (.cst (.int .i64 0))),og 18 15 true .bool (.bin false .eql (.tmp 17) (.cst (.int .u8 46))),oo 19 (.pick (.tmp 15) (.tmp 18) (.cst (.bool false)))]
def Aqu:List TOp:=[oo 20 (.mov (.tmp 6)),oo 21 (.slc true 0 (.tmp 20) (some (.cst (.int .i64 1))) none),oo 22 (.call 0 0 (.cst (.fn 145)) [(.tmp 21),(.cst (.fn 129))] [] []),oo 5 (.mov (.tmp 22))]
def Aqo:Kp:=⟨[],[(0,false),(4,false),(5,false)],[],[],[]⟩
def Aqx:Sig:=⟨[(0,none),(4,none),(5,some (.ty (.int .i64)))],[],[(.int .i64)],[],[]⟩
def Aqv:List TOp:=[oo 24 (.mov (.tmp 4)),oo 25 (.bin false .gtr (.tmp 24) (.cst (.int .i64 15))),oo 26 (.mov (.tmp 25)),og 27 26 false .bool (.mov (.tmp 5)),og 28 26 false .bool (.bin false .gtr (.tmp 27) (.cst (.int .i64 9))),oo 29 (.pick (.tmp 26) (.cst (.bool true)) (.tmp 28)),oo 30 (.mov (.tmp 29)),og 31 30 false .bool (.mov (.tmp 4)),og 32 30 false .bool (.bin false .gtr (.tmp 31) (.cst (.int .i64 1))),og 33 30 false .bool (.mov (.tmp 32)),og 34 33 true .bool (.mov (.tmp 0)),og 35 33 true .bool (.sidx (.tmp 34) (.cst (.int .i64 0))),og 36 33 true .bool (.bin false .eql (.tmp 35) (.cst (.int .u8 48))),og 37 30 false .bool (.pick (.tmp 33) (.tmp 36) (.cst (.bool false))),oo 38 (.pick (.tmp 30) (.cst (.bool true)) (.tmp 37)),oo 23 (.mov (.tmp 38))]
def Aqw:List TOp:=[oo 2 (.mov (.cst (.int .i64 0))),oo 3 (.mov (.cst (.int .i64 3)))]
def Oz:Kp:=⟨[],[(2,false),(3,false)],[],[],[]⟩
def Am9:List TOp:=[oo 40 (.mov (.tmp 5)),oo 41 (.bin false .gtr (.tmp 40) (.cst (.int .i64 0))),oo 39 (.mov (.tmp 41))]
def Ana:List TOp:=[oo 42 (.mov (.tmp 4)),oo 43 (.bin false .add (.tmp 42) (.cst (.int .i64 1))),oo 44 (.mov (.tmp 5)),oo 45 (.bin false .add (.tmp 43) (.tmp 44)),oo 2 (.mov (.tmp 45)),oo 3 (.mov (.cst (.int .i64 0)))]
def Anb:List TOp:=[oo 46 (.mov (.tmp 4)),oo 2 (.mov (.tmp 46)),oo 3 (.mov (.cst (.int .i64 0)))]
def A1g:TFd:=⟨1,[(.tmp 2,.bool),(.tmp 3,.bool)],[],(.seq (.ops Aqp) (.seq (.ops Aqq) (.seq (.ops Aqr) (.seq (.seq (.ops Aqs) (.seq (.ops Aqt) (.join Aqo Aqx (.cond (.tmp 19) (.ops Aqu) .skip)))) (.seq (.pass 0 (.seq (.ops Aqv) (.cond (.tmp 23) (.free (.seq (.ops Aqw) (.keep Oz .ret))) (.seq (.ops Am9) (.cond (.tmp 39) (.free (.seq (.ops Ana) (.keep Oz .ret))) .skip))))) (.seq (.ops Anb) (.keep Oz .ret)))))))⟩
noncomputable def Avi:Ent:=⟨[.ty .str],[],[.str],⟨(.tup [(.ty (.int .i64)),(.ty (.int .i64))]),[],[],[(.int .i64),(.int .i64)],[],[]⟩,none,fun p=>Ot p⟩
theorem Aqe:Avi.ok Tryz.prog 130:=Ay hm Tryz.func130 (fd:=A1g) (by kernel_rfl) (Ao (l:=[(145,Aix)]) (y:=[]) ⟨Avl,trivial⟩ trivial) (by kernel_rfl) (fun p=>by kernel_rfl)
def Gr:Ent:=⟨[.ty .str,.ty (.int .u8)],[],[.str,(.int .u8)],⟨(.ty (.int .i64)),[],[],[(.int .i64)],[],[]⟩,none,fun p=>strings_IndexByte p.1 p.2⟩
theorem Iw:Gr.ok Tryz.prog 147:=fun p r h=>Aao (show strings_IndexByte _ _=some _ from h)
def Ajm:List TOp:=[oo 2 (.mov (.cst (.bool false)))]
def Ajn:List TOp:=[oo 3 (.mov (.tmp 0)),oo 4 (.bin false .geq (.tmp 3) (.cst (.int .u8 32))),oo 5 (.mov (.tmp 4)),og 6 5 true .bool (.mov (.tmp 0)),og 7 5 true .bool (.bin false .leq (.tmp 6) (.cst (.int .u8 126))),oo 8 (.pick (.tmp 5) (.tmp 7) (.cst (.bool false))),oo 2 (.mov (.tmp 8))]
def Ajl:Kp:=⟨[],[(2,false)],[],[],[]⟩
def Aqy:TFd:=⟨1,[(.tmp 2,.bool)],[],(.seq (.ops Ajm) (.seq (.ops Ajn) (.keep Ajl .ret)))⟩
def Zc:Ent:=⟨[.ty (.int .u8)],[],[(.int .u8)],⟨(.ty .bool),[],[],[.bool],[],[]⟩,none,fun p=>Nb p⟩
theorem Aje:Zc.ok Tryz.prog 148:=Ay hm Tryz.func148 (fd:=Aqy) (by kernel_rfl) (Ao (l:=[]) (y:=[]) trivial trivial) (by kernel_rfl) (fun p=>by kernel_rfl)
def Anh:List TOp:=[oo 3 (.mov (.cst (.bool false)))]
def Ani:List TOp:=[oo 4 (.mov (.tmp 0)),oo 5 (.bin false .gtr (.tmp 4) (.cst (.int .i32 127))),oo 6 (.mov (.tmp 5)),og 7 6 false .bool (.load false 1 (.tmp 1)),og 8 6 false .bool (.mov (.tmp 0)),og 9 6 false .bool (.conv .u8 (.tmp 8)),og 10 6 false .bool (.call 0 0 (.tmp 7) [(.tmp 9)] [] []),og 11 6 false .bool (.un .not (.tmp 10)),oo 12 (.pick (.tmp 6) (.cst (.bool true)) (.tmp 11)),oo 3 (.mov (.tmp 12))]
def Ang:Kp:=⟨[],[(3,false)],[],[],[]⟩
def Aws:TFd:=⟨2,[(.tmp 3,.bool)],[],(.seq (.ops Anh) (.seq (.ops Ani) (.keep Ang .ret)))⟩
def Aqh:Ent:=⟨[.ty (.int .i32),.ic [.fnc 148] 0],[],[(.int .i32)],⟨(.ty .bool),[],[],[.bool],[],[]⟩,none,fun p=>Hh p⟩
theorem Amf:Aqh.ok Tryz.prog 157:=Ay hm Tryz.func157 (fd:=Aws) (by kernel_rfl) (Ao (l:=[(148,Zc)]) (y:=[]) ⟨Aje,trivial⟩ trivial) (by kernel_rfl) (fun p=>by kernel_rfl)
noncomputable def Ef:Ent:=⟨[.ty .str,.fn 157 [.ic [.fnc 148] 0]],[],[.str],⟨(.ty (.int .i64)),[],[],[(.int .i64)],[],[]⟩,none,fun p=>strings_IndexFunc Hh p⟩
theorem Hc:Ef.ok Tryz.prog 156:=fun p r h=>Gd (f:=Hh) (fun x r h=>Amf x r h) (show strings_IndexFunc Hh _=some _ from h) Avf
def Aw3:List TOp:=[oo 3 (.box (.tmp 1)),oo 4 (.mov (.cst (.int .i64 0)))]
def Aw4:List TOp:=[oo 6 (.mov (.tmp 0)),oo 7 (.mkfn 157 [(.tmp 3)]),oo 8 (.call 0 0 (.cst (.fn 156)) [(.tmp 6),(.tmp 7)] [] []),oo 5 (.mov (.tmp 8))]
def Aw2:Kp:=⟨[.loc 3 0],[(0,false),(3,false)],[],[],[]⟩
def Aw5:List TOp:=[oo 9 (.mov (.tmp 5)),oo 10 (.bin false .lss (.tmp 9) (.cst (.int .i64 0)))]
def Aw6:List TOp:=[oo 11 (.mov (.tmp 0)),oo 12 (.len true (.tmp 11)),oo 4 (.mov (.tmp 12))]
def Af5:Kp:=⟨[],[(4,false)],[],[],[]⟩
def Aw7:List TOp:=[oo 13 (.mov (.tmp 5)),oo 4 (.mov (.tmp 13))]
def A5q:TFd:=⟨2,[(.tmp 4,.bool)],[],(.seq (.ops Aw3) (.seq (.keep Aw2 (.ops Aw4)) (.seq (.seq (.ops Aw5) (.cond (.tmp 10) (.free (.seq (.ops Aw6) (.keep Af5 .ret))) .skip)) (.seq (.ops Aw7) (.keep Af5 .ret)))))⟩
noncomputable def Aiy:Ent:=⟨[.ty .str,.fnc 148],[],[.str],⟨(.ty (.int .i64)),[],[],[(.int .i64)],[],[]⟩,none,fun p=>Aa3 p⟩
theorem Avm:Aiy.ok Tryz.prog 145:=Ay hm Tryz.func145 (fd:=A5q) (by kernel_rfl) (Ao (l:=[(156,Ef)]) (y:=[]) ⟨Hc,trivial⟩ trivial) (by kernel_rfl) (fun p=>by kernel_rfl)
def Aqz:List TOp:=[oo 2 (.mov (.cst (.int .i64 0))),oo 3 (.mov (.cst (.int .i64 0)))]
def Aq0:List TOp:=[oo 5 (.mov (.tmp 0)),oo 6 (.slc true 0 (.tmp 5) (some (.cst (.int .i64 1))) none),oo 7 (.call 0 0 (.cst (.fn 147)) [(.tmp 6),(.cst (.int .u8 34))] [] []),oo 4 (.mov (.tmp 7))]
def Aq1:List TOp:=[oo 8 (.mov (.tmp 4)),oo 9 (.bin false .lss (.tmp 8) (.cst (.int .i64 0)))]
def Aq2:List TOp:=[oo 2 (.mov (.cst (.int .i64 0))),oo 3 (.mov (.cst (.int .i64 14)))]
def Rl:Kp:=⟨[],[(2,false),(3,false)],[],[],[]⟩
def Aq3:List TOp:=[oo 10 (.mov (.tmp 4)),oo 11 (.bin false .gtr (.tmp 10) (.cst (.int .i64 32))),oo 12 (.mov (.tmp 11)),og 13 12 false .bool (.mov (.tmp 0)),og 14 12 false .bool (.mov (.tmp 4)),og 15 12 false .bool (.bin false .add (.cst (.int .i64 1)) (.tmp 14)),og 16 12 false .bool (.slc true 0 (.tmp 13) (some (.cst (.int .i64 1))) (some (.tmp 15))),og 17 12 false .bool (.call 0 0 (.cst (.fn 145)) [(.tmp 16),(.cst (.fn 148))] [] []),og 18 12 false .bool (.mov (.tmp 4)),og 19 12 false .bool (.bin false .lss (.tmp 17) (.tmp 18)),oo 20 (.pick (.tmp 12) (.cst (.bool true)) (.tmp 19))]
def Aq4:List TOp:=[oo 2 (.mov (.cst (.int .i64 0))),oo 3 (.mov (.cst (.int .i64 3)))]
def Aq5:List TOp:=[oo 21 (.mov (.tmp 4)),oo 22 (.bin false .add (.tmp 21) (.cst (.int .i64 2))),oo 2 (.mov (.tmp 22)),oo 3 (.mov (.cst (.int .i64 0)))]
def A1h:TFd:=⟨1,[(.tmp 2,.bool),(.tmp 3,.bool)],[],(.seq (.ops Aqz) (.seq (.ops Aq0) (.seq (.seq (.ops Aq1) (.cond (.tmp 9) (.free (.seq (.ops Aq2) (.keep Rl .ret))) .skip)) (.seq (.seq (.ops Aq3) (.cond (.tmp 20) (.free (.seq (.ops Aq4) (.keep Rl .ret))) .skip)) (.seq (.ops Aq5) (.keep Rl .ret))))))⟩
noncomputable def Avj:Ent:=⟨[.ty .str],[],[.str],⟨(.tup [(.ty (.int .i64)),(.ty (.int .i64))]),[],[],[(.int .i64),(.int .i64)],[],[]⟩,none,fun p=>Ou p⟩
theorem Aqf:Avj.ok Tryz.prog 132:=Ay hm Tryz.func132 (fd:=A1h) (by kernel_rfl) (Ao (l:=[(147,Gr),(145,Aiy)]) (y:=[]) ⟨Iw,Avm,trivial⟩ trivial) (by kernel_rfl) (fun p=>by kernel_rfl)
def Pq:Ent:=⟨[.ty .str,.ty .str],[],[.str,.str],⟨(.ty .bool),[],[],[.bool],[],[]⟩,none,fun p=>strings_Contains p.1 p.2⟩
theorem Yk:Pq.ok Tryz.prog 149:=fun p r h=>Acf (show strings_Contains _ _=some _ from h)
def A1i:List TOp:=[oo 2 (.mov (.cst (.int .i64 0))),oo 3 (.mov (.cst (.int .i64 0)))]
def A1j:List TOp:=[oo 5 (.mov (.tmp 0)),oo 6 (.len true (.tmp 5)),oo 7 (.bin false .gtr (.tmp 6) (.cst (.int .i64 1))),oo 8 (.mov (.tmp 7)),og 9 8 true .bool (.mov (.tmp 0)),og 10 8 true .bool (.slc true 0 (.tmp 9) none (some (.cst (.int .i64 2)))),og 11 8 true .bool (.call 0 0 (.cst (.fn 149)) [(.cst (.str [60,61,32,62,61,32,46,46])),(.tmp 10)] [] []),oo 12 (.pick (.tmp 8) (.tmp 11) (.cst (.bool false))),oo 13 (.mov (.tmp 12)),og 14 13 true .bool (.mov (.tmp 0)),og 15 13 true .bool (.slc true 0 (.tmp 14) none (some (.cst (.int .i64 2)))),og 16 13 true .bool (.call 0 0 (.cst (.fn 149)) [(.tmp 15),(.cst (.str [32]))] [] []),og 17 13 true .bool (.un .not (.tmp 16)),oo 18 (.pick (.tmp 13) (.tmp 17) (.cst (.bool false))),oo 4 (.mov (.tmp 18))]
def A1k:List TOp:=[oo 2 (.mov (.cst (.int .i64 2))),oo 3 (.mov (.cst (.int .i64 0)))]
def Zu:Kp:=⟨[],[(2,false),(3,false)],[],[],[]⟩
def A1l:List TOp:=[oo 20 (.mov (.tmp 0)),oo 21 (.sidx (.tmp 20) (.cst (.int .i64 0))),oo 22 (.call 0 0 (.cst (.fn 147)) [(.cst (.str [123,125,40,41,91,93,59,58,44,37,61,60,62,43,45,42,47])),(.tmp 21)] [] []),oo 23 (.bin false .geq (.tmp 22) (.cst (.int .i64 0))),oo 19 (.mov (.tmp 23))]
def A1m:List TOp:=[oo 2 (.mov (.cst (.int .i64 1))),oo 3 (.mov (.cst (.int .i64 0)))]
def A1n:List TOp:=[oo 2 (.mov (.cst (.int .i64 0))),oo 3 (.mov (.cst (.int .i64 14)))]
def A9u:TFd:=⟨1,[(.tmp 2,.bool),(.tmp 3,.bool)],[],(.seq (.ops A1i) (.seq (.pass 0 (.seq (.ops A1j) (.cond (.tmp 4) (.free (.seq (.ops A1k) (.keep Zu .ret))) (.seq (.ops A1l) (.cond (.tmp 19) (.free (.seq (.ops A1m) (.keep Zu .ret))) .skip))))) (.seq (.ops A1n) (.keep Zu .ret))))⟩
def A4p:Ent:=⟨[.ty .str],[],[.str],⟨(.tup [(.ty (.int .i64)),(.ty (.int .i64))]),[],[],[(.int .i64),(.int .i64)],[],[]⟩,none,fun p=>Zd p⟩
theorem Az5:A4p.ok Tryz.prog 134:=Ay hm Tryz.func134 (fd:=A9u) (by kernel_rfl) (Ao (l:=[(149,Pq),(147,Gr)]) (y:=[]) ⟨Yk,Iw,trivial⟩ trivial) (by kernel_rfl) (fun p=>by kernel_rfl)
noncomputable def Acs:Dyn:=⟨[.ty .str],[.str],⟨(.tup [(.ty (.int .i64)),(.ty (.int .i64))]),[],[],[(.int .i64),(.int .i64)],[],[]⟩,fun f p=>E0 f p⟩
theorem Ahl(g:Nat):(Acs.ent g).ok Tryz.prog g:=by
 intro p r h
 have h:E0 g p=some r:=h
 unfold E0 at h
 split at h
 ·rename_i e;subst e;exact Az7 p r h
 split at h
 ·rename_i e;subst e;exact Aqe p r h
 split at h
 ·rename_i e;subst e;exact Aqf p r h
 split at h
 ·rename_i e;subst e;exact Az5 p r h
 cases h
def A08:List TOp:=[oo 2 (.mov (.cst (.int .i64 0))),oo 3 (.mov (.cst (.int .i64 0))),oo 4 (.mov (.cst (.int .i64 0)))]
def A09:List TOp:=[oo 9 (.call 0 0 (.cst (.fn 111)) [] [] []),oo 10 (.mov (.cst (.int .i64 0)))]
def A1a:List TOp:=[oo 11 (.bin false .lss (.tmp 10) (.cst (.int .i64 4)))]
def A1b:List TOp:=[oo 12 (.mov (.tmp 10)),ot 13 (.st 0) (.aidx 4 2 (.tmp 9) (.tmp 10)),oo 6 (.alloc [.pv .nilFn,.pv .nilFn]),oo 5 (.mov (.tmp 12)),on (.store 2 (.tmp 6) (.tmp 13))]
def A1c:List TOp:=[oo 14 (.fld 0 (.tmp 6)),oo 15 (.load false 1 (.tmp 14)),oo 16 (.mov (.tmp 0)),oo 17 (.sidx (.tmp 16) (.cst (.int .i64 0))),oo 18 (.call 0 0 (.tmp 15) [(.tmp 17)] [] [])]
def A1d:List TOp:=[oo 20 (.fld 1 (.tmp 6)),oo 21 (.load false 1 (.tmp 20)),oo 22 (.mov (.tmp 0)),oo 23 (.call 0 0 (.tmp 21) [(.tmp 22)] [] []),oo 19 (.mov (.tmp 23)),oo 24 (.ext 0 (.tmp 19)),oo 25 (.ext 1 (.tmp 19)),oo 7 (.mov (.tmp 24)),oo 8 (.mov (.tmp 25))]
def A1e:List TOp:=[oo 26 (.mov (.tmp 5)),oo 27 (.mov (.tmp 7)),oo 28 (.mov (.tmp 8)),oo 2 (.mov (.tmp 26)),oo 3 (.mov (.tmp 27)),oo 4 (.mov (.tmp 28))]
def Ai2:Kp:=⟨[],[(2,false),(3,false),(4,false)],[],[],[]⟩
def A1f:List TOp:=[oo 29 (.bin false .add (.tmp 10) (.cst (.int .i64 1))),oo 10 (.mov (.tmp 29))]
def A07:DC:=(.seq (.ops A1a) (.seq (.cond (.tmp 11) .skip (.exit 0)) (.seq (.pass 1 (.seq (.ops A1b) (.seq (.draw [] A1c) (.cond (.tmp 18) (.free (.seq (.ops A1d) (.seq (.ops A1e) (.keep Ai2 .ret)))) .skip)))) (.ops A1f))))
def Awj:Kp:=⟨[],[(0,false),(9,false),(10,false)],[],[.loc 6 0],[]⟩
def Awm:Sig:=⟨[(0,none),(9,none),(10,some (.ty (.int .i64)))],[],[(.int .i64)],[],[]⟩
def Awk:Kp:=⟨[],[],[],[],[]⟩
def Awn:Sig:=⟨[],[],[],[],[]⟩
def Awl:List TOp:=[oo 2 (.mov (.cst (.int .i64 0))),oo 3 (.mov (.cst (.int .i64 0))),oo 4 (.mov (.cst (.int .i64 14)))]
def A9t:TFd:=⟨1,[(.tmp 2,.bool),(.tmp 3,.bool),(.tmp 4,.bool)],[],(.seq (.ops A08) (.seq (.seq (.ops A09) (.joinO Awk Awn (.block 0 (.loop [0,9,10] [] Awj Awm A07)))) (.seq (.ops Awl) (.keep Ai2 .ret))))⟩
noncomputable def Adr:Ent:=⟨[.ty .str],[],[.str],⟨(.tup [(.ty (.int .i64)),(.ty (.int .i64)),(.ty (.int .i64))]),[],[],[(.int .i64),(.int .i64),(.int .i64)],[],[]⟩,none,fun p=>Th p⟩
theorem Aiw:Adr.ok Tryz.prog 89:=Ay hm Tryz.func89 (fd:=A9t) (by kernel_rfl) (Ao (l:=[(111,Aiv)]) (y:=[Acr,Acs]) ⟨Avh,trivial⟩ ⟨Ahk,Ahl,trivial⟩) (by kernel_rfl) (fun p=>by kernel_rfl)
def Xv:Ent:=⟨[.ty .str,.ty .str],[],[.str,.str],⟨(.ty (.int .i64)),[],[],[(.int .i64)],[],[]⟩,none,fun p=>strings_Count p.1 p.2⟩
theorem Aew:Xv.ok Tryz.prog 112:=fun p r h=>Ah7 (show strings_Count _ _=some _ from h)
def Hm:Ent:=⟨[.ty .str,.ty (.int .u8)],[],[.str,(.int .u8)],⟨(.ty (.int .i64)),[],[],[(.int .i64)],[],[]⟩,none,fun p=>strings_LastIndexByte p.1 p.2⟩
theorem Ps:Hm.ok Tryz.prog 113:=fun p r h=>S2 (show strings_LastIndexByte _ _=some _ from h)
def Awp:List TOp:=[oo 2 (.mov (.cst (.int .i64 0))),oo 3 (.mov (.cst (.int .i64 0)))]
def Awq:List TOp:=[oo 4 (.mov (.tmp 0)),oo 5 (.call 0 0 (.cst (.fn 112)) [(.tmp 4),(.cst (.str [10]))] [] []),oo 6 (.bin false .add (.tmp 5) (.cst (.int .i64 1))),oo 7 (.mov (.tmp 0)),oo 8 (.len true (.tmp 7)),oo 9 (.mov (.tmp 0)),oo 10 (.call 0 0 (.cst (.fn 113)) [(.tmp 9),(.cst (.int .u8 10))] [] []),oo 11 (.bin false .sub (.tmp 8) (.tmp 10)),oo 2 (.mov (.tmp 6)),oo 3 (.mov (.tmp 11))]
def Awo:Kp:=⟨[],[(2,false),(3,false)],[],[],[]⟩
def A5n:TFd:=⟨1,[(.tmp 2,.bool),(.tmp 3,.bool)],[],(.seq (.ops Awp) (.seq (.ops Awq) (.keep Awo .ret)))⟩
def Zb:Ent:=⟨[.ty .str],[],[.str],⟨(.tup [(.ty (.int .i64)),(.ty (.int .i64))]),[],[],[(.int .i64),(.int .i64)],[],[]⟩,none,fun p=>N9 p⟩
theorem Afo:Zb.ok Tryz.prog 90:=Ay hm Tryz.func90 (fd:=A5n) (by kernel_rfl) (Ao (l:=[(112,Xv),(113,Hm)]) (y:=[]) ⟨Aew,Ps,trivial⟩ trivial) (by kernel_rfl) (fun p=>by kernel_rfl)
def A5b:List TOp:=[oo 2 (.mov .nils),oo 3 (.mov (.cst (.int .i64 0))),oo 4 (.mov (.cst (.int .i64 0)))]
def A5c:List TOp:=[oo 12 (.mov (.tmp 0)),oo 13 (.len true (.tmp 12)),oo 14 (.bin false .gtr (.tmp 13) (.cst (.int .i64 8000)))]
def A5d:List TOp:=[oo 2 (.mov .nils),oo 3 (.mov (.cst (.int .i64 0))),oo 4 (.mov (.cst (.int .i64 4)))]
def Wo:Kp:=⟨[],[(2,true),(3,false),(4,false)],[],[],[]⟩
def A5e:List TOp:=[oo 5 (.mov .nils)]
def A5f:List TOp:=[oo 15 (.mov (.tmp 0)),oo 16 (.call 0 0 (.cst (.fn 88)) [(.tmp 15)] [] []),oo 6 (.mov (.tmp 16))]
def A5g:List TOp:=[oo 17 (.mov (.tmp 6)),oo 18 (.mov (.tmp 0)),oo 19 (.len true (.tmp 18)),oo 20 (.bin false .lss (.tmp 17) (.tmp 19))]
def A5h:List TOp:=[oo 22 (.mov (.tmp 0)),oo 23 (.mov (.tmp 6)),oo 24 (.slc true 0 (.tmp 22) (some (.tmp 23)) none),oo 25 (.call 0 0 (.cst (.fn 89)) [(.tmp 24)] [] []),oo 21 (.mov (.tmp 25)),oo 26 (.ext 0 (.tmp 21)),oo 27 (.ext 1 (.tmp 21)),oo 28 (.ext 2 (.tmp 21)),oo 7 (.mov (.tmp 26)),oo 8 (.mov (.tmp 27)),oo 9 (.mov (.tmp 28))]
def A5i:List TOp:=[oo 30 (.mov (.tmp 9)),oo 31 (.bin false .neq (.tmp 30) (.cst (.int .i64 0))),oo 29 (.mov (.tmp 31))]
def A5j:List TOp:=[oo 32 (.mov (.tmp 6)),oo 33 (.mov (.tmp 9)),oo 2 (.mov .nils),oo 3 (.mov (.tmp 32)),oo 4 (.mov (.tmp 33))]
def A0y:List TOp:=[oo 35 (.mov (.tmp 5)),oo 36 (.len false (.tmp 35)),oo 37 (.bin false .eql (.tmp 36) (.cst (.int .i64 1500))),oo 34 (.mov (.tmp 37))]
def A0z:List TOp:=[oo 38 (.mov (.tmp 6)),oo 2 (.mov .nils),oo 3 (.mov (.tmp 38)),oo 4 (.mov (.cst (.int .i64 6)))]
def A00:List TOp:=[oo 40 (.mov (.tmp 0)),oo 41 (.mov (.tmp 6)),oo 42 (.slc true 0 (.tmp 40) none (some (.tmp 41))),oo 43 (.call 0 0 (.cst (.fn 90)) [(.tmp 42)] [] []),oo 39 (.mov (.tmp 43)),oo 44 (.ext 0 (.tmp 39)),oo 45 (.ext 1 (.tmp 39)),oo 10 (.mov (.tmp 44)),oo 11 (.mov (.tmp 45))]
def A01:List TOp:=[oo 46 (.mov (.tmp 5)),oo 47 (.mov (.tmp 7)),oo 48 (.mov (.tmp 10)),oo 49 (.mov (.tmp 11)),oo 50 (.mov (.tmp 0)),oo 51 (.mov (.tmp 6)),oo 52 (.mov (.tmp 6)),oo 53 (.mov (.tmp 8)),oo 54 (.bin false .add (.tmp 52) (.tmp 53)),oo 55 (.slc true 0 (.tmp 50) (some (.tmp 51)) (some (.tmp 54))),ot 56 (.st 2) (.build [.pv (.int .i64 0),.pv (.int .i64 0),.pv (.int .i64 0),.pv (.str [])] [(0,1,(.tmp 47)),(1,1,(.tmp 48)),(2,1,(.tmp 49)),(3,1,(.tmp 55))]),ot 57 (.st 2) (.lit false 4 [(.tmp 56)]),ot 58 (.st 2) (.append 5 4 40 (.tmp 46) (.tmp 57)),oo 5 (.mov (.tmp 58))]
def A02:List TOp:=[oo 59 (.mov (.tmp 6)),oo 60 (.mov (.tmp 8)),oo 61 (.bin false .add (.tmp 59) (.tmp 60)),oo 6 (.mov (.tmp 61))]
def A03:List TOp:=[oo 62 (.mov (.tmp 6)),oo 63 (.mov (.tmp 0)),oo 64 (.mov (.tmp 6)),oo 65 (.slc true 0 (.tmp 63) (some (.tmp 64)) none),oo 66 (.call 0 0 (.cst (.fn 88)) [(.tmp 65)] [] []),oo 67 (.bin false .add (.tmp 62) (.tmp 66)),oo 6 (.mov (.tmp 67))]
def A0x:DC:=(.seq (.seq (.ops A5g) (.cond (.tmp 20) .skip (.exit 0))) (.pass 1 (.seq (.ops A5h) (.seq (.pass 2 (.seq (.ops A5i) (.cond (.tmp 29) (.free (.seq (.ops A5j) (.keep Wo .ret))) (.seq (.ops A0y) (.cond (.tmp 34) (.free (.seq (.ops A0z) (.keep Wo .ret))) .skip))))) (.seq (.ops A00) (.seq (.ops A01) (.seq (.ops A02) (.ops A03))))))))
def A0v:Kp:=⟨[],[(0,false),(5,false),(6,false)],[(.loc 5 0,false)],[],[((.slot 5 (.loc 5 0) 4),(.st 2))]⟩
def A05:Sig:=⟨[(0,none),(5,some (.own (.loc 5 0))),(6,some (.ty (.int .i64)))],[(.loc 5 0,(.row (.st 2)))],[(.int .i64),(.sl (.st 2))],[],[]⟩
def A0w:Kp:=⟨[.loc 5 0],[(5,true)],[],[],[]⟩
def A06:Sig:=⟨[(5,some (.ty (.sl (.st 2))))],[],[(.sl (.st 2))],[],[]⟩
def A04:List TOp:=[oo 68 (.mov (.tmp 5)),oo 2 (.mov (.tmp 68)),oo 3 (.mov (.cst (.int .i64 0))),oo 4 (.mov (.cst (.int .i64 0)))]
def Bdf:TFd:=⟨1,[(.tmp 2,.bool),(.tmp 3,.bool),(.tmp 4,.bool)],[],(.seq (.ops A5b) (.seq (.seq (.ops A5c) (.cond (.tmp 14) (.free (.seq (.ops A5d) (.keep Wo .ret))) .skip)) (.seq (.ops A5e) (.seq (.seq (.ops A5f) (.joinO A0w A06 (.block 0 (.loop [0,5,6] [] A0v A05 A0x)))) (.seq (.ops A04) (.keep Wo .ret))))))⟩
noncomputable def Ati:Ent:=⟨[.ty .str],[],[.str],⟨(.tup [(.ty (.sl (.st 2))),(.ty (.int .i64)),(.ty (.int .i64))]),[],[],[(.sl (.st 2)),(.int .i64),(.int .i64)],[],[]⟩,none,fun p=>Vq p⟩
theorem A4n:Ati.ok Tryz.prog 52:=Ay hm Tryz.func52 (fd:=Bdf) (by kernel_rfl) (Ao (l:=[(88,Amg),(89,Adr),(90,Zb)]) (y:=[]) ⟨Az6,Aiw,Afo,trivial⟩ trivial) (by kernel_rfl) (fun p=>by kernel_rfl)
def Av3:List TOp:=[oo 4 (.mov (.cst (.int .i64 0))),oo 5 (.mov (.cst (.int .i64 0))),oo 6 (.mov (.cst (.int .i64 0)))]
def Av4:List TOp:=[oo 9 (.mov (.tmp 1)),oo 10 (.bin false .lss (.tmp 9) (.cst (.int .i64 0))),oo 11 (.mov (.tmp 10)),og 12 11 false .bool (.mov (.tmp 1)),og 13 11 false .bool (.mov (.tmp 0)),og 14 11 false .bool (.len true (.tmp 13)),og 15 11 false .bool (.bin false .gtr (.tmp 12) (.tmp 14)),oo 16 (.pick (.tmp 11) (.cst (.bool true)) (.tmp 15))]
def Av5:List TOp:=[oo 4 (.mov (.cst (.int .i64 0))),oo 5 (.mov (.cst (.int .i64 0))),oo 6 (.mov (.cst (.int .i64 1)))]
def Af2:Kp:=⟨[],[(4,false),(5,false),(6,false)],[],[],[]⟩
def Av6:List TOp:=[oo 18 (.mov (.tmp 0)),oo 19 (.mov (.tmp 1)),oo 20 (.slc true 0 (.tmp 18) none (some (.tmp 19))),oo 21 (.call 0 0 (.cst (.fn 90)) [(.tmp 20)] [] []),oo 17 (.mov (.tmp 21)),oo 22 (.ext 0 (.tmp 17)),oo 23 (.ext 1 (.tmp 17)),oo 7 (.mov (.tmp 22)),oo 8 (.mov (.tmp 23))]
def Av7:List TOp:=[oo 24 (.mov (.tmp 7)),oo 25 (.mov (.tmp 8)),oo 4 (.mov (.tmp 24)),oo 5 (.mov (.tmp 25)),oo 6 (.mov (.cst (.int .i64 0)))]
def A5k:TFd:=⟨2,[(.tmp 4,.bool),(.tmp 5,.bool),(.tmp 6,.bool)],[],(.seq (.ops Av3) (.seq (.seq (.ops Av4) (.cond (.tmp 16) (.free (.seq (.ops Av5) (.keep Af2 .ret))) .skip)) (.seq (.ops Av6) (.seq (.ops Av7) (.keep Af2 .ret)))))⟩
def Y7:Ent:=⟨[.ty .str,.ty (.int .i64)],[],[.str,(.int .i64)],⟨(.tup [(.ty (.int .i64)),(.ty (.int .i64)),(.ty (.int .i64))]),[],[],[(.int .i64),(.int .i64),(.int .i64)],[],[]⟩,none,fun p=>Tf p.1 p.2⟩
theorem Afm:Y7.ok Tryz.prog 53:=Ay hm Tryz.func53 (fd:=A5k) (by kernel_rfl) (Ao (l:=[(90,Zb)]) (y:=[]) ⟨Afo,trivial⟩ trivial) (by kernel_rfl) (fun p=>by kernel_rfl)
def An3:List TOp:=[oo 2 (.mov .junk),oo 3 (.mov (.cst (.int .i64 0))),oo 4 (.mov (.cst (.int .i64 0))),oo 5 (.mov (.cst (.int .i64 0)))]
def An4:List TOp:=[oo 13 (.mov (.tmp 0)),oo 14 (.call 0 0 (.cst (.fn 52)) [(.tmp 13)] [] []),oo 12 (.mov (.tmp 14)),oo 15 (.ext 0 (.tmp 12)),oo 16 (.ext 1 (.tmp 12)),oo 17 (.ext 2 (.tmp 12)),oo 6 (.mov (.tmp 15)),oo 7 (.mov (.tmp 16)),oo 8 (.mov (.tmp 17))]
def An5:List TOp:=[oo 18 (.mov (.tmp 8)),oo 19 (.bin false .eql (.tmp 18) (.cst (.int .i64 0)))]
def An6:List TOp:=[oo 20 (.mov (.tmp 6)),ot 21 (.st 3) (.build [.nils,.pv (.int .i64 0),.pv (.bool false)] [(0,1,(.tmp 20))]),oo 22 (.box (.tmp 21)),oo 2 (.mov (.tmp 22)),oo 3 (.mov (.cst (.int .i64 0))),oo 4 (.mov (.cst (.int .i64 0))),oo 5 (.mov (.cst (.int .i64 0)))]
def An0:Kp:=⟨[],[(2,false),(3,false),(4,false),(5,false)],[(.loc 22 0,false)],[],[]⟩
def An7:List TOp:=[oo 24 (.mov (.tmp 0)),oo 25 (.mov (.tmp 7)),oo 26 (.call 0 0 (.cst (.fn 53)) [(.tmp 24),(.tmp 25)] [] []),oo 23 (.mov (.tmp 26)),oo 27 (.ext 0 (.tmp 23)),oo 28 (.ext 1 (.tmp 23)),oo 29 (.ext 2 (.tmp 23)),oo 9 (.mov (.tmp 27)),oo 10 (.mov (.tmp 28)),oo 11 (.mov (.tmp 29))]
def An8:List TOp:=[oo 30 (.mov (.tmp 9)),oo 31 (.mov (.tmp 10)),oo 32 (.mov (.tmp 8)),oo 2 (.mov .junk),oo 3 (.mov (.tmp 30)),oo 4 (.mov (.tmp 31)),oo 5 (.mov (.tmp 32))]
def An1:Kp:=⟨[],[(3,false),(4,false),(5,false)],[],[],[]⟩
def Axn:TFd:=⟨1,[(.tmp 2,.bool),(.tmp 3,.bool),(.tmp 4,.bool),(.tmp 5,.bool)],[.loc 22 0],(.seq (.ops An3) (.seq (.ops An4) (.seq (.seq (.ops An5) (.cond (.tmp 19) (.free (.seq (.ops An6) (.keep An0 .ret))) .skip)) (.seq (.ops An7) (.seq (.ops An8) (.keep An1 .ret))))))⟩
noncomputable def Rj:Ent:=⟨[.ty .str],[],[.str],⟨(.tup [(.ptr (.res 0) 0),(.ty (.int .i64)),(.ty (.int .i64)),(.ty (.int .i64))]),[some (.st 3)],[],[(.int .i64),(.int .i64),(.int .i64),(.st 3)],[],[]⟩,(some ⟨(.tup [.dead,(.ty (.int .i64)),(.ty (.int .i64)),(.ty (.int .i64))]),[none],[],[(.int .i64),(.int .i64),(.int .i64)],[],[]⟩),fun p=>Lo p⟩
theorem Zm:Rj.ok Tryz.prog 29:=Ay hm Tryz.func29 (fd:=Axn) (by kernel_rfl) (Ao (l:=[(52,Ati),(53,Y7)]) (y:=[]) ⟨A4n,Afm,trivial⟩ trivial) (by kernel_rfl) (fun p=>by kernel_rfl)
def Ael:List TOp:=[oo 4 (.mov (.cst (.bool false)))]
def Aem:List TOp:=[oo 5 (.mov (.tmp 0)),oo 6 (.nchk (.tmp 5)),oo 7 (.fld 2 (.tmp 6)),oo 8 (.load false 1 (.tmp 7)),oo 9 (.un .not (.tmp 8)),oo 10 (.mov (.tmp 9)),og 11 10 true .bool (.mov (.tmp 0)),og 12 10 true .bool (.nchk (.tmp 11)),og 13 10 true .bool (.fld 1 (.tmp 12)),og 14 10 true .bool (.load false 1 (.tmp 13)),og 15 10 true .bool (.mov (.tmp 0)),og 16 10 true .bool (.nchk (.tmp 15)),og 17 10 true .bool (.fld 0 (.tmp 16)),og 18 10 true .bool (.load false 1 (.tmp 17)),og 19 10 true .bool (.len false (.tmp 18)),og 20 10 true .bool (.bin false .lss (.tmp 14) (.tmp 19)),oo 21 (.pick (.tmp 10) (.tmp 20) (.cst (.bool false))),oo 22 (.mov (.tmp 21)),og 23 22 true .bool (.mov (.tmp 0)),og 24 22 true .bool (.nchk (.tmp 23)),og 25 22 true .bool (.fld 0 (.tmp 24)),og 26 22 true .bool (.load false 1 (.tmp 25)),og 27 22 true .bool (.mov (.tmp 0)),og 28 22 true .bool (.nchk (.tmp 27)),og 29 22 true .bool (.fld 1 (.tmp 28)),og 30 22 true .bool (.load false 1 (.tmp 29)),og 31 22 true .bool (.idx 4 (.tmp 26) (.tmp 30)),og 32 22 true .bool (.fld 0 (.tmp 31)),og 33 22 true .bool (.load false 1 (.tmp 32)),og 34 22 true .bool (.bin false .neq (.tmp 33) (.cst (.int .i64 2))),oo 35 (.pick (.tmp 22) (.tmp 34) (.cst (.bool false))),oo 36 (.mov (.tmp 35)),og 37 36 true .bool (.mov (.tmp 0)),og 38 36 true .bool (.nchk (.tmp 37)),og 39 36 true .bool (.fld 0 (.tmp 38)),og 40 36 true .bool (.load false 1 (.tmp 39)),og 41 36 true .bool (.mov (.tmp 0)),og 42 36 true .bool (.nchk (.tmp 41)),og 43 36 true .bool (.fld 1 (.tmp 42)),og 44 36 true .bool (.load false 1 (.tmp 43)),og 45 36 true .bool (.idx 4 (.tmp 40) (.tmp 44)),og 46 36 true .bool (.fld 3 (.tmp 45)),og 47 36 true .bool (.load false 1 (.tmp 46)),og 48 36 true .bool (.mov (.tmp 1)),og 49 36 true .bool (.bin false .eql (.tmp 47) (.tmp 48)),oo 50 (.pick (.tmp 36) (.tmp 49) (.cst (.bool false))),oo 4 (.mov (.tmp 50))]
def Aek:Kp:=⟨[],[(4,false)],[(.ext 0,false)],[],[]⟩
def Ahv:TFd:=⟨2,[(.tmp 4,.bool)],[],(.seq (.ops Ael) (.seq (.draw [] Aem) (.keep Aek .ret)))⟩
def Fv:Ent:=⟨[.ptr (.ext 0) 0,.ty .str],[.st 3],[.str,(.st 3)],⟨(.ty .bool),[],[some .same],[.bool],[],[]⟩,none,fun p=>Bl p.1 p.2⟩
theorem G9:Fv.ok Tryz.prog 63:=Ay hm Tryz.func63 (fd:=Ahv) (by kernel_rfl) (Ao (l:=[]) (y:=[]) trivial trivial) (by kernel_rfl) (fun p=>by kernel_rfl)
def Aac:List TOp:=[oo 4 (.mov (.cst (.bool false)))]
def Aad:List TOp:=[oo 5 (.mov (.tmp 0)),oo 6 (.mov (.tmp 1)),oo 7 (.call 0 2 (.cst (.fn 63)) [(.tmp 5),(.tmp 6)] [] [.ext 0]),oo 8 (.un .not (.tmp 7))]
def Aae:List TOp:=[oo 4 (.mov (.cst (.bool false)))]
def Lu:Kp:=⟨[],[(4,false)],[(.ext 0,false)],[],[]⟩
def Aaf:List TOp:=[oo 9 (.mov (.tmp 0)),oo 10 (.nchk (.tmp 9)),oo 11 (.fld 1 (.tmp 10)),oo 12 (.load false 1 (.tmp 11)),oo 13 (.bin false .add (.tmp 12) (.cst (.int .i64 1))),oo 14 (.nchk (.tmp 9)),oo 15 (.fld 1 (.tmp 14)),on (.store 1 (.tmp 15) (.tmp 13))]
def Aag:List TOp:=[oo 4 (.mov (.cst (.bool true)))]
def Aep:TFd:=⟨2,[(.tmp 4,.bool)],[],(.seq (.ops Aac) (.seq (.seq (.ops Aad) (.cond (.tmp 8) (.free (.seq (.ops Aae) (.keep Lu .ret))) .skip)) (.seq (.ops Aaf) (.seq (.ops Aag) (.keep Lu .ret)))))⟩
def De:Ent:=⟨[.ptr (.ext 0) 0,.ty .str],[.st 3],[.str,(.st 3)],⟨(.ty .bool),[],[some (.st 3)],[.bool,(.st 3)],[],[]⟩,none,fun p=>A8 p.1 p.2⟩
theorem D4:De.ok Tryz.prog 54:=Ay hm Tryz.func54 (fd:=Aep) (by kernel_rfl) (Ao (l:=[(63,Fv)]) (y:=[]) ⟨G9,trivial⟩ trivial) (by kernel_rfl) (fun p=>by kernel_rfl)
def Zz:List TOp:=[oo 6 (.mov (.tmp 1)),oo 7 (.len false (.tmp 6)),oo 8 (.mov (.cst (.int .i64 0)))]
def Z0:List TOp:=[oo 9 (.bin false .lss (.tmp 8) (.tmp 7))]
def Lr:Kp:=⟨[],[],[(.ext 0,false)],[],[]⟩
def Z1:List TOp:=[oo 10 (.idx 1 (.tmp 6) (.tmp 8)),oo 11 (.load false 1 (.tmp 10)),oo 5 (.mov (.tmp 11))]
def Z2:List TOp:=[oo 12 (.mov (.tmp 0)),oo 13 (.mov (.tmp 5)),oo 14 (.call 0 2 (.cst (.fn 54)) [(.tmp 12),(.tmp 13)] [] [.ext 0]),oo 15 (.un .not (.tmp 14))]
def Z3:List TOp:=[oo 16 (.mov (.tmp 0)),oo 17 (.nchk (.tmp 16)),oo 18 (.fld 2 (.tmp 17)),on (.store 1 (.tmp 18) (.cst (.bool true)))]
def Z4:List TOp:=[oo 19 (.bin false .add (.tmp 8) (.cst (.int .i64 1))),oo 8 (.mov (.tmp 19))]
def Zy:DC:=(.seq (.ops Z0) (.seq (.cond (.tmp 9) .skip (.keep Lr (.exit 0))) (.seq (.pass 1 (.seq (.ops Z1) (.seq (.ops Z2) (.cond (.tmp 15) (.free (.seq (.ops Z3) (.keep Lr .ret))) .skip)))) (.ops Z4))))
def Zx:Kp:=⟨[],[(0,false),(6,false),(7,false),(8,false)],[(.ext 0,false)],[],[]⟩
def Z5:Sig:=⟨[(0,some (.ptr (.ext 0) 0)),(6,none),(7,none),(8,some (.ty (.int .i64)))],[(.ext 0,(.st 3))],[(.int .i64),(.st 3)],[],[]⟩
def Aen:TFd:=⟨2,[],[],(.seq (.ops Zz) (.block 0 (.loop [0,6,7,8] [] Zx Z5 Zy)))⟩
noncomputable def Dd:Ent:=⟨[.ptr (.ext 0) 0,.ty (.sl .str)],[.st 3],[(.sl .str),(.st 3)],⟨(.tup []),[],[some (.st 3)],[(.st 3)],[],[]⟩,none,fun p=>Aj p.1 p.2⟩
theorem D3:Dd.ok Tryz.prog 56:=Ay hm Tryz.func56 (fd:=Aen) (by kernel_rfl) (Ao (l:=[(54,De)]) (y:=[]) ⟨D4,trivial⟩ trivial) (by kernel_rfl) (fun p=>by kernel_rfl)
def Mf:List TOp:=[oo 4 (.mov (.cst (.int .i64 0)))]
def Mg:List TOp:=[oo 6 (.mov (.tmp 0)),oo 7 (.len false (.tmp 6)),oo 8 (.mov (.cst (.int .i64 0)))]
def Mh:List TOp:=[oo 9 (.bin false .lss (.tmp 8) (.tmp 7))]
def Mi:List TOp:=[oo 10 (.mov (.tmp 8)),oo 5 (.mov (.tmp 10))]
def Mj:List TOp:=[oo 11 (.mov (.tmp 1)),oo 12 (.mov (.tmp 0)),oo 13 (.mov (.tmp 5)),oo 14 (.idx 1 (.tmp 12) (.tmp 13)),oo 15 (.load false 1 (.tmp 14)),oo 16 (.bin false .eql (.tmp 11) (.tmp 15))]
def Mk:List TOp:=[oo 17 (.mov (.tmp 5)),oo 4 (.mov (.tmp 17))]
def E5:Kp:=⟨[],[(4,false)],[],[],[]⟩
def Ml:List TOp:=[oo 18 (.bin false .add (.tmp 8) (.cst (.int .i64 1))),oo 8 (.mov (.tmp 18))]
def Me:DC:=(.seq (.ops Mh) (.seq (.cond (.tmp 9) .skip (.exit 0)) (.seq (.pass 1 (.seq (.ops Mi) (.seq (.ops Mj) (.cond (.tmp 16) (.free (.seq (.ops Mk) (.keep E5 .ret))) .skip)))) (.ops Ml))))
def Md:Kp:=⟨[],[(0,false),(1,false),(7,false),(8,false)],[],[],[]⟩
def Ky:Sig:=⟨[(0,none),(1,none),(7,none),(8,some (.ty (.int .i64)))],[],[(.int .i64)],[],[]⟩
def Kw:Kp:=⟨[],[],[],[],[]⟩
def Kz:Sig:=⟨[],[],[],[],[]⟩
def Kx:List TOp:=[oo 4 (.mov (.cst (.int .i64 (-1))))]
def N0:TFd:=⟨2,[(.tmp 4,.bool)],[],(.seq (.ops Mf) (.seq (.seq (.ops Mg) (.joinO Kw Kz (.block 0 (.loop [0,1,7,8] [] Md Ky Me)))) (.seq (.ops Kx) (.keep E5 .ret))))⟩
noncomputable def Fg:Ent:=⟨[.ty (.sl .str),.ty .str],[],[(.sl .str),.str],⟨(.ty (.int .i64)),[],[],[(.int .i64)],[],[]⟩,none,fun p=>Ds p.1 p.2⟩
theorem Mp:Fg.ok Tryz.prog 139:=Ay hm Tryz.func139 (fd:=N0) (by kernel_rfl) (Ao (l:=[]) (y:=[]) trivial trivial) (by kernel_rfl) (fun p=>by kernel_rfl)
def Il:List TOp:=[oo 4 (.mov (.cst (.bool false)))]
def Im:List TOp:=[oo 5 (.mov (.tmp 0)),oo 6 (.mov (.tmp 1)),oo 7 (.call 0 0 (.cst (.fn 139)) [(.tmp 5),(.tmp 6)] [] []),oo 8 (.bin false .geq (.tmp 7) (.cst (.int .i64 0))),oo 4 (.mov (.tmp 8))]
def Ik:Kp:=⟨[],[(4,false)],[],[],[]⟩
def Km:TFd:=⟨2,[(.tmp 4,.bool)],[],(.seq (.ops Il) (.seq (.ops Im) (.keep Ik .ret)))⟩
noncomputable def Ed:Ent:=⟨[.ty (.sl .str),.ty .str],[],[(.sl .str),.str],⟨(.ty .bool),[],[],[.bool],[],[]⟩,none,fun p=>Cc p.1 p.2⟩
theorem Iu:Ed.ok Tryz.prog 115:=Ay hm Tryz.func115 (fd:=Km) (by kernel_rfl) (Ao (l:=[(139,Fg)]) (y:=[]) ⟨Mp,trivial⟩ trivial) (by kernel_rfl) (fun p=>by kernel_rfl)
def Ax9:List TOp:=[oo 4 (.mov (.cst (.bool false)))]
def Aya:List TOp:=[ot 6 .str (.lit true 1 [(.cst (.str [105,102])),(.cst (.str [116,104,101,110])),(.cst (.str [101,108,115,101])),(.cst (.str [97,110,100])),(.cst (.str [111,114])),(.cst (.str [110,111,116])),(.cst (.str [109,105,110])),(.cst (.str [109,97,120]))]),oo 5 (.mov (.tmp 6))]
def Ayb:List TOp:=[oo 7 (.mov (.tmp 1))]
def Ayc:List TOp:=[oo 8 (.mov (.tmp 5)),ot 9 .str (.lit false 1 [(.cst (.str [112,114,111,100,117,99,116])),(.cst (.str [98,97,115,105,115])),(.cst (.str [112,101,114,105,111,100])),(.cst (.str [116,105,101,114,115])),(.cst (.str [102,101,101])),(.cst (.str [109,105,110,105,109,117,109])),(.cst (.str [111,118,101,114,100,114,97,102,116])),(.cst (.str [110,111,116,105,99,101]))]),ot 10 .str (.append 5 1 16 (.tmp 8) (.tmp 9)),oo 5 (.mov (.tmp 10))]
def Ax7:Kp:=⟨[.loc 5 0,.loc 6 0],[(0,false),(5,true)],[],[],[]⟩
def Aye:Sig:=⟨[(0,none),(5,some (.ty (.sl .str)))],[],[(.sl .str)],[],[]⟩
def Ayd:List TOp:=[oo 11 (.mov (.tmp 5)),oo 12 (.mov (.tmp 0)),oo 13 (.call 0 0 (.cst (.fn 115)) [(.tmp 11),(.tmp 12)] [] []),oo 4 (.mov (.tmp 13))]
def Ax8:Kp:=⟨[],[(4,false)],[],[],[]⟩
def A50:TFd:=⟨2,[(.tmp 4,.bool)],[],(.seq (.ops Ax9) (.seq (.ops Aya) (.seq (.seq (.ops Ayb) (.join Ax7 Aye (.cond (.tmp 7) (.ops Ayc) .skip))) (.seq (.ops Ayd) (.keep Ax8 .ret)))))⟩
noncomputable def Zo:Ent:=⟨[.ty .str,.ty .bool],[],[.str,.bool],⟨(.ty .bool),[],[],[.bool],[],[]⟩,none,fun p=>To p.1 p.2⟩
theorem Af1:Zo.ok Tryz.prog 96:=Ay hm Tryz.func96 (fd:=A50) (by kernel_rfl) (Ao (l:=[(115,Ed)]) (y:=[]) ⟨Iu,trivial⟩ trivial) (by kernel_rfl) (fun p=>by kernel_rfl)
def Z6:List TOp:=[oo 6 (.mov (.cst (.str [])))]
def Z7:List TOp:=[oo 7 (.mov (.tmp 0)),oo 8 (.nchk (.tmp 7)),oo 9 (.fld 2 (.tmp 8)),oo 10 (.load false 1 (.tmp 9)),oo 11 (.mov (.tmp 10)),og 12 11 false .bool (.mov (.tmp 0)),og 13 11 false .bool (.nchk (.tmp 12)),og 14 11 false .bool (.fld 1 (.tmp 13)),og 15 11 false .bool (.load false 1 (.tmp 14)),og 16 11 false .bool (.mov (.tmp 0)),og 17 11 false .bool (.nchk (.tmp 16)),og 18 11 false .bool (.fld 0 (.tmp 17)),og 19 11 false .bool (.load false 1 (.tmp 18)),og 20 11 false .bool (.len false (.tmp 19)),og 21 11 false .bool (.bin false .geq (.tmp 15) (.tmp 20)),oo 22 (.pick (.tmp 11) (.cst (.bool true)) (.tmp 21)),oo 23 (.mov (.tmp 22)),og 24 23 false .bool (.mov (.tmp 0)),og 25 23 false .bool (.nchk (.tmp 24)),og 26 23 false .bool (.fld 0 (.tmp 25)),og 27 23 false .bool (.load false 1 (.tmp 26)),og 28 23 false .bool (.mov (.tmp 0)),og 29 23 false .bool (.nchk (.tmp 28)),og 30 23 false .bool (.fld 1 (.tmp 29)),og 31 23 false .bool (.load false 1 (.tmp 30)),og 32 23 false .bool (.idx 4 (.tmp 27) (.tmp 31)),og 33 23 false .bool (.fld 0 (.tmp 32)),og 34 23 false .bool (.load false 1 (.tmp 33)),og 35 23 false .bool (.mov (.tmp 1)),og 36 23 false .bool (.bin false .neq (.tmp 34) (.tmp 35)),oo 37 (.pick (.tmp 23) (.cst (.bool true)) (.tmp 36)),oo 38 (.mov (.tmp 37)),og 39 38 false .bool (.mov (.tmp 1)),og 40 38 false .bool (.bin false .eql (.tmp 39) (.cst (.int .i64 0))),og 41 38 false .bool (.mov (.tmp 40)),og 42 41 true .bool (.mov (.tmp 0)),og 43 41 true .bool (.nchk (.tmp 42)),og 44 41 true .bool (.fld 0 (.tmp 43)),og 45 41 true .bool (.load false 1 (.tmp 44)),og 46 41 true .bool (.mov (.tmp 0)),og 47 41 true .bool (.nchk (.tmp 46)),og 48 41 true .bool (.fld 1 (.tmp 47)),og 49 41 true .bool (.load false 1 (.tmp 48)),og 50 41 true .bool (.idx 4 (.tmp 45) (.tmp 49)),og 51 41 true .bool (.fld 3 (.tmp 50)),og 52 41 true .bool (.load false 1 (.tmp 51)),og 53 41 true .bool (.mov (.tmp 2)),og 54 41 true .bool (.call 0 0 (.cst (.fn 96)) [(.tmp 52),(.tmp 53)] [] []),og 55 38 false .bool (.pick (.tmp 41) (.tmp 54) (.cst (.bool false))),oo 56 (.pick (.tmp 38) (.cst (.bool true)) (.tmp 55))]
def Z8:List TOp:=[oo 57 (.mov (.tmp 0)),oo 58 (.nchk (.tmp 57)),oo 59 (.fld 2 (.tmp 58)),on (.store 1 (.tmp 59) (.cst (.bool true)))]
def Z9:List TOp:=[oo 6 (.mov (.cst (.str [])))]
def Ls:Kp:=⟨[],[(6,false)],[(.ext 0,false)],[],[]⟩
def Aaa:List TOp:=[oo 60 (.mov (.tmp 0)),oo 61 (.nchk (.tmp 60)),oo 62 (.fld 1 (.tmp 61)),oo 63 (.load false 1 (.tmp 62)),oo 64 (.bin false .add (.tmp 63) (.cst (.int .i64 1))),oo 65 (.nchk (.tmp 60)),oo 66 (.fld 1 (.tmp 65)),on (.store 1 (.tmp 66) (.tmp 64))]
def Aab:List TOp:=[oo 67 (.mov (.tmp 0)),oo 68 (.nchk (.tmp 67)),oo 69 (.fld 0 (.tmp 68)),oo 70 (.load false 1 (.tmp 69)),oo 71 (.mov (.tmp 0)),oo 72 (.nchk (.tmp 71)),oo 73 (.fld 1 (.tmp 72)),oo 74 (.load false 1 (.tmp 73)),oo 75 (.bin false .sub (.tmp 74) (.cst (.int .i64 1))),oo 76 (.idx 4 (.tmp 70) (.tmp 75)),oo 77 (.fld 3 (.tmp 76)),oo 78 (.load false 1 (.tmp 77)),oo 6 (.mov (.tmp 78))]
def Aeo:TFd:=⟨3,[(.tmp 6,.bool)],[],(.seq (.ops Z6) (.seq (.seq (.draw [] Z7) (.cond (.tmp 56) (.free (.seq (.ops Z8) (.seq (.ops Z9) (.keep Ls .ret)))) .skip)) (.seq (.ops Aaa) (.seq (.draw [] Aab) (.keep Ls .ret)))))⟩
noncomputable def Ej:Ent:=⟨[.ptr (.ext 0) 0,.ty (.int .i64),.ty .bool],[.st 3],[(.int .i64),.bool,(.st 3)],⟨(.ty .str),[],[some (.st 3)],[.str,(.st 3)],[],[]⟩,none,fun p=>A3 p.1 p.2.1 p.2.2⟩
theorem Ga:Ej.ok Tryz.prog 61:=Ay hm Tryz.func61 (fd:=Aeo) (by kernel_rfl) (Ao (l:=[(96,Zo)]) (y:=[]) ⟨Af1,trivial⟩ trivial) (by kernel_rfl) (fun p=>by kernel_rfl)
def U4:Ent:=⟨[.nils,.ty (.int .i64)],[],[(.int .i64)],⟨(.own (.res 0)),[some (.row (.st 4))],[],[(.sl (.st 4))],[],[]⟩,none,fun p=>Cq Aa 24 p⟩
theorem Ace:U4.ok Tryz.prog 114:=fun p r h=>by
 obtain⟨e1,e2⟩:=U5 (show Cq Aa 24 p=some r from h)
 subst e1
 exact Agu e2
def O1:List TOp:=[oo 2 (.mov .nils)]
def O2:List TOp:=[oo 3 (.mov (.cst (.int .i64 0)))]
def O3:List TOp:=[oo 9 (.mov (.tmp 0)),oo 10 (.len false (.tmp 9)),oo 11 (.mov (.cst (.int .i64 0)))]
def O4:List TOp:=[oo 12 (.bin false .lss (.tmp 11) (.tmp 10))]
def O5:List TOp:=[oo 13 (.idx 1 (.tmp 9) (.tmp 11)),oo 14 (.load false 1 (.tmp 13)),oo 5 (.mov (.tmp 14))]
def O6:List TOp:=[oo 15 (.mov (.tmp 3)),oo 16 (.mov (.tmp 5)),oo 17 (.len false (.tmp 16)),oo 18 (.bin false .add (.tmp 15) (.tmp 17)),oo 3 (.mov (.tmp 18))]
def O7:List TOp:=[oo 19 (.mov (.tmp 3)),oo 20 (.bin false .lss (.tmp 19) (.cst (.int .i64 0)))]
def Gb:Kp:=⟨[],[(0,false),(3,false),(9,false),(10,false),(11,false)],[],[],[]⟩
def O9:Sig:=⟨[(0,none),(3,none),(9,none),(10,none),(11,none)],[],[],[],[]⟩
def O8:List TOp:=[oo 22 (.bin false .add (.tmp 11) (.cst (.int .i64 1))),oo 11 (.mov (.tmp 22))]
def Nk:DC:=(.seq (.ops O4) (.seq (.cond (.tmp 12) .skip (.exit 0)) (.seq (.pass 1 (.seq (.ops O5) (.seq (.ops O6) (.seq (.ops O7) (.join Gb O9 (.cond (.tmp 20) .stuck .skip)))))) (.ops O8))))
def Nu:Sig:=⟨[(0,none),(3,some (.ty (.int .i64))),(9,none),(10,none),(11,some (.ty (.int .i64)))],[],[(.int .i64),(.int .i64)],[],[]⟩
def Ng:Kp:=⟨[],[(0,false),(3,false)],[],[],[]⟩
def Nv:Sig:=⟨[(0,none),(3,some (.ty (.int .i64)))],[],[(.int .i64)],[],[]⟩
def Nm:List TOp:=[oo 23 (.mov (.tmp 3)),oo 24 (.call 1 3 (.cst (.fn 114)) [.nils,(.tmp 23)] [] []),oo 6 (.mov (.tmp 24))]
def Nn:List TOp:=[oo 25 (.mov (.tmp 0)),oo 26 (.len false (.tmp 25)),oo 27 (.mov (.cst (.int .i64 0)))]
def Np:List TOp:=[oo 28 (.bin false .lss (.tmp 27) (.tmp 26))]
def Nq:List TOp:=[oo 29 (.idx 1 (.tmp 25) (.tmp 27)),oo 30 (.load false 1 (.tmp 29)),oo 8 (.mov (.tmp 30))]
def Nr:List TOp:=[oo 31 (.mov (.tmp 6)),oo 32 (.mov (.tmp 8)),ot 33 (.st 4) (.append 24 2 24 (.tmp 31) (.tmp 32)),oo 6 (.mov (.tmp 33))]
def Ns:List TOp:=[oo 34 (.bin false .add (.tmp 27) (.cst (.int .i64 1))),oo 27 (.mov (.tmp 34))]
def Nl:DC:=(.seq (.ops Np) (.seq (.cond (.tmp 28) .skip (.exit 2)) (.seq (.pass 3 (.seq (.ops Nq) (.ops Nr))) (.ops Ns))))
def Nh:Kp:=⟨[],[(6,false),(25,false),(26,false),(27,false)],[(.loc 24 0,false)],[],[]⟩
def Nw:Sig:=⟨[(6,some (.own (.loc 24 0))),(25,none),(26,none),(27,some (.ty (.int .i64)))],[(.loc 24 0,(.row (.st 4)))],[(.int .i64),(.sl (.st 4))],[],[]⟩
def Ni:Kp:=⟨[.loc 24 0],[(6,true)],[],[],[]⟩
def Nx:Sig:=⟨[(6,some (.ty (.sl (.st 4))))],[],[(.sl (.st 4))],[],[]⟩
def Nt:List TOp:=[oo 35 (.mov (.tmp 6)),oo 2 (.mov (.tmp 35))]
def Nj:Kp:=⟨[],[(2,false)],[],[],[]⟩
def Sr:TFd:=⟨1,[(.tmp 2,.bool)],[],(.seq (.ops O1) (.seq (.ops O2) (.seq (.seq (.ops O3) (.join Ng Nv (.block 0 (.loop [0,3,9,10,11] [] Gb Nu Nk)))) (.seq (.ops Nm) (.seq (.seq (.ops Nn) (.join Ni Nx (.block 2 (.loop [6,25,26,27] [] Nh Nw Nl)))) (.seq (.ops Nt) (.keep Nj .ret)))))))⟩
noncomputable def Gk:Ent:=⟨[.ty (.sl (.sl (.st 4)))],[],[(.sl (.sl (.st 4)))],⟨(.ty (.sl (.st 4))),[],[],[(.sl (.st 4))],[],[]⟩,none,fun p=>Db p⟩
theorem Po:Gk.ok Tryz.prog 93:=Ay hm Tryz.func93 (fd:=Sr) (by kernel_rfl) (Ao (l:=[(114,U4)]) (y:=[]) ⟨Ace,trivial⟩ trivial) (by kernel_rfl) (fun p=>by kernel_rfl)
def Asd:List TOp:=[oo 4 (.mov .nils)]
def Ase:List TOp:=[oo 5 (.mov (.tmp 0)),ot 6 (.st 4) (.build [.pv (.int .i64 0),.pv (.str [])] [(0,1,(.tmp 5))]),ot 7 (.st 4) (.lit true 2 [(.tmp 6)]),oo 8 (.mov (.tmp 1)),oo 9 (.call 0 0 (.cst (.fn 93)) [(.tmp 8)] [] []),ot 10 (.st 4) (.append 7 2 24 (.tmp 7) (.tmp 9)),oo 4 (.mov (.tmp 10))]
def Asc:Kp:=⟨[.loc 7 0],[(4,true)],[],[],[]⟩
def A15:TFd:=⟨2,[(.tmp 4,.bool)],[],(.seq (.ops Asd) (.seq (.ops Ase) (.keep Asc .ret)))⟩
noncomputable def Nf:Ent:=⟨[.ty (.int .i64),.ty (.sl (.sl (.st 4)))],[],[(.int .i64),(.sl (.sl (.st 4)))],⟨(.ty (.sl (.st 4))),[],[],[(.sl (.st 4))],[],[]⟩,none,fun p=>B7 p.1 p.2⟩
theorem Rk:Nf.ok Tryz.prog 57:=Ay hm Tryz.func57 (fd:=A15) (by kernel_rfl) (Ao (l:=[(93,Gk)]) (y:=[]) ⟨Po,trivial⟩ trivial) (by kernel_rfl) (fun p=>by kernel_rfl)
def Aod:List TOp:=[oo 0 (.mov .junk)]
def Aoe:List TOp:=[om 1 .str (.st 5) (.mkmap .s),ot 2 (.st 5) (.build [.pv (.int .i64 0),.pv (.int .i64 0)] [(0,1,(.cst (.int .i64 13))),(1,1,(.cst (.int .i64 1)))]),on (.mset .s (.tmp 1) (.cst (.str [111,114])) (.tmp 2)),ot 3 (.st 5) (.build [.pv (.int .i64 0),.pv (.int .i64 0)] [(0,1,(.cst (.int .i64 12))),(1,1,(.cst (.int .i64 2)))]),on (.mset .s (.tmp 1) (.cst (.str [97,110,100])) (.tmp 3)),ot 4 (.st 5) (.build [.pv (.int .i64 0),.pv (.int .i64 0)] [(0,1,(.cst (.int .i64 7))),(1,1,(.cst (.int .i64 4)))]),on (.mset .s (.tmp 1) (.cst (.str [60])) (.tmp 4)),ot 5 (.st 5) (.build [.pv (.int .i64 0),.pv (.int .i64 0)] [(0,1,(.cst (.int .i64 8))),(1,1,(.cst (.int .i64 4)))]),on (.mset .s (.tmp 1) (.cst (.str [60,61])) (.tmp 5)),ot 6 (.st 5) (.build [.pv (.int .i64 0),.pv (.int .i64 0)] [(0,1,(.cst (.int .i64 9))),(1,1,(.cst (.int .i64 4)))]),on (.mset .s (.tmp 1) (.cst (.str [61])) (.tmp 6)),ot 7 (.st 5) (.build [.pv (.int .i64 0),.pv (.int .i64 0)] [(0,1,(.cst (.int .i64 10))),(1,1,(.cst (.int .i64 4)))]),on (.mset .s (.tmp 1) (.cst (.str [62])) (.tmp 7)),ot 8 (.st 5) (.build [.pv (.int .i64 0),.pv (.int .i64 0)] [(0,1,(.cst (.int .i64 11))),(1,1,(.cst (.int .i64 4)))]),on (.mset .s (.tmp 1) (.cst (.str [62,61])) (.tmp 8)),ot 9 (.st 5) (.build [.pv (.int .i64 0),.pv (.int .i64 0)] [(0,1,(.cst (.int .i64 3))),(1,1,(.cst (.int .i64 5)))]),on (.mset .s (.tmp 1) (.cst (.str [43])) (.tmp 9)),ot 10 (.st 5) (.build [.pv (.int .i64 0),.pv (.int .i64 0)] [(0,1,(.cst (.int .i64 4))),(1,1,(.cst (.int .i64 5)))]),on (.mset .s (.tmp 1) (.cst (.str [45])) (.tmp 10)),ot 11 (.st 5) (.build [.pv (.int .i64 0),.pv (.int .i64 0)] [(0,1,(.cst (.int .i64 5))),(1,1,(.cst (.int .i64 6)))]),on (.mset .s (.tmp 1) (.cst (.str [42])) (.tmp 11)),ot 12 (.st 5) (.build [.pv (.int .i64 0),.pv (.int .i64 0)] [(0,1,(.cst (.int .i64 6))),(1,1,(.cst (.int .i64 6)))]),on (.mset .s (.tmp 1) (.cst (.str [47])) (.tmp 12)),oo 13 (.mov (.tmp 1)),oo 0 (.mov (.tmp 13))]
def Aoc:Kp:=⟨[],[(0,false)],[(.loc 1 0,false)],[],[]⟩
def Ayf:TFd:=⟨0,[(.tmp 0,.bool)],[.loc 1 0],(.seq (.ops Aod) (.seq (.ops Aoe) (.keep Aoc .ret)))⟩
def Acz:Ent:=⟨[],[],[],⟨(.mp (.res 0)),[some (.map .str (.st 5))],[],[(.mp .str (.st 5))],[],[]⟩,none,fun p=>Zq⟩
theorem Zr:Acz.ok Tryz.prog 98:=Ay hm Tryz.func98 (fd:=Ayf) (by kernel_rfl) (Ao (l:=[]) (y:=[]) trivial trivial) (by kernel_rfl) (fun p=>by kernel_rfl)
def T9:List TOp:=[oo 4 (.mov (.cst (.int .i64 0))),oo 5 (.mov (.cst (.bool false)))]
def Ua:List TOp:=[oo 8 (.mov (.tmp 0)),oo 9 (.nchk (.tmp 8)),oo 10 (.fld 2 (.tmp 9)),oo 11 (.load false 1 (.tmp 10)),oo 12 (.mov (.tmp 11)),og 13 12 false .bool (.mov (.tmp 0)),og 14 12 false .bool (.nchk (.tmp 13)),og 15 12 false .bool (.fld 1 (.tmp 14)),og 16 12 false .bool (.load false 1 (.tmp 15)),og 17 12 false .bool (.mov (.tmp 0)),og 18 12 false .bool (.nchk (.tmp 17)),og 19 12 false .bool (.fld 0 (.tmp 18)),og 20 12 false .bool (.load false 1 (.tmp 19)),og 21 12 false .bool (.len false (.tmp 20)),og 22 12 false .bool (.bin false .geq (.tmp 16) (.tmp 21)),oo 23 (.pick (.tmp 12) (.cst (.bool true)) (.tmp 22)),oo 24 (.mov (.tmp 23)),og 25 24 false .bool (.mov (.tmp 0)),og 26 24 false .bool (.nchk (.tmp 25)),og 27 24 false .bool (.fld 0 (.tmp 26)),og 28 24 false .bool (.load false 1 (.tmp 27)),og 29 24 false .bool (.mov (.tmp 0)),og 30 24 false .bool (.nchk (.tmp 29)),og 31 24 false .bool (.fld 1 (.tmp 30)),og 32 24 false .bool (.load false 1 (.tmp 31)),og 33 24 false .bool (.idx 4 (.tmp 28) (.tmp 32)),og 34 24 false .bool (.fld 0 (.tmp 33)),og 35 24 false .bool (.load false 1 (.tmp 34)),og 36 24 false .bool (.bin false .eql (.tmp 35) (.cst (.int .i64 2))),oo 37 (.pick (.tmp 24) (.cst (.bool true)) (.tmp 36))]
def Ub:List TOp:=[oo 4 (.mov (.cst (.int .i64 0))),oo 5 (.mov (.cst (.bool false)))]
def Hk:Kp:=⟨[],[(4,false),(5,false)],[(.ext 0,false)],[],[]⟩
def Uc:List TOp:=[oo 39 (.call 1 0 (.cst (.fn 98)) [] [] []),oo 40 (.mov (.tmp 0)),oo 41 (.nchk (.tmp 40)),oo 42 (.fld 0 (.tmp 41)),oo 43 (.load false 1 (.tmp 42)),oo 44 (.mov (.tmp 0)),oo 45 (.nchk (.tmp 44)),oo 46 (.fld 1 (.tmp 45)),oo 47 (.load false 1 (.tmp 46)),oo 48 (.idx 4 (.tmp 43) (.tmp 47)),oo 49 (.fld 3 (.tmp 48)),oo 50 (.load false 1 (.tmp 49)),oo 51 (.mlook .s true (.agg [(.int .i64 0),(.int .i64 0)]) (.tmp 39) (.tmp 50)),oo 38 (.mov (.tmp 51)),oo 52 (.ext 0 (.tmp 38)),oo 53 (.ext 1 (.tmp 38)),oo 6 (.alloc [.pv (.int .i64 0),.pv (.int .i64 0)]),on (.store 2 (.tmp 6) (.tmp 52)),oo 7 (.mov (.tmp 53))]
def Ud:List TOp:=[oo 54 (.fld 0 (.tmp 6)),oo 55 (.load false 1 (.tmp 54)),oo 56 (.mov (.tmp 7)),oo 57 (.mov (.tmp 56)),og 58 57 true .bool (.fld 1 (.tmp 6)),og 59 57 true .bool (.load false 1 (.tmp 58)),og 60 57 true .bool (.mov (.tmp 1)),og 61 57 true .bool (.bin false .eql (.tmp 59) (.tmp 60)),oo 62 (.pick (.tmp 57) (.tmp 61) (.cst (.bool false))),oo 4 (.mov (.tmp 55)),oo 5 (.mov (.tmp 62))]
def X5:TFd:=⟨2,[(.tmp 4,.bool),(.tmp 5,.bool)],[],(.seq (.ops T9) (.seq (.seq (.draw [] Ua) (.cond (.tmp 37) (.free (.seq (.ops Ub) (.keep Hk .ret))) .skip)) (.seq (.draw [.loc 39 0,.loc 6 0] Uc) (.seq (.draw [] Ud) (.keep Hk .ret)))))⟩
def H8:Ent:=⟨[.ptr (.ext 0) 0,.ty (.int .i64)],[.st 3],[(.int .i64),(.st 3)],⟨(.tup [(.ty (.int .i64)),(.ty .bool)]),[],[some .same],[(.int .i64),.bool],[],[]⟩,none,fun p=>B0 p.1 p.2⟩
theorem Tp:H8.ok Tryz.prog 92:=Ay hm Tryz.func92 (fd:=X5) (by kernel_rfl) (Ao (l:=[(98,Acz)]) (y:=[]) ⟨Zr,trivial⟩ trivial) (by kernel_rfl) (fun p=>by kernel_rfl)
def Abt:List TOp:=[oo 2 (.mov .nils)]
def Abu:List TOp:=[oo 5 (.mov (.tmp 0)),oo 6 (.call 0 2 (.cst (.fn 54)) [(.tmp 5),(.cst (.str [105,102]))] [] [.ext 0]),oo 7 (.un .not (.tmp 6))]
def Abv:List TOp:=[oo 8 (.mov (.tmp 0)),oo 9 (.call 0 2 (.cst (.fn 55)) [(.tmp 8),(.cst (.int .i64 1))] [] [.ext 0]),oo 2 (.mov (.tmp 9))]
def M3:Kp:=⟨[],[(2,false)],[(.ext 0,false)],[],[]⟩
def Abw:List TOp:=[oo 10 (.mov (.tmp 0)),oo 11 (.call 0 2 (.cst (.fn 30)) [(.tmp 10)] [] [.ext 0]),oo 3 (.mov (.tmp 11))]
def Abx:List TOp:=[oo 12 (.mov (.tmp 0)),ot 13 .str (.lit false 1 [(.cst (.str [116,104,101,110]))]),oo 14 (.call 0 2 (.cst (.fn 56)) [(.tmp 12),(.tmp 13)] [] [.ext 0])]
def Aby:List TOp:=[oo 15 (.mov (.tmp 0)),oo 16 (.call 0 2 (.cst (.fn 30)) [(.tmp 15)] [] [.ext 0]),oo 4 (.mov (.tmp 16))]
def Abz:List TOp:=[oo 17 (.mov (.tmp 0)),ot 18 .str (.lit false 1 [(.cst (.str [101,108,115,101]))]),oo 19 (.call 0 2 (.cst (.fn 56)) [(.tmp 17),(.tmp 18)] [] [.ext 0])]
def Ab0:List TOp:=[oo 20 (.mov (.tmp 3)),oo 21 (.mov (.tmp 4)),oo 22 (.mov (.tmp 0)),oo 23 (.call 0 2 (.cst (.fn 30)) [(.tmp 22)] [] [.ext 0]),ot 24 (.sl (.st 4)) (.lit false 1 [(.tmp 20),(.tmp 21),(.tmp 23)]),oo 25 (.call 0 0 (.cst (.fn 57)) [(.cst (.int .i64 15)),(.tmp 24)] [] []),oo 2 (.mov (.tmp 25))]
def Agg:TFd:=⟨1,[(.tmp 2,.bool)],[],(.seq (.ops Abt) (.seq (.seq (.ops Abu) (.cond (.tmp 7) (.free (.seq (.ops Abv) (.keep M3 .ret))) .skip)) (.seq (.ops Abw) (.seq (.ops Abx) (.seq (.ops Aby) (.seq (.ops Abz) (.seq (.ops Ab0) (.keep M3 .ret))))))))⟩
noncomputable def Cz(fuel:Nat):Ent:=⟨[.ptr (.ext 0) 0],[.st 3],[(.st 3)],⟨(.ty (.sl (.st 4))),[],[some (.st 3)],[(.sl (.st 4)),(.st 3)],[],[]⟩,none,fun p=>parse_reader_any fuel p⟩
def X6:List TOp:=[oo 4 (.mov .nils)]
def X7:List TOp:=[oo 8 (.mov (.tmp 0)),oo 9 (.nchk (.tmp 8)),oo 10 (.fld 2 (.tmp 9)),oo 11 (.load false 1 (.tmp 10))]
def X8:List TOp:=[oo 4 (.mov .nils)]
def Ce:Kp:=⟨[],[(4,true)],[(.ext 0,false)],[],[]⟩
def X9:List TOp:=[oo 12 (.mov (.tmp 1))]
def Ya:List TOp:=[oo 14 (.bin false .eql (.tmp 12) (.cst (.int .i64 3))),oo 13 (.mov (.tmp 14))]
def Yb:List TOp:=[oo 15 (.mov (.tmp 0)),oo 16 (.call 0 2 (.cst (.fn 54)) [(.tmp 15),(.cst (.str [110,111,116]))] [] [.ext 0])]
def Yc:List TOp:=[oo 17 (.mov (.tmp 0)),oo 18 (.call 0 2 (.cst (.fn 55)) [(.tmp 17),(.cst (.int .i64 3))] [] [.ext 0]),ot 19 (.sl (.st 4)) (.lit false 1 [(.tmp 18)]),oo 20 (.call 0 0 (.cst (.fn 57)) [(.cst (.int .i64 14)),(.tmp 19)] [] []),oo 4 (.mov (.tmp 20))]
def Yd:List TOp:=[oo 21 (.mov (.tmp 0)),oo 22 (.call 0 2 (.cst (.fn 55)) [(.tmp 21),(.cst (.int .i64 4))] [] [.ext 0]),oo 4 (.mov (.tmp 22))]
def Ye:List TOp:=[oo 24 (.bin false .eql (.tmp 12) (.cst (.int .i64 7))),oo 23 (.mov (.tmp 24))]
def W0:List TOp:=[oo 25 (.mov (.tmp 0)),oo 26 (.call 0 2 (.cst (.fn 54)) [(.tmp 25),(.cst (.str [45]))] [] [.ext 0])]
def W1:List TOp:=[oo 27 (.mov (.tmp 0)),oo 28 (.call 0 2 (.cst (.fn 55)) [(.tmp 27),(.cst (.int .i64 7))] [] [.ext 0]),ot 29 (.sl (.st 4)) (.lit false 1 [(.tmp 28)]),oo 30 (.call 0 0 (.cst (.fn 57)) [(.cst (.int .i64 2)),(.tmp 29)] [] []),oo 4 (.mov (.tmp 30))]
def W3:List TOp:=[oo 31 (.mov (.tmp 0)),oo 32 (.call 0 2 (.cst (.fn 91)) [(.tmp 31)] [] [.ext 0]),oo 4 (.mov (.tmp 32))]
def W4:List TOp:=[oo 33 (.mov (.tmp 0)),oo 34 (.mov (.tmp 1)),oo 35 (.bin false .add (.tmp 34) (.cst (.int .i64 1))),oo 36 (.call 0 2 (.cst (.fn 55)) [(.tmp 33),(.tmp 35)] [] [.ext 0]),oo 5 (.mov (.tmp 36))]
def W5:List TOp:=[oo 38 (.mov (.tmp 0)),oo 39 (.mov (.tmp 1)),oo 40 (.call 0 2 (.cst (.fn 92)) [(.tmp 38),(.tmp 39)] [] [.ext 0]),oo 37 (.mov (.tmp 40)),oo 41 (.ext 0 (.tmp 37)),oo 42 (.ext 1 (.tmp 37)),oo 6 (.mov (.tmp 41)),oo 7 (.mov (.tmp 42))]
def W6:List TOp:=[oo 43 (.mov (.tmp 7))]
def W7:List TOp:=[oo 50 (.mov (.tmp 0)),oo 51 (.nchk (.tmp 50)),oo 52 (.fld 1 (.tmp 51)),oo 53 (.load false 1 (.tmp 52)),oo 54 (.bin false .add (.tmp 53) (.cst (.int .i64 1))),oo 55 (.nchk (.tmp 50)),oo 56 (.fld 1 (.tmp 55)),on (.store 1 (.tmp 56) (.tmp 54))]
def W8:List TOp:=[oo 57 (.mov (.tmp 6)),oo 58 (.mov (.tmp 5)),oo 59 (.mov (.tmp 0)),oo 60 (.mov (.tmp 1)),oo 61 (.bin false .add (.tmp 60) (.cst (.int .i64 1))),oo 62 (.call 0 2 (.cst (.fn 55)) [(.tmp 59),(.tmp 61)] [] [.ext 0]),ot 63 (.sl (.st 4)) (.lit false 1 [(.tmp 58),(.tmp 62)]),oo 64 (.call 0 0 (.cst (.fn 57)) [(.tmp 57),(.tmp 63)] [] []),oo 5 (.mov (.tmp 64))]
def W9:List TOp:=[oo 65 (.mov (.tmp 1)),oo 66 (.bin false .eql (.tmp 65) (.cst (.int .i64 4)))]
def Xa:List TOp:=[oo 45 (.mov (.tmp 0)),oo 46 (.mov (.tmp 1)),oo 47 (.call 0 2 (.cst (.fn 92)) [(.tmp 45),(.tmp 46)] [] [.ext 0]),oo 44 (.mov (.tmp 47)),oo 48 (.ext 0 (.tmp 44)),oo 49 (.ext 1 (.tmp 44)),oo 6 (.mov (.tmp 48)),oo 7 (.mov (.tmp 49))]
def Wz:DC:=(.seq (.seq (.ops W6) (.cond (.tmp 43) .skip (.exit 1))) (.seq (.pass 2 (.seq (.ops W7) (.seq (.ops W8) (.seq (.ops W9) (.cond (.tmp 66) (.exit 1) .skip))))) (.ops Xa)))
def Wx:Kp:=⟨[],[(0,false),(1,false),(5,false),(6,false),(7,false)],[(.ext 0,false)],[],[]⟩
def Xc:Sig:=⟨[(0,some (.ptr (.ext 0) 0)),(1,none),(5,some (.ty (.sl (.st 4)))),(6,some (.ty (.int .i64))),(7,some (.ty .bool))],[(.ext 0,(.st 3))],[(.sl (.st 4)),(.int .i64),.bool,(.st 3)],[],[]⟩
def Wy:Kp:=⟨[],[(5,false)],[(.ext 0,false)],[],[]⟩
def Xd:Sig:=⟨[(5,some (.ty (.sl (.st 4))))],[(.ext 0,(.st 3))],[(.sl (.st 4)),(.st 3)],[],[]⟩
def Xb:List TOp:=[oo 67 (.mov (.tmp 5)),oo 4 (.mov (.tmp 67))]
def Aca:TFd:=⟨2,[(.tmp 4,.bool)],[],(.seq (.ops X6) (.seq (.seq (.ops X7) (.cond (.tmp 11) (.free (.seq (.ops X8) (.keep Ce .ret))) .skip)) (.seq (.seq (.ops X9) (.pass 0 (.seq (.ops Ya) (.cond (.tmp 13) (.free (.seq (.seq (.ops Yb) (.cond (.tmp 16) (.free (.seq (.ops Yc) (.keep Ce .ret))) .skip)) (.seq (.ops Yd) (.keep Ce .ret)))) (.seq (.ops Ye) (.cond (.tmp 23) (.free (.seq (.seq (.ops W0) (.cond (.tmp 26) (.free (.seq (.ops W1) (.keep Ce .ret))) .skip)) (.seq (.ops W3) (.keep Ce .ret)))) .skip)))))) (.seq (.ops W4) (.seq (.seq (.ops W5) (.join Wy Xd (.block 1 (.loop [0,1,5,6,7] [] Wx Xc Wz)))) (.seq (.ops Xb) (.keep Ce .ret)))))))⟩
noncomputable def F9(fuel:Nat):Ent:=⟨[.ptr (.ext 0) 0,.ty (.int .i64)],[.st 3],[(.int .i64),(.st 3)],⟨(.ty (.sl (.st 4))),[],[some (.st 3)],[(.sl (.st 4)),(.st 3)],[],[]⟩,none,fun p=>parse_reader_level fuel p.1 p.2⟩
def Ue:List TOp:=[oo 2 (.mov .nils)]
def Uf:List TOp:=[oo 9 (.mov (.tmp 0)),oo 10 (.call 0 2 (.cst (.fn 54)) [(.tmp 9),(.cst (.str [40]))] [] [.ext 0]),oo 8 (.mov (.tmp 10))]
def Ug:List TOp:=[oo 11 (.mov (.tmp 0)),oo 12 (.call 0 2 (.cst (.fn 30)) [(.tmp 11)] [] [.ext 0]),oo 3 (.mov (.tmp 12))]
def Uh:List TOp:=[oo 13 (.mov (.tmp 0)),ot 14 .str (.lit false 1 [(.cst (.str [41]))]),oo 15 (.call 0 2 (.cst (.fn 56)) [(.tmp 13),(.tmp 14)] [] [.ext 0])]
def Ui:List TOp:=[oo 16 (.mov (.tmp 3)),oo 2 (.mov (.tmp 16))]
def Da:Kp:=⟨[],[(2,false)],[(.ext 0,false)],[],[]⟩
def Uj:List TOp:=[oo 18 (.mov (.tmp 0)),oo 19 (.call 0 2 (.cst (.fn 63)) [(.tmp 18),(.cst (.str [109,105,110]))] [] [.ext 0]),oo 20 (.mov (.tmp 19)),og 21 20 false .bool (.mov (.tmp 0)),og 22 20 false .bool (.call 0 2 (.cst (.fn 63)) [(.tmp 21),(.cst (.str [109,97,120]))] [] [.ext 0]),oo 23 (.pick (.tmp 20) (.cst (.bool true)) (.tmp 22)),oo 17 (.mov (.tmp 23))]
def Uk:List TOp:=[oo 4 (.mov (.cst (.int .i64 16)))]
def Ul:List TOp:=[oo 24 (.mov (.tmp 0)),oo 25 (.call 0 2 (.cst (.fn 63)) [(.tmp 24),(.cst (.str [109,97,120]))] [] [.ext 0])]
def Um:List TOp:=[oo 4 (.mov (.cst (.int .i64 17)))]
def Ro:Kp:=⟨[],[(0,false),(4,false)],[(.ext 0,false)],[],[]⟩
def R4:Sig:=⟨[(0,some (.ptr (.ext 0) 0)),(4,some (.ty (.int .i64)))],[(.ext 0,(.box [none,none,none]))],[(.int .i64)],[],[]⟩
def Rq:List TOp:=[oo 26 (.mov (.tmp 0)),oo 27 (.nchk (.tmp 26)),oo 28 (.fld 1 (.tmp 27)),oo 29 (.load false 1 (.tmp 28)),oo 30 (.bin false .add (.tmp 29) (.cst (.int .i64 1))),oo 31 (.nchk (.tmp 26)),oo 32 (.fld 1 (.tmp 31)),on (.store 1 (.tmp 32) (.tmp 30))]
def Rr:List TOp:=[oo 33 (.mov (.tmp 0)),ot 34 .str (.lit false 1 [(.cst (.str [40]))]),oo 35 (.call 0 2 (.cst (.fn 56)) [(.tmp 33),(.tmp 34)] [] [.ext 0])]
def Rt:List TOp:=[oo 36 (.mov (.tmp 0)),oo 37 (.call 0 2 (.cst (.fn 30)) [(.tmp 36)] [] [.ext 0]),oo 5 (.mov (.tmp 37))]
def Ru:List TOp:=[oo 38 (.mov (.tmp 0)),ot 39 .str (.lit false 1 [(.cst (.str [44]))]),oo 40 (.call 0 2 (.cst (.fn 56)) [(.tmp 38),(.tmp 39)] [] [.ext 0])]
def Rv:List TOp:=[oo 41 (.mov (.tmp 0)),oo 42 (.call 0 2 (.cst (.fn 30)) [(.tmp 41)] [] [.ext 0]),oo 6 (.mov (.tmp 42))]
def Rw:List TOp:=[oo 43 (.mov (.tmp 0)),ot 44 .str (.lit false 1 [(.cst (.str [41]))]),oo 45 (.call 0 2 (.cst (.fn 56)) [(.tmp 43),(.tmp 44)] [] [.ext 0])]
def Rx:List TOp:=[oo 46 (.mov (.tmp 4)),oo 47 (.mov (.tmp 5)),oo 48 (.mov (.tmp 6)),ot 49 (.sl (.st 4)) (.lit false 1 [(.tmp 47),(.tmp 48)]),oo 50 (.call 0 0 (.cst (.fn 57)) [(.tmp 46),(.tmp 49)] [] []),oo 2 (.mov (.tmp 50))]
def Ry:List TOp:=[oo 52 (.mov (.tmp 0)),oo 53 (.nchk (.tmp 52)),oo 54 (.fld 1 (.tmp 53)),oo 55 (.load false 1 (.tmp 54)),oo 56 (.mov (.tmp 0)),oo 57 (.nchk (.tmp 56)),oo 58 (.fld 0 (.tmp 57)),oo 59 (.load false 1 (.tmp 58)),oo 60 (.len false (.tmp 59)),oo 61 (.bin false .lss (.tmp 55) (.tmp 60)),oo 62 (.mov (.tmp 61)),og 63 62 true .bool (.mov (.tmp 0)),og 64 62 true .bool (.nchk (.tmp 63)),og 65 62 true .bool (.fld 0 (.tmp 64)),og 66 62 true .bool (.load false 1 (.tmp 65)),og 67 62 true .bool (.mov (.tmp 0)),og 68 62 true .bool (.nchk (.tmp 67)),og 69 62 true .bool (.fld 1 (.tmp 68)),og 70 62 true .bool (.load false 1 (.tmp 69)),og 71 62 true .bool (.idx 4 (.tmp 66) (.tmp 70)),og 72 62 true .bool (.fld 0 (.tmp 71)),og 73 62 true .bool (.load false 1 (.tmp 72)),og 74 62 true .bool (.bin false .eql (.tmp 73) (.cst (.int .i64 1))),oo 75 (.pick (.tmp 62) (.tmp 74) (.cst (.bool false))),oo 51 (.mov (.tmp 75))]
def Rz:List TOp:=[oo 76 (.mov (.tmp 0)),oo 77 (.call 0 2 (.cst (.fn 61)) [(.tmp 76),(.cst (.int .i64 1)),(.cst (.bool false))] [] [.ext 0]),oo 7 (.mov (.tmp 77))]
def R0:List TOp:=[oo 78 (.mov (.tmp 0)),oo 79 (.call 0 2 (.cst (.fn 54)) [(.tmp 78),(.cst (.str [37]))] [] [.ext 0])]
def R1:List TOp:=[oo 80 (.mov (.tmp 7)),oo 81 (.bin false .add (.tmp 80) (.cst (.str [37]))),oo 7 (.mov (.tmp 81))]
def Rp:Kp:=⟨[],[(7,false)],[(.ext 0,false)],[],[]⟩
def R5:Sig:=⟨[(7,some (.ty .str))],[(.ext 0,(.box [none,none,none]))],[.str],[],[]⟩
def R2:List TOp:=[oo 82 (.mov (.tmp 7)),ot 83 (.st 4) (.build [.pv (.int .i64 0),.pv (.str [])] [(0,1,(.cst (.int .i64 0))),(1,1,(.tmp 82))]),ot 84 (.st 4) (.lit false 2 [(.tmp 83)]),oo 2 (.mov (.tmp 84))]
def R3:List TOp:=[oo 85 (.mov (.tmp 0)),oo 86 (.call 0 2 (.cst (.fn 61)) [(.tmp 85),(.cst (.int .i64 0)),(.cst (.bool false))] [] [.ext 0]),ot 87 (.st 4) (.build [.pv (.int .i64 0),.pv (.str [])] [(0,1,(.cst (.int .i64 1))),(1,1,(.tmp 86))]),ot 88 (.st 4) (.lit false 2 [(.tmp 87)]),oo 2 (.mov (.tmp 88))]
def Yf:TFd:=⟨1,[(.tmp 2,.bool)],[],(.seq (.ops Ue) (.seq (.pass 0 (.seq (.ops Uf) (.cond (.tmp 8) (.free (.seq (.ops Ug) (.seq (.ops Uh) (.seq (.ops Ui) (.keep Da .ret))))) (.seq (.ops Uj) (.cond (.tmp 17) (.free (.seq (.ops Uk) (.seq (.seq (.ops Ul) (.join Ro R4 (.cond (.tmp 25) (.ops Um) .skip))) (.seq (.ops Rq) (.seq (.ops Rr) (.seq (.ops Rt) (.seq (.ops Ru) (.seq (.ops Rv) (.seq (.ops Rw) (.seq (.ops Rx) (.keep Da .ret))))))))))) (.seq (.draw [] Ry) (.cond (.tmp 51) (.free (.seq (.ops Rz) (.seq (.seq (.ops R0) (.join Rp R5 (.cond (.tmp 79) (.ops R1) .skip))) (.seq (.ops R2) (.keep Da .ret))))) .skip))))))) (.seq (.ops R3) (.keep Da .ret))))⟩
noncomputable def H9(fuel:Nat):Ent:=⟨[.ptr (.ext 0) 0],[.st 3],[(.st 3)],⟨(.ty (.sl (.st 4))),[],[some (.st 3)],[(.sl (.st 4)),(.st 3)],[],[]⟩,none,fun p=>parse_reader_primary fuel p⟩
theorem Bm: ∀fuel:Nat,(Cz fuel).ok Tryz.prog 30∧(F9 fuel).ok Tryz.prog 55∧(H9 fuel).ok Tryz.prog 91
 |0=>⟨(fun p r h=>(by have h:none=some r:=h;cases h)),(fun p r h=>(by have h:none=some r:=h;cases h)),(fun p r h=>(by have h:none=some r:=h;cases h))⟩
 |fuel+1=>⟨
  Ay hm Tryz.func30 (fd:=Agg) (by kernel_rfl) (Ao (l:=[(54,De),(55,(F9 fuel)),(30,(Cz fuel)),(56,Dd),(57,Nf)]) (y:=[]) ⟨D4,(Bm fuel).2.1,(Bm fuel).1,D3,Rk,trivial⟩ trivial) (by kernel_rfl) (fun p=>by kernel_rfl),
  Ay hm Tryz.func55 (fd:=Aca) (by kernel_rfl) (Ao (l:=[(54,De),(55,(F9 fuel)),(57,Nf),(91,(H9 fuel)),(92,H8)]) (y:=[]) ⟨D4,(Bm fuel).2.1,Rk,(Bm fuel).2.2,Tp,trivial⟩ trivial) (by kernel_rfl) (fun p=>by kernel_rfl),
  Ay hm Tryz.func91 (fd:=Yf) (by kernel_rfl) (Ao (l:=[(54,De),(30,(Cz fuel)),(56,Dd),(63,Fv),(57,Nf),(61,Ej)]) (y:=[]) ⟨D4,(Bm fuel).1,D3,G9,Rk,Ga,trivial⟩ trivial) (by kernel_rfl) (fun p=>by kernel_rfl)⟩
theorem M1(fuel:Nat):(Cz fuel).ok Tryz.prog 30:=(Bm fuel).1
def Axo:List TOp:=[oo 2 (.mov (.cst (.int .i64 0)))]
def Axp:List TOp:=[oo 4 (.mov (.tmp 0)),oo 5 (.bin false .lss (.tmp 4) (.cst (.int .i64 0))),oo 6 (.mov (.tmp 5)),og 7 6 false .bool (.mov (.tmp 0)),og 8 6 false .bool (.bin false .gtr (.tmp 7) (.cst (.int .i64 17))),oo 9 (.pick (.tmp 6) (.cst (.bool true)) (.tmp 8)),oo 3 (.mov (.tmp 9))]
def Axq:List TOp:=[oo 2 (.mov (.cst (.int .i64 (-1))))]
def Ib:Kp:=⟨[],[(2,false)],[],[],[]⟩
def Axr:List TOp:=[oo 11 (.mov (.tmp 0)),oo 12 (.bin false .leq (.tmp 11) (.cst (.int .i64 1))),oo 10 (.mov (.tmp 12))]
def Axs:List TOp:=[oo 2 (.mov (.cst (.int .i64 0)))]
def Axt:List TOp:=[oo 14 (.mov (.tmp 0)),oo 15 (.bin false .eql (.tmp 14) (.cst (.int .i64 2))),oo 16 (.mov (.tmp 15)),og 17 16 false .bool (.mov (.tmp 0)),og 18 16 false .bool (.bin false .eql (.tmp 17) (.cst (.int .i64 14))),oo 19 (.pick (.tmp 16) (.cst (.bool true)) (.tmp 18)),oo 13 (.mov (.tmp 19))]
def Axu:List TOp:=[oo 2 (.mov (.cst (.int .i64 1)))]
def Axv:List TOp:=[oo 21 (.mov (.tmp 0)),oo 22 (.bin false .eql (.tmp 21) (.cst (.int .i64 15))),oo 20 (.mov (.tmp 22))]
def Axw:List TOp:=[oo 2 (.mov (.cst (.int .i64 3)))]
def Ars:List TOp:=[oo 2 (.mov (.cst (.int .i64 2)))]
def A5y:TFd:=⟨1,[(.tmp 2,.bool)],[],(.seq (.ops Axo) (.seq (.pass 0 (.seq (.ops Axp) (.cond (.tmp 3) (.free (.seq (.ops Axq) (.keep Ib .ret))) (.seq (.ops Axr) (.cond (.tmp 10) (.free (.seq (.ops Axs) (.keep Ib .ret))) (.seq (.ops Axt) (.cond (.tmp 13) (.free (.seq (.ops Axu) (.keep Ib .ret))) (.seq (.ops Axv) (.cond (.tmp 20) (.free (.seq (.ops Axw) (.keep Ib .ret))) .skip))))))))) (.seq (.ops Ars) (.keep Ib .ret))))⟩
def Zn:Ent:=⟨[.ty (.int .i64)],[],[(.int .i64)],⟨(.ty (.int .i64)),[],[],[(.int .i64)],[],[]⟩,none,fun p=>Od p⟩
theorem Afz:Zn.ok Tryz.prog 68:=Ay hm Tryz.func68 (fd:=A5y) (by kernel_rfl) (Ao (l:=[]) (y:=[]) trivial trivial) (by kernel_rfl) (fun p=>by kernel_rfl)
def Sy:List TOp:=[oo 4 (.mov (.cst (.bool false)))]
def S0:List TOp:=[oo 5 (.mov (.tmp 0)),oo 6 (.len true (.tmp 5)),oo 7 (.mov (.tmp 1)),oo 8 (.len true (.tmp 7)),oo 9 (.bin false .geq (.tmp 6) (.tmp 8)),oo 10 (.mov (.tmp 9)),og 11 10 true .bool (.mov (.tmp 0)),og 12 10 true .bool (.mov (.tmp 0)),og 13 10 true .bool (.len true (.tmp 12)),og 14 10 true .bool (.mov (.tmp 1)),og 15 10 true .bool (.len true (.tmp 14)),og 16 10 true .bool (.bin false .sub (.tmp 13) (.tmp 15)),og 17 10 true .bool (.slc true 0 (.tmp 11) (some (.tmp 16)) none),og 18 10 true .bool (.mov (.tmp 1)),og 19 10 true .bool (.bin false .eql (.tmp 17) (.tmp 18)),oo 20 (.pick (.tmp 10) (.tmp 19) (.cst (.bool false))),oo 4 (.mov (.tmp 20))]
def Sx:Kp:=⟨[],[(4,false)],[],[],[]⟩
def Xf:TFd:=⟨2,[(.tmp 4,.bool)],[],(.seq (.ops Sy) (.seq (.ops S0) (.keep Sx .ret)))⟩
def Et:Ent:=⟨[.ty .str,.ty .str],[],[.str,.str],⟨(.ty .bool),[],[],[.bool],[],[]⟩,none,fun p=>stringslite_HasSuffix p.1 p.2⟩
theorem G1:Et.ok Tryz.prog 140:=Ay hm Tryz.func140 (fd:=Xf) (by kernel_rfl) (Ao (l:=[]) (y:=[]) trivial trivial) (by kernel_rfl) (fun p=>by kernel_rfl)
def Qh:List TOp:=[oo 4 (.mov (.cst (.str [])))]
def Qi:List TOp:=[oo 5 (.mov (.tmp 0)),oo 6 (.mov (.tmp 1)),oo 7 (.call 0 0 (.cst (.fn 140)) [(.tmp 5),(.tmp 6)] [] [])]
def Qj:List TOp:=[oo 8 (.mov (.tmp 0)),oo 9 (.mov (.tmp 0)),oo 10 (.len true (.tmp 9)),oo 11 (.mov (.tmp 1)),oo 12 (.len true (.tmp 11)),oo 13 (.bin false .sub (.tmp 10) (.tmp 12)),oo 14 (.slc true 0 (.tmp 8) none (some (.tmp 13))),oo 4 (.mov (.tmp 14))]
def Gj:Kp:=⟨[],[(4,false)],[],[],[]⟩
def Qk:List TOp:=[oo 15 (.mov (.tmp 0)),oo 4 (.mov (.tmp 15))]
def U1:TFd:=⟨2,[(.tmp 4,.bool)],[],(.seq (.ops Qh) (.seq (.seq (.ops Qi) (.cond (.tmp 7) (.free (.seq (.ops Qj) (.keep Gj .ret))) .skip)) (.seq (.ops Qk) (.keep Gj .ret))))⟩
def G2:Ent:=⟨[.ty .str,.ty .str],[],[.str,.str],⟨(.ty .str),[],[],[.str],[],[]⟩,none,fun p=>stringslite_TrimSuffix p.1 p.2⟩
theorem Qn:G2.ok Tryz.prog 120:=Ay hm Tryz.func120 (fd:=U1) (by kernel_rfl) (Ao (l:=[(140,Et)]) (y:=[]) ⟨G1,trivial⟩ trivial) (by kernel_rfl) (fun p=>by kernel_rfl)
def Yi:List TOp:=[oo 4 (.mov (.cst (.str [])))]
def Yj:List TOp:=[oo 5 (.mov (.tmp 0)),oo 6 (.mov (.tmp 1)),oo 7 (.call 0 0 (.cst (.fn 120)) [(.tmp 5),(.tmp 6)] [] []),oo 4 (.mov (.tmp 7))]
def Yh:Kp:=⟨[],[(4,false)],[],[],[]⟩
def Acb:TFd:=⟨2,[(.tmp 4,.bool)],[],(.seq (.ops Yi) (.seq (.ops Yj) (.keep Yh .ret)))⟩
def Mq:Ent:=⟨[.ty .str,.ty .str],[],[.str,.str],⟨(.ty .str),[],[],[.str],[],[]⟩,none,fun p=>strings_TrimSuffix p.1 p.2⟩
theorem Ym:Mq.ok Tryz.prog 106:=Ay hm Tryz.func106 (fd:=Acb) (by kernel_rfl) (Ao (l:=[(120,G2)]) (y:=[]) ⟨Qn,trivial⟩ trivial) (by kernel_rfl) (fun p=>by kernel_rfl)
def Av8:List TOp:=[oo 1 (.box (.tmp 0)),oo 2 (.mov (.cst (.bool false)))]
def Av9:List TOp:=[oo 6 (.fld 3 (.tmp 1)),oo 7 (.load false 1 (.tmp 6)),oo 8 (.bin false .eql (.tmp 7) (.cst (.str [])))]
def Awa:List TOp:=[oo 2 (.mov (.cst (.bool false)))]
def Af3:Kp:=⟨[],[(2,false)],[],[],[]⟩
def Awb:List TOp:=[oo 10 (.fld 3 (.tmp 1)),oo 11 (.load false 1 (.tmp 10)),oo 12 (.call 0 0 (.cst (.fn 89)) [(.tmp 11)] [] []),oo 9 (.mov (.tmp 12)),oo 13 (.ext 0 (.tmp 9)),oo 14 (.ext 1 (.tmp 9)),oo 15 (.ext 2 (.tmp 9)),oo 3 (.mov (.tmp 13)),oo 4 (.mov (.tmp 14)),oo 5 (.mov (.tmp 15))]
def Awc:List TOp:=[oo 16 (.mov (.tmp 5)),oo 17 (.bin false .eql (.tmp 16) (.cst (.int .i64 0))),oo 18 (.mov (.tmp 17)),og 19 18 true .bool (.mov (.tmp 3)),og 20 18 true .bool (.fld 0 (.tmp 1)),og 21 18 true .bool (.load false 1 (.tmp 20)),og 22 18 true .bool (.bin false .eql (.tmp 19) (.tmp 21)),oo 23 (.pick (.tmp 18) (.tmp 22) (.cst (.bool false))),oo 24 (.mov (.tmp 23)),og 25 24 true .bool (.mov (.tmp 4)),og 26 24 true .bool (.fld 3 (.tmp 1)),og 27 24 true .bool (.load false 1 (.tmp 26)),og 28 24 true .bool (.len true (.tmp 27)),og 29 24 true .bool (.bin false .eql (.tmp 25) (.tmp 28)),oo 30 (.pick (.tmp 24) (.tmp 29) (.cst (.bool false))),oo 2 (.mov (.tmp 30))]
def A5l:TFd:=⟨1,[(.tmp 2,.bool)],[],(.seq (.ops Av8) (.seq (.seq (.ops Av9) (.cond (.tmp 8) (.free (.seq (.ops Awa) (.keep Af3 .ret))) .skip)) (.seq (.ops Awb) (.seq (.ops Awc) (.keep Af3 .ret)))))⟩
noncomputable def Y8:Ent:=⟨[.ty (.st 2)],[],[(.st 2)],⟨(.ty .bool),[],[],[.bool],[],[]⟩,none,fun p=>Tg p⟩
theorem Afn:Y8.ok Tryz.prog 103:=Ay hm Tryz.func103 (fd:=A5l) (by kernel_rfl) (Ao (l:=[(89,Adr)]) (y:=[]) ⟨Aiw,trivial⟩ trivial) (by kernel_rfl) (fun p=>by kernel_rfl)
def Ajq:List TOp:=[oo 2 (.mov (.cst (.bool false)))]
def Ajr:List TOp:=[oo 3 (.mov (.tmp 0)),ot 4 (.st 2) (.build [.pv (.int .i64 0),.pv (.int .i64 0),.pv (.int .i64 0),.pv (.str [])] [(0,1,(.cst (.int .i64 1))),(3,1,(.tmp 3))]),oo 5 (.call 0 0 (.cst (.fn 103)) [(.tmp 4)] [] []),oo 2 (.mov (.tmp 5))]
def Ajp:Kp:=⟨[],[(2,false)],[],[],[]⟩
def Asf:TFd:=⟨1,[(.tmp 2,.bool)],[],(.seq (.ops Ajq) (.seq (.ops Ajr) (.keep Ajp .ret)))⟩
noncomputable def H7:Ent:=⟨[.ty .str],[],[.str],⟨(.ty .bool),[],[],[.bool],[],[]⟩,none,fun p=>D2 p⟩
theorem Mw:H7.ok Tryz.prog 75:=Ay hm Tryz.func75 (fd:=Asf) (by kernel_rfl) (Ao (l:=[(103,Y8)]) (y:=[]) ⟨Afn,trivial⟩ trivial) (by kernel_rfl) (fun p=>by kernel_rfl)
def Asr:List TOp:=[oo 4 (.mov (.cst (.bool false)))]
def Ass:List TOp:=[oo 5 (.mov (.tmp 0)),ot 6 (.st 2) (.build [.pv (.int .i64 0),.pv (.int .i64 0),.pv (.int .i64 0),.pv (.str [])] [(0,1,(.cst (.int .i64 0))),(3,1,(.tmp 5))]),oo 7 (.call 0 0 (.cst (.fn 103)) [(.tmp 6)] [] []),oo 8 (.mov (.tmp 7)),og 9 8 true .bool (.mov (.tmp 0)),og 10 8 true .bool (.mov (.tmp 1)),og 11 8 true .bool (.call 0 0 (.cst (.fn 96)) [(.tmp 9),(.tmp 10)] [] []),og 12 8 true .bool (.un .not (.tmp 11)),oo 13 (.pick (.tmp 8) (.tmp 12) (.cst (.bool false))),oo 4 (.mov (.tmp 13))]
def Asq:Kp:=⟨[],[(4,false)],[],[],[]⟩
def A17:TFd:=⟨2,[(.tmp 4,.bool)],[],(.seq (.ops Asr) (.seq (.ops Ass) (.keep Asq .ret)))⟩
noncomputable def V4:Ent:=⟨[.ty .str,.ty .bool],[],[.str,.bool],⟨(.ty .bool),[],[],[.bool],[],[]⟩,none,fun p=>J1 p.1 p.2⟩
theorem Ac1:V4.ok Tryz.prog 74:=Ay hm Tryz.func74 (fd:=A17) (by kernel_rfl) (Ao (l:=[(103,Y8),(96,Zo)]) (y:=[]) ⟨Afn,Af1,trivial⟩ trivial) (by kernel_rfl) (fun p=>by kernel_rfl)
def Art:List TOp:=[oo 1 (.box (.tmp 0)),oo 2 (.mov (.cst (.bool false)))]
def Aru:List TOp:=[oo 3 (.fld 0 (.tmp 1)),oo 4 (.load false 1 (.tmp 3))]
def Arv:List TOp:=[oo 6 (.bin false .eql (.tmp 4) (.cst (.int .i64 0))),oo 5 (.mov (.tmp 6))]
def Arw:List TOp:=[oo 7 (.fld 1 (.tmp 1)),oo 8 (.load false 1 (.tmp 7)),oo 9 (.call 0 0 (.cst (.fn 106)) [(.tmp 8),(.cst (.str [37]))] [] []),oo 10 (.call 0 0 (.cst (.fn 75)) [(.tmp 9)] [] []),oo 2 (.mov (.tmp 10))]
def Rn:Kp:=⟨[],[(2,false)],[],[],[]⟩
def Arx:List TOp:=[oo 12 (.bin false .eql (.tmp 4) (.cst (.int .i64 1))),oo 11 (.mov (.tmp 12))]
def Ary:List TOp:=[oo 13 (.fld 1 (.tmp 1)),oo 14 (.load false 1 (.tmp 13)),oo 15 (.call 0 0 (.cst (.fn 74)) [(.tmp 14),(.cst (.bool false))] [] []),oo 2 (.mov (.tmp 15))]
def Arz:List TOp:=[oo 16 (.fld 1 (.tmp 1)),oo 17 (.load false 1 (.tmp 16)),oo 18 (.bin false .eql (.tmp 17) (.cst (.str []))),oo 2 (.mov (.tmp 18))]
def A14:TFd:=⟨1,[(.tmp 2,.bool)],[],(.seq (.ops Art) (.seq (.seq (.ops Aru) (.pass 0 (.seq (.ops Arv) (.cond (.tmp 5) (.free (.seq (.ops Arw) (.keep Rn .ret))) (.seq (.ops Arx) (.cond (.tmp 11) (.free (.seq (.ops Ary) (.keep Rn .ret))) .skip)))))) (.seq (.ops Arz) (.keep Rn .ret))))⟩
noncomputable def Af0:Ent:=⟨[.ty (.st 4)],[],[(.st 4)],⟨(.ty .bool),[],[],[.bool],[],[]⟩,none,fun p=>V1 p⟩
theorem Aql:Af0.ok Tryz.prog 81:=Ay hm Tryz.func81 (fd:=A14) (by kernel_rfl) (Ao (l:=[(106,Mq),(75,H7),(74,V4)]) (y:=[]) ⟨Ym,Mw,Ac1,trivial⟩ trivial) (by kernel_rfl) (fun p=>by kernel_rfl)
def Asg:List TOp:=[oo 2 (.mov .nils),oo 3 (.mov (.cst (.int .i64 0)))]
def Ash:List TOp:=[oo 8 (.mov (.tmp 0)),oo 9 (.len false (.tmp 8)),oo 10 (.bin false .eql (.tmp 9) (.cst (.int .i64 0))),oo 11 (.mov (.tmp 10)),og 12 11 false .bool (.mov (.tmp 0)),og 13 11 false .bool (.idx 2 (.tmp 12) (.cst (.int .i64 0))),og 14 11 false .bool (.fld 0 (.tmp 13)),og 15 11 false .bool (.load false 1 (.tmp 14)),og 16 11 false .bool (.call 0 0 (.cst (.fn 68)) [(.tmp 15)] [] []),og 17 11 false .bool (.bin false .lss (.tmp 16) (.cst (.int .i64 0))),oo 18 (.pick (.tmp 11) (.cst (.bool true)) (.tmp 17)),oo 19 (.mov (.tmp 18)),og 20 19 false .bool (.mov (.tmp 0)),og 21 19 false .bool (.idx 2 (.tmp 20) (.cst (.int .i64 0))),og 22 19 false (.st 4) (.load true 2 (.tmp 21)),og 23 19 false .bool (.call 0 0 (.cst (.fn 81)) [(.tmp 22)] [] []),og 24 19 false .bool (.un .not (.tmp 23)),oo 25 (.pick (.tmp 19) (.cst (.bool true)) (.tmp 24))]
def Asi:List TOp:=[oo 2 (.mov .nils),oo 3 (.mov (.cst (.int .i64 0)))]
def Sq:Kp:=⟨[],[(2,true),(3,false)],[],[],[]⟩
def Asj:List TOp:=[oo 26 (.mov (.tmp 0)),ot 27 (.st 4) (.slc false 2 (.tmp 26) (some (.cst (.int .i64 1))) none),oo 4 (.mov (.tmp 27)),oo 5 (.mov (.cst (.int .i64 0)))]
def Asl:List TOp:=[oo 28 (.mov (.tmp 0)),oo 29 (.idx 2 (.tmp 28) (.cst (.int .i64 0))),oo 30 (.fld 0 (.tmp 29)),oo 31 (.load false 1 (.tmp 30)),oo 32 (.call 0 0 (.cst (.fn 68)) [(.tmp 31)] [] []),oo 33 (.mov (.cst (.int .i64 0)))]
def Asm:List TOp:=[oo 34 (.bin false .lss (.tmp 33) (.tmp 32))]
def Asn:List TOp:=[oo 36 (.mov (.tmp 4)),oo 37 (.call 0 0 (.cst (.fn 46)) [(.tmp 36)] [] []),oo 35 (.mov (.tmp 37)),oo 38 (.ext 0 (.tmp 35)),oo 39 (.ext 1 (.tmp 35)),oo 6 (.mov (.tmp 38)),oo 7 (.mov (.tmp 39))]
def Aso:List TOp:=[oo 40 (.mov (.tmp 7)),oo 41 (.bin false .eql (.tmp 40) (.cst (.int .i64 0)))]
def Asp:List TOp:=[oo 2 (.mov .nils),oo 3 (.mov (.cst (.int .i64 0)))]
def Aos:List TOp:=[oo 42 (.mov (.tmp 6)),oo 43 (.mov (.tmp 5)),oo 44 (.mov (.tmp 7)),oo 45 (.mm true (.tmp 43) [(.tmp 44)]),oo 4 (.mov (.tmp 42)),oo 5 (.mov (.tmp 45))]
def Aot:List TOp:=[oo 46 (.bin false .add (.tmp 33) (.cst (.int .i64 1))),oo 33 (.mov (.tmp 46))]
def Aor:DC:=(.seq (.ops Asm) (.seq (.cond (.tmp 34) .skip (.exit 0)) (.seq (.pass 1 (.seq (.ops Asn) (.seq (.seq (.ops Aso) (.cond (.tmp 41) (.free (.seq (.ops Asp) (.keep Sq .ret))) .skip)) (.ops Aos)))) (.ops Aot))))
def Aop:Kp:=⟨[],[(4,false),(5,false),(32,false),(33,false)],[],[],[]⟩
def Aov:Sig:=⟨[(4,some (.ty (.sl (.st 4)))),(5,some (.ty (.int .i64))),(32,none),(33,some (.ty (.int .i64)))],[],[(.sl (.st 4)),(.int .i64),(.int .i64)],[],[]⟩
def Aoq:Kp:=⟨[],[(4,false),(5,false)],[],[],[]⟩
def Aow:Sig:=⟨[(4,some (.ty (.sl (.st 4)))),(5,some (.ty (.int .i64)))],[],[(.sl (.st 4)),(.int .i64)],[],[]⟩
def Aou:List TOp:=[oo 47 (.mov (.tmp 4)),oo 48 (.mov (.tmp 5)),oo 49 (.bin false .add (.tmp 48) (.cst (.int .i64 1))),oo 2 (.mov (.tmp 47)),oo 3 (.mov (.tmp 49))]
def A16:TFd:=⟨1,[(.tmp 2,.bool),(.tmp 3,.bool)],[],(.seq (.ops Asg) (.seq (.seq (.ops Ash) (.cond (.tmp 25) (.free (.seq (.ops Asi) (.keep Sq .ret))) .skip)) (.seq (.ops Asj) (.seq (.seq (.ops Asl) (.joinO Aoq Aow (.block 0 (.loop [4,5,32,33] [] Aop Aov Aor)))) (.seq (.ops Aou) (.keep Sq .ret))))))⟩
noncomputable def V3(fuel:Nat):Ent:=⟨[.ty (.sl (.st 4))],[],[(.sl (.st 4))],⟨(.tup [(.ty (.sl (.st 4))),(.ty (.int .i64))]),[],[],[(.sl (.st 4)),(.int .i64)],[],[]⟩,none,fun p=>Ha fuel p⟩
theorem Ac0: ∀fuel:Nat,(V3 fuel).ok Tryz.prog 46
 |0=>fun p r h=>by have h:none=some r:=h;cases h
 |fuel+1=>Ay hm Tryz.func46 (fd:=A16) (by kernel_rfl) (Ao (l:=[(68,Zn),(81,Af0),(46,(V3 fuel))]) (y:=[]) ⟨Afz,Aql,(Ac0 fuel),trivial⟩ trivial) (by kernel_rfl) (fun p=>by kernel_rfl)
def Ank:List TOp:=[oo 2 (.mov (.cst (.int .i64 0)))]
def Anl:List TOp:=[oo 5 (.mov (.tmp 0)),oo 6 (.len false (.tmp 5)),oo 7 (.bin false .gtr (.tmp 6) (.cst (.int .i64 200)))]
def Anm:List TOp:=[oo 2 (.mov (.cst (.int .i64 0)))]
def O0:Kp:=⟨[],[(2,false)],[],[],[]⟩
def Ann:List TOp:=[oo 9 (.mov (.tmp 0)),oo 10 (.call 0 0 (.cst (.fn 46)) [(.tmp 9)] [] []),oo 8 (.mov (.tmp 10)),oo 11 (.ext 0 (.tmp 8)),oo 12 (.ext 1 (.tmp 8)),oo 3 (.mov (.tmp 11)),oo 4 (.mov (.tmp 12))]
def Ano:List TOp:=[oo 13 (.mov (.tmp 3)),oo 14 (.len false (.tmp 13)),oo 15 (.bin false .gtr (.tmp 14) (.cst (.int .i64 0))),oo 16 (.mov (.tmp 15)),og 17 16 false .bool (.mov (.tmp 4)),og 18 16 false .bool (.bin false .gtr (.tmp 17) (.cst (.int .i64 24))),oo 19 (.pick (.tmp 16) (.cst (.bool true)) (.tmp 18))]
def Anp:List TOp:=[oo 2 (.mov (.cst (.int .i64 0)))]
def Anq:List TOp:=[oo 20 (.mov (.tmp 4)),oo 2 (.mov (.tmp 20))]
def Axk:TFd:=⟨1,[(.tmp 2,.bool)],[],(.seq (.ops Ank) (.seq (.seq (.ops Anl) (.cond (.tmp 7) (.free (.seq (.ops Anm) (.keep O0 .ret))) .skip)) (.seq (.ops Ann) (.seq (.seq (.ops Ano) (.cond (.tmp 19) (.free (.seq (.ops Anp) (.keep O0 .ret))) .skip)) (.seq (.ops Anq) (.keep O0 .ret))))))⟩
noncomputable def Ri:Ent:=⟨[.ty (.sl (.st 4))],[],[(.sl (.st 4))],⟨(.ty (.int .i64)),[],[],[(.int .i64)],[],[]⟩,none,fun p=>Lm p⟩
theorem Zl:Ri.ok Tryz.prog 21:=Ay hm Tryz.func21 (fd:=Axk) (by kernel_rfl) (Ao (l:=[(46,(V3 100000))]) (y:=[]) ⟨(Ac0 100000),trivial⟩ trivial) (by kernel_rfl) (fun p=>by kernel_rfl)
def Anx:List TOp:=[oo 2 (.mov (.cst (.bool false)))]
def Anz:List TOp:=[oo 3 (.mov (.tmp 0)),oo 4 (.call 0 0 (.cst (.fn 21)) [(.tmp 3)] [] []),oo 5 (.bin false .gtr (.tmp 4) (.cst (.int .i64 0))),oo 2 (.mov (.tmp 5))]
def Anw:Kp:=⟨[],[(2,false)],[],[],[]⟩
def Axm:TFd:=⟨1,[(.tmp 2,.bool)],[],(.seq (.ops Anx) (.seq (.ops Anz) (.keep Anw .ret)))⟩
noncomputable def Fl:Ent:=⟨[.ty (.sl (.st 4))],[],[(.sl (.st 4))],⟨(.ty .bool),[],[],[.bool],[],[]⟩,none,fun p=>Dk p⟩
theorem F8:Fl.ok Tryz.prog 23:=Ay hm Tryz.func23 (fd:=Axm) (by kernel_rfl) (Ao (l:=[(21,Ri)]) (y:=[]) ⟨Zl,trivial⟩ trivial) (by kernel_rfl) (fun p=>by kernel_rfl)
def Ab1:List TOp:=[oo 6 (.mov (.cst (.int .i64 0))),oo 7 (.mov (.cst (.int .i64 0))),oo 8 (.mov (.cst (.int .i64 0)))]
def Ab2:List TOp:=[oo 13 (.mov (.tmp 0)),oo 14 (.nchk (.tmp 13)),oo 15 (.fld 1 (.tmp 14)),oo 16 (.load false 1 (.tmp 15)),oo 17 (.mov (.tmp 0)),oo 18 (.nchk (.tmp 17)),oo 19 (.fld 0 (.tmp 18)),oo 20 (.load false 1 (.tmp 19)),oo 21 (.len false (.tmp 20)),oo 22 (.bin false .lss (.tmp 16) (.tmp 21)),oo 12 (.mov (.tmp 22))]
def Ab3:List TOp:=[oo 23 (.mov (.tmp 0)),oo 24 (.nchk (.tmp 23)),oo 25 (.fld 0 (.tmp 24)),oo 26 (.load false 1 (.tmp 25)),oo 27 (.mov (.tmp 0)),oo 28 (.nchk (.tmp 27)),oo 29 (.fld 1 (.tmp 28)),oo 30 (.load false 1 (.tmp 29)),oo 31 (.idx 4 (.tmp 26) (.tmp 30)),oo 32 (.fld 1 (.tmp 31)),oo 33 (.load false 1 (.tmp 32)),oo 34 (.mov (.tmp 0)),oo 35 (.nchk (.tmp 34)),oo 36 (.fld 0 (.tmp 35)),oo 37 (.load false 1 (.tmp 36)),oo 38 (.mov (.tmp 0)),oo 39 (.nchk (.tmp 38)),oo 40 (.fld 1 (.tmp 39)),oo 41 (.load false 1 (.tmp 40)),oo 42 (.idx 4 (.tmp 37) (.tmp 41)),oo 43 (.fld 2 (.tmp 42)),oo 44 (.load false 1 (.tmp 43)),oo 6 (.mov (.tmp 33)),oo 7 (.mov (.tmp 44)),oo 8 (.mov (.cst (.int .i64 14)))]
def Ek:Kp:=⟨[],[(6,false),(7,false),(8,false)],[(.ext 0,false)],[],[]⟩
def Ab4:List TOp:=[oo 46 (.mov (.tmp 0)),oo 47 (.nchk (.tmp 46)),oo 48 (.fld 2 (.tmp 47)),oo 49 (.load false 1 (.tmp 48)),oo 45 (.mov (.tmp 49))]
def Ab5:List TOp:=[oo 51 (.mov (.tmp 1)),oo 52 (.mov (.tmp 1)),oo 53 (.len true (.tmp 52)),oo 54 (.call 0 0 (.cst (.fn 53)) [(.tmp 51),(.tmp 53)] [] []),oo 50 (.mov (.tmp 54)),oo 55 (.ext 0 (.tmp 50)),oo 56 (.ext 1 (.tmp 50)),oo 57 (.ext 2 (.tmp 50)),oo 9 (.mov (.tmp 55)),oo 10 (.mov (.tmp 56)),oo 11 (.mov (.tmp 57))]
def Ab6:List TOp:=[oo 58 (.mov (.tmp 9)),oo 59 (.mov (.tmp 10)),oo 6 (.mov (.tmp 58)),oo 7 (.mov (.tmp 59)),oo 8 (.mov (.cst (.int .i64 14)))]
def Ab7:List TOp:=[oo 61 (.mov (.tmp 2)),oo 62 (.un .not (.tmp 61)),oo 60 (.mov (.tmp 62))]
def Ab8:List TOp:=[oo 6 (.mov (.cst (.int .i64 1))),oo 7 (.mov (.cst (.int .i64 1))),oo 8 (.mov (.cst (.int .i64 4)))]
def Ab9:List TOp:=[oo 6 (.mov (.cst (.int .i64 0))),oo 7 (.mov (.cst (.int .i64 0))),oo 8 (.mov (.cst (.int .i64 0)))]
def Agh:TFd:=⟨3,[(.tmp 6,.bool),(.tmp 7,.bool),(.tmp 8,.bool)],[],(.seq (.ops Ab1) (.seq (.pass 0 (.seq (.draw [] Ab2) (.cond (.tmp 12) (.free (.seq (.draw [] Ab3) (.keep Ek .ret))) (.seq (.ops Ab4) (.cond (.tmp 45) (.free (.seq (.ops Ab5) (.seq (.ops Ab6) (.keep Ek .ret)))) (.seq (.ops Ab7) (.cond (.tmp 60) (.free (.seq (.ops Ab8) (.keep Ek .ret))) .skip))))))) (.seq (.ops Ab9) (.keep Ek .ret))))⟩
def G8:Ent:=⟨[.ptr (.ext 0) 0,.ty .str,.ty .bool],[.st 3],[.str,.bool,(.st 3)],⟨(.tup [(.ty (.int .i64)),(.ty (.int .i64)),(.ty (.int .i64))]),[],[some .same],[(.int .i64),(.int .i64),(.int .i64)],[],[]⟩,none,fun p=>Ep p.1 p.2.1 p.2.2⟩
theorem M2:G8.ok Tryz.prog 31:=Ay hm Tryz.func31 (fd:=Agh) (by kernel_rfl) (Ao (l:=[(53,Y7)]) (y:=[]) ⟨Afm,trivial⟩ trivial) (by kernel_rfl) (fun p=>by kernel_rfl)
def Arj:List TOp:=[oo 2 (.mov .nils),oo 3 (.mov (.cst (.int .i64 0))),oo 4 (.mov (.cst (.int .i64 0))),oo 5 (.mov (.cst (.int .i64 0)))]
def Ark:List TOp:=[oo 15 (.mov (.tmp 0)),oo 16 (.call 1 0 (.cst (.fn 29)) [(.tmp 15)] [] []),oo 14 (.mov (.tmp 16)),oo 17 (.ext 0 (.tmp 14)),oo 18 (.ext 1 (.tmp 14)),oo 19 (.ext 2 (.tmp 14)),oo 20 (.ext 3 (.tmp 14)),oo 6 (.mov (.tmp 17)),oo 7 (.mov (.tmp 18)),oo 8 (.mov (.tmp 19)),oo 9 (.mov (.tmp 20))]
def Arl:List TOp:=[oo 21 (.mov (.tmp 9)),oo 22 (.bin false .neq (.tmp 21) (.cst (.int .i64 0)))]
def Arm:List TOp:=[oo 23 (.mov (.tmp 7)),oo 24 (.mov (.tmp 8)),oo 25 (.mov (.tmp 9)),oo 2 (.mov .nils),oo 3 (.mov (.tmp 23)),oo 4 (.mov (.tmp 24)),oo 5 (.mov (.tmp 25))]
def Rm:Kp:=⟨[],[(2,true),(3,false),(4,false),(5,false)],[],[],[]⟩
def Arn:List TOp:=[oo 26 (.mov (.tmp 6)),oo 27 (.call 0 2 (.cst (.fn 30)) [(.tmp 26)] [] [.loc 16 0]),oo 10 (.mov (.tmp 27))]
def Aro:List TOp:=[oo 29 (.mov (.tmp 6)),oo 30 (.mov (.tmp 0)),oo 31 (.mov (.tmp 10)),oo 32 (.call 0 0 (.cst (.fn 23)) [(.tmp 31)] [] []),oo 33 (.call 0 2 (.cst (.fn 31)) [(.tmp 29),(.tmp 30),(.tmp 32)] [] [.loc 16 0]),oo 28 (.mov (.tmp 33)),oo 34 (.ext 0 (.tmp 28)),oo 35 (.ext 1 (.tmp 28)),oo 36 (.ext 2 (.tmp 28)),oo 11 (.mov (.tmp 34)),oo 12 (.mov (.tmp 35)),oo 13 (.mov (.tmp 36))]
def Arp:List TOp:=[oo 37 (.mov (.tmp 13)),oo 38 (.bin false .neq (.tmp 37) (.cst (.int .i64 0)))]
def Arq:List TOp:=[oo 39 (.mov (.tmp 11)),oo 40 (.mov (.tmp 12)),oo 41 (.mov (.tmp 13)),oo 2 (.mov .nils),oo 3 (.mov (.tmp 39)),oo 4 (.mov (.tmp 40)),oo 5 (.mov (.tmp 41))]
def Arr:List TOp:=[oo 42 (.mov (.tmp 10)),oo 2 (.mov (.tmp 42)),oo 3 (.mov (.cst (.int .i64 0))),oo 4 (.mov (.cst (.int .i64 0))),oo 5 (.mov (.cst (.int .i64 0)))]
def A13:TFd:=⟨1,[(.tmp 2,.bool),(.tmp 3,.bool),(.tmp 4,.bool),(.tmp 5,.bool)],[],(.seq (.ops Arj) (.seq (.ops Ark) (.seq (.seq (.ops Arl) (.cond (.tmp 22) (.free (.seq (.ops Arm) (.keep Rm .ret))) .skip)) (.seq (.ops Arn) (.seq (.seq (.ops Aro) (.seq (.ops Arp) (.cond (.tmp 38) (.free (.seq (.ops Arq) (.keep Rm .ret))) .skip))) (.seq (.ops Arr) (.keep Rm .ret)))))))⟩
noncomputable def V0:Ent:=⟨[.ty .str],[],[.str],⟨(.tup [(.ty (.sl (.st 4))),(.ty (.int .i64)),(.ty (.int .i64)),(.ty (.int .i64))]),[],[],[(.sl (.st 4)),(.int .i64),(.int .i64),(.int .i64)],[],[]⟩,none,fun p=>Bz p⟩
theorem Acw:V0.ok Tryz.prog 9:=Ay hm Tryz.func9 (fd:=A13) (by kernel_rfl) (Ao (l:=[(29,Rj),(30,(Cz 100000)),(23,Fl),(31,G8)]) (y:=[]) ⟨Zm,(M1 100000),F8,M2,trivial⟩ trivial) (by kernel_rfl) (fun p=>by kernel_rfl)
def Acy:Ent:=⟨[.ty (.int .i64)],[],[.int .i64],⟨(.tup [(.ty (.int .i64)),(.ty .str),(.ty (.int .i64)),(.ty (.int .i64))]),[],[],[(.int .i64),.str,(.int .i64),(.int .i64)],[],[]⟩,none,fun p=>Zp p⟩
theorem Ahu:Acy.ok Tryz.prog 67:=fun p r h=>by
 have h:some (placeOf p)=some r:=h
 cases h
 exact Amz (es:=List.map (Bjc Bbq Ap.pv) (Bw.map fun p=>(p.1,(⟨p.2.1,p.2.2⟩:Ap)))) (by kernel_rfl) (Zr () _ (by kernel_rfl))
def Ss:List TOp:=[oo 4 (.mov (.cst (.str []))),oo 5 (.mov (.cst (.bool false)))]
def Su:List TOp:=[oo 6 (.mov (.tmp 0)),oo 7 (.mov (.tmp 1)),oo 8 (.call 0 0 (.cst (.fn 140)) [(.tmp 6),(.tmp 7)] [] []),oo 9 (.un .not (.tmp 8))]
def Sv:List TOp:=[oo 10 (.mov (.tmp 0)),oo 4 (.mov (.tmp 10)),oo 5 (.mov (.cst (.bool false)))]
def Gw:Kp:=⟨[],[(4,false),(5,false)],[],[],[]⟩
def Sw:List TOp:=[oo 11 (.mov (.tmp 0)),oo 12 (.mov (.tmp 0)),oo 13 (.len true (.tmp 12)),oo 14 (.mov (.tmp 1)),oo 15 (.len true (.tmp 14)),oo 16 (.bin false .sub (.tmp 13) (.tmp 15)),oo 17 (.slc true 0 (.tmp 11) none (some (.tmp 16))),oo 4 (.mov (.tmp 17)),oo 5 (.mov (.cst (.bool true)))]
def Xe:TFd:=⟨2,[(.tmp 4,.bool),(.tmp 5,.bool)],[],(.seq (.ops Ss) (.seq (.seq (.ops Su) (.cond (.tmp 9) (.free (.seq (.ops Sv) (.keep Gw .ret))) .skip)) (.seq (.ops Sw) (.keep Gw .ret))))⟩
def Hn:Ent:=⟨[.ty .str,.ty .str],[],[.str,.str],⟨(.tup [(.ty .str),(.ty .bool)]),[],[],[.str,.bool],[],[]⟩,none,fun p=>stringslite_CutSuffix p.1 p.2⟩
theorem S3:Hn.ok Tryz.prog 117:=Ay hm Tryz.func117 (fd:=Xe) (by kernel_rfl) (Ao (l:=[(140,Et)]) (y:=[]) ⟨G1,trivial⟩ trivial) (by kernel_rfl) (fun p=>by kernel_rfl)
def Aai:List TOp:=[oo 4 (.mov (.cst (.str []))),oo 5 (.mov (.cst (.bool false)))]
def Aaj:List TOp:=[oo 6 (.mov (.tmp 0)),oo 7 (.mov (.tmp 1)),oo 8 (.call 0 0 (.cst (.fn 117)) [(.tmp 6),(.tmp 7)] [] []),oo 9 (.ext 0 (.tmp 8)),oo 10 (.ext 1 (.tmp 8)),oo 4 (.mov (.tmp 9)),oo 5 (.mov (.tmp 10))]
def Aah:Kp:=⟨[],[(4,false),(5,false)],[],[],[]⟩
def Aeq:TFd:=⟨2,[(.tmp 4,.bool),(.tmp 5,.bool)],[],(.seq (.ops Aai) (.seq (.ops Aaj) (.keep Aah .ret)))⟩
def M4:Ent:=⟨[.ty .str,.ty .str],[],[.str,.str],⟨(.tup [(.ty .str),(.ty .bool)]),[],[],[.str,.bool],[],[]⟩,none,fun p=>strings_CutSuffix p.1 p.2⟩
theorem Aam:M4.ok Tryz.prog 99:=Ay hm Tryz.func99 (fd:=Aeq) (by kernel_rfl) (Ao (l:=[(117,Hn)]) (y:=[]) ⟨S3,trivial⟩ trivial) (by kernel_rfl) (fun p=>by kernel_rfl)
def U3:Ent:=⟨[.nils,.ty (.int .i64)],[],[(.int .i64)],⟨(.own (.res 0)),[some (.row .str)],[],[(.sl .str)],[],[]⟩,none,fun p=>Cq (List UInt8) 16 p⟩
theorem Acd:U3.ok Tryz.prog 100:=fun p r h=>by
 obtain⟨e1,e2⟩:=U5 (show Cq (List UInt8) 16 p=some r from h)
 subst e1
 exact Agt e2
def Kb:List TOp:=[oo 2 (.mov .nils)]
def Kc:List TOp:=[oo 3 (.mov (.cst (.int .i64 0)))]
def Kd:List TOp:=[oo 9 (.mov (.tmp 0)),oo 10 (.len false (.tmp 9)),oo 11 (.mov (.cst (.int .i64 0)))]
def Ke:List TOp:=[oo 12 (.bin false .lss (.tmp 11) (.tmp 10))]
def Kf:List TOp:=[oo 13 (.idx 1 (.tmp 9) (.tmp 11)),oo 14 (.load false 1 (.tmp 13)),oo 5 (.mov (.tmp 14))]
def Kg:List TOp:=[oo 15 (.mov (.tmp 3)),oo 16 (.mov (.tmp 5)),oo 17 (.len false (.tmp 16)),oo 18 (.bin false .add (.tmp 15) (.tmp 17)),oo 3 (.mov (.tmp 18))]
def Kh:List TOp:=[oo 19 (.mov (.tmp 3)),oo 20 (.bin false .lss (.tmp 19) (.cst (.int .i64 0)))]
def Er:Kp:=⟨[],[(0,false),(3,false),(9,false),(10,false),(11,false)],[],[],[]⟩
def Kj:Sig:=⟨[(0,none),(3,none),(9,none),(10,none),(11,none)],[],[],[],[]⟩
def Ki:List TOp:=[oo 22 (.bin false .add (.tmp 11) (.cst (.int .i64 1))),oo 11 (.mov (.tmp 22))]
def Jd:DC:=(.seq (.ops Ke) (.seq (.cond (.tmp 12) .skip (.exit 0)) (.seq (.pass 1 (.seq (.ops Kf) (.seq (.ops Kg) (.seq (.ops Kh) (.join Er Kj (.cond (.tmp 20) .stuck .skip)))))) (.ops Ki))))
def Jm:Sig:=⟨[(0,none),(3,some (.ty (.int .i64))),(9,none),(10,none),(11,some (.ty (.int .i64)))],[],[(.int .i64),(.int .i64)],[],[]⟩
def I9:Kp:=⟨[],[(0,false),(3,false)],[],[],[]⟩
def Jn:Sig:=⟨[(0,none),(3,some (.ty (.int .i64)))],[],[(.int .i64)],[],[]⟩
def Jf:List TOp:=[oo 23 (.mov (.tmp 3)),oo 24 (.call 1 3 (.cst (.fn 100)) [.nils,(.tmp 23)] [] []),oo 6 (.mov (.tmp 24))]
def Jg:List TOp:=[oo 25 (.mov (.tmp 0)),oo 26 (.len false (.tmp 25)),oo 27 (.mov (.cst (.int .i64 0)))]
def Jh:List TOp:=[oo 28 (.bin false .lss (.tmp 27) (.tmp 26))]
def Ji:List TOp:=[oo 29 (.idx 1 (.tmp 25) (.tmp 27)),oo 30 (.load false 1 (.tmp 29)),oo 8 (.mov (.tmp 30))]
def Jj:List TOp:=[oo 31 (.mov (.tmp 6)),oo 32 (.mov (.tmp 8)),ot 33 .str (.append 24 1 16 (.tmp 31) (.tmp 32)),oo 6 (.mov (.tmp 33))]
def Jk:List TOp:=[oo 34 (.bin false .add (.tmp 27) (.cst (.int .i64 1))),oo 27 (.mov (.tmp 34))]
def Je:DC:=(.seq (.ops Jh) (.seq (.cond (.tmp 28) .skip (.exit 2)) (.seq (.pass 3 (.seq (.ops Ji) (.ops Jj))) (.ops Jk))))
def Ja:Kp:=⟨[],[(6,false),(25,false),(26,false),(27,false)],[(.loc 24 0,false)],[],[]⟩
def Jo:Sig:=⟨[(6,some (.own (.loc 24 0))),(25,none),(26,none),(27,some (.ty (.int .i64)))],[(.loc 24 0,(.row .str))],[(.int .i64),(.sl .str)],[],[]⟩
def Jb:Kp:=⟨[.loc 24 0],[(6,true)],[],[],[]⟩
def Jp:Sig:=⟨[(6,some (.ty (.sl .str)))],[],[(.sl .str)],[],[]⟩
def Jl:List TOp:=[oo 35 (.mov (.tmp 6)),oo 2 (.mov (.tmp 35))]
def Jc:Kp:=⟨[],[(2,false)],[],[],[]⟩
def My:TFd:=⟨1,[(.tmp 2,.bool)],[],(.seq (.ops Kb) (.seq (.ops Kc) (.seq (.seq (.ops Kd) (.join I9 Jn (.block 0 (.loop [0,3,9,10,11] [] Er Jm Jd)))) (.seq (.ops Jf) (.seq (.seq (.ops Jg) (.join Jb Jp (.block 2 (.loop [6,25,26,27] [] Ja Jo Je)))) (.seq (.ops Jl) (.keep Jc .ret)))))))⟩
noncomputable def C7:Ent:=⟨[.ty (.sl (.sl .str))],[],[(.sl (.sl .str))],⟨(.ty (.sl .str)),[],[],[(.sl .str)],[],[]⟩,none,fun p=>Ah p⟩
theorem Es:C7.ok Tryz.prog 70:=Ay hm Tryz.func70 (fd:=My) (by kernel_rfl) (Ao (l:=[(100,U3)]) (y:=[]) ⟨Acd,trivial⟩ trivial) (by kernel_rfl) (fun p=>by kernel_rfl)
def Aox:List TOp:=[oo 3 (.box (.tmp 0)),oo 6 (.mov .nils)]
def Aoy:List TOp:=[oo 10 (.fld 0 (.tmp 3)),oo 11 (.load false 1 (.tmp 10))]
def Aoz:List TOp:=[oo 13 (.bin false .eql (.tmp 11) (.cst (.int .i64 0))),oo 12 (.mov (.tmp 13))]
def Ao0:List TOp:=[oo 15 (.fld 1 (.tmp 3)),oo 16 (.load false 1 (.tmp 15)),oo 17 (.call 0 0 (.cst (.fn 99)) [(.tmp 16),(.cst (.str [37]))] [] []),oo 14 (.mov (.tmp 17)),oo 18 (.ext 0 (.tmp 14)),oo 19 (.ext 1 (.tmp 14)),oo 7 (.mov (.tmp 18)),oo 8 (.mov (.tmp 19))]
def Ao1:List TOp:=[oo 20 (.mov (.tmp 8))]
def Ao2:List TOp:=[oo 21 (.mov (.tmp 7)),ot 22 .str (.lit false 1 [(.tmp 21),(.cst (.str [37]))]),oo 6 (.mov (.tmp 22))]
def C6:Kp:=⟨[.loc 33 0,.loc 40 0],[(6,true)],[],[],[]⟩
def Ao3:List TOp:=[oo 23 (.fld 1 (.tmp 3)),oo 24 (.load false 1 (.tmp 23)),ot 25 .str (.lit false 1 [(.tmp 24)]),oo 6 (.mov (.tmp 25))]
def Ao4:List TOp:=[oo 27 (.bin false .eql (.tmp 11) (.cst (.int .i64 1))),oo 26 (.mov (.tmp 27))]
def Ao5:List TOp:=[oo 28 (.fld 1 (.tmp 3)),oo 29 (.load false 1 (.tmp 28)),ot 30 .str (.lit false 1 [(.tmp 29)]),oo 6 (.mov (.tmp 30))]
def Akg:List TOp:=[oo 32 (.bin false .eql (.tmp 11) (.cst (.int .i64 2))),oo 31 (.mov (.tmp 32))]
def Akh:List TOp:=[ot 33 .str (.lit true 1 [(.cst (.str [45]))]),oo 34 (.mov (.tmp 2)),oo 35 (.idx 1 (.tmp 34) (.cst (.int .i64 0))),oo 36 (.load false 1 (.tmp 35)),ot 37 .str (.append 33 1 16 (.tmp 33) (.tmp 36)),oo 6 (.mov (.tmp 37))]
def Aki:List TOp:=[oo 39 (.bin false .eql (.tmp 11) (.cst (.int .i64 14))),oo 38 (.mov (.tmp 39))]
def Akj:List TOp:=[ot 40 .str (.lit true 1 [(.cst (.str [110,111,116]))]),oo 41 (.mov (.tmp 2)),oo 42 (.idx 1 (.tmp 41) (.cst (.int .i64 0))),oo 43 (.load false 1 (.tmp 42)),ot 44 .str (.append 40 1 16 (.tmp 40) (.tmp 43)),oo 6 (.mov (.tmp 44))]
def Akk:List TOp:=[oo 46 (.bin false .eql (.tmp 11) (.cst (.int .i64 15))),oo 45 (.mov (.tmp 46))]
def Akl:List TOp:=[ot 47 .str (.lit false 1 [(.cst (.str [105,102]))]),oo 48 (.mov (.tmp 2)),oo 49 (.idx 1 (.tmp 48) (.cst (.int .i64 0))),oo 50 (.load false 1 (.tmp 49)),ot 51 .str (.lit false 1 [(.cst (.str [116,104,101,110]))]),oo 52 (.mov (.tmp 2)),oo 53 (.idx 1 (.tmp 52) (.cst (.int .i64 1))),oo 54 (.load false 1 (.tmp 53)),ot 55 .str (.lit false 1 [(.cst (.str [101,108,115,101]))]),oo 56 (.mov (.tmp 2)),oo 57 (.idx 1 (.tmp 56) (.cst (.int .i64 2))),oo 58 (.load false 1 (.tmp 57)),ot 59 (.sl .str) (.lit false 1 [(.tmp 47),(.tmp 50),(.tmp 51),(.tmp 54),(.tmp 55),(.tmp 58)]),oo 60 (.call 0 0 (.cst (.fn 70)) [(.tmp 59)] [] []),oo 6 (.mov (.tmp 60))]
def Akm:List TOp:=[oo 62 (.bin false .eql (.tmp 11) (.cst (.int .i64 16))),oo 61 (.mov (.tmp 62))]
def Akn:List TOp:=[oo 63 (.bin false .eql (.tmp 11) (.cst (.int .i64 17))),oo 61 (.mov (.tmp 63))]
def Ake:Kp:=⟨[],[(1,false),(2,false),(3,false),(61,false)],[(.loc 3 0,false)],[],[]⟩
def Akt:Sig:=⟨[(1,none),(2,none),(3,some (.ptr (.loc 3 0) 0)),(61,some (.ty .bool))],[(.loc 3 0,(.box [none,none]))],[.bool],[],[]⟩
def Ako:List TOp:=[oo 9 (.mov (.cst (.str [109,105,110])))]
def Akp:List TOp:=[oo 64 (.fld 0 (.tmp 3)),oo 65 (.load false 1 (.tmp 64)),oo 66 (.bin false .eql (.tmp 65) (.cst (.int .i64 17)))]
def Akq:List TOp:=[oo 9 (.mov (.cst (.str [109,97,120])))]
def Akf:Kp:=⟨[],[(2,false),(9,false)],[],[.loc 3 0],[]⟩
def Aku:Sig:=⟨[(2,none),(9,some (.ty .str))],[],[.str],[],[]⟩
def Akr:List TOp:=[oo 67 (.mov (.tmp 9)),ot 68 .str (.lit false 1 [(.tmp 67),(.cst (.str [40]))]),oo 69 (.mov (.tmp 2)),oo 70 (.idx 1 (.tmp 69) (.cst (.int .i64 0))),oo 71 (.load false 1 (.tmp 70)),ot 72 .str (.lit false 1 [(.cst (.str [44]))]),oo 73 (.mov (.tmp 2)),oo 74 (.idx 1 (.tmp 73) (.cst (.int .i64 1))),oo 75 (.load false 1 (.tmp 74)),ot 76 .str (.lit false 1 [(.cst (.str [41]))]),ot 77 (.sl .str) (.lit false 1 [(.tmp 68),(.tmp 71),(.tmp 72),(.tmp 75),(.tmp 76)]),oo 78 (.call 0 0 (.cst (.fn 70)) [(.tmp 77)] [] []),oo 6 (.mov (.tmp 78))]
def Aks:List TOp:=[oo 79 (.mov (.tmp 2)),oo 80 (.idx 1 (.tmp 79) (.cst (.int .i64 0))),oo 81 (.load false 1 (.tmp 80)),oo 82 (.mov (.tmp 1)),ot 83 .str (.lit false 1 [(.tmp 82)]),oo 84 (.mov (.tmp 2)),oo 85 (.idx 1 (.tmp 84) (.cst (.int .i64 1))),oo 86 (.load false 1 (.tmp 85)),ot 87 (.sl .str) (.lit false 1 [(.tmp 81),(.tmp 83),(.tmp 86)]),oo 88 (.call 0 0 (.cst (.fn 70)) [(.tmp 87)] [] []),oo 6 (.mov (.tmp 88))]
def Ayh:TFd:=⟨3,[(.tmp 6,.bool)],[],(.seq (.ops Aox) (.seq (.seq (.ops Aoy) (.pass 0 (.seq (.ops Aoz) (.cond (.tmp 12) (.free (.seq (.seq (.ops Ao0) (.seq (.ops Ao1) (.cond (.tmp 20) (.free (.seq (.ops Ao2) (.keep C6 .ret))) .skip))) (.seq (.ops Ao3) (.keep C6 .ret)))) (.seq (.ops Ao4) (.cond (.tmp 26) (.free (.seq (.ops Ao5) (.keep C6 .ret))) (.seq (.ops Akg) (.cond (.tmp 31) (.free (.seq (.ops Akh) (.keep C6 .ret))) (.seq (.ops Aki) (.cond (.tmp 38) (.free (.seq (.ops Akj) (.keep C6 .ret))) (.seq (.ops Akk) (.cond (.tmp 45) (.free (.seq (.draw [] Akl) (.keep C6 .ret))) (.seq (.seq (.ops Akm) (.join Ake Akt (.cond (.tmp 61) .skip (.ops Akn)))) (.cond (.tmp 61) (.free (.seq (.ops Ako) (.seq (.seq (.ops Akp) (.join Akf Aku (.cond (.tmp 66) (.ops Akq) .skip))) (.seq (.draw [] Akr) (.keep C6 .ret))))) .skip)))))))))))))) (.seq (.draw [] Aks) (.keep C6 .ret))))⟩
noncomputable def Ac2:Ent:=⟨[.ty (.st 4),.ty .str,.ty (.sl (.sl .str))],[],[(.st 4),.str,(.sl (.sl .str))],⟨(.ty (.sl .str)),[],[],[(.sl .str)],[],[]⟩,none,fun p=>Q4 p.1 p.2.1 p.2.2⟩
theorem Amy:Ac2.ok Tryz.prog 69:=Ay hm Tryz.func69 (fd:=Ayh) (by kernel_rfl) (Ao (l:=[(99,M4),(70,C7)]) (y:=[]) ⟨Aam,Es,trivial⟩ trivial) (by kernel_rfl) (fun p=>by kernel_rfl)
def Aof:List TOp:=[oo 4 (.mov .nils),oo 5 (.mov .nils)]
def Aog:List TOp:=[oo 18 (.mov (.tmp 0)),oo 19 (.idx 2 (.tmp 18) (.cst (.int .i64 0))),ot 20 (.st 4) (.load true 2 (.tmp 19)),oo 21 (.mov (.tmp 0)),ot 22 (.st 4) (.slc false 2 (.tmp 21) (some (.cst (.int .i64 1))) none),oo 6 (.alloc [.pv (.int .i64 0),.pv (.str [])]),on (.store 2 (.tmp 6) (.tmp 20)),oo 7 (.mov (.tmp 22))]
def Aoh:List TOp:=[oo 8 (.mov .nils)]
def Aoi:List TOp:=[oo 24 (.fld 0 (.tmp 6)),oo 25 (.load false 1 (.tmp 24)),oo 26 (.call 0 0 (.cst (.fn 67)) [(.tmp 25)] [] []),oo 23 (.mov (.tmp 26)),oo 27 (.ext 0 (.tmp 23)),oo 28 (.ext 1 (.tmp 23)),oo 29 (.ext 2 (.tmp 23)),oo 30 (.ext 3 (.tmp 23)),oo 9 (.mov (.tmp 27)),oo 10 (.mov (.tmp 28)),oo 11 (.mov (.tmp 29)),oo 12 (.mov (.tmp 30))]
def Aoj:List TOp:=[oo 31 (.mov (.tmp 11)),oo 32 (.mov (.tmp 12)),ot 33 (.int .i64) (.lit false 1 [(.tmp 31),(.tmp 32),(.cst (.int .i64 0))]),oo 13 (.mov (.tmp 33))]
def Aok:List TOp:=[oo 34 (.fld 0 (.tmp 6)),oo 35 (.load false 1 (.tmp 34))]
def Aol:List TOp:=[oo 37 (.bin false .eql (.tmp 35) (.cst (.int .i64 2))),oo 36 (.mov (.tmp 37))]
def Aom:List TOp:=[ot 38 (.int .i64) (.lit false 1 [(.cst (.int .i64 7))]),oo 9 (.mov (.cst (.int .i64 7))),oo 13 (.mov (.tmp 38))]
def Aon:List TOp:=[oo 40 (.bin false .eql (.tmp 35) (.cst (.int .i64 14))),oo 39 (.mov (.tmp 40))]
def Aoo:List TOp:=[ot 41 (.int .i64) (.lit false 1 [(.cst (.int .i64 3))]),oo 9 (.mov (.cst (.int .i64 3))),oo 13 (.mov (.tmp 41))]
def Ajy:List TOp:=[oo 43 (.bin false .eql (.tmp 35) (.cst (.int .i64 15))),oo 42 (.mov (.tmp 43))]
def Ajz:List TOp:=[oo 9 (.mov (.cst (.int .i64 0)))]
def Ajs:Kp:=⟨[],[(1,false),(6,false),(7,false),(8,false),(9,false),(10,false),(13,false)],[(.loc 6 0,false)],[],[]⟩
def Aka:Sig:=⟨[(1,none),(6,some (.ptr (.loc 6 0) 0)),(7,none),(8,some .nils),(9,some (.ty (.int .i64))),(10,none),(13,some (.ty (.sl (.int .i64))))],[(.loc 6 0,(.box [none,none]))],[(.int .i64),(.sl (.int .i64))],[],[]⟩
def Aj0:List TOp:=[oo 44 (.fld 0 (.tmp 6)),oo 45 (.load false 1 (.tmp 44)),oo 46 (.call 0 0 (.cst (.fn 68)) [(.tmp 45)] [] []),oo 47 (.mov (.cst (.int .i64 0)))]
def Aj1:List TOp:=[oo 48 (.bin false .lss (.tmp 47) (.tmp 46))]
def Aj2:List TOp:=[oo 49 (.mov (.tmp 47)),oo 14 (.mov (.tmp 49))]
def Aj3:List TOp:=[oo 51 (.mov (.tmp 7)),oo 52 (.mov (.tmp 13)),oo 53 (.mov (.tmp 14)),oo 54 (.idx 1 (.tmp 52) (.tmp 53)),oo 55 (.load false 1 (.tmp 54)),oo 56 (.call 0 0 (.cst (.fn 37)) [(.tmp 51),(.tmp 55)] [] []),oo 50 (.mov (.tmp 56)),oo 57 (.ext 0 (.tmp 50)),oo 58 (.ext 1 (.tmp 50)),oo 15 (.mov (.tmp 57)),oo 16 (.mov (.tmp 58))]
def Aj4:List TOp:=[oo 59 (.mov (.tmp 8)),oo 60 (.mov (.tmp 15)),ot 61 (.sl .str) (.lit false 1 [(.tmp 60)]),ot 62 (.sl .str) (.append 8 1 24 (.tmp 59) (.tmp 61)),oo 63 (.mov (.tmp 16)),oo 8 (.mov (.tmp 62)),oo 7 (.mov (.tmp 63))]
def Aj5:List TOp:=[oo 64 (.bin false .add (.tmp 47) (.cst (.int .i64 1))),oo 47 (.mov (.tmp 64))]
def Ajx:DC:=(.seq (.ops Aj1) (.seq (.cond (.tmp 48) .skip (.exit 1)) (.seq (.pass 2 (.seq (.ops Aj2) (.seq (.ops Aj3) (.ops Aj4)))) (.ops Aj5))))
def Ajt:Kp:=⟨[],[(1,false),(6,false),(7,false),(8,false),(9,false),(10,false),(13,false),(46,false),(47,false)],[(.loc 8 0,false),(.loc 6 0,false)],[],[((.slot 8 (.loc 8 0) 1),(.sl .str))]⟩
def Akb:Sig:=⟨[(1,none),(6,some (.ptr (.loc 6 0) 0)),(7,some (.ty (.sl (.st 4)))),(8,some (.own (.loc 8 0))),(9,none),(10,none),(13,none),(46,none),(47,some (.ty (.int .i64)))],[(.loc 8 0,(.row (.sl .str))),(.loc 6 0,(.box [none,none]))],[(.sl (.st 4)),(.int .i64),(.sl (.sl .str))],[],[]⟩
def Aju:Kp:=⟨[.loc 8 0],[(1,false),(6,false),(7,false),(8,true),(9,false),(10,false)],[(.loc 6 0,false)],[],[]⟩
def Akc:Sig:=⟨[(1,none),(6,some (.ptr (.loc 6 0) 0)),(7,some (.ty (.sl (.st 4)))),(8,some (.ty (.sl (.sl .str)))),(9,none),(10,none)],[(.loc 6 0,(.box [none,none]))],[(.sl (.st 4)),(.sl (.sl .str))],[],[]⟩
def Aj6:List TOp:=[ot 65 (.st 4) (.load true 2 (.tmp 6)),oo 66 (.mov (.tmp 10)),oo 67 (.mov (.tmp 8)),oo 68 (.call 0 0 (.cst (.fn 69)) [(.tmp 65),(.tmp 66),(.tmp 67)] [] []),oo 17 (.mov (.tmp 68))]
def Aj7:List TOp:=[oo 69 (.mov (.tmp 9)),oo 70 (.mov (.tmp 1)),oo 71 (.bin false .lss (.tmp 69) (.tmp 70))]
def Aj8:List TOp:=[ot 72 .str (.lit false 1 [(.cst (.str [40]))]),oo 73 (.mov (.tmp 17)),ot 74 .str (.lit false 1 [(.cst (.str [41]))]),ot 75 (.sl .str) (.lit false 1 [(.tmp 72),(.tmp 73),(.tmp 74)]),oo 76 (.call 0 0 (.cst (.fn 70)) [(.tmp 75)] [] []),oo 17 (.mov (.tmp 76))]
def Ajv:Kp:=⟨[],[(7,false),(17,false)],[],[.loc 6 0],[]⟩
def Akd:Sig:=⟨[(7,none),(17,some (.ty (.sl .str)))],[],[(.sl .str)],[],[]⟩
def Aj9:List TOp:=[oo 77 (.mov (.tmp 17)),oo 78 (.mov (.tmp 7)),oo 4 (.mov (.tmp 77)),oo 5 (.mov (.tmp 78))]
def Ajw:Kp:=⟨[],[(4,false),(5,false)],[],[],[]⟩
def Ayg:TFd:=⟨2,[(.tmp 4,.bool),(.tmp 5,.bool)],[],(.seq (.ops Aof) (.seq (.draw [.loc 6 0] Aog) (.seq (.ops Aoh) (.seq (.ops Aoi) (.seq (.ops Aoj) (.seq (.seq (.ops Aok) (.pass 0 (.seq (.ops Aol) (.join Ajs Aka (.cond (.tmp 36) (.ops Aom) (.seq (.ops Aon) (.cond (.tmp 39) (.ops Aoo) (.seq (.ops Ajy) (.cond (.tmp 42) (.ops Ajz) .skip))))))))) (.seq (.seq (.ops Aj0) (.join Aju Akc (.block 1 (.loop [1,6,7,8,9,10,13,46,47] [] Ajt Akb Ajx)))) (.seq (.ops Aj6) (.seq (.seq (.ops Aj7) (.join Ajv Akd (.cond (.tmp 71) (.ops Aj8) .skip))) (.seq (.ops Aj9) (.keep Ajw .ret)))))))))))⟩
noncomputable def Ld(fuel:Nat):Ent:=⟨[.ty (.sl (.st 4)),.ty (.int .i64)],[],[(.sl (.st 4)),(.int .i64)],⟨(.tup [(.ty (.sl .str)),(.ty (.sl (.st 4)))]),[],[],[(.sl .str),(.sl (.st 4))],[],[]⟩,none,fun p=>E2 fuel p.1 p.2⟩
theorem Oy: ∀fuel:Nat,(Ld fuel).ok Tryz.prog 37
 |0=>fun p r h=>by have h:none=some r:=h;cases h
 |fuel+1=>Ay hm Tryz.func37 (fd:=Ayg) (by kernel_rfl) (Ao (l:=[(67,Acy),(68,Zn),(37,(Ld fuel)),(69,Ac2),(70,C7)]) (y:=[]) ⟨Ahu,Afz,(Oy fuel),Amy,Es,trivial⟩ trivial) (by kernel_rfl) (fun p=>by kernel_rfl)
def Pr:Ent:=⟨[.ty (.sl .str),.ty .str],[],[(.sl .str),.str],⟨(.ty .str),[],[],[.str],[],[]⟩,none,fun p=>strings_Join p.1 p.2⟩
theorem Q8:Pr.ok Tryz.prog 38:=fun p r h=>Aky (show strings_Join _ _=some _ from h)
def Anr:List TOp:=[oo 2 (.mov (.cst (.str []))),oo 3 (.mov (.cst (.int .i64 0)))]
def Ans:List TOp:=[oo 6 (.mov (.tmp 0)),oo 7 (.call 0 0 (.cst (.fn 23)) [(.tmp 6)] [] []),oo 8 (.un .not (.tmp 7))]
def Ant:List TOp:=[oo 2 (.mov (.cst (.str []))),oo 3 (.mov (.cst (.int .i64 1)))]
def Zv:Kp:=⟨[],[(2,false),(3,false)],[],[],[]⟩
def Anu:List TOp:=[oo 10 (.mov (.tmp 0)),oo 11 (.call 0 0 (.cst (.fn 37)) [(.tmp 10),(.cst (.int .i64 0))] [] []),oo 9 (.mov (.tmp 11)),oo 12 (.ext 0 (.tmp 9)),oo 13 (.ext 1 (.tmp 9)),oo 4 (.mov (.tmp 12)),oo 5 (.mov (.tmp 13))]
def Anv:List TOp:=[oo 14 (.mov (.tmp 4)),oo 15 (.call 0 0 (.cst (.fn 38)) [(.tmp 14),(.cst (.str [32]))] [] []),oo 2 (.mov (.tmp 15)),oo 3 (.mov (.cst (.int .i64 0)))]
def Axl:TFd:=⟨1,[(.tmp 2,.bool),(.tmp 3,.bool)],[],(.seq (.ops Anr) (.seq (.seq (.ops Ans) (.cond (.tmp 8) (.free (.seq (.ops Ant) (.keep Zv .ret))) .skip)) (.seq (.ops Anu) (.seq (.ops Anv) (.keep Zv .ret)))))⟩
noncomputable def Acv:Ent:=⟨[.ty (.sl (.st 4))],[],[(.sl (.st 4))],⟨(.tup [(.ty .str),(.ty (.int .i64))]),[],[],[.str,(.int .i64)],[],[]⟩,none,fun p=>Ln p⟩
theorem Amw:Acv.ok Tryz.prog 17:=Ay hm Tryz.func17 (fd:=Axl) (by kernel_rfl) (Ao (l:=[(23,Fl),(37,(Ld 100000)),(38,Pr)]) (y:=[]) ⟨F8,(Oy 100000),Q8,trivial⟩ trivial) (by kernel_rfl) (fun p=>by kernel_rfl)
def Ws:List TOp:=[oo 4 (.mov (.cst (.str [])))]
def Wt:List TOp:=[oo 6 (.mov (.tmp 0)),oo 7 (.mov (.tmp 1)),ot 8 .str (.lit false 1 [(.tmp 7)]),oo 9 (.call 0 2 (.cst (.fn 56)) [(.tmp 6),(.tmp 8)] [] [.ext 0])]
def Wu:List TOp:=[oo 10 (.mov (.tmp 0)),oo 11 (.call 0 2 (.cst (.fn 61)) [(.tmp 10),(.cst (.int .i64 1)),(.cst (.bool true))] [] [.ext 0]),oo 5 (.mov (.tmp 11))]
def Wv:List TOp:=[oo 12 (.mov (.tmp 0)),ot 13 .str (.lit false 1 [(.cst (.str [59]))]),oo 14 (.call 0 2 (.cst (.fn 56)) [(.tmp 12),(.tmp 13)] [] [.ext 0])]
def Ww:List TOp:=[oo 15 (.mov (.tmp 5)),oo 4 (.mov (.tmp 15))]
def Wr:Kp:=⟨[],[(4,false)],[(.ext 0,false)],[],[]⟩
def Zw:TFd:=⟨2,[(.tmp 4,.bool)],[],(.seq (.ops Ws) (.seq (.ops Wt) (.seq (.ops Wu) (.seq (.ops Wv) (.seq (.ops Ww) (.keep Wr .ret))))))⟩
noncomputable def Ju:Ent:=⟨[.ptr (.ext 0) 0,.ty .str],[.st 3],[.str,(.st 3)],⟨(.ty .str),[],[some (.st 3)],[.str,(.st 3)],[],[]⟩,none,fun p=>B8 p.1 p.2⟩
theorem V2:Ju.ok Tryz.prog 62:=Ay hm Tryz.func62 (fd:=Zw) (by kernel_rfl) (Ao (l:=[(56,Dd),(61,Ej)]) (y:=[]) ⟨D3,Ga,trivial⟩ trivial) (by kernel_rfl) (fun p=>by kernel_rfl)
def Un:List TOp:=[oo 2 (.alloc [.pv (.str []),.pv (.str []),.pv (.str []),.pv (.str []),.nils,.nils,.pv (.str []),.pv (.str []),.pv (.str [])])]
def Uo:List TOp:=[oo 3 (.alloc [.pv (.str []),.pv (.str []),.pv (.str []),.pv (.str []),.nils,.nils,.pv (.str []),.pv (.str []),.pv (.str [])])]
def Uq:List TOp:=[oo 6 (.mov (.tmp 0)),ot 7 .str (.lit false 1 [(.cst (.str [112,114,111,100,117,99,116]))]),oo 8 (.call 0 2 (.cst (.fn 56)) [(.tmp 6),(.tmp 7)] [] [.ext 0])]
def Ur:List TOp:=[oo 9 (.mov (.tmp 0)),oo 10 (.call 0 2 (.cst (.fn 61)) [(.tmp 9),(.cst (.int .i64 0)),(.cst (.bool true))] [] [.ext 0]),oo 11 (.mov (.tmp 0)),oo 12 (.call 0 2 (.cst (.fn 61)) [(.tmp 11),(.cst (.int .i64 0)),(.cst (.bool true))] [] [.ext 0]),oo 13 (.fld 0 (.tmp 3)),on (.store 1 (.tmp 13) (.tmp 10)),oo 14 (.fld 1 (.tmp 3)),on (.store 1 (.tmp 14) (.tmp 12))]
def Us:List TOp:=[oo 15 (.mov (.tmp 0)),ot 16 .str (.lit false 1 [(.cst (.str [123])),(.cst (.str [98,97,115,105,115]))]),oo 17 (.call 0 2 (.cst (.fn 56)) [(.tmp 15),(.tmp 16)] [] [.ext 0])]
def Ut:List TOp:=[oo 18 (.mov (.tmp 0)),oo 19 (.call 0 2 (.cst (.fn 61)) [(.tmp 18),(.cst (.int .i64 0)),(.cst (.bool true))] [] [.ext 0]),oo 20 (.fld 2 (.tmp 3)),on (.store 1 (.tmp 20) (.tmp 19))]
def Uu:List TOp:=[oo 21 (.mov (.tmp 0)),ot 22 .str (.lit false 1 [(.cst (.str [59]))]),oo 23 (.call 0 2 (.cst (.fn 56)) [(.tmp 21),(.tmp 22)] [] [.ext 0])]
def Uv:List TOp:=[oo 24 (.mov (.tmp 0)),oo 25 (.call 0 2 (.cst (.fn 62)) [(.tmp 24),(.cst (.str [112,101,114,105,111,100]))] [] [.ext 0]),oo 26 (.fld 3 (.tmp 3)),on (.store 1 (.tmp 26) (.tmp 25))]
def Uw:List TOp:=[oo 27 (.mov (.tmp 0)),ot 28 .str (.lit false 1 [(.cst (.str [116,105,101,114,115])),(.cst (.str [123]))]),oo 29 (.call 0 2 (.cst (.fn 56)) [(.tmp 27),(.tmp 28)] [] [.ext 0])]
def Ux:List TOp:=[oo 4 (.mov (.cst (.bool true)))]
def Sa:List TOp:=[oo 30 (.mov (.tmp 0)),oo 31 (.nchk (.tmp 30)),oo 32 (.fld 2 (.tmp 31)),oo 33 (.load false 1 (.tmp 32)),oo 34 (.un .not (.tmp 33)),oo 35 (.mov (.tmp 34)),og 36 35 true .bool (.mov (.tmp 4)),og 37 35 true .bool (.mov (.tmp 36)),og 38 37 false .bool (.mov (.tmp 0)),og 39 37 false .bool (.call 0 2 (.cst (.fn 63)) [(.tmp 38),(.cst (.str [125]))] [] [.ext 0]),og 40 37 false .bool (.un .not (.tmp 39)),og 41 35 true .bool (.pick (.tmp 37) (.cst (.bool true)) (.tmp 40)),oo 42 (.pick (.tmp 35) (.tmp 41) (.cst (.bool false)))]
def Sb:List TOp:=[oo 43 (.mov (.tmp 0)),oo 44 (.call 0 2 (.cst (.fn 61)) [(.tmp 43),(.cst (.int .i64 1)),(.cst (.bool true))] [] [.ext 0]),ot 45 (.st 6) (.build [.pv (.str []),.pv (.str [])] [(0,1,(.tmp 44))]),oo 5 (.alloc [.pv (.str []),.pv (.str [])]),on (.store 2 (.tmp 5) (.tmp 45))]
def Sc:List TOp:=[oo 46 (.mov (.tmp 0)),ot 47 .str (.lit false 1 [(.cst (.str [58]))]),oo 48 (.call 0 2 (.cst (.fn 56)) [(.tmp 46),(.tmp 47)] [] [.ext 0])]
def Sd:List TOp:=[oo 49 (.mov (.tmp 0)),oo 50 (.call 0 2 (.cst (.fn 61)) [(.tmp 49),(.cst (.int .i64 1)),(.cst (.bool true))] [] [.ext 0]),oo 51 (.fld 1 (.tmp 5)),on (.store 1 (.tmp 51) (.tmp 50))]
def Se:List TOp:=[oo 52 (.mov (.tmp 0)),ot 53 .str (.lit false 1 [(.cst (.str [37])),(.cst (.str [59]))]),oo 54 (.call 0 2 (.cst (.fn 56)) [(.tmp 52),(.tmp 53)] [] [.ext 0])]
def Sf:List TOp:=[oo 55 (.fld 4 (.tmp 3)),oo 56 (.load false 1 (.tmp 55)),ot 57 (.st 6) (.load true 2 (.tmp 5)),ot 58 (.st 6) (.lit false 2 [(.tmp 57)]),ot 59 (.st 6) (.append 500003 2 32 (.tmp 56) (.tmp 58)),oo 60 (.fld 4 (.tmp 3)),on (.store 1 (.tmp 60) (.tmp 59))]
def Sg:List TOp:=[oo 4 (.mov (.cst (.bool false)))]
def R9:DC:=(.seq (.seq (.ops Sa) (.cond (.tmp 42) .skip (.exit 0))) (.seq (.pass 1 (.seq (.ops Sb) (.seq (.ops Sc) (.seq (.ops Sd) (.seq (.ops Se) (.ops Sf)))))) (.ops Sg)))
def R6:Kp:=⟨[],[(0,false),(2,false),(3,false),(4,false)],[(.loc 500003 0,false),(.ext 0,false),(.loc 2 0,false),(.loc 3 0,true)],[.loc 5 0],[((.cell (.loc 3 0) 4 (.loc 500003 0) 2),(.st 6))]⟩
def Sn:Sig:=⟨[(0,some (.ptr (.ext 0) 0)),(2,some (.ptr (.loc 2 0) 0)),(3,some (.ptr (.loc 3 0) 0)),(4,some (.ty .bool))],[(.loc 500003 0,(.row (.st 6))),(.ext 0,(.st 3)),(.loc 2 0,(.box [none,none,none,none,some .nils,some .nils,none,none,none])),(.loc 3 0,(.box [some (.ty .str),some (.ty .str),some (.ty .str),some (.ty .str),some (.own (.loc 500003 0)),some (.ty (.sl (.st 4))),some (.ty .str),some (.ty .str),some (.ty .str)]))],[.bool,(.st 3),.str,.str,.str,.str,(.sl (.st 4)),.str,.str,.str,(.sl (.st 6))],[0,2,3,4,5,6,7,8,9,10,1],[0,10,1,2,3,4,5,6,7,8,9]⟩
def R7:Kp:=⟨[.loc 500003 0],[(0,false),(2,false),(3,false)],[(.ext 0,false),(.loc 2 0,false),(.loc 3 0,true)],[],[]⟩
def So:Sig:=⟨[(0,some (.ptr (.ext 0) 0)),(2,some (.ptr (.loc 2 0) 0)),(3,some (.ptr (.loc 3 0) 0))],[(.ext 0,(.st 3)),(.loc 2 0,(.box [none,none,none,none,some .nils,some .nils,none,none,none])),(.loc 3 0,(.st 7))],[(.st 3),(.st 7)],[],[]⟩
def Sh:List TOp:=[oo 61 (.mov (.tmp 0)),ot 62 .str (.lit false 1 [(.cst (.str [125])),(.cst (.str [102,101,101]))]),oo 63 (.call 0 2 (.cst (.fn 56)) [(.tmp 61),(.tmp 62)] [] [.ext 0])]
def Si:List TOp:=[oo 64 (.mov (.tmp 0)),oo 65 (.call 0 2 (.cst (.fn 30)) [(.tmp 64)] [] [.ext 0]),oo 66 (.fld 5 (.tmp 3)),on (.store 1 (.tmp 66) (.tmp 65))]
def Sj:List TOp:=[oo 67 (.mov (.tmp 0)),ot 68 .str (.lit false 1 [(.cst (.str [59]))]),oo 69 (.call 0 2 (.cst (.fn 56)) [(.tmp 67),(.tmp 68)] [] [.ext 0])]
def Sk:List TOp:=[oo 70 (.mov (.tmp 0)),oo 71 (.call 0 2 (.cst (.fn 62)) [(.tmp 70),(.cst (.str [109,105,110,105,109,117,109]))] [] [.ext 0]),oo 72 (.mov (.tmp 0)),oo 73 (.call 0 2 (.cst (.fn 62)) [(.tmp 72),(.cst (.str [111,118,101,114,100,114,97,102,116]))] [] [.ext 0]),oo 74 (.mov (.tmp 0)),oo 75 (.call 0 2 (.cst (.fn 62)) [(.tmp 74),(.cst (.str [110,111,116,105,99,101]))] [] [.ext 0]),oo 76 (.fld 6 (.tmp 3)),on (.store 1 (.tmp 76) (.tmp 71)),oo 77 (.fld 7 (.tmp 3)),on (.store 1 (.tmp 77) (.tmp 73)),oo 78 (.fld 8 (.tmp 3)),on (.store 1 (.tmp 78) (.tmp 75))]
def Sl:List TOp:=[oo 79 (.mov (.tmp 0)),ot 80 .str (.lit false 1 [(.cst (.str [125]))]),oo 81 (.call 0 2 (.cst (.fn 56)) [(.tmp 79),(.tmp 80)] [] [.ext 0])]
def Sm:List TOp:=[ot 82 (.st 7) (.load true 9 (.tmp 3)),on (.store 9 (.tmp 2) (.tmp 82))]
def R8:Kp:=⟨[],[(2,false)],[(.ext 0,false),(.loc 2 0,false)],[],[]⟩
def Yg:TFd:=⟨1,[(.cell 2 true 9,(.st 7))],[],(.seq (.ops Un) (.seq (.ops Uo) (.seq (.ops Uq) (.seq (.ops Ur) (.seq (.ops Us) (.seq (.ops Ut) (.seq (.ops Uu) (.seq (.ops Uv) (.seq (.ops Uw) (.seq (.seq (.ops Ux) (.join R7 So (.block 0 (.loop [0,2,3,4] [] R6 Sn R9)))) (.seq (.ops Sh) (.seq (.ops Si) (.seq (.ops Sj) (.seq (.ops Sk) (.seq (.ops Sl) (.seq (.ops Sm) (.keep R8 .ret)))))))))))))))))⟩
noncomputable def Ia:Ent:=⟨[.ptr (.ext 0) 0],[.st 3],[(.st 3)],⟨(.ty (.st 7)),[],[some (.st 3)],[(.st 7),(.st 3)],[],[]⟩,none,fun p=>C5 p⟩
theorem Tq:Ia.ok Tryz.prog 35:=Ay hm Tryz.func35 (fd:=Yg) (by kernel_rfl) (Ao (l:=[(56,Dd),(61,Ej),(62,Ju),(63,Fv),(30,(Cz 100000))]) (y:=[]) ⟨D3,Ga,V2,G9,(M1 100000),trivial⟩ trivial) (by kernel_rfl) (fun p=>by kernel_rfl)
def Axb:List TOp:=[oo 2 (.mov .nils),oo 3 (.mov (.cst (.int .i64 0))),oo 4 (.mov (.cst (.int .i64 0))),oo 5 (.mov (.cst (.int .i64 0)))]
def Axc:List TOp:=[oo 17 (.mov (.tmp 0)),oo 18 (.call 1 0 (.cst (.fn 29)) [(.tmp 17)] [] []),oo 16 (.mov (.tmp 18)),oo 19 (.ext 0 (.tmp 16)),oo 20 (.ext 1 (.tmp 16)),oo 21 (.ext 2 (.tmp 16)),oo 22 (.ext 3 (.tmp 16)),oo 6 (.mov (.tmp 19)),oo 7 (.mov (.tmp 20)),oo 8 (.mov (.tmp 21)),oo 9 (.mov (.tmp 22))]
def Axd:List TOp:=[oo 23 (.mov (.tmp 9)),oo 24 (.bin false .neq (.tmp 23) (.cst (.int .i64 0)))]
def Axe:List TOp:=[oo 25 (.mov (.tmp 7)),oo 26 (.mov (.tmp 8)),oo 27 (.mov (.tmp 9)),oo 2 (.mov .nils),oo 3 (.mov (.tmp 25)),oo 4 (.mov (.tmp 26)),oo 5 (.mov (.tmp 27))]
def Wp:Kp:=⟨[],[(2,true),(3,false),(4,false),(5,false)],[],[],[]⟩
def Axf:List TOp:=[oo 10 (.mov .nils)]
def Axg:List TOp:=[oo 11 (.mov (.cst (.bool true)))]
def Axh:List TOp:=[oo 28 (.mov (.tmp 6)),oo 29 (.nchk (.tmp 28)),oo 30 (.fld 2 (.tmp 29)),oo 31 (.load false 1 (.tmp 30)),oo 32 (.un .not (.tmp 31)),oo 33 (.mov (.tmp 32)),og 34 33 true .bool (.mov (.tmp 6)),og 35 33 true .bool (.nchk (.tmp 34)),og 36 33 true .bool (.fld 1 (.tmp 35)),og 37 33 true .bool (.load false 1 (.tmp 36)),og 38 33 true .bool (.mov (.tmp 6)),og 39 33 true .bool (.nchk (.tmp 38)),og 40 33 true .bool (.fld 0 (.tmp 39)),og 41 33 true .bool (.load false 1 (.tmp 40)),og 42 33 true .bool (.len false (.tmp 41)),og 43 33 true .bool (.bin false .lss (.tmp 37) (.tmp 42)),oo 44 (.pick (.tmp 33) (.tmp 43) (.cst (.bool false)))]
def Axi:List TOp:=[oo 45 (.mov (.tmp 6)),oo 46 (.call 0 2 (.cst (.fn 35)) [(.tmp 45)] [] [.loc 18 0]),oo 12 (.alloc [.pv (.str []),.pv (.str []),.pv (.str []),.pv (.str []),.nils,.nils,.pv (.str []),.pv (.str []),.pv (.str [])]),on (.store 9 (.tmp 12) (.tmp 46))]
def Axj:List TOp:=[oo 47 (.mov (.tmp 11)),oo 48 (.mov (.tmp 47)),og 49 48 true .bool (.fld 4 (.tmp 12)),og 50 48 true .bool (.load false 1 (.tmp 49)),og 51 48 true .bool (.len false (.tmp 50)),og 52 48 true .bool (.bin false .leq (.tmp 51) (.cst (.int .i64 8))),oo 53 (.pick (.tmp 48) (.tmp 52) (.cst (.bool false))),oo 54 (.mov (.tmp 53)),og 55 54 true .bool (.fld 5 (.tmp 12)),og 56 54 true .bool (.load false 1 (.tmp 55)),og 57 54 true .bool (.call 0 0 (.cst (.fn 23)) [(.tmp 56)] [] []),oo 58 (.pick (.tmp 54) (.tmp 57) (.cst (.bool false))),oo 11 (.mov (.tmp 58))]
def Aq9:List TOp:=[oo 59 (.mov (.tmp 10)),ot 60 (.st 7) (.load true 9 (.tmp 12)),ot 61 (.st 7) (.lit false 9 [(.tmp 60)]),ot 62 (.st 7) (.append 10 9 160 (.tmp 59) (.tmp 61)),oo 10 (.mov (.tmp 62))]
def Aq8:DC:=(.seq (.seq (.draw [] Axh) (.cond (.tmp 44) .skip (.exit 0))) (.pass 1 (.seq (.ops Axi) (.seq (.ops Axj) (.ops Aq9)))))
def Aq6:Kp:=⟨[],[(0,false),(6,false),(10,false),(11,false)],[(.loc 10 0,false),(.loc 18 0,false)],[.loc 12 0],[((.slot 10 (.loc 10 0) 9),(.st 7))]⟩
def Are:Sig:=⟨[(0,none),(6,some (.ptr (.loc 18 0) 0)),(10,some (.own (.loc 10 0))),(11,some (.ty .bool))],[(.loc 10 0,(.row (.st 7))),(.loc 18 0,(.st 3))],[.bool,(.st 3),(.sl (.st 7))],[0,2,1],[0,2,1]⟩
def Aq7:Kp:=⟨[.loc 10 0],[(0,false),(6,false),(10,true),(11,false)],[(.loc 18 0,false)],[],[]⟩
def Arf:Sig:=⟨[(0,none),(6,some (.ptr (.loc 18 0) 0)),(10,some (.ty (.sl (.st 7)))),(11,some (.ty .bool))],[(.loc 18 0,(.st 3))],[(.sl (.st 7)),.bool,(.st 3)],[],[]⟩
def Ara:List TOp:=[oo 64 (.mov (.tmp 6)),oo 65 (.mov (.tmp 0)),oo 66 (.mov (.tmp 11)),oo 67 (.mov (.tmp 66)),og 68 67 true .bool (.mov (.tmp 10)),og 69 67 true .bool (.len false (.tmp 68)),og 70 67 true .bool (.bin false .leq (.tmp 69) (.cst (.int .i64 16))),oo 71 (.pick (.tmp 67) (.tmp 70) (.cst (.bool false))),oo 72 (.call 0 2 (.cst (.fn 31)) [(.tmp 64),(.tmp 65),(.tmp 71)] [] [.loc 18 0]),oo 63 (.mov (.tmp 72)),oo 73 (.ext 0 (.tmp 63)),oo 74 (.ext 1 (.tmp 63)),oo 75 (.ext 2 (.tmp 63)),oo 13 (.mov (.tmp 73)),oo 14 (.mov (.tmp 74)),oo 15 (.mov (.tmp 75))]
def Arb:List TOp:=[oo 76 (.mov (.tmp 15)),oo 77 (.bin false .neq (.tmp 76) (.cst (.int .i64 0)))]
def Arc:List TOp:=[oo 78 (.mov (.tmp 13)),oo 79 (.mov (.tmp 14)),oo 80 (.mov (.tmp 15)),oo 2 (.mov .nils),oo 3 (.mov (.tmp 78)),oo 4 (.mov (.tmp 79)),oo 5 (.mov (.tmp 80))]
def Ard:List TOp:=[oo 81 (.mov (.tmp 10)),oo 2 (.mov (.tmp 81)),oo 3 (.mov (.cst (.int .i64 0))),oo 4 (.mov (.cst (.int .i64 0))),oo 5 (.mov (.cst (.int .i64 0)))]
def A5x:TFd:=⟨1,[(.tmp 2,.bool),(.tmp 3,.bool),(.tmp 4,.bool),(.tmp 5,.bool)],[],(.seq (.ops Axb) (.seq (.ops Axc) (.seq (.seq (.ops Axd) (.cond (.tmp 24) (.free (.seq (.ops Axe) (.keep Wp .ret))) .skip)) (.seq (.ops Axf) (.seq (.ops Axg) (.seq (.join Aq7 Arf (.block 0 (.loop [0,6,10,11] [] Aq6 Are Aq8))) (.seq (.seq (.ops Ara) (.seq (.ops Arb) (.cond (.tmp 77) (.free (.seq (.ops Arc) (.keep Wp .ret))) .skip))) (.seq (.ops Ard) (.keep Wp .ret)))))))))⟩
noncomputable def Ai0:Ent:=⟨[.ty .str],[],[.str],⟨(.tup [(.ty (.sl (.st 7))),(.ty (.int .i64)),(.ty (.int .i64)),(.ty (.int .i64))]),[],[],[(.sl (.st 7)),(.int .i64),(.int .i64),(.int .i64)],[],[]⟩,none,fun p=>Tm p⟩
theorem Avy:Ai0.ok Tryz.prog 12:=Ay hm Tryz.func12 (fd:=A5x) (by kernel_rfl) (Ao (l:=[(29,Rj),(35,Ia),(23,Fl),(31,G8)]) (y:=[]) ⟨Zm,Tq,F8,M2,trivial⟩ trivial) (by kernel_rfl) (fun p=>by kernel_rfl)
def Aoa:List TOp:=[oo 1 (.box (.tmp 0)),oo 2 (.mov (.cst (.bool false)))]
def Aob:List TOp:=[oo 3 (.fld 0 (.tmp 1)),oo 4 (.load false 1 (.tmp 3)),oo 5 (.call 0 0 (.cst (.fn 75)) [(.tmp 4)] [] []),oo 6 (.un .not (.tmp 5)),oo 7 (.mov (.tmp 6)),og 8 7 false .bool (.fld 1 (.tmp 1)),og 9 7 false .bool (.load false 1 (.tmp 8)),og 10 7 false .bool (.call 0 0 (.cst (.fn 75)) [(.tmp 9)] [] []),og 11 7 false .bool (.un .not (.tmp 10)),oo 12 (.pick (.tmp 7) (.cst (.bool true)) (.tmp 11)),oo 2 (.mov (.tmp 12))]
def An9:Kp:=⟨[],[(2,false)],[],[],[]⟩
def Axx:TFd:=⟨1,[(.tmp 2,.bool)],[],(.seq (.ops Aoa) (.seq (.ops Aob) (.keep An9 .ret)))⟩
noncomputable def Acx:Ent:=⟨[.ty (.st 6)],[],[(.st 6)],⟨(.ty .bool),[],[],[.bool],[],[]⟩,none,fun p=>Lq p⟩
theorem Amx:Acx.ok Tryz.prog 76:=Ay hm Tryz.func76 (fd:=Axx) (by kernel_rfl) (Ao (l:=[(75,H7)]) (y:=[]) ⟨Mw,trivial⟩ trivial) (by kernel_rfl) (fun p=>by kernel_rfl)
def Lx:List TOp:=[oo 4 (.mov (.cst (.int .i64 0)))]
def Ly:List TOp:=[oo 6 (.mov (.tmp 0)),oo 7 (.len false (.tmp 6)),oo 8 (.mov (.cst (.int .i64 0)))]
def Lz:List TOp:=[oo 9 (.bin false .lss (.tmp 8) (.tmp 7))]
def L0:List TOp:=[oo 10 (.mov (.tmp 8)),oo 5 (.mov (.tmp 10))]
def L1:List TOp:=[oo 11 (.mov (.tmp 1)),oo 12 (.mov (.tmp 0)),oo 13 (.mov (.tmp 5)),oo 14 (.idx 2 (.tmp 12) (.tmp 13)),ot 15 (.st 6) (.load true 2 (.tmp 14)),oo 16 (.call 0 0 (.tmp 11) [(.tmp 15)] [] [])]
def L2:List TOp:=[oo 17 (.mov (.tmp 5)),oo 4 (.mov (.tmp 17))]
def E3:Kp:=⟨[],[(4,false)],[],[],[]⟩
def L3:List TOp:=[oo 18 (.bin false .add (.tmp 8) (.cst (.int .i64 1))),oo 8 (.mov (.tmp 18))]
def Lw:DC:=(.seq (.ops Lz) (.seq (.cond (.tmp 9) .skip (.exit 0)) (.seq (.pass 1 (.seq (.ops L0) (.seq (.ops L1) (.cond (.tmp 16) (.free (.seq (.ops L2) (.keep E3 .ret))) .skip)))) (.ops L3))))
def Lv:Kp:=⟨[],[(0,false),(1,false),(7,false),(8,false)],[],[],[]⟩
def Kq:Sig:=⟨[(0,none),(1,some (.fnc 76)),(7,none),(8,some (.ty (.int .i64)))],[],[(.int .i64)],[],[]⟩
def Kn:Kp:=⟨[],[],[],[],[]⟩
def Kr:Sig:=⟨[],[],[],[],[]⟩
def Ko:List TOp:=[oo 4 (.mov (.cst (.int .i64 (-1))))]
def Ny:TFd:=⟨2,[(.tmp 4,.bool)],[],(.seq (.ops Lx) (.seq (.seq (.ops Ly) (.joinO Kn Kr (.block 0 (.loop [0,1,7,8] [] Lv Kq Lw)))) (.seq (.ops Ko) (.keep E3 .ret))))⟩
noncomputable def Fe:Ent:=⟨[.ty (.sl (.st 6)),.fnc 76],[],[(.sl (.st 6))],⟨(.ty (.int .i64)),[],[],[(.int .i64)],[],[]⟩,none,fun p=>Dq p⟩
theorem Mn:Fe.ok Tryz.prog 104:=Ay hm Tryz.func104 (fd:=Ny) (by kernel_rfl) (Ao (l:=[(76,Acx)]) (y:=[]) ⟨Amx,trivial⟩ trivial) (by kernel_rfl) (fun p=>by kernel_rfl)
def Ie:List TOp:=[oo 4 (.mov (.cst (.bool false)))]
def Ig:List TOp:=[oo 5 (.mov (.tmp 0)),oo 6 (.mov (.tmp 1)),oo 7 (.call 0 0 (.cst (.fn 104)) [(.tmp 5),(.tmp 6)] [] []),oo 8 (.bin false .geq (.tmp 7) (.cst (.int .i64 0))),oo 4 (.mov (.tmp 8))]
def Ic:Kp:=⟨[],[(4,false)],[],[],[]⟩
def Kk:TFd:=⟨2,[(.tmp 4,.bool)],[],(.seq (.ops Ie) (.seq (.ops Ig) (.keep Ic .ret)))⟩
noncomputable def Eb:Ent:=⟨[.ty (.sl (.st 6)),.fnc 76],[],[(.sl (.st 6))],⟨(.ty .bool),[],[],[.bool],[],[]⟩,none,fun p=>Ca p⟩
theorem Ir:Eb.ok Tryz.prog 77:=Ay hm Tryz.func77 (fd:=Kk) (by kernel_rfl) (Ao (l:=[(104,Fe)]) (y:=[]) ⟨Mn,trivial⟩ trivial) (by kernel_rfl) (fun p=>by kernel_rfl)
def Ax0:List TOp:=[oo 1 (.box (.tmp 0)),oo 2 (.mov (.cst (.bool false)))]
def Ax1:List TOp:=[oo 8 (.fld 0 (.tmp 1)),oo 9 (.load false 1 (.tmp 8)),oo 10 (.fld 1 (.tmp 1)),oo 11 (.load false 1 (.tmp 10)),oo 12 (.fld 2 (.tmp 1)),oo 13 (.load false 1 (.tmp 12)),ot 14 .str (.lit false 1 [(.tmp 9),(.tmp 11),(.tmp 13)]),oo 15 (.len false (.tmp 14)),oo 16 (.mov (.cst (.int .i64 0)))]
def Ax2:List TOp:=[oo 17 (.bin false .lss (.tmp 16) (.tmp 15))]
def Ax3:List TOp:=[oo 18 (.idx 1 (.tmp 14) (.tmp 16)),oo 19 (.load false 1 (.tmp 18)),oo 4 (.mov (.tmp 19))]
def Ax4:List TOp:=[oo 20 (.mov (.tmp 4)),oo 21 (.call 0 0 (.cst (.fn 74)) [(.tmp 20),(.cst (.bool true))] [] []),oo 22 (.un .not (.tmp 21))]
def Ax5:List TOp:=[oo 2 (.mov (.cst (.bool false)))]
def Wq:Kp:=⟨[],[(2,false)],[],[],[]⟩
def Ax6:List TOp:=[oo 23 (.bin false .add (.tmp 16) (.cst (.int .i64 1))),oo 16 (.mov (.tmp 23))]
def Axz:DC:=(.seq (.ops Ax2) (.seq (.cond (.tmp 17) .skip (.exit 0)) (.seq (.pass 1 (.seq (.ops Ax3) (.seq (.ops Ax4) (.cond (.tmp 22) (.free (.seq (.ops Ax5) (.keep Wq .ret))) .skip)))) (.ops Ax6))))
def Axy:Kp:=⟨[],[(1,false),(14,false),(15,false),(16,false)],[(.loc 1 0,false)],[],[]⟩
def Asa:Sig:=⟨[(1,some (.ptr (.loc 1 0) 0)),(14,none),(15,none),(16,some (.ty (.int .i64)))],[(.loc 1 0,(.box [none,none,none,none,none,none,none,none,none]))],[(.int .i64)],[],[]⟩
def Ac4:Kp:=⟨[],[(1,false)],[(.loc 1 0,false)],[],[]⟩
def Ac5:Sig:=⟨[(1,some (.ptr (.loc 1 0) 0))],[(.loc 1 0,(.box [none,none,none,none,none,none,none,none,none]))],[],[],[]⟩
def Ar2:List TOp:=[oo 24 (.fld 3 (.tmp 1)),oo 25 (.load false 1 (.tmp 24)),oo 26 (.fld 6 (.tmp 1)),oo 27 (.load false 1 (.tmp 26)),oo 28 (.fld 7 (.tmp 1)),oo 29 (.load false 1 (.tmp 28)),oo 30 (.fld 8 (.tmp 1)),oo 31 (.load false 1 (.tmp 30)),ot 32 .str (.lit false 1 [(.tmp 25),(.tmp 27),(.tmp 29),(.tmp 31)]),oo 33 (.len false (.tmp 32)),oo 34 (.mov (.cst (.int .i64 0)))]
def Ar3:List TOp:=[oo 35 (.bin false .lss (.tmp 34) (.tmp 33))]
def Ar4:List TOp:=[oo 36 (.idx 1 (.tmp 32) (.tmp 34)),oo 37 (.load false 1 (.tmp 36)),oo 6 (.mov (.tmp 37))]
def Ar5:List TOp:=[oo 38 (.mov (.tmp 6)),oo 39 (.call 0 0 (.cst (.fn 75)) [(.tmp 38)] [] []),oo 40 (.un .not (.tmp 39))]
def Ar6:List TOp:=[oo 2 (.mov (.cst (.bool false)))]
def Ar7:List TOp:=[oo 41 (.bin false .add (.tmp 34) (.cst (.int .i64 1))),oo 34 (.mov (.tmp 41))]
def Ar1:DC:=(.seq (.ops Ar3) (.seq (.cond (.tmp 35) .skip (.exit 2)) (.seq (.pass 3 (.seq (.ops Ar4) (.seq (.ops Ar5) (.cond (.tmp 40) (.free (.seq (.ops Ar6) (.keep Wq .ret))) .skip)))) (.ops Ar7))))
def Ar0:Kp:=⟨[],[(1,false),(32,false),(33,false),(34,false)],[(.loc 1 0,false)],[],[]⟩
def Asb:Sig:=⟨[(1,some (.ptr (.loc 1 0) 0)),(32,none),(33,none),(34,some (.ty (.int .i64)))],[(.loc 1 0,(.box [none,none,none,none,none,none,none,none,none]))],[(.int .i64)],[],[]⟩
def Ar8:List TOp:=[oo 7 (.mov (.cst (.fn 76)))]
def Ar9:List TOp:=[oo 42 (.fld 4 (.tmp 1)),oo 43 (.load false 1 (.tmp 42)),oo 44 (.len false (.tmp 43)),oo 45 (.bin false .geq (.tmp 44) (.cst (.int .i64 1))),oo 46 (.mov (.tmp 45)),og 47 46 true .bool (.fld 4 (.tmp 1)),og 48 46 true .bool (.load false 1 (.tmp 47)),og 49 46 true .bool (.len false (.tmp 48)),og 50 46 true .bool (.bin false .leq (.tmp 49) (.cst (.int .i64 8))),oo 51 (.pick (.tmp 46) (.tmp 50) (.cst (.bool false))),oo 52 (.mov (.tmp 51)),og 53 52 true .bool (.fld 4 (.tmp 1)),og 54 52 true .bool (.load false 1 (.tmp 53)),og 55 52 true .bool (.mov (.tmp 7)),og 56 52 true .bool (.call 0 0 (.cst (.fn 77)) [(.tmp 54),(.tmp 55)] [] []),og 57 52 true .bool (.un .not (.tmp 56)),oo 58 (.pick (.tmp 52) (.tmp 57) (.cst (.bool false))),oo 59 (.mov (.tmp 58)),og 60 59 true .bool (.fld 5 (.tmp 1)),og 61 59 true .bool (.load false 1 (.tmp 60)),og 62 59 true .bool (.call 0 0 (.cst (.fn 23)) [(.tmp 61)] [] []),oo 63 (.pick (.tmp 59) (.tmp 62) (.cst (.bool false))),oo 2 (.mov (.tmp 63))]
def A5z:TFd:=⟨1,[(.tmp 2,.bool)],[],(.seq (.ops Ax0) (.seq (.seq (.ops Ax1) (.joinO Ac4 Ac5 (.block 0 (.loop [1,14,15,16] [] Axy Asa Axz)))) (.seq (.seq (.ops Ar2) (.joinO Ac4 Ac5 (.block 2 (.loop [1,32,33,34] [] Ar0 Asb Ar1)))) (.seq (.ops Ar8) (.seq (.ops Ar9) (.keep Wq .ret))))))⟩
noncomputable def Ai1:Ent:=⟨[.ty (.st 7)],[],[(.st 7)],⟨(.ty .bool),[],[],[.bool],[],[]⟩,none,fun p=>Aba p⟩
theorem Avz:Ai1.ok Tryz.prog 43:=Ay hm Tryz.func43 (fd:=A5z) (by kernel_rfl) (Ao (l:=[(74,V4),(75,H7),(77,Eb),(23,Fl)]) (y:=[]) ⟨Ac1,Mw,Ir,F8,trivial⟩ trivial) (by kernel_rfl) (fun p=>by kernel_rfl)
def Abr:List TOp:=[oo 1 (.box (.tmp 0)),oo 2 (.mov (.cst (.bool false)))]
def Abs:List TOp:=[ot 3 (.st 7) (.load true 9 (.tmp 1)),oo 4 (.call 0 0 (.cst (.fn 43)) [(.tmp 3)] [] []),oo 5 (.un .not (.tmp 4)),oo 2 (.mov (.tmp 5))]
def Abq:Kp:=⟨[],[(2,false)],[],[],[]⟩
def Af6:TFd:=⟨1,[(.tmp 2,.bool)],[],(.seq (.ops Abr) (.seq (.ops Abs) (.keep Abq .ret)))⟩
noncomputable def Ow:Ent:=⟨[.ty (.st 7)],[],[(.st 7)],⟨(.ty .bool),[],[],[.bool],[],[]⟩,none,fun p=>Eo p⟩
theorem Abo:Ow.ok Tryz.prog 42:=Ay hm Tryz.func42 (fd:=Af6) (by kernel_rfl) (Ao (l:=[(43,Ai1)]) (y:=[]) ⟨Avz,trivial⟩ trivial) (by kernel_rfl) (fun p=>by kernel_rfl)
def L6:List TOp:=[oo 4 (.mov (.cst (.int .i64 0)))]
def L7:List TOp:=[oo 6 (.mov (.tmp 0)),oo 7 (.len false (.tmp 6)),oo 8 (.mov (.cst (.int .i64 0)))]
def L8:List TOp:=[oo 9 (.bin false .lss (.tmp 8) (.tmp 7))]
def L9:List TOp:=[oo 10 (.mov (.tmp 8)),oo 5 (.mov (.tmp 10))]
def Ma:List TOp:=[oo 11 (.mov (.tmp 1)),oo 12 (.mov (.tmp 0)),oo 13 (.mov (.tmp 5)),oo 14 (.idx 9 (.tmp 12) (.tmp 13)),ot 15 (.st 7) (.load true 9 (.tmp 14)),oo 16 (.call 0 0 (.tmp 11) [(.tmp 15)] [] [])]
def Mb:List TOp:=[oo 17 (.mov (.tmp 5)),oo 4 (.mov (.tmp 17))]
def E4:Kp:=⟨[],[(4,false)],[],[],[]⟩
def Mc:List TOp:=[oo 18 (.bin false .add (.tmp 8) (.cst (.int .i64 1))),oo 8 (.mov (.tmp 18))]
def L5:DC:=(.seq (.ops L8) (.seq (.cond (.tmp 9) .skip (.exit 0)) (.seq (.pass 1 (.seq (.ops L9) (.seq (.ops Ma) (.cond (.tmp 16) (.free (.seq (.ops Mb) (.keep E4 .ret))) .skip)))) (.ops Mc))))
def L4:Kp:=⟨[],[(0,false),(1,false),(7,false),(8,false)],[],[],[]⟩
def Ku:Sig:=⟨[(0,none),(1,some (.fnc 42)),(7,none),(8,some (.ty (.int .i64)))],[],[(.int .i64)],[],[]⟩
def Ks:Kp:=⟨[],[],[],[],[]⟩
def Kv:Sig:=⟨[],[],[],[],[]⟩
def Kt:List TOp:=[oo 4 (.mov (.cst (.int .i64 (-1))))]
def Nz:TFd:=⟨2,[(.tmp 4,.bool)],[],(.seq (.ops L6) (.seq (.seq (.ops L7) (.joinO Ks Kv (.block 0 (.loop [0,1,7,8] [] L4 Ku L5)))) (.seq (.ops Kt) (.keep E4 .ret))))⟩
noncomputable def Ff:Ent:=⟨[.ty (.sl (.st 7)),.fnc 42],[],[(.sl (.st 7))],⟨(.ty (.int .i64)),[],[],[(.int .i64)],[],[]⟩,none,fun p=>Dr p⟩
theorem Mo:Ff.ok Tryz.prog 78:=Ay hm Tryz.func78 (fd:=Nz) (by kernel_rfl) (Ao (l:=[(42,Ow)]) (y:=[]) ⟨Abo,trivial⟩ trivial) (by kernel_rfl) (fun p=>by kernel_rfl)
def Ii:List TOp:=[oo 4 (.mov (.cst (.bool false)))]
def Ij:List TOp:=[oo 5 (.mov (.tmp 0)),oo 6 (.mov (.tmp 1)),oo 7 (.call 0 0 (.cst (.fn 78)) [(.tmp 5),(.tmp 6)] [] []),oo 8 (.bin false .geq (.tmp 7) (.cst (.int .i64 0))),oo 4 (.mov (.tmp 8))]
def Ih:Kp:=⟨[],[(4,false)],[],[],[]⟩
def Kl:TFd:=⟨2,[(.tmp 4,.bool)],[],(.seq (.ops Ii) (.seq (.ops Ij) (.keep Ih .ret)))⟩
noncomputable def Ec:Ent:=⟨[.ty (.sl (.st 7)),.fnc 42],[],[(.sl (.st 7))],⟨(.ty .bool),[],[],[.bool],[],[]⟩,none,fun p=>Cb p⟩
theorem It:Ec.ok Tryz.prog 44:=Ay hm Tryz.func44 (fd:=Kl) (by kernel_rfl) (Ao (l:=[(78,Ff)]) (y:=[]) ⟨Mo,trivial⟩ trivial) (by kernel_rfl) (fun p=>by kernel_rfl)
def Af7:List TOp:=[oo 2 (.mov (.cst (.str []))),oo 3 (.mov (.cst (.int .i64 0)))]
def Af8:List TOp:=[oo 4 (.mov (.cst (.fn 42)))]
def Af9:List TOp:=[oo 12 (.mov (.tmp 0)),oo 13 (.len false (.tmp 12)),oo 14 (.bin false .gtr (.tmp 13) (.cst (.int .i64 16))),oo 15 (.mov (.tmp 14)),og 16 15 false .bool (.mov (.tmp 0)),og 17 15 false .bool (.mov (.tmp 4)),og 18 15 false .bool (.call 0 0 (.cst (.fn 44)) [(.tmp 16),(.tmp 17)] [] []),oo 19 (.pick (.tmp 15) (.cst (.bool true)) (.tmp 18))]
def Aga:List TOp:=[oo 2 (.mov (.cst (.str []))),oo 3 (.mov (.cst (.int .i64 1)))]
def Q5:Kp:=⟨[],[(2,false),(3,false)],[],[],[]⟩
def Agb:List TOp:=[oo 5 (.mov .nils)]
def Agc:List TOp:=[oo 20 (.mov (.tmp 0)),oo 21 (.len false (.tmp 20)),oo 22 (.mov (.cst (.int .i64 0)))]
def Agd:List TOp:=[oo 23 (.bin false .lss (.tmp 22) (.tmp 21))]
def Age:List TOp:=[oo 24 (.idx 9 (.tmp 20) (.tmp 22)),ot 25 (.st 7) (.load true 9 (.tmp 24)),oo 7 (.alloc [.pv (.str []),.pv (.str []),.pv (.str []),.pv (.str []),.nils,.nils,.pv (.str []),.pv (.str []),.pv (.str [])]),on (.store 9 (.tmp 7) (.tmp 25))]
def Agf:List TOp:=[oo 26 (.mov (.tmp 5)),oo 27 (.fld 0 (.tmp 7)),oo 28 (.load false 1 (.tmp 27)),oo 29 (.fld 1 (.tmp 7)),oo 30 (.load false 1 (.tmp 29)),oo 31 (.fld 2 (.tmp 7)),oo 32 (.load false 1 (.tmp 31)),oo 33 (.fld 3 (.tmp 7)),oo 34 (.load false 1 (.tmp 33)),ot 35 .str (.lit false 1 [(.cst (.str [112,114,111,100,117,99,116])),(.tmp 28),(.tmp 30),(.cst (.str [123])),(.cst (.str [98,97,115,105,115])),(.tmp 32),(.cst (.str [59])),(.cst (.str [112,101,114,105,111,100])),(.tmp 34),(.cst (.str [59])),(.cst (.str [116,105,101,114,115])),(.cst (.str [123]))]),ot 36 .str (.append 5 1 16 (.tmp 26) (.tmp 35)),oo 5 (.mov (.tmp 36))]
def Ad6:List TOp:=[oo 37 (.fld 4 (.tmp 7)),oo 38 (.load false 1 (.tmp 37)),oo 39 (.len false (.tmp 38)),oo 40 (.mov (.cst (.int .i64 0)))]
def Ad7:List TOp:=[oo 41 (.bin false .lss (.tmp 40) (.tmp 39))]
def Ad8:List TOp:=[oo 42 (.idx 2 (.tmp 38) (.tmp 40)),ot 43 (.st 6) (.load true 2 (.tmp 42)),oo 9 (.alloc [.pv (.str []),.pv (.str [])]),on (.store 2 (.tmp 9) (.tmp 43))]
def Ad9:List TOp:=[oo 44 (.mov (.tmp 5)),oo 45 (.fld 0 (.tmp 9)),oo 46 (.load false 1 (.tmp 45)),oo 47 (.fld 1 (.tmp 9)),oo 48 (.load false 1 (.tmp 47)),ot 49 .str (.lit false 1 [(.tmp 46),(.cst (.str [58])),(.tmp 48),(.cst (.str [37])),(.cst (.str [59]))]),ot 50 .str (.append 5 1 16 (.tmp 44) (.tmp 49)),oo 5 (.mov (.tmp 50))]
def Aea:List TOp:=[oo 51 (.bin false .add (.tmp 40) (.cst (.int .i64 1))),oo 40 (.mov (.tmp 51))]
def Ad4:DC:=(.seq (.ops Ad7) (.seq (.cond (.tmp 41) .skip (.exit 2)) (.seq (.pass 3 (.seq (.ops Ad8) (.ops Ad9))) (.ops Aea))))
def Ad0:Kp:=⟨[],[(5,false),(7,false),(20,false),(21,false),(22,false),(38,false),(39,false),(40,false)],[(.loc 5 0,false),(.loc 7 0,false)],[.loc 9 0],[]⟩
def Aeg:Sig:=⟨[(5,some (.own (.loc 5 0))),(7,some (.ptr (.loc 7 0) 0)),(20,none),(21,none),(22,none),(38,none),(39,none),(40,some (.ty (.int .i64)))],[(.loc 5 0,(.row .str)),(.loc 7 0,(.box [none,none,none,none,none,none,none,none,none]))],[(.int .i64),(.sl .str)],[],[]⟩
def Ad1:Kp:=⟨[],[(5,false),(7,false),(20,false),(21,false),(22,false)],[(.loc 5 0,false),(.loc 7 0,false)],[],[]⟩
def Aeh:Sig:=⟨[(5,some (.own (.loc 5 0))),(7,some (.ptr (.loc 7 0) 0)),(20,none),(21,none),(22,none)],[(.loc 5 0,(.row .str)),(.loc 7 0,(.box [none,none,none,none,none,none,none,none,none]))],[(.sl .str)],[],[]⟩
def Aeb:List TOp:=[oo 53 (.fld 5 (.tmp 7)),oo 54 (.load false 1 (.tmp 53)),oo 55 (.call 0 0 (.cst (.fn 37)) [(.tmp 54),(.cst (.int .i64 0))] [] []),oo 52 (.mov (.tmp 55)),oo 56 (.ext 0 (.tmp 52)),oo 57 (.ext 1 (.tmp 52)),oo 10 (.mov (.tmp 56)),oo 11 (.mov (.tmp 57))]
def Aec:List TOp:=[oo 58 (.mov (.tmp 5)),ot 59 .str (.lit false 1 [(.cst (.str [125])),(.cst (.str [102,101,101]))]),ot 60 .str (.append 5 1 16 (.tmp 58) (.tmp 59)),oo 61 (.mov (.tmp 10)),ot 62 .str (.append 60 1 16 (.tmp 60) (.tmp 61)),oo 5 (.mov (.tmp 62))]
def Aed:List TOp:=[oo 63 (.mov (.tmp 5)),oo 64 (.fld 6 (.tmp 7)),oo 65 (.load false 1 (.tmp 64)),oo 66 (.fld 7 (.tmp 7)),oo 67 (.load false 1 (.tmp 66)),oo 68 (.fld 8 (.tmp 7)),oo 69 (.load false 1 (.tmp 68)),ot 70 .str (.lit false 1 [(.cst (.str [59])),(.cst (.str [109,105,110,105,109,117,109])),(.tmp 65),(.cst (.str [59])),(.cst (.str [111,118,101,114,100,114,97,102,116])),(.tmp 67),(.cst (.str [59])),(.cst (.str [110,111,116,105,99,101])),(.tmp 69),(.cst (.str [59])),(.cst (.str [125]))]),ot 71 .str (.append 5 1 16 (.tmp 63) (.tmp 70)),oo 5 (.mov (.tmp 71))]
def Aee:List TOp:=[oo 72 (.bin false .add (.tmp 22) (.cst (.int .i64 1))),oo 22 (.mov (.tmp 72))]
def Ad5:DC:=(.seq (.ops Agd) (.seq (.cond (.tmp 23) .skip (.exit 0)) (.seq (.pass 1 (.seq (.ops Age) (.seq (.ops Agf) (.seq (.seq (.ops Ad6) (.join Ad1 Aeh (.block 2 (.loop [5,7,20,21,22,38,39,40] [] Ad0 Aeg Ad4)))) (.seq (.ops Aeb) (.seq (.ops Aec) (.ops Aed))))))) (.ops Aee))))
def Ad2:Kp:=⟨[],[(5,false),(20,false),(21,false),(22,false)],[(.loc 5 0,false)],[.loc 7 0],[((.slot 5 (.loc 5 0) 1),.str)]⟩
def Aei:Sig:=⟨[(5,some (.own (.loc 5 0))),(20,none),(21,none),(22,some (.ty (.int .i64)))],[(.loc 5 0,(.row .str))],[(.int .i64),(.sl .str)],[],[]⟩
def Ad3:Kp:=⟨[.loc 5 0],[(5,true)],[],[],[]⟩
def Aej:Sig:=⟨[(5,some (.ty (.sl .str)))],[],[(.sl .str)],[],[]⟩
def Aef:List TOp:=[oo 73 (.mov (.tmp 5)),oo 74 (.call 0 0 (.cst (.fn 38)) [(.tmp 73),(.cst (.str [32]))] [] []),oo 2 (.mov (.tmp 74)),oo 3 (.mov (.cst (.int .i64 0)))]
def Ajo:TFd:=⟨1,[(.tmp 2,.bool),(.tmp 3,.bool)],[],(.seq (.ops Af7) (.seq (.ops Af8) (.seq (.seq (.ops Af9) (.cond (.tmp 19) (.free (.seq (.ops Aga) (.keep Q5 .ret))) .skip)) (.seq (.ops Agb) (.seq (.seq (.ops Agc) (.join Ad3 Aej (.block 0 (.loop [5,20,21,22] [] Ad2 Aei Ad5)))) (.seq (.ops Aef) (.keep Q5 .ret)))))))⟩
noncomputable def Tn:Ent:=⟨[.ty (.sl (.st 7))],[],[(.sl (.st 7))],⟨(.tup [(.ty .str),(.ty (.int .i64))]),[],[],[.str,(.int .i64)],[],[]⟩,none,fun p=>H6 p⟩
theorem Afx:Tn.ok Tryz.prog 19:=Ay hm Tryz.func19 (fd:=Ajo) (by kernel_rfl) (Ao (l:=[(44,Ec),(37,(Ld 100000)),(38,Pr)]) (y:=[]) ⟨It,(Oy 100000),Q8,trivial⟩ trivial) (by kernel_rfl) (fun p=>by kernel_rfl)
def Wg:List TOp:=[oo 4 (.mov (.cst (.bool false)))]
def Wh:List TOp:=[oo 6 (.mov (.tmp 0)),oo 7 (.len false (.tmp 6)),oo 8 (.mov (.tmp 1)),oo 9 (.len false (.tmp 8)),oo 10 (.bin false .neq (.tmp 7) (.tmp 9))]
def Wi:List TOp:=[oo 4 (.mov (.cst (.bool false)))]
def Fb:Kp:=⟨[],[(4,false)],[],[],[]⟩
def Wj:List TOp:=[oo 5 (.mov (.cst (.int .i64 0)))]
def Wk:List TOp:=[oo 11 (.mov (.tmp 5)),oo 12 (.mov (.tmp 0)),oo 13 (.len false (.tmp 12)),oo 14 (.bin false .lss (.tmp 11) (.tmp 13))]
def Wl:List TOp:=[oo 17 (.mov (.tmp 0)),oo 18 (.mov (.tmp 5)),oo 19 (.idx 2 (.tmp 17) (.tmp 18)),ot 20 (.st 4) (.load true 2 (.tmp 19)),oo 21 (.mov (.tmp 1)),oo 22 (.mov (.tmp 5)),oo 23 (.idx 2 (.tmp 21) (.tmp 22)),ot 24 (.st 4) (.load true 2 (.tmp 23)),oo 25 (.eqs true [.i,.s] (.tmp 20) (.tmp 24))]
def Wm:List TOp:=[oo 4 (.mov (.cst (.bool false)))]
def Wn:List TOp:=[oo 15 (.mov (.tmp 5)),oo 16 (.bin false .add (.tmp 15) (.cst (.int .i64 1))),oo 5 (.mov (.tmp 16))]
def Wf:DC:=(.seq (.seq (.ops Wk) (.cond (.tmp 14) .skip (.exit 0))) (.seq (.pass 1 (.seq (.draw [] Wl) (.cond (.tmp 25) (.free (.seq (.ops Wm) (.keep Fb .ret))) .skip))) (.ops Wn)))
def T4:Kp:=⟨[],[(0,false),(1,false),(5,false)],[],[],[]⟩
def T7:Sig:=⟨[(0,none),(1,none),(5,some (.ty (.int .i64)))],[],[(.int .i64)],[],[]⟩
def T5:Kp:=⟨[],[],[],[],[]⟩
def T8:Sig:=⟨[],[],[],[],[]⟩
def T6:List TOp:=[oo 4 (.mov (.cst (.bool true)))]
def Zt:TFd:=⟨2,[(.tmp 4,.bool)],[],(.seq (.ops Wg) (.seq (.seq (.ops Wh) (.cond (.tmp 10) (.free (.seq (.ops Wi) (.keep Fb .ret))) .skip)) (.seq (.seq (.ops Wj) (.joinO T5 T8 (.block 0 (.loop [0,1,5] [] T4 T7 Wf)))) (.seq (.ops T6) (.keep Fb .ret)))))⟩
noncomputable def Fm:Ent:=⟨[.ty (.sl (.st 4)),.ty (.sl (.st 4))],[],[(.sl (.st 4)),(.sl (.st 4))],⟨(.ty .bool),[],[],[.bool],[],[]⟩,none,fun p=>Bt p.1 p.2⟩
theorem Hv:Fm.ok Tryz.prog 11:=Ay hm Tryz.func11 (fd:=Zt) (by kernel_rfl) (Ao (l:=[]) (y:=[]) trivial trivial) (by kernel_rfl) (fun p=>by kernel_rfl)
def Pz:List TOp:=[oo 4 (.mov (.cst (.bool false)))]
def P0:List TOp:=[oo 6 (.mov (.tmp 0)),oo 7 (.len false (.tmp 6)),oo 8 (.mov (.tmp 1)),oo 9 (.len false (.tmp 8)),oo 10 (.bin false .neq (.tmp 7) (.tmp 9))]
def P1:List TOp:=[oo 4 (.mov (.cst (.bool false)))]
def Du:Kp:=⟨[],[(4,false)],[],[],[]⟩
def P2:List TOp:=[oo 11 (.mov (.tmp 0)),oo 12 (.len false (.tmp 11)),oo 13 (.mov (.cst (.int .i64 0)))]
def P3:List TOp:=[oo 14 (.bin false .lss (.tmp 13) (.tmp 12))]
def P4:List TOp:=[oo 15 (.mov (.tmp 13)),oo 5 (.mov (.tmp 15))]
def P5:List TOp:=[oo 16 (.mov (.tmp 0)),oo 17 (.mov (.tmp 5)),oo 18 (.idx 2 (.tmp 16) (.tmp 17)),ot 19 (.st 6) (.load true 2 (.tmp 18)),oo 20 (.mov (.tmp 1)),oo 21 (.mov (.tmp 5)),oo 22 (.idx 2 (.tmp 20) (.tmp 21)),ot 23 (.st 6) (.load true 2 (.tmp 22)),oo 24 (.eqs true [.s,.s] (.tmp 19) (.tmp 23))]
def P6:List TOp:=[oo 4 (.mov (.cst (.bool false)))]
def P7:List TOp:=[oo 25 (.bin false .add (.tmp 13) (.cst (.int .i64 1))),oo 13 (.mov (.tmp 25))]
def Pd:DC:=(.seq (.ops P3) (.seq (.cond (.tmp 14) .skip (.exit 0)) (.seq (.pass 1 (.seq (.ops P4) (.seq (.draw [] P5) (.cond (.tmp 24) (.free (.seq (.ops P6) (.keep Du .ret))) .skip)))) (.ops P7))))
def Pa:Kp:=⟨[],[(0,false),(1,false),(12,false),(13,false)],[],[],[]⟩
def Pf:Sig:=⟨[(0,none),(1,none),(12,none),(13,some (.ty (.int .i64)))],[],[(.int .i64)],[],[]⟩
def Pb:Kp:=⟨[],[],[],[],[]⟩
def Pg:Sig:=⟨[],[],[],[],[]⟩
def Pe:List TOp:=[oo 4 (.mov (.cst (.bool true)))]
def Uy:TFd:=⟨2,[(.tmp 4,.bool)],[],(.seq (.ops Pz) (.seq (.seq (.ops P0) (.cond (.tmp 10) (.free (.seq (.ops P1) (.keep Du .ret))) .skip)) (.seq (.seq (.ops P2) (.joinO Pb Pg (.block 0 (.loop [0,1,12,13] [] Pa Pf Pd)))) (.seq (.ops Pe) (.keep Du .ret)))))⟩
noncomputable def Gz:Ent:=⟨[.ty (.sl (.st 6)),.ty (.sl (.st 6))],[],[(.sl (.st 6)),(.sl (.st 6))],⟨(.ty .bool),[],[],[.bool],[],[]⟩,none,fun p=>Dg p.1 p.2⟩
theorem Ql:Gz.ok Tryz.prog 48:=Ay hm Tryz.func48 (fd:=Uy) (by kernel_rfl) (Ao (l:=[]) (y:=[]) trivial trivial) (by kernel_rfl) (fun p=>by kernel_rfl)
def P8:List TOp:=[oo 4 (.mov (.cst (.bool false)))]
def P9:List TOp:=[oo 6 (.mov (.tmp 0)),oo 7 (.len false (.tmp 6)),oo 8 (.mov (.tmp 1)),oo 9 (.len false (.tmp 8)),oo 10 (.bin false .neq (.tmp 7) (.tmp 9))]
def Qa:List TOp:=[oo 4 (.mov (.cst (.bool false)))]
def Dv:Kp:=⟨[],[(4,false)],[],[],[]⟩
def Qb:List TOp:=[oo 11 (.mov (.tmp 0)),oo 12 (.len false (.tmp 11)),oo 13 (.mov (.cst (.int .i64 0)))]
def Qc:List TOp:=[oo 14 (.bin false .lss (.tmp 13) (.tmp 12))]
def Qd:List TOp:=[oo 15 (.mov (.tmp 13)),oo 5 (.mov (.tmp 15))]
def Qe:List TOp:=[oo 16 (.mov (.tmp 0)),oo 17 (.mov (.tmp 5)),oo 18 (.idx 2 (.tmp 16) (.tmp 17)),ot 19 (.st 4) (.load true 2 (.tmp 18)),oo 20 (.mov (.tmp 1)),oo 21 (.mov (.tmp 5)),oo 22 (.idx 2 (.tmp 20) (.tmp 21)),ot 23 (.st 4) (.load true 2 (.tmp 22)),oo 24 (.eqs true [.i,.s] (.tmp 19) (.tmp 23))]
def Qf:List TOp:=[oo 4 (.mov (.cst (.bool false)))]
def Qg:List TOp:=[oo 25 (.bin false .add (.tmp 13) (.cst (.int .i64 1))),oo 13 (.mov (.tmp 25))]
def Pj:DC:=(.seq (.ops Qc) (.seq (.cond (.tmp 14) .skip (.exit 0)) (.seq (.pass 1 (.seq (.ops Qd) (.seq (.draw [] Qe) (.cond (.tmp 24) (.free (.seq (.ops Qf) (.keep Dv .ret))) .skip)))) (.ops Qg))))
def Ph:Kp:=⟨[],[(0,false),(1,false),(12,false),(13,false)],[],[],[]⟩
def Pl:Sig:=⟨[(0,none),(1,none),(12,none),(13,some (.ty (.int .i64)))],[],[(.int .i64)],[],[]⟩
def Pi:Kp:=⟨[],[],[],[],[]⟩
def Pm:Sig:=⟨[],[],[],[],[]⟩
def Pk:List TOp:=[oo 4 (.mov (.cst (.bool true)))]
def Uz:TFd:=⟨2,[(.tmp 4,.bool)],[],(.seq (.ops P8) (.seq (.seq (.ops P9) (.cond (.tmp 10) (.free (.seq (.ops Qa) (.keep Dv .ret))) .skip)) (.seq (.seq (.ops Qb) (.joinO Pi Pm (.block 0 (.loop [0,1,12,13] [] Ph Pl Pj)))) (.seq (.ops Pk) (.keep Dv .ret)))))⟩
noncomputable def G0:Ent:=⟨[.ty (.sl (.st 4)),.ty (.sl (.st 4))],[],[(.sl (.st 4)),(.sl (.st 4))],⟨(.ty .bool),[],[],[.bool],[],[]⟩,none,fun p=>Dh p.1 p.2⟩
theorem Qm:G0.ok Tryz.prog 49:=Ay hm Tryz.func49 (fd:=Uz) (by kernel_rfl) (Ao (l:=[]) (y:=[]) trivial trivial) (by kernel_rfl) (fun p=>by kernel_rfl)
def Arh:List TOp:=[oo 2 (.box (.tmp 0)),oo 3 (.box (.tmp 1)),oo 4 (.mov (.cst (.bool false)))]
def Ari:List TOp:=[oo 5 (.fld 4 (.tmp 2)),oo 6 (.load false 1 (.tmp 5)),oo 7 (.fld 4 (.tmp 3)),oo 8 (.load false 1 (.tmp 7)),oo 9 (.call 0 0 (.cst (.fn 48)) [(.tmp 6),(.tmp 8)] [] []),oo 10 (.mov (.tmp 9)),og 11 10 true .bool (.fld 5 (.tmp 2)),og 12 10 true .bool (.load false 1 (.tmp 11)),og 13 10 true .bool (.fld 5 (.tmp 3)),og 14 10 true .bool (.load false 1 (.tmp 13)),og 15 10 true .bool (.call 0 0 (.cst (.fn 49)) [(.tmp 12),(.tmp 14)] [] []),oo 16 (.pick (.tmp 10) (.tmp 15) (.cst (.bool false))),oo 17 (.mov (.tmp 16)),og 18 17 true .bool (.fld 0 (.tmp 2)),og 19 17 true .bool (.load false 1 (.tmp 18)),og 20 17 true .bool (.fld 0 (.tmp 3)),og 21 17 true .bool (.load false 1 (.tmp 20)),og 22 17 true .bool (.bin false .eql (.tmp 19) (.tmp 21)),oo 23 (.pick (.tmp 17) (.tmp 22) (.cst (.bool false))),oo 24 (.mov (.tmp 23)),og 25 24 true .bool (.fld 1 (.tmp 2)),og 26 24 true .bool (.load false 1 (.tmp 25)),og 27 24 true .bool (.fld 1 (.tmp 3)),og 28 24 true .bool (.load false 1 (.tmp 27)),og 29 24 true .bool (.bin false .eql (.tmp 26) (.tmp 28)),oo 30 (.pick (.tmp 24) (.tmp 29) (.cst (.bool false))),oo 31 (.mov (.tmp 30)),og 32 31 true .bool (.fld 2 (.tmp 2)),og 33 31 true .bool (.load false 1 (.tmp 32)),og 34 31 true .bool (.fld 2 (.tmp 3)),og 35 31 true .bool (.load false 1 (.tmp 34)),og 36 31 true .bool (.bin false .eql (.tmp 33) (.tmp 35)),oo 37 (.pick (.tmp 31) (.tmp 36) (.cst (.bool false))),oo 38 (.mov (.tmp 37)),og 39 38 true .bool (.fld 3 (.tmp 2)),og 40 38 true .bool (.load false 1 (.tmp 39)),og 41 38 true .bool (.fld 3 (.tmp 3)),og 42 38 true .bool (.load false 1 (.tmp 41)),og 43 38 true .bool (.bin false .eql (.tmp 40) (.tmp 42)),oo 44 (.pick (.tmp 38) (.tmp 43) (.cst (.bool false))),oo 45 (.mov (.tmp 44)),og 46 45 true .bool (.fld 6 (.tmp 2)),og 47 45 true .bool (.load false 1 (.tmp 46)),og 48 45 true .bool (.fld 6 (.tmp 3)),og 49 45 true .bool (.load false 1 (.tmp 48)),og 50 45 true .bool (.bin false .eql (.tmp 47) (.tmp 49)),oo 51 (.pick (.tmp 45) (.tmp 50) (.cst (.bool false))),oo 52 (.mov (.tmp 51)),og 53 52 true .bool (.fld 7 (.tmp 2)),og 54 52 true .bool (.load false 1 (.tmp 53)),og 55 52 true .bool (.fld 7 (.tmp 3)),og 56 52 true .bool (.load false 1 (.tmp 55)),og 57 52 true .bool (.bin false .eql (.tmp 54) (.tmp 56)),oo 58 (.pick (.tmp 52) (.tmp 57) (.cst (.bool false))),oo 59 (.mov (.tmp 58)),og 60 59 true .bool (.fld 8 (.tmp 2)),og 61 59 true .bool (.load false 1 (.tmp 60)),og 62 59 true .bool (.fld 8 (.tmp 3)),og 63 59 true .bool (.load false 1 (.tmp 62)),og 64 59 true .bool (.bin false .eql (.tmp 61) (.tmp 63)),oo 65 (.pick (.tmp 59) (.tmp 64) (.cst (.bool false))),oo 4 (.mov (.tmp 65))]
def Arg:Kp:=⟨[],[(4,false)],[],[],[]⟩
def A12:TFd:=⟨2,[(.tmp 4,.bool)],[],(.seq (.ops Arh) (.seq (.ops Ari) (.keep Arg .ret)))⟩
noncomputable def Afy:Ent:=⟨[.ty (.st 7),.ty (.st 7)],[],[(.st 7),(.st 7)],⟨(.ty .bool),[],[],[.bool],[],[]⟩,none,fun p=>Ox p.1 p.2⟩
theorem Aqk:Afy.ok Tryz.prog 24:=Ay hm Tryz.func24 (fd:=A12) (by kernel_rfl) (Ao (l:=[(48,Gz),(49,G0)]) (y:=[]) ⟨Ql,Qm,trivial⟩ trivial) (by kernel_rfl) (fun p=>by kernel_rfl)
end Go.Av.G
end
section
set_option maxRecDepth 100000
set_option maxHeartbeats 8000000
namespace Go.Av.G
open Go Go.Av Go.Proofs
def V5:List TOp:=[oo 0 (.mov (.cst (.bool false)))]
def V6:List TOp:=[oo 29 (.call 0 0 (.cst (.fn 9)) [(.cst (.str [97,45,98,32,45,32,99,42,45,50,37]))] [] []),oo 28 (.mov (.tmp 29)),oo 30 (.ext 0 (.tmp 28)),oo 31 (.ext 1 (.tmp 28)),oo 32 (.ext 2 (.tmp 28)),oo 33 (.ext 3 (.tmp 28)),oo 1 (.mov (.tmp 30)),oo 2 (.mov (.tmp 31)),oo 3 (.mov (.tmp 32)),oo 4 (.mov (.tmp 33))]
def V7:List TOp:=[oo 35 (.mov (.tmp 1)),oo 36 (.call 0 0 (.cst (.fn 17)) [(.tmp 35)] [] []),oo 34 (.mov (.tmp 36)),oo 37 (.ext 0 (.tmp 34)),oo 38 (.ext 1 (.tmp 34)),oo 5 (.mov (.tmp 37)),oo 6 (.mov (.tmp 38))]
def V8:List TOp:=[oo 40 (.call 0 0 (.cst (.fn 9)) [(.cst (.str [40,97,32,60,32,49,41,32,61,32,40,110,111,116,32,98,41]))] [] []),oo 39 (.mov (.tmp 40)),oo 41 (.ext 0 (.tmp 39)),oo 42 (.ext 1 (.tmp 39)),oo 43 (.ext 2 (.tmp 39)),oo 44 (.ext 3 (.tmp 39)),oo 7 (.mov (.tmp 41)),oo 8 (.mov (.tmp 42)),oo 9 (.mov (.tmp 43)),oo 10 (.mov (.tmp 44))]
def V9:List TOp:=[oo 46 (.mov (.tmp 7)),oo 47 (.call 0 0 (.cst (.fn 17)) [(.tmp 46)] [] []),oo 45 (.mov (.tmp 47)),oo 48 (.ext 0 (.tmp 45)),oo 49 (.ext 1 (.tmp 45)),oo 11 (.mov (.tmp 48)),oo 12 (.mov (.tmp 49))]
def Wa:List TOp:=[oo 51 (.call 0 0 (.cst (.fn 9)) [(.cst (.str [97,10,32,60,32,98,32,60,32,99]))] [] []),oo 50 (.mov (.tmp 51)),oo 52 (.ext 0 (.tmp 50)),oo 53 (.ext 1 (.tmp 50)),oo 54 (.ext 2 (.tmp 50)),oo 55 (.ext 3 (.tmp 50)),oo 13 (.mov (.tmp 52)),oo 14 (.mov (.tmp 53)),oo 15 (.mov (.tmp 54)),oo 16 (.mov (.tmp 55))]
def Wb:List TOp:=[oo 57 (.call 0 0 (.cst (.fn 9)) [(.cst (.str [40,97]))] [] []),oo 56 (.mov (.tmp 57)),oo 58 (.ext 0 (.tmp 56)),oo 59 (.ext 1 (.tmp 56)),oo 60 (.ext 2 (.tmp 56)),oo 61 (.ext 3 (.tmp 56)),oo 17 (.mov (.tmp 58)),oo 18 (.mov (.tmp 59)),oo 19 (.mov (.tmp 60)),oo 20 (.mov (.tmp 61))]
def Wc:List TOp:=[oo 63 (.call 0 0 (.cst (.fn 12)) [(.cst (.str [112,114,111,100,117,99,116,32,115,97,118,101,32,101,117,114,32,123,32,98,97,115,105,115,32,97,99,116,51,54,53,32,59,32,112,101,114,105,111,100,32,51,32,59,32,116,105,101,114,115,32,123,32,48,32,58,32,49,46,50,53,32,37,32,59,32,53,48,48,32,58,32,50,32,37,32,59,32,125,32,102,101,101,32,105,102,32,98,97,108,97,110,99,101,32,60,32,49,48,32,116,104,101,110,32,49,32,101,108,115,101,32,48,32,59,32,109,105,110,105,109,117,109,32,53,32,59,32,111,118,101,114,100,114,97,102,116,32,48,32,59,32,110,111,116,105,99,101,32,51,48,32,59,32,125]))] [] []),oo 62 (.mov (.tmp 63)),oo 64 (.ext 0 (.tmp 62)),oo 65 (.ext 1 (.tmp 62)),oo 66 (.ext 2 (.tmp 62)),oo 67 (.ext 3 (.tmp 62)),oo 21 (.mov (.tmp 64)),oo 22 (.mov (.tmp 65)),oo 23 (.mov (.tmp 66)),oo 24 (.mov (.tmp 67))]
def Wd:List TOp:=[oo 69 (.mov (.tmp 21)),oo 70 (.call 0 0 (.cst (.fn 19)) [(.tmp 69)] [] []),oo 68 (.mov (.tmp 70)),oo 71 (.ext 0 (.tmp 68)),oo 72 (.ext 1 (.tmp 68)),oo 25 (.mov (.tmp 71)),oo 26 (.mov (.tmp 72))]
def We:List TOp:=[oo 73 (.mov (.tmp 1)),ot 74 (.st 4) (.build [.pv (.int .i64 0),.pv (.str [])] [(0,1,(.cst (.int .i64 4)))]),ot 75 (.st 4) (.build [.pv (.int .i64 0),.pv (.str [])] [(0,1,(.cst (.int .i64 4)))]),ot 76 (.st 4) (.build [.pv (.int .i64 0),.pv (.str [])] [(0,1,(.cst (.int .i64 1))),(1,1,(.cst (.str [97])))]),ot 77 (.st 4) (.build [.pv (.int .i64 0),.pv (.str [])] [(0,1,(.cst (.int .i64 1))),(1,1,(.cst (.str [98])))]),ot 78 (.st 4) (.build [.pv (.int .i64 0),.pv (.str [])] [(0,1,(.cst (.int .i64 5)))]),ot 79 (.st 4) (.build [.pv (.int .i64 0),.pv (.str [])] [(0,1,(.cst (.int .i64 1))),(1,1,(.cst (.str [99])))]),ot 80 (.st 4) (.build [.pv (.int .i64 0),.pv (.str [])] [(0,1,(.cst (.int .i64 2)))]),ot 81 (.st 4) (.build [.pv (.int .i64 0),.pv (.str [])] [(1,1,(.cst (.str [50,37])))]),ot 82 (.st 4) (.lit false 2 [(.tmp 74),(.tmp 75),(.tmp 76),(.tmp 77),(.tmp 78),(.tmp 79),(.tmp 80),(.tmp 81)]),oo 83 (.call 0 0 (.cst (.fn 11)) [(.tmp 73),(.tmp 82)] [] []),oo 27 (.mov (.tmp 83))]
def Tr:List TOp:=[oo 84 (.mov (.tmp 21)),oo 85 (.len false (.tmp 84)),oo 86 (.bin false .neq (.tmp 85) (.cst (.int .i64 1)))]
def Ts:List TOp:=[oo 0 (.mov (.cst (.bool false)))]
def Hj:Kp:=⟨[],[(0,false)],[],[],[]⟩
def Tt:List TOp:=[oo 87 (.mov (.tmp 4)),oo 88 (.bin false .eql (.tmp 87) (.cst (.int .i64 0))),oo 89 (.mov (.tmp 88)),og 90 89 true .bool (.mov (.tmp 27)),oo 91 (.pick (.tmp 89) (.tmp 90) (.cst (.bool false))),oo 92 (.mov (.tmp 91)),og 93 92 true .bool (.mov (.tmp 6)),og 94 92 true .bool (.bin false .eql (.tmp 93) (.cst (.int .i64 0))),oo 95 (.pick (.tmp 92) (.tmp 94) (.cst (.bool false))),oo 96 (.mov (.tmp 95)),og 97 96 true .bool (.mov (.tmp 5)),og 98 96 true .bool (.bin false .eql (.tmp 97) (.cst (.str [97,32,45,32,98,32,45,32,99,32,42,32,45,32,50,32,37]))),oo 99 (.pick (.tmp 96) (.tmp 98) (.cst (.bool false))),oo 100 (.mov (.tmp 99)),og 101 100 true .bool (.mov (.tmp 1)),og 102 100 true .bool (.call 0 0 (.cst (.fn 21)) [(.tmp 101)] [] []),og 103 100 true .bool (.bin false .eql (.tmp 102) (.cst (.int .i64 4))),oo 104 (.pick (.tmp 100) (.tmp 103) (.cst (.bool false))),oo 105 (.mov (.tmp 104)),og 106 105 true .bool (.mov (.tmp 10)),og 107 105 true .bool (.bin false .eql (.tmp 106) (.cst (.int .i64 0))),oo 108 (.pick (.tmp 105) (.tmp 107) (.cst (.bool false))),oo 109 (.mov (.tmp 108)),og 110 109 true .bool (.mov (.tmp 12)),og 111 109 true .bool (.bin false .eql (.tmp 110) (.cst (.int .i64 0))),oo 112 (.pick (.tmp 109) (.tmp 111) (.cst (.bool false))),oo 113 (.mov (.tmp 112)),og 114 113 true .bool (.mov (.tmp 11)),og 115 113 true .bool (.bin false .eql (.tmp 114) (.cst (.str [40,32,97,32,60,32,49,32,41,32,61,32,40,32,110,111,116,32,98,32,41]))),oo 116 (.pick (.tmp 113) (.tmp 115) (.cst (.bool false))),oo 117 (.mov (.tmp 116)),og 118 117 true .bool (.mov (.tmp 16)),og 119 117 true .bool (.bin false .eql (.tmp 118) (.cst (.int .i64 14))),oo 120 (.pick (.tmp 117) (.tmp 119) (.cst (.bool false))),oo 121 (.mov (.tmp 120)),og 122 121 true .bool (.mov (.tmp 14)),og 123 121 true .bool (.bin false .eql (.tmp 122) (.cst (.int .i64 2))),oo 124 (.pick (.tmp 121) (.tmp 123) (.cst (.bool false))),oo 125 (.mov (.tmp 124)),og 126 125 true .bool (.mov (.tmp 15)),og 127 125 true .bool (.bin false .eql (.tmp 126) (.cst (.int .i64 6))),oo 128 (.pick (.tmp 125) (.tmp 127) (.cst (.bool false))),oo 129 (.mov (.tmp 128)),og 130 129 true .bool (.mov (.tmp 20)),og 131 129 true .bool (.bin false .eql (.tmp 130) (.cst (.int .i64 14))),oo 132 (.pick (.tmp 129) (.tmp 131) (.cst (.bool false))),oo 133 (.mov (.tmp 132)),og 134 133 true .bool (.mov (.tmp 18)),og 135 133 true .bool (.bin false .eql (.tmp 134) (.cst (.int .i64 1))),oo 136 (.pick (.tmp 133) (.tmp 135) (.cst (.bool false))),oo 137 (.mov (.tmp 136)),og 138 137 true .bool (.mov (.tmp 19)),og 139 137 true .bool (.bin false .eql (.tmp 138) (.cst (.int .i64 3))),oo 140 (.pick (.tmp 137) (.tmp 139) (.cst (.bool false))),oo 141 (.mov (.tmp 140)),og 142 141 true .bool (.mov (.tmp 24)),og 143 141 true .bool (.bin false .eql (.tmp 142) (.cst (.int .i64 0))),oo 144 (.pick (.tmp 141) (.tmp 143) (.cst (.bool false))),oo 145 (.mov (.tmp 144)),og 146 145 true .bool (.mov (.tmp 26)),og 147 145 true .bool (.bin false .eql (.tmp 146) (.cst (.int .i64 0))),oo 148 (.pick (.tmp 145) (.tmp 147) (.cst (.bool false))),oo 149 (.mov (.tmp 148)),og 150 149 true .bool (.mov (.tmp 25)),og 151 149 true .bool (.bin false .eql (.tmp 150) (.cst (.str [112,114,111,100,117,99,116,32,115,97,118,101,32,101,117,114,32,123,32,98,97,115,105,115,32,97,99,116,51,54,53,32,59,32,112,101,114,105,111,100,32,51,32,59,32,116,105,101,114,115,32,123,32,48,32,58,32,49,46,50,53,32,37,32,59,32,53,48,48,32,58,32,50,32,37,32,59,32,125,32,102,101,101,32,105,102,32,98,97,108,97,110,99,101,32,60,32,49,48,32,116,104,101,110,32,49,32,101,108,115,101,32,48,32,59,32,109,105,110,105,109,117,109,32,53,32,59,32,111,118,101,114,100,114,97,102,116,32,48,32,59,32,110,111,116,105,99,101,32,51,48,32,59,32,125]))),oo 152 (.pick (.tmp 149) (.tmp 151) (.cst (.bool false))),oo 153 (.mov (.tmp 152)),og 154 153 true .bool (.mov (.tmp 21)),og 155 153 true .bool (.idx 9 (.tmp 154) (.cst (.int .i64 0))),og 156 153 true .bool (.fld 4 (.tmp 155)),og 157 153 true .bool (.load false 1 (.tmp 156)),og 158 153 true .bool (.len false (.tmp 157)),og 159 153 true .bool (.bin false .eql (.tmp 158) (.cst (.int .i64 2))),oo 160 (.pick (.tmp 153) (.tmp 159) (.cst (.bool false))),oo 161 (.mov (.tmp 160)),og 162 161 true .bool (.mov (.tmp 21)),og 163 161 true .bool (.idx 9 (.tmp 162) (.cst (.int .i64 0))),og 164 161 true .bool (.fld 4 (.tmp 163)),og 165 161 true .bool (.load false 1 (.tmp 164)),og 166 161 true .bool (.idx 2 (.tmp 165) (.cst (.int .i64 1))),og 167 161 true .bool (.fld 1 (.tmp 166)),og 168 161 true .bool (.load false 1 (.tmp 167)),og 169 161 true .bool (.bin false .eql (.tmp 168) (.cst (.str [50]))),oo 170 (.pick (.tmp 161) (.tmp 169) (.cst (.bool false))),oo 171 (.mov (.tmp 170)),og 172 171 true .bool (.mov (.tmp 21)),og 173 171 true .bool (.idx 9 (.tmp 172) (.cst (.int .i64 0))),og 174 171 true .bool (.fld 8 (.tmp 173)),og 175 171 true .bool (.load false 1 (.tmp 174)),og 176 171 true .bool (.bin false .eql (.tmp 175) (.cst (.str [51,48]))),oo 177 (.pick (.tmp 171) (.tmp 176) (.cst (.bool false))),oo 178 (.mov (.tmp 177)),og 179 178 true .bool (.mov (.tmp 21)),og 180 178 true .bool (.idx 9 (.tmp 179) (.cst (.int .i64 0))),og 181 178 true (.st 7) (.load true 9 (.tmp 180)),og 182 178 true .bool (.mov (.tmp 21)),og 183 178 true .bool (.idx 9 (.tmp 182) (.cst (.int .i64 0))),og 184 178 true (.st 7) (.load true 9 (.tmp 183)),og 185 178 true .bool (.call 0 0 (.cst (.fn 24)) [(.tmp 181),(.tmp 184)] [] []),oo 186 (.pick (.tmp 178) (.tmp 185) (.cst (.bool false))),oo 187 (.mov (.tmp 186)),og 188 187 true (.st 4) (.build [.pv (.int .i64 0),.pv (.str [])] [(0,1,(.cst (.int .i64 2)))]),og 189 187 true (.st 4) (.lit false 2 [(.tmp 188)]),og 190 187 true .bool (.call 0 0 (.cst (.fn 23)) [(.tmp 189)] [] []),og 191 187 true .bool (.un .not (.tmp 190)),oo 192 (.pick (.tmp 187) (.tmp 191) (.cst (.bool false))),oo 193 (.mov (.tmp 192)),og 194 193 true .bool (.mov (.tmp 1)),og 195 193 true .bool (.call 0 0 (.cst (.fn 23)) [(.tmp 194)] [] []),oo 196 (.pick (.tmp 193) (.tmp 195) (.cst (.bool false))),oo 0 (.mov (.tmp 196))]
def Zs:TFd:=⟨0,[(.tmp 0,.bool)],[],(.seq (.ops V5) (.seq (.ops V6) (.seq (.ops V7) (.seq (.ops V8) (.seq (.ops V9) (.seq (.ops Wa) (.seq (.ops Wb) (.seq (.ops Wc) (.seq (.ops Wd) (.seq (.ops We) (.seq (.seq (.ops Tr) (.cond (.tmp 86) (.free (.seq (.ops Ts) (.keep Hj .ret))) .skip)) (.seq (.draw [] Tt) (.keep Hj .ret)))))))))))))⟩
noncomputable def Jr:Ent:=⟨[],[],[],⟨(.ty .bool),[],[],[.bool],[],[]⟩,none,fun p=>Cm⟩
theorem Vj:Jr.ok Tryz.prog 8:=Ay hm Tryz.func8 (fd:=Zs) (by kernel_rfl) (Ao (l:=[(9,V0),(17,Acv),(12,Ai0),(19,Tn),(11,Fm),(21,Ri),(24,Afy),(23,Fl)]) (y:=[]) ⟨Acw,Amw,Avy,Afx,Hv,Zl,Aqk,F8,trivial⟩ trivial) (by kernel_rfl) (fun p=>by kernel_rfl)
end Go.Av.G
end
section
set_option maxRecDepth 100000
set_option maxHeartbeats 8000000
namespace Go.Av.G
open Go Go.Av Go.Proofs
def X1:List TOp:=[oo 6 (.mov .nils)]
def X2:List TOp:=[oo 8 (.mov (.tmp 0)),ot 9 (.st 4) (.build [.pv (.int .i64 0),.pv (.str [])] [(0,1,(.tmp 8))]),ot 10 (.st 4) (.lit true 2 [(.tmp 9)]),oo 11 (.mov (.tmp 1)),ot 12 (.st 4) (.append 10 2 24 (.tmp 10) (.tmp 11)),oo 7 (.mov (.tmp 12))]
def X3:List TOp:=[ot 13 (.st 4) (.lit false 2 []),oo 14 (.mov (.tmp 7)),ot 15 (.st 4) (.append 13 2 24 (.tmp 13) (.tmp 14)),oo 16 (.mov (.tmp 2)),ot 17 (.st 4) (.append 15 2 24 (.tmp 15) (.tmp 16)),oo 6 (.mov (.tmp 17))]
def X0:Kp:=⟨[.loc 15 0],[(6,true)],[],[],[]⟩
def Abp:TFd:=⟨3,[(.tmp 6,.bool)],[],(.seq (.ops X1) (.seq (.ops X2) (.seq (.ops X3) (.keep X0 .ret))))⟩
def Li:Ent:=⟨[.ty (.int .i64),.ty (.sl (.st 4)),.ty (.sl (.st 4))],[],[(.int .i64),(.sl (.st 4)),(.sl (.st 4))],⟨(.ty (.sl (.st 4))),[],[],[(.sl (.st 4))],[],[]⟩,none,fun p=>Bn p.1 p.2.1 p.2.2⟩
theorem Xw:Li.ok Tryz.prog 27:=Ay hm Tryz.func27 (fd:=Abp) (by kernel_rfl) (Ao (l:=[]) (y:=[]) trivial trivial) (by kernel_rfl) (fun p=>by kernel_rfl)
def Tv:List TOp:=[oo 6 (.mov .nils)]
def Tw:List TOp:=[oo 8 (.mov (.tmp 0)),ot 9 (.st 4) (.build [.pv (.int .i64 0),.pv (.str [])] [(0,1,(.tmp 8))]),ot 10 (.st 4) (.lit true 2 [(.tmp 9)]),oo 11 (.mov (.tmp 1)),ot 12 (.st 4) (.append 10 2 24 (.tmp 10) (.tmp 11)),oo 7 (.mov (.tmp 12))]
def Tx:List TOp:=[ot 13 (.st 4) (.lit false 2 []),oo 14 (.mov (.tmp 7)),ot 15 (.st 4) (.append 13 2 24 (.tmp 13) (.tmp 14)),oo 16 (.mov (.tmp 2)),ot 17 (.st 4) (.append 15 2 24 (.tmp 15) (.tmp 16)),oo 6 (.mov (.tmp 17))]
def Tu:Kp:=⟨[],[(6,false)],[(.loc 15 0,false)],[],[]⟩
def Xz:TFd:=⟨3,[(.tmp 6,.bool)],[.loc 15 0],(.seq (.ops Tv) (.seq (.ops Tw) (.seq (.ops Tx) (.keep Tu .ret))))⟩
def Ht:Ent:=⟨[.ty (.int .i64),.ty (.sl (.st 4)),.ty (.sl (.st 4))],[],[(.int .i64),(.sl (.st 4)),(.sl (.st 4))],⟨(.own (.res 0)),[some (.row (.st 4))],[],[(.sl (.st 4))],[],[]⟩,none,fun p=>F1 p.1 p.2.1 p.2.2⟩
theorem S7:Ht.ok Tryz.prog 27:=Ay hm Tryz.func27 (fd:=Xz) (by kernel_rfl) (Ao (l:=[]) (y:=[]) trivial trivial) (by kernel_rfl) (fun p=>by kernel_rfl)
def T0:List TOp:=[oo 4 (.mov (.cst (.bool false)))]
def T3:List TOp:=[oo 5 (.mov (.tmp 0)),oo 6 (.bin false .eql (.tmp 5) (.cst (.int .i64 0))),oo 7 (.mov (.tmp 6)),og 8 7 true .bool (.mov (.tmp 1)),oo 9 (.pick (.tmp 7) (.tmp 8) (.cst (.bool false))),oo 10 (.mov (.tmp 9)),og 11 10 false .bool (.mov (.tmp 0)),og 12 10 false .bool (.bin false .eql (.tmp 11) (.cst (.int .i64 4))),oo 13 (.pick (.tmp 10) (.cst (.bool true)) (.tmp 12)),oo 14 (.mov (.tmp 13)),og 15 14 false .bool (.mov (.tmp 0)),og 16 14 false .bool (.bin false .eql (.tmp 15) (.cst (.int .i64 6))),oo 17 (.pick (.tmp 14) (.cst (.bool true)) (.tmp 16)),oo 4 (.mov (.tmp 17))]
def Tz:Kp:=⟨[],[(4,false)],[],[],[]⟩
def X4:TFd:=⟨2,[(.tmp 4,.bool)],[],(.seq (.ops T0) (.seq (.ops T3) (.keep Tz .ret)))⟩
def Hu:Ent:=⟨[.ty (.int .i64),.ty .bool],[],[(.int .i64),.bool],⟨(.ty .bool),[],[],[.bool],[],[]⟩,none,fun p=>Ch p.1 p.2⟩
theorem S8:Hu.ok Tryz.prog 28:=Ay hm Tryz.func28 (fd:=X4) (by kernel_rfl) (Ao (l:=[]) (y:=[]) trivial trivial) (by kernel_rfl) (fun p=>by kernel_rfl)
def J2:List TOp:=[oo 6 (.mov (.cst (.bool false)))]
def J3:List TOp:=[oo 38 (.mov (.tmp 0)),oo 39 (.len true (.tmp 38)),oo 40 (.bin false .gtr (.tmp 39) (.cst (.int .i64 1000))),oo 41 (.mov (.tmp 40)),og 42 41 false .bool (.mov (.tmp 1)),og 43 41 false .bool (.len true (.tmp 42)),og 44 41 false .bool (.bin false .gtr (.tmp 43) (.cst (.int .i64 1000))),oo 45 (.pick (.tmp 41) (.cst (.bool true)) (.tmp 44))]
def J4:List TOp:=[oo 46 (.call 0 0 (.cst (.fn 8)) [] [] []),oo 6 (.mov (.tmp 46))]
def C0:Kp:=⟨[],[(6,false)],[],[],[]⟩
def J5:List TOp:=[oo 48 (.mov (.tmp 0)),oo 49 (.call 0 0 (.cst (.fn 9)) [(.tmp 48)] [] []),oo 47 (.mov (.tmp 49)),oo 50 (.ext 0 (.tmp 47)),oo 51 (.ext 1 (.tmp 47)),oo 52 (.ext 2 (.tmp 47)),oo 53 (.ext 3 (.tmp 47)),oo 7 (.mov (.tmp 50)),oo 8 (.mov (.tmp 51)),oo 9 (.mov (.tmp 52)),oo 10 (.mov (.tmp 53))]
def J6:List TOp:=[oo 55 (.mov (.tmp 1)),oo 56 (.call 0 0 (.cst (.fn 9)) [(.tmp 55)] [] []),oo 54 (.mov (.tmp 56)),oo 57 (.ext 0 (.tmp 54)),oo 58 (.ext 1 (.tmp 54)),oo 59 (.ext 2 (.tmp 54)),oo 60 (.ext 3 (.tmp 54)),oo 11 (.mov (.tmp 57)),oo 12 (.mov (.tmp 58)),oo 13 (.mov (.tmp 59)),oo 14 (.mov (.tmp 60))]
def J7:List TOp:=[oo 61 (.mov (.tmp 10)),oo 62 (.bin false .neq (.tmp 61) (.cst (.int .i64 0))),oo 63 (.mov (.tmp 62)),og 64 63 false .bool (.mov (.tmp 14)),og 65 63 false .bool (.bin false .neq (.tmp 64) (.cst (.int .i64 0))),oo 66 (.pick (.tmp 63) (.cst (.bool true)) (.tmp 65))]
def J8:List TOp:=[oo 67 (.call 0 0 (.cst (.fn 8)) [] [] []),oo 6 (.mov (.tmp 67))]
def J9:List TOp:=[ot 68 .str (.lit false 1 [(.cst (.str [43])),(.cst (.str [45])),(.cst (.str [42])),(.cst (.str [47])),(.cst (.str [60])),(.cst (.str [60,61])),(.cst (.str [61])),(.cst (.str [62])),(.cst (.str [62,61])),(.cst (.str [97,110,100])),(.cst (.str [111,114]))]),oo 15 (.mov (.tmp 68))]
def Ka:List TOp:=[ot 69 (.int .i64) (.lit false 1 [(.cst (.int .i64 3)),(.cst (.int .i64 4)),(.cst (.int .i64 5)),(.cst (.int .i64 6)),(.cst (.int .i64 7)),(.cst (.int .i64 8)),(.cst (.int .i64 9)),(.cst (.int .i64 10)),(.cst (.int .i64 11)),(.cst (.int .i64 12)),(.cst (.int .i64 13))]),oo 16 (.mov (.tmp 69))]
def Iz:List TOp:=[oo 70 (.mov (.tmp 2)),oo 71 (.conv .i64 (.tmp 70)),oo 72 (.mov (.tmp 15)),oo 73 (.len false (.tmp 72)),oo 74 (.bin false .rem (.tmp 71) (.tmp 73)),oo 17 (.mov (.tmp 74))]
def I0:List TOp:=[oo 76 (.mov (.tmp 0)),oo 77 (.bin false .add (.cst (.str [40,40,10])) (.tmp 76)),oo 78 (.bin false .add (.tmp 77) (.cst (.str [10,41,41]))),oo 79 (.call 0 0 (.cst (.fn 9)) [(.tmp 78)] [] []),oo 75 (.mov (.tmp 79)),oo 80 (.ext 0 (.tmp 75)),oo 81 (.ext 1 (.tmp 75)),oo 82 (.ext 2 (.tmp 75)),oo 83 (.ext 3 (.tmp 75)),oo 18 (.mov (.tmp 80)),oo 19 (.mov (.tmp 81)),oo 20 (.mov (.tmp 82)),oo 21 (.mov (.tmp 83))]
def I1:List TOp:=[oo 84 (.mov (.tmp 18)),oo 85 (.mov (.tmp 7)),oo 86 (.call 0 0 (.cst (.fn 11)) [(.tmp 84),(.tmp 85)] [] []),oo 22 (.mov (.tmp 86))]
def I2:List TOp:=[oo 88 (.mov (.tmp 0)),oo 89 (.bin false .add (.cst (.str [40])) (.tmp 88)),oo 90 (.bin false .add (.tmp 89) (.cst (.str [10,41]))),oo 91 (.mov (.tmp 15)),oo 92 (.mov (.tmp 17)),oo 93 (.idx 1 (.tmp 91) (.tmp 92)),oo 94 (.load false 1 (.tmp 93)),oo 95 (.bin false .add (.tmp 90) (.tmp 94)),oo 96 (.bin false .add (.tmp 95) (.cst (.str [10,40]))),oo 97 (.mov (.tmp 1)),oo 98 (.bin false .add (.tmp 96) (.tmp 97)),oo 99 (.bin false .add (.tmp 98) (.cst (.str [10,41]))),oo 100 (.call 0 0 (.cst (.fn 9)) [(.tmp 99)] [] []),oo 87 (.mov (.tmp 100)),oo 101 (.ext 0 (.tmp 87)),oo 102 (.ext 1 (.tmp 87)),oo 103 (.ext 2 (.tmp 87)),oo 104 (.ext 3 (.tmp 87)),oo 23 (.mov (.tmp 101)),oo 24 (.mov (.tmp 102)),oo 25 (.mov (.tmp 103)),oo 26 (.mov (.tmp 104))]
def I3:List TOp:=[oo 105 (.mov (.tmp 23)),oo 106 (.mov (.tmp 16)),oo 107 (.mov (.tmp 17)),oo 108 (.idx 1 (.tmp 106) (.tmp 107)),oo 109 (.load false 1 (.tmp 108)),oo 110 (.mov (.tmp 7)),oo 111 (.mov (.tmp 11)),oo 112 (.call 0 0 (.cst (.fn 27)) [(.tmp 109),(.tmp 110),(.tmp 111)] [] []),oo 113 (.call 0 0 (.cst (.fn 11)) [(.tmp 105),(.tmp 112)] [] []),oo 27 (.mov (.tmp 113))]
def I4:List TOp:=[oo 115 (.mov (.tmp 0)),oo 116 (.bin false .add (.cst (.str [110,111,116,32,40])) (.tmp 115)),oo 117 (.bin false .add (.tmp 116) (.cst (.str [10,41,32,97,110,100,32,45,40]))),oo 118 (.mov (.tmp 1)),oo 119 (.bin false .add (.tmp 117) (.tmp 118)),oo 120 (.bin false .add (.tmp 119) (.cst (.str [10,41,32,60,32,105,102,49]))),oo 121 (.call 0 0 (.cst (.fn 9)) [(.tmp 120)] [] []),oo 114 (.mov (.tmp 121)),oo 122 (.ext 0 (.tmp 114)),oo 123 (.ext 1 (.tmp 114)),oo 124 (.ext 2 (.tmp 114)),oo 125 (.ext 3 (.tmp 114)),oo 28 (.mov (.tmp 122)),oo 29 (.mov (.tmp 123)),oo 30 (.mov (.tmp 124)),oo 31 (.mov (.tmp 125))]
def I5:List TOp:=[oo 126 (.mov (.tmp 28)),oo 127 (.mov (.tmp 7)),oo 128 (.call 0 0 (.cst (.fn 27)) [(.cst (.int .i64 14)),(.tmp 127),.nils] [] []),oo 129 (.mov (.tmp 11)),oo 130 (.call 0 0 (.cst (.fn 27)) [(.cst (.int .i64 2)),(.tmp 129),.nils] [] []),ot 131 (.st 4) (.build [.pv (.int .i64 0),.pv (.str [])] [(0,1,(.cst (.int .i64 1))),(1,1,(.cst (.str [105,102,49])))]),ot 132 (.st 4) (.lit false 2 [(.tmp 131)]),oo 133 (.call 0 0 (.cst (.fn 27)) [(.cst (.int .i64 7)),(.tmp 130),(.tmp 132)] [] []),oo 134 (.call 0 0 (.cst (.fn 27)) [(.cst (.int .i64 12)),(.tmp 128),(.tmp 133)] [] []),oo 135 (.call 0 0 (.cst (.fn 11)) [(.tmp 126),(.tmp 134)] [] []),oo 32 (.mov (.tmp 135))]
def I6:List TOp:=[oo 137 (.mov (.tmp 0)),oo 138 (.bin false .add (.cst (.str [105,102,32])) (.tmp 137)),oo 139 (.bin false .add (.tmp 138) (.cst (.str [10,116,104,101,110,32]))),oo 140 (.mov (.tmp 1)),oo 141 (.bin false .add (.tmp 139) (.tmp 140)),oo 142 (.bin false .add (.tmp 141) (.cst (.str [10,101,108,115,101,32,109,97,120,40]))),oo 143 (.mov (.tmp 0)),oo 144 (.bin false .add (.tmp 142) (.tmp 143)),oo 145 (.bin false .add (.tmp 144) (.cst (.str [10,44]))),oo 146 (.mov (.tmp 1)),oo 147 (.bin false .add (.tmp 145) (.tmp 146)),oo 148 (.bin false .add (.tmp 147) (.cst (.str [10,41]))),oo 149 (.call 0 0 (.cst (.fn 9)) [(.tmp 148)] [] []),oo 136 (.mov (.tmp 149)),oo 150 (.ext 0 (.tmp 136)),oo 151 (.ext 1 (.tmp 136)),oo 152 (.ext 2 (.tmp 136)),oo 153 (.ext 3 (.tmp 136)),oo 33 (.mov (.tmp 150)),oo 34 (.mov (.tmp 151)),oo 35 (.mov (.tmp 152)),oo 36 (.mov (.tmp 153))]
def I7:List TOp:=[oo 154 (.mov (.tmp 33)),oo 155 (.mov (.tmp 7)),oo 156 (.mov (.tmp 11)),oo 157 (.call 1 0 (.cst (.fn 27)) [(.cst (.int .i64 15)),(.tmp 155),(.tmp 156)] [] []),oo 158 (.mov (.tmp 7)),oo 159 (.mov (.tmp 11)),oo 160 (.call 0 0 (.cst (.fn 27)) [(.cst (.int .i64 17)),(.tmp 158),(.tmp 159)] [] []),ot 161 (.st 4) (.append 157 2 24 (.tmp 157) (.tmp 160)),oo 162 (.call 0 1 (.cst (.fn 11)) [(.tmp 154),(.tmp 161)] [] []),oo 37 (.mov (.tmp 162))]
def I8:List TOp:=[oo 163 (.call 0 0 (.cst (.fn 8)) [] [] []),oo 164 (.mov (.tmp 163)),og 165 164 true .bool (.mov (.tmp 21)),og 166 164 true .bool (.mov (.tmp 22)),og 167 164 true .bool (.call 0 0 (.cst (.fn 28)) [(.tmp 165),(.tmp 166)] [] []),oo 168 (.pick (.tmp 164) (.tmp 167) (.cst (.bool false))),oo 169 (.mov (.tmp 168)),og 170 169 true .bool (.mov (.tmp 26)),og 171 169 true .bool (.mov (.tmp 27)),og 172 169 true .bool (.call 0 0 (.cst (.fn 28)) [(.tmp 170),(.tmp 171)] [] []),oo 173 (.pick (.tmp 169) (.tmp 172) (.cst (.bool false))),oo 174 (.mov (.tmp 173)),og 175 174 true .bool (.mov (.tmp 31)),og 176 174 true .bool (.mov (.tmp 32)),og 177 174 true .bool (.call 0 0 (.cst (.fn 28)) [(.tmp 175),(.tmp 176)] [] []),oo 178 (.pick (.tmp 174) (.tmp 177) (.cst (.bool false))),oo 179 (.mov (.tmp 178)),og 180 179 true .bool (.mov (.tmp 36)),og 181 179 true .bool (.mov (.tmp 37)),og 182 179 true .bool (.call 0 0 (.cst (.fn 28)) [(.tmp 180),(.tmp 181)] [] []),oo 183 (.pick (.tmp 179) (.tmp 182) (.cst (.bool false))),oo 6 (.mov (.tmp 183))]
def Mx:TFd:=⟨3,[(.tmp 6,.bool)],[],(.seq (.ops J2) (.seq (.seq (.ops J3) (.cond (.tmp 45) (.free (.seq (.ops J4) (.keep C0 .ret))) .skip)) (.seq (.ops J5) (.seq (.ops J6) (.seq (.seq (.ops J7) (.cond (.tmp 66) (.free (.seq (.ops J8) (.keep C0 .ret))) .skip)) (.seq (.ops J9) (.seq (.ops Ka) (.seq (.ops Iz) (.seq (.ops I0) (.seq (.ops I1) (.seq (.ops I2) (.seq (.ops I3) (.seq (.ops I4) (.seq (.ops I5) (.seq (.ops I6) (.seq (.ops I7) (.seq (.ops I8) (.keep C0 .ret))))))))))))))))))⟩
noncomputable def Lh:Ent:=⟨[.ty .str,.ty .str,.ty (.int .u8)],[],[.str,.str,(.int .u8)],⟨(.ty .bool),[],[],[.bool],[],[]⟩,none,fun p=>Cj p.1 p.2.1 p.2.2⟩
theorem Jw:Lh.ok Tryz.prog 7:=Ay hm Tryz.func7 (fd:=Mx) (by kernel_rfl) (Ao (l:=[(8,Jr),(9,V0),(11,Fm),(27,Li),(27,Ht),(28,Hu)]) (y:=[]) ⟨Vj,Acw,Hv,Xw,S7,S8,trivial⟩ trivial) (by kernel_rfl) (fun p=>by kernel_rfl)
end Go.Av.G
end
section
set_option maxRecDepth 4000
set_option maxHeartbeats 4000000
namespace Go.Av.G
open Go Go.Av Go.Proofs
abbrev Nd:=Aa
abbrev Tk:=Ac
abbrev By:=List UInt8
def sIf:By:=[105,102]
def Hl:By:=[116,104,101,110]
def Gy:By:=[101,108,115,101]
def U2:By:=[97,110,100]
def sOr:By:=[111,114]
def Jq:By:=[110,111,116]
def Xh:By:=[109,105,110]
def Fx:By:=[109,97,120]
def isT(s:By)(ts:List Tk):Bool:=match ts with
 |[]=>false
 |t::_=>decide (t.Ad≠2∧t.Ag=s)
def Ags(s:By):Int×Nat:=
 if s=sOr then(13,1) else if s=U2 then(12,2) else if s=[60] then(7,4) else if s=[60,61] then(8,4)
 else if s=[61] then(9,4) else if s=[62] then(10,4) else if s=[62,61] then(11,4)
 else if s=[43] then(3,5) else if s=[45] then(4,5) else if s=[42] then(5,6) else if s=[47] then(6,6) else(0,0)
def Bc(t:Tk):Int×Nat:=if t.Ad=2 then(0,0) else Ags t.Ag
def Bhw:List By:=[sIf,Hl,Gy,U2,sOr,Jq,Xh,Fx]
def Bhx:List By:=[[112,114,111,100,117,99,116],[98,97,115,105,115],[112,101,114,105,111,100],[116,105,101,114,115],[102,101,101],[109,105,110,105,109,117,109],[111,118,101,114,100,114,97,102,116],[110,111,116,105,99,101]]
def Aqj(s:By)(p:Bool):Bool:=Bhw.contains s||(p&&Bhx.contains s)
abbrev Rs(α:Type):=Option α×List Tk
def bnd{α β:Type}(r:Rs α)(k:α→List Tk→Rs β):Rs β:=match r with
 |(some a,i)=>k a i
 |(none,i)=>(none,i)
def Gs{β:Type}(s:By)(ts:List Tk)(k:List Tk→Rs β):Rs β:=if isT s ts=true then k ts.tail else(none,ts)
abbrev Ae0:=List Tk→Nat→Rs (List Nd)
def Co(rec:Ae0)(ts:List Tk):Rs (List Nd):=match ts with
 |[]=>(none,[])
 |t::r=>
  if isT [40] (t::r)=true then bnd (rec r 0) fun a i=>Gs [41] i fun j=>(some a,j)
  else if (isT Xh (t::r)||isT Fx (t::r))=true then
   Gs [40] r fun r2=>bnd (rec r2 0) fun a i=>Gs [44] i fun i2=>bnd (rec i2 0) fun b j=>Gs [41] j fun j2=>
    (some (⟨if t.Ag=Xh then 16 else 17,[]⟩::(a++b)),j2)
  else if t.Ad=1 then
   if isT [37] r=true then(some [⟨0,t.Ag++[37]⟩],r.tail) else(some [⟨0,t.Ag⟩],r)
  else if t.Ad=0∧Aqj t.Ag false=false then(some [⟨1,t.Ag⟩],r)
  else(none,t::r)
def Bp(rec:Ae0)(ts:List Tk)(n:Nat):Rs (List Nd×Nat):=
 if n=0∧isT sIf ts=true then
  bnd (rec ts.tail 0) fun a i=>Gs Hl i fun i2=>bnd (rec i2 0) fun b j=>Gs Gy j fun j2=>bnd (rec j2 0) fun c k=>
   (some (⟨15,[]⟩::(a++b++c),0),k)
 else if n≤3∧isT Jq ts=true then bnd (rec ts.tail 3) fun a i=>(some (⟨14,[]⟩::a,3),i)
 else if isT [45] ts=true then bnd (rec ts.tail 7) fun a i=>(some (⟨2,[]⟩::a,7),i)
 else bnd (Co rec ts) fun a i=>(some (a,8),i)
def Vw(m:Nat):Nat:=if m=4 then 5 else m
def Br(rec:Ae0)(n:Nat):Nat→List Nd→Nat→List Tk→Rs (List Nd×Nat)
 |_,out,own,[]=>(some (out,own),[])
 |0,out,own,t::r=>(some (out,own),t::r)
 |f+1,out,own,t::r=>
  if (Bc t).2=0∨(Bc t).2<n∨own<Vw (Bc t).2 then(some (out,own),t::r)
  else bnd (rec r ((Bc t).2+1)) fun b j=>Br rec n f (⟨(Bc t).1,[]⟩::(out++b)) (Bc t).2 j
def F3:Nat→Ae0
 |0,ts,n=>(none,ts)
 |f+1,ts,n=>bnd (Bp (F3 f) ts n) fun x i=>bnd (Br (F3 f) n i.length x.1 x.2 i) fun y j=>(some y.1,j)
def CL(ts:List Tk)(n:Nat):Rs (List Nd):=F3 (ts.length+1) ts n
theorem G4{α β:Type}{r:Rs α}{k:α→List Tk→Rs β}{ts:List Tk}(h:r.2 <:+ ts)(hk: ∀a i,i <:+ ts→(k a i).2 <:+ ts):(bnd r k).2 <:+ ts:=by
 obtain⟨o,i⟩:=r
 cases o with
 |none=>exact h
 |some a=>exact hk a i h
theorem Pu{ts:List Tk}:ts.tail <:+ ts:=List.tail_suffix ts
theorem U8{β:Type}{s:By}{ts:List Tk}{k:List Tk→Rs β}{u:List Tk}(h:ts <:+ u)(hk: ∀i,i <:+ u→(k i).2 <:+ u):(Gs s ts k).2 <:+ u:=by
 unfold Gs
 split
 ·exact hk _ (Pu.trans h)
 ·exact h
theorem Bdi{rec:Ae0}(hr: ∀ts n,(rec ts n).2 <:+ ts)(ts:List Tk):(Co rec ts).2 <:+ ts:=by
 cases ts with
 |nil=>exact List.suffix_refl _
 |cons t r=>
  have hc:r <:+ t::r:=List.suffix_cons t r
  unfold Co
  simp only
  split
  ·exact G4 ((hr _ _).trans hc) fun a i hi=>U8 hi fun j hj=>hj
  ·split
   ·exact U8 hc fun r2 h2=>G4 ((hr _ _).trans h2) fun a i hi=>U8 hi fun i2 hi2=>G4 ((hr _ _).trans hi2) fun b j hj=>U8 hj fun j2 hj2=>hj2
   ·split
    ·split
     ·exact Pu.trans hc
     ·exact hc
    ·split
     ·exact hc
     ·exact List.suffix_refl _
theorem Ahd{rec:Ae0}(hr: ∀ts n,(rec ts n).2 <:+ ts)(ts:List Tk)(n:Nat):(Bp rec ts n).2 <:+ ts:=by
 unfold Bp
 split
 ·exact G4 ((hr _ _).trans Pu) fun a i hi=>U8 hi fun i2 hi2=>G4 ((hr _ _).trans hi2) fun b j hj=>U8 hj fun j2 hj2=>G4 ((hr _ _).trans hj2) fun c k hk=>hk
 ·split
  ·exact G4 ((hr _ _).trans Pu) fun a i hi=>hi
  ·split
   ·exact G4 ((hr _ _).trans Pu) fun a i hi=>hi
   ·exact G4 (Bdi hr ts) fun a i hi=>hi
theorem Amk{rec:Ae0}(hr: ∀ts n,(rec ts n).2 <:+ ts)(n:Nat): ∀(f:Nat) (out:List Nd) (own:Nat) (ts:List Tk),(Br rec n f out own ts).2 <:+ ts
 |f,out,own,[]=>by cases f<;>exact List.suffix_refl _
 |0,out,own,t::r=>List.suffix_refl _
 |f+1,out,own,t::r=>by
  unfold Br
  split
  ·exact List.suffix_refl _
  ·exact G4 ((hr _ _).trans (List.suffix_cons t r)) fun b j hj=>(Amk hr n f _ _ j).trans hj
theorem Gf: ∀(f:Nat) (ts:List Tk) (n:Nat),(F3 f ts n).2 <:+ ts
 |0,ts,n=>List.suffix_refl _
 |f+1,ts,n=>by
  unfold F3
  exact G4 (Ahd (Gf f) ts n) fun x i hi=>G4 ((Amk (Gf f) n _ _ _ _).trans hi) fun y j hj=>hj
def Lt{α:Type}(r:Rs α)(n:Nat):Prop:=r.1≠none→r.2.length<n
theorem Vh{α β:Type}{r:Rs α}{k:α→List Tk→Rs β}{n:Nat}(hk: ∀a,r.1=some a→Lt (k a r.2) n):Lt (bnd r k) n:=by
 obtain⟨o,i⟩:=r
 cases o with
 |none=>intro h;exact absurd rfl h
 |some a=>exact hk a rfl
theorem Abh{β:Type}{s:By}{ts:List Tk}{k:List Tk→Rs β}{n:Nat}(hk:Lt (k ts.tail) n):Lt (Gs s ts k) n:=by
 unfold Gs
 split
 ·exact hk
 ·intro h;exact absurd rfl h
theorem N3{α:Type}{a:α}{i:List Tk}{n:Nat}(h:i.length<n):Lt ((some a,i):Rs α) n:=fun _=>h
theorem A79{α:Type}{i:List Tk}{n:Nat}:Lt ((none,i):Rs α) n:=fun h=>absurd rfl h
def Agree(f g:Ae0)(n:Nat):Prop:= ∀ts k,ts.length<n→f ts k=g ts k
theorem Ba{α β:Type}{r r':Rs α}{k k':α→List Tk→Rs β}(h:r=r')(hk: ∀a,r.1=some a→k a r.2=k' a r.2):bnd r k=bnd r' k':=by
 subst h
 obtain⟨o,i⟩:=r
 cases o with
 |none=>rfl
 |some a=>exact hk a rfl
theorem H3{s:By}{ts:List Tk}(h:isT s ts=true):ts.tail.length+1=ts.length:=by
 cases ts with
 |nil=>cases h
 |cons t r=>rfl
theorem Xp{β:Type}{s:By}{ts:List Tk}{k k':List Tk→Rs β}(hk:isT s ts=true→k ts.tail=k' ts.tail):Gs s ts k=Gs s ts k':=by
 unfold Gs
 split
 ·exact hk (by assumption)
 ·rfl
theorem A51{f g:Ae0}(hr: ∀ts n,(f ts n).2 <:+ ts){ts:List Tk}(h:Agree f g ts.length):Co f ts=Co g ts:=by
 cases ts with
 |nil=>rfl
 |cons t r=>
  unfold Co
  simp only
  have hl: ∀i:List Tk,i.length≤r.length→ ∀k,f i k=g i k:=fun i hi k=>h i k (by simp;omega)
  split
  ·exact Ba (hl _ (Nat.le_refl _) _) fun a ha=>rfl
  ·split
   ·refine Xp fun hw=>?_
    have hw:=H3 hw
    refine Ba (hl _ (by omega) _) fun a ha=>?_
    have hf:=(hr r.tail 0).length_le
    refine Xp fun hw2=>?_
    have hw2:=H3 hw2
    exact Ba (hl _ (by omega) _) fun b hb=>rfl
   ·rfl
theorem Aio{f g:Ae0}(hr: ∀ts n,(f ts n).2 <:+ ts){ts:List Tk}(n:Nat)(h:Agree f g ts.length):Bp f ts n=Bp g ts n:=by
 unfold Bp
 have hl: ∀i:List Tk,i.length<ts.length→ ∀k,f i k=g i k:=fun i hi k=>h i k hi
 split
 ·rename_i hw
  have hw:=H3 hw.2
  refine Ba (hl _ (by omega) _) fun a ha=>?_
  have h1:=(hr ts.tail 0).length_le
  refine Xp fun hw2=>?_
  have hw2:=H3 hw2
  refine Ba (hl _ (by omega) _) fun b hb=>?_
  have h2:=(hr (f ts.tail 0).2.tail 0).length_le
  refine Xp fun hw3=>?_
  have hw3:=H3 hw3
  exact Ba (hl _ (by omega) _) fun c hc=>rfl
 ·split
  ·rename_i hw
   have hw:=H3 hw.2
   exact Ba (hl _ (by omega) _) fun a ha=>rfl
  ·split
   ·rename_i hw
    have hw:=H3 hw
    exact Ba (hl _ (by omega) _) fun a ha=>rfl
   ·exact Ba (A51 hr h) fun a ha=>rfl
theorem Vs{f g:Ae0}(hr: ∀ts n,(f ts n).2 <:+ ts)(n:Nat): ∀(a b:Nat) (out:List Nd) (own:Nat) (ts:List Tk),Agree f g ts.length→ts.length≤a→ts.length≤b→Br f n a out own ts=Br g n b out own ts
 |a,b,out,own,[],_,_,_=>by cases a<;>cases b<;>rfl
 |0,_,out,own,t::r,_,h,_=>absurd h (by simp)
 |_,0,out,own,t::r,_,_,h=>absurd h (by simp)
 |a+1,b+1,out,own,t::r,h,ha,hb=>by
  unfold Br
  split
  ·rfl
  ·have h1:=(hr r ((Bc t).2+1)).length_le
   simp only[List.length_cons] at ha hb
   exact Ba (h _ _ (by simp)) fun x hx=>Vs hr n a b _ _ _ (fun i k hi=>h i k (by simp;omega)) (by omega) (by omega)
theorem Aii: ∀(f g:Nat) (ts:List Tk) (n:Nat),ts.length<f→ts.length<g→F3 f ts n=F3 g ts n
 |0,_,ts,n,h,_=>absurd h (by simp)
 |_,0,ts,n,_,h=>absurd h (by simp)
 |f+1,g+1,ts,n,hf,hg=>by
  unfold F3
  have hag:Agree (F3 f) (F3 g) ts.length:=fun i k hi=>Aii f g i k (by omega) (by omega)
  refine Ba (Aio (Gf f) n hag) fun x hx=>?_
  have hs:=(Ahd (Gf f) ts n).length_le
  exact Ba (Vs (Gf f) n _ _ _ _ _ (fun i k hi=>hag i k (by omega)) (Nat.le_refl _) (Nat.le_refl _)) fun y hy=>rfl
theorem Bib{f:Nat}{ts:List Tk}(h:ts.length<f)(n:Nat):F3 f ts n=CL ts n:=Aii _ _ _ _ h (by omega)
theorem E7(ts:List Tk)(n:Nat):(CL ts n).2 <:+ ts:=Gf _ _ _
theorem Qo(ts:List Tk)(n:Nat):CL ts n=bnd (Bp CL ts n) fun x i=>bnd (Br CL n i.length x.1 x.2 i) fun y j=>(some y.1,j):=by
 have hag:Agree (F3 ts.length) CL ts.length:=fun i k hi=>Bib hi k
 show F3 (ts.length+1) ts n=_
 unfold F3
 refine Ba (Aio (Gf _) n hag) fun x hx=>?_
 have hs:=(Ahd (Gf ts.length) ts n).length_le
 exact Ba (Vs (Gf _) n _ _ _ _ _ (fun i k hi=>hag i k (by omega)) (Nat.le_refl _) (Nat.le_refl _)) fun y hy=>rfl
theorem Bfp(ts:List Tk):Lt (Co CL ts) ts.length:=by
 cases ts with
 |nil=>exact A79
 |cons t r=>
  have hs:=fun i k=>(E7 i k).length_le
  have ht: ∀i:List Tk,i.tail.length≤i.length:=fun i=>by simp
  unfold Co
  simp only[List.length_cons]
  split
  ·refine Vh fun a ha=>Abh (N3 ?_)
   have:=hs r 0;have:=ht (CL r 0).2
   omega
  ·split
   ·refine Abh (Vh fun a ha=>Abh (Vh fun b hb=>Abh (N3 ?_)))
    have:=ht r;have:=hs r.tail 0;have:=ht (CL r.tail 0).2;have:=hs (CL r.tail 0).2.tail 0;have:=ht (CL (CL r.tail 0).2.tail 0).2
    omega
   ·split
    ·split
     ·refine N3 ?_
      have:=ht r
      omega
     ·exact N3 (by omega)
    ·split
     ·exact N3 (by omega)
     ·exact A79
theorem Azr(ts:List Tk)(n:Nat):Lt (Bp CL ts n) ts.length:=by
 have hs:=fun i k=>(E7 i k).length_le
 have ht: ∀i:List Tk,i.tail.length≤i.length:=fun i=>by simp
 unfold Bp
 split
 ·rename_i hw
  have hw:=H3 hw.2
  refine Vh fun a ha=>Abh (Vh fun b hb=>Abh (Vh fun c hc=>N3 ?_))
  have:=hs ts.tail 0;have:=ht (CL ts.tail 0).2;have:=hs (CL ts.tail 0).2.tail 0;have:=ht (CL (CL ts.tail 0).2.tail 0).2;have:=hs (CL (CL ts.tail 0).2.tail 0).2.tail 0
  omega
 ·split
  ·rename_i hw
   have hw:=H3 hw.2
   refine Vh fun a ha=>N3 ?_
   have:=hs ts.tail 3
   omega
  ·split
   ·rename_i hw
    have hw:=H3 hw
    refine Vh fun a ha=>N3 ?_
    have:=hs ts.tail 7
    omega
   ·refine Vh fun a ha=>N3 ?_
    exact Bfp ts (by rw[ha];simp)
theorem Bav(n:Nat):CL [] n=(none,[]):=by
 rw[Qo]
 simp[Bp,isT,Co,bnd]
end Go.Av.G
end
