import Derived.ProofKit
import Derived.SizedLaws
import Derived.Test.YtgmiodjnojkdkaaGreatDoorC13
set_option linter.all false
section
namespace Go.Av
open Go Go.ChangeShapes Go.WideShapes Go.ChangeAt Go.RowKit
inductive TT where
 |int (k:IntKind)
 |bool
 |str
 |slice (t:TT)
 |unit
 |field (t r:TT)
 |struct (t:TT)
def TT.sz:TT→Nat
 | .unit=>0
 | .field t r=>t.sz+r.sz
 | .struct t=>t.sz
 |_=>1
def TT.pack:TT→List PV→PV
 | .struct _,xs=> .agg xs
 | .unit,xs=> .agg xs
 | .field _ _,xs=> .agg xs
 |_,xs=>xs.headD .nilI
def TT.Of:TT→List PV→Prop
 | .int k,xs=> ∃n,xs=[.int k n]∧k.min≤n∧n≤k.max
 | .bool,xs=> ∃b,xs=[.bool b]
 | .str,xs=> ∃s,xs=[.str s]∧s.length≤reachBytes
 | .slice t,xs=> ∃ys:List (List PV),xs=[.slice (ys.map t.pack)]∧ys.length≤maxLen∧ ∀y∈ys,t.Of y
 | .unit,xs=>xs=[]
 | .field t r,xs=> ∃a b,xs=a++b∧t.Of a∧r.Of b
 | .struct t,xs=>t.Of xs
def H4(P:Program)(rd:TypeId→TT→Bool):Nat→List Field→TT→Bool
 |_,[],.unit=>true
 |off,f::fs,.field t r=>f.offset==off&&(P.cellsOf f.type==t.sz&&(rd f.type t&&H4 P rd (off+t.sz) fs r))
 |_,_,_=>false
def reads(P:Program):Nat→TypeId→TT→Bool
 |0,_,_=>false
 |n+1,t,τ=>match P.underlying t,τ with
  |some (.int k),.int k'=>k==k'
  |some .bool,.bool=>true
  |some .string,.str=>true
  |some (.slice e),.slice r=>P.cellsOf e==r.sz&&(decide (0<r.sz)&&reads P n e r)
  |some (.struct fs),.struct r=>P.cellsOf t==r.sz&&H4 P (reads P n) 0 fs.toList r
  |_,_=>false
theorem TT.Of.len: ∀{t:TT} {xs:List PV},t.Of xs→xs.length=t.sz
 | .int k,xs,⟨n,h,_⟩=>by subst h;rfl
 | .bool,xs,⟨b,h⟩=>by subst h;rfl
 | .str,xs,⟨s,h,_⟩=>by subst h;rfl
 | .slice t,xs,⟨ys,h,_⟩=>by subst h;rfl
 | .unit,xs,h=>by simp[TT.Of] at h;subst h;rfl
 | .field t r,xs,⟨a,b,h,ha,hb⟩=>by subst h;simp[TT.sz,ha.len,hb.len]
 | .struct t,xs,h=>TT.Of.len (t:=t) h
theorem TT.Of.one: ∀{t:TT} {xs:List PV},t.Of xs→ ∀x∈xs,x.one=true
 | .int k,xs,⟨n,h,_⟩=>by subst h;simp[PV.one]
 | .bool,xs,⟨b,h⟩=>by subst h;simp[PV.one]
 | .str,xs,⟨s,h,_⟩=>by subst h;simp[PV.one]
 | .slice t,xs,⟨ys,h,_⟩=>by subst h;simp[PV.one]
 | .unit,xs,h=>by simp[TT.Of] at h;subst h;simp
 | .field t r,xs,⟨a,b,h,ha,hb⟩=>by
  subst h
  intro x hx
  rcases List.mem_append.1 hx with hx|hx
  ·exact ha.one x hx
  ·exact hb.one x hx
 | .struct t,xs,h=>TT.Of.one (t:=t) h
theorem Mp{t:TT}{xs:List PV}(h:t.Of xs):(t.pack xs).cells=xs:=by
 cases t with
 |struct t=>rfl
 |int k=>obtain⟨n,rfl,_⟩:=h;rfl
 |bool=>obtain⟨n,rfl⟩:=h;rfl
 |str=>obtain⟨n,rfl,_⟩:=h;rfl
 |slice t=>obtain⟨n,rfl,_⟩:=h;rfl
 |unit=>rfl
 |field t r=>rfl
def T7(w:World)(ok:Nat→Prop)(xs:List PV)(us:List Value):Prop:=xs.length=us.length∧ ∀(j:Nat) (x:PV) (u:Value),xs[j]? =some x→us[j]? =some u→Be w ok x u
theorem T7.append{w:World}{ok:Nat→Prop}{xs xs':List PV}{us us':List Value}(h:T7 w ok xs us)(h':T7 w ok xs' us'):T7 w ok (xs++xs') (us++us'):=by
 refine⟨by simp[h.1,h'.1],fun j x u hx hu=>?_⟩
 by_cases hj:j<xs.length
 ·rw[List.getElem?_append_left hj] at hx
  rw[List.getElem?_append_left (h.1▸hj)] at hu
  exact h.2 j x u hx hu
 ·rw[List.getElem?_append_right (by omega)] at hx
  rw[List.getElem?_append_right (by rw[←h.1];omega),←h.1] at hu
  exact h'.2 _ x u hx hu
theorem T7.single{w:World}{ok:Nat→Prop}{x:PV}{u:Value}(h:Be w ok x u):T7 w ok [x] [u]:=by
 refine⟨rfl,fun j y v hy hv=>?_⟩
 cases j with
 |zero=>simp at hy hv;subst hy;subst hv;exact h
 |succ j=>simp at hy
section
variable {H:Type} {enc:TypeId×Value→H} {P:Program} {W:World}
theorem Bqv{n m:Nat}{cs:List Value}(IH: ∀(t:TypeId) (τ:TT) (cs:List Value) (x:DataW H×List MemPlace),reads P n t τ=true→DataW.trod enc P W 0 (fun _=>true) true m t cs=some x→(∀k∈x.1.weights P t,k≤reachBytes)→cs.length=τ.sz∧ ∃xs,τ.Of xs∧T7 W (· <W.heap.size) xs cs):
  ∀(fs:List Field) (τ:TT) (off:Nat),H4 P (reads P n) off fs τ=true→(∀f∈fs,∃x,DataW.trod enc P W 0 (fun _=>true) true m f.type ((cs.drop f.offset).take (P.cellsOf f.type))=some x∧ ∀k∈x.1.weights P f.type,k≤reachBytes)→off+τ.sz=cs.length→
   ∃xs,τ.Of xs∧T7 W (· <W.heap.size) xs (cs.drop off)
 |[],.unit,off,h,ht,hl=>⟨[],rfl,by simp[TT.sz] at hl;subst hl;exact⟨by simp,fun j x u hx=>by simp at hx⟩⟩
 |f::fs,.field t r,off,h,ht,hl=>by
  simp only[H4,Bool.and_eq_true,beq_iff_eq] at h
  obtain⟨rfl,hc,hr,hF⟩:=h
  obtain⟨x,hx,hxw⟩:=ht f (by simp)
  obtain⟨hlen,xs,ho,hL⟩:=IH _ _ _ _ hr hx hxw
  simp only[TT.sz] at hl
  obtain⟨ys,ho',hL'⟩:=Bqv IH fs r (f.offset+t.sz) hF (fun g hg=>ht g (by simp[hg])) (by omega)
  refine⟨xs++ys,⟨xs,ys,rfl,ho,ho'⟩,?_⟩
  have e:cs.drop f.offset=(cs.drop f.offset).take (P.cellsOf f.type)++cs.drop (f.offset+t.sz):=by
   rw[hc,←List.drop_drop]
   exact(List.take_append_drop _ _).symm
  rw[e]
  exact hL.append hL'
 |[],.int _,_,h,_,_=>by simp[H4] at h
 |[],.bool,_,h,_,_=>by simp[H4] at h
 |[],.str,_,h,_,_=>by simp[H4] at h
 |[],.slice _,_,h,_,_=>by simp[H4] at h
 |[],.field _ _,_,h,_,_=>by simp[H4] at h
 |[],.struct _,_,h,_,_=>by simp[H4] at h
 |_::_,.int _,_,h,_,_=>by simp[H4] at h
 |_::_,.bool,_,h,_,_=>by simp[H4] at h
 |_::_,.str,_,h,_,_=>by simp[H4] at h
 |_::_,.slice _,_,h,_,_=>by simp[H4] at h
 |_::_,.unit,_,h,_,_=>by simp[H4] at h
 |_::_,.struct _,_,h,_,_=>by simp[H4] at h
theorem Bvc{n m:Nat}{e:TypeId}{τ:TT}(IH: ∀(t:TypeId) (τ:TT) (cs:List Value) (x:DataW H×List MemPlace),reads P n t τ=true→DataW.trod enc P W 0 (fun _=>true) true m t cs=some x→(∀k∈x.1.weights P t,k≤reachBytes)→cs.length=τ.sz∧ ∃xs,τ.Of xs∧T7 W (· <W.heap.size) xs cs)
  (hc:P.cellsOf e=τ.sz)(h0:0<τ.sz)(hr:reads P n e τ=true){a:Addr}{len:Nat}{elems:List (DataW H×List MemPlace)}(hl:elems.length=len)(hwt: ∀e2∈elems,∀k∈e2.1.weights P e,k≤reachBytes)
  (h: ∀i,i<len→(W.cells? 0 (a.add (i*P.cellsOf e)) (P.cellsOf e)).bind (DataW.trod enc P W 0 (fun _=>true) true m e)=elems[i]?):
  ∃(ys:List (List PV)) (us:Nat→Nat→Value),ys.length=len∧(∀y∈ys,τ.Of y)∧(0<len→a.spot=none)∧(∀i j,i<len→j<τ.sz→a.block<W.heap.size∧W.cell? ⟨a.block,a.off+i*τ.sz+j,none⟩=some (us i j))∧
   ∀(i j:Nat) (y:List PV) (x:PV),ys[i]? =some y→y[j]? =some x→Be W (· <W.heap.size) x (us i j):=by
 have key: ∀i,∃q:List PV×List Value,i<len→W.cells? 0 (a.add (i*P.cellsOf e)) (P.cellsOf e)=some q.2∧q.2.length=τ.sz∧τ.Of q.1∧T7 W (· <W.heap.size) q.1 q.2:=by
  intro i
  by_cases hi:i<len
  ·have:=h i hi
   rw[List.getElem?_eq_getElem (by omega)] at this
   obtain⟨cs,h1,h2⟩:=Option.bind_eq_some_iff.1 this
   obtain⟨h3,xs,h4,h5⟩:=IH _ _ _ _ hr h2 (hwt _ (List.getElem_mem _))
   exact⟨(xs,cs),fun _=>⟨h1,h3,h4,h5⟩⟩
  ·exact⟨([],[]),fun h=>absurd h hi⟩
 obtain⟨f,hf⟩:=Classical.skolem.1 key
 have hcell: ∀i,i<len→ ∀j,j<τ.sz→W.cell? ((a.add (i*τ.sz)).add j)=some (((f i).2[j]?).getD default):=by
  intro i hi j hj
  obtain⟨h1,h2,h3,h4⟩:=hf i hi
  rw[hc] at h1
  rw[(World.cells?_some h1).2.2 j hj,List.getElem?_eq_getElem (by omega)]
  rfl
 have hspot:0<len→a.spot=none:=by
  intro hlen
  have:=hcell 0 hlen 0 h0
  simp only[Nat.zero_mul,Addr.add,if_true] at this
  unfold World.cell? at this
  cases hs:a.spot with
  |none=>rfl
  |some s=>rw[hs] at this;split at this<;>simp at this
 refine⟨(List.range len).map fun i=>(f i).1,fun i j=>((f i).2[j]?).getD default,by simp,?_,hspot,?_,?_⟩
 ·intro y hy
  simp only[List.mem_map,List.mem_range] at hy
  obtain⟨i,hi,rfl⟩:=hy
  exact(hf i hi).2.2.1
 ·intro i j hi hj
  have hs:=hspot (by omega)
  have hh:=hcell i hi j hj
  have e1:(a.add (i*τ.sz)).add j=⟨a.block,a.off+i*τ.sz+j,none⟩:=by
   rcases a with⟨b,o,s⟩
   simp only at hs
   subst hs
   unfold Addr.add
   split<;>split<;>simp_all
  rw[e1] at hh
  refine⟨?_,hh⟩
  unfold World.cell? at hh
  split at hh
  ·rename_i hb
   exact(Array.getElem?_eq_some_iff.1 hb).1
  ·cases hh
 ·intro i j y x hy hx
  simp only[List.getElem?_map,Option.map_eq_some_iff] at hy
  obtain⟨i',hi',rfl⟩:=hy
  have hi:i<len:=by
   have:=(List.getElem?_eq_some_iff.1 hi').1
   simpa using this
  obtain rfl:i=i':=by simpa [List.getElem?_range hi] using hi'
  obtain⟨h1,h2,h3,h4⟩:=hf i hi
  have hj:j<(f i).2.length:=by
   rw[←h4.1]
   exact(List.getElem?_eq_some_iff.1 hx).1
  have:=h4.2 j x (f i).2[j] hx (List.getElem?_eq_getElem hj)
  simpa [List.getElem?_eq_getElem hj] using this
theorem Amb{e:TypeId}{d:DataW H}: ∀{l:List (DataW H)},d∈l→ ∀{k:Nat},k∈d.weights P e→k∈DataW.weightsAll P e l
 |[],h,_,_=>by cases h
 |a::l,h,k,hk=>by
  simp only[DataW.weightsAll,List.mem_append]
  rcases List.mem_cons.1 h with rfl|h
  ·exact Or.inl hk
  ·exact Or.inr (Amb h hk)
theorem Bsz: ∀(m n:Nat) (t:TypeId) (τ:TT) (cs:List Value) (x:DataW H×List MemPlace),reads P n t τ=true→DataW.trod enc P W 0 (fun _=>true) true m t cs=some x→(∀k∈x.1.weights P t,k≤reachBytes)→cs.length=τ.sz∧ ∃xs,τ.Of xs∧T7 W (· <W.heap.size) xs cs
 |m,0,t,τ,cs,x,hr,h,hw=>by simp[reads] at hr
 |0,n+1,t,τ,cs,x,hr,h,hw=>by simp[DataW.trod] at h
 |m+1,n+1,t,τ,cs,x,hr,h,hws=>by
  have IH:=Bsz m n
  unfold reads at hr
  split at hr
  ·rename_i k k' ht
   obtain rfl:k=k':=by simpa using hr
   obtain⟨i,rfl,_,hw⟩:=DataW.trod_int ht h
   simp only[Lit.wf,Bool.and_eq_true,decide_eq_true_eq] at hw
   exact⟨rfl,_,⟨i,rfl,hw.1,hw.2⟩,.single (.int k i)⟩
  ·rename_i ht
   obtain⟨b,rfl,_⟩:=DataW.trod_bool ht h
   exact⟨rfl,_,⟨b,rfl⟩,.single (.bool b)⟩
  ·rename_i ht
   obtain⟨s,rfl,hx2,hw⟩:=DataW.trod_string ht h
   exact⟨rfl,_,⟨s.data.toList,rfl,hws _ (by rw[hx2];simp[DataW.weights])⟩,.single (by simpa using Be.str (w:=W) (ok:=(· <W.heap.size)) s.data.toList)⟩
  ·rename_i e r ht
   simp only[Bool.and_eq_true,beq_iff_eq,decide_eq_true_eq] at hr
   obtain⟨hc,h0,hr⟩:=hr
   rcases DataW.trod_slice ht h with⟨rfl,_⟩|⟨a,len,cap,elems,rest,m',hm,rfl,hx2,_,hlc,hcm,hel,hat,_,_⟩
   ·exact⟨rfl,_,⟨[],rfl,Nat.zero_le _,by simp⟩,.single (.slice [] none 0 0 r.sz (fun _ _=>default) rfl (Nat.le_refl _) (by simp) (by simp) (by intro i j hi;omega) (by omega) (by intro i j x y hx;simp at hx))⟩
   ·obtain rfl:m=m':=by omega
    obtain⟨ys,us,hl,ho,hs,hcell,hlie⟩:=Bvc IH hc h0 hr hel (fun e2 he2 k hk=>hws k (by
     rw[hx2]
     unfold DataW.weights
     rw[ht]
     simp only[List.mem_cons,List.mem_append]
     exact Or.inr (Or.inl (Amb (List.mem_map.2 ⟨e2,he2,rfl⟩) hk)))) hat
    refine⟨rfl,_,⟨ys,rfl,by omega,ho⟩,.single (.slice _ (some a) len cap r.sz us (by simp[hl]) hlc ?_ ?_ ?_ ?_ ?_)⟩
    ·intro x hx
     obtain⟨y,hy,rfl⟩:=List.mem_map.1 hx
     rw[Mp (ho y hy)]
     exact(ho y hy).len
    ·intro x hx
     obtain⟨y,hy,rfl⟩:=List.mem_map.1 hx
     rw[Mp (ho y hy)]
     exact(ho y hy).one
    ·intro i j hi hj
     exact⟨a,rfl,hs (by omega),(hcell i j hi hj).1,(hcell i j hi hj).2⟩
    ·intro h;exact⟨a,rfl,hs h⟩
    ·intro i j x y hx hy
     simp only[List.getElem?_map,Option.map_eq_some_iff] at hx
     obtain⟨z,hz,rfl⟩:=hx
     rw[Mp (ho z (List.mem_of_getElem? hz))] at hy
     exact hlie i j z y hz hy
  ·rename_i fs r ht
   simp only[Bool.and_eq_true,beq_iff_eq] at hr
   obtain⟨hc,hF⟩:=hr
   obtain⟨xs,m',hm,hx2,hlen,hxl,hf⟩:=DataW.trod_struct ht h
   obtain rfl:m=m':=by omega
   refine⟨by rw[hlen,hc];rfl,?_⟩
   obtain⟨ys,ho,hL⟩:=Bqv (cs:=cs) IH fs.toList r 0 hF (fun f hf'=>by
    obtain⟨i,hi,he⟩:=List.getElem_of_mem hf'
    have hi':i<fs.size:=by simpa using hi
    have:=hf i f (by rw[Array.getElem?_eq_getElem hi'];simpa using he)
    rw[List.getElem?_eq_getElem (by omega)] at this
    refine⟨_,this,fun k hk=>hws k ?_⟩
    rw[hx2]
    unfold DataW.weights
    rw[ht]
    refine DataW.weights_mem_each (j:=i) (t:=f.type) (d:=(xs[i]'(by omega)).1) ?_ ?_ k hk
    ·rw[List.getElem?_map,List.getElem?_eq_getElem hi]
     simp[he]
    ·rw[List.getElem?_map,List.getElem?_eq_getElem (by omega)]
     rfl) (by rw[hlen,hc];simp)
   exact⟨ys,ho,by simpa using hL⟩
  ·cases hr
theorem Bvb{n base:Nat}{t:TypeId}{τ:TT}{v:Value}{d:DataW H}{ps:List MemPlace}(hr:reads P n t τ=true)(hok:Value.okWide P W .any base t v)(h:DataW.Trod enc P W 0 (fun _=>true) true t v d ps)(hw: ∀k∈d.weights P t,k≤reachBytes):
  ∃xs,τ.Of xs∧Be W (· <W.heap.size) (τ.pack xs) v:=by
 obtain⟨m,hm⟩:=h
 obtain⟨hlen,xs,ho,hL⟩:=Bsz m n t τ _ _ hr hm hw
 refine⟨xs,ho,?_⟩
 have one: ∀u,v=u→u.cells= #[u]→(τ.pack xs).cells=[τ.pack xs]→Be W (· <W.heap.size) (τ.pack xs) v:=by
  intro u hu hc hp
  subst hu
  rw[Mp ho] at hp
  rw[hc,hp] at hL
  exact hL.2 0 _ _ rfl rfl
 cases n with
 |zero=>simp[reads] at hr
 |succ n=>
  unfold reads at hr
  split at hr
  ·rename_i ht
   obtain⟨i,rfl⟩:=okWide_int ht hok
   obtain⟨k,rfl,_⟩:=ho
   exact one _ rfl rfl rfl
  ·rename_i ht
   obtain⟨i,rfl⟩:=okWide_bool ht hok
   obtain⟨k,rfl⟩:=ho
   exact one _ rfl rfl rfl
  ·rename_i ht
   obtain⟨i,rfl⟩:=okWide_string ht hok
   obtain⟨k,rfl,_⟩:=ho
   exact one _ rfl rfl rfl
  ·rename_i ht
   obtain⟨a,l,c,rfl⟩:=okWide_slice ht hok
   obtain⟨k,rfl,_⟩:=ho
   exact one _ rfl rfl rfl
  ·rename_i ht
   obtain⟨us,rfl,hs⟩:=okWide_struct ht hok
   simp only[TT.pack]
   have:=Be.agg (w:=W) (ok:=(· <W.heap.size)) xs us.toList (by simpa [Value.cells] using hL.1) (fun x hx=>TT.Of.one ho x hx) (by simpa [Value.cells] using hL.2)
   simpa using this
  ·cases hr
theorem Bki{α:Type}{f:α→PV}{τ:TT}{wf:α→Prop}(hh: ∀xs,τ.Of xs→ ∃x,wf x∧τ.pack xs=f x): ∀ys:List (List PV),(∀y∈ys,τ.Of y)→ ∃l:List α,l.length=ys.length∧(∀x∈l,wf x)∧ys.map τ.pack=l.map f
 |[],_=>⟨[],rfl,by simp,rfl⟩
 |y::ys,h=>by
  obtain⟨x,hx,he⟩:=hh y (h y (by simp))
  obtain⟨l,h0,h1,h2⟩:=Bki hh ys (fun z hz=>h z (by simp[hz]))
  refine⟨x::l,by simp[h0],?_,by simp[he,h2]⟩
  intro z hz
  rcases List.mem_cons.1 hz with rfl|hz
  ·exact hx
  ·exact h1 z hz
theorem As4{W':World}(hl:laidOutB P=true)(hb:Below W.heap.size W W'){sp:Nat→Bool}: ∀{ts:List TypeId} {vs:List Value} {ds:List (DataW H)} {ps:List MemPlace},
  (∀t∈ts,P.readableRec t=true∧t<P.types.size)→DataW.TrodAll enc P W 0 (fun _=>true) true ts vs ds ps→(∀p∈ps,p.block<W.heap.size)→(∀p∈ps,sp p.block=true)→DataW.TrodAll enc P W' 0 sp true ts vs ds ps
 |[],_,_,_,_,h,_,_=>by
  obtain⟨rfl,rfl,rfl⟩:=trodAll_nil h
  rfl
 |t::ts,_,_,_,hr,h,hlt,hs=>by
  obtain⟨v,vs,d,ds,a,b,rfl,rfl,rfl,h1,h2⟩:=trodAll_cons h
  exact⟨a,b,WideElems.Trod_stays hl (hr t (by simp)).1 (hr t (by simp)).2 h1 (fun p hp=>hb.same (hlt p (by simp[hp]))) (fun p hp=>hs p (by simp[hp])),As4 hl hb (fun u hu=>hr u (by simp[hu])) h2 (fun p hp=>hlt p (by simp[hp])) (fun p hp=>hs p (by simp[hp])),rfl⟩
theorem A2i{W':World}(hb:Below W.heap.size W W')(may:MemPlace→Prop):W.keptBut W' may:=by
 refine⟨hb.os,hb.output,fun i hi=>?_⟩
 rw[hb.block i hi]
 split<;>simp_all
theorem Bl6{f:Func}{s:ChangeSpec}{apart fresh handsOn again:Bool}{W':World}{args:Array Value}{ds gs:List (DataW H)}{before:List MemPlace}{tb:TypeId}
  (hl:laidOutB P=true)(hp: ∀t∈f.params.toList,P.readableRec t=true∧t<P.types.size)(hr:f.resultTypes= #[tb])(hb:P.underlying tb=some .bool)(hv:s.vars=[])
  (hW:DataW.Whole enc P f.params.toList s.vars apart W args.toList ds gs before)(h1:(s.fn H (ds++gs)).results=[.lit (.bool true)])(h2:(s.fn H (ds++gs)).args=ds)(h3:(s.fn H (ds++gs)).vars=[])
  (hbel:Below W.heap.size W W'):s.post enc P f apart fresh handsOn again W args (.bool true) W':=by
 have hlt:=hW.lt
 have hW0:=hW
 obtain⟨p,q,hA,hV,rfl,hz,hn⟩:=hW
 rw[hv] at hV
 obtain⟨rfl,rfl⟩:=trodVars_none hV
 have hres: ∀(b:Nat) (sp:Nat→Bool) (hd:Bool),DataW.TrodAll enc P W' b sp hd f.resultTypes.toList ((Value.bool true).resultList f.resultTypes.size) [.lit (.bool true)] []:=by
  intro b sp hd
  rw[hr]
  exact trodAll_mk1 ⟨1,by simp[DataW.trod,Value.cells,hb]⟩
 have hargs: ∀sp:Nat→Bool,(∀x∈p,sp x.block=true)→DataW.TrodAll enc P W' 0 sp true f.params.toList args.toList ds p:=fun sp hs=>As4 hl hbel hp hA (fun x hx=>hlt x (by simp[hx])) hs
 refine⟨ds,[],p++[],[],p,[],hW0,by rw[h1];exact hres _ _ _,by rw[h2];exact hargs _ (fun x hx=>by simpa using hlt x (by simp[hx])),by rw[h3,hv];rfl,A2i hbel _,fun _=>?_⟩
 refine⟨?_,_,[],([]++p)++[],⟨[]++p,[],trodAll_append (hargs _ (fun _ _=>rfl)) (hres _ _ _),by rw[hv];rfl,rfl,?_,?_⟩,?_⟩
 ·exact ok_one (f:=f) hr rfl (okWide_bool_mk hb true)
 ·intro b off hm
  have hm':MemPlace.cell b off∈p:=by simpa using hm
  have h0:=hz b off (by simpa using hm')
  have hlb:=hlt _ (by simpa using hm':MemPlace.cell b off∈p++[])
  unfold World.frozen? at h0⊢
  rw[hbel.block b hlb]
  exact h0
 ·intro ha
  simpa using hn ha
 ·intro x hx _
  simpa using hx
def AllOf:List TT→List PV→Prop
 |[],xs=>xs=[]
 |τ::ts,xs=> ∃cs ys,xs=τ.pack cs::ys∧τ.Of cs∧AllOf ts ys
theorem Bsy{n base:Nat}: ∀{ts:List TypeId} {τs:List TT} {vs:List Value} {ds:List (DataW H)} {ps:List MemPlace},ts.length=τs.length→(∀p∈ts.zip τs,reads P n p.1 p.2=true)→
  (∀(j:Nat) t v,ts[j]? =some t→vs[j]? =some v→Value.okWide P W .any base t v)→DataW.TrodAll enc P W 0 (fun _=>true) true ts vs ds ps→(∀(j:Nat) t d,ts[j]? =some t→ds[j]? =some d→ ∀k∈DataW.weights P t d,k≤reachBytes)→ds.length=ts.length∧ ∃xs,AllOf τs xs∧T7 W (· <W.heap.size) xs vs
 |[],τs,_,_,_,hl,_,_,h,_=>by
  obtain⟨rfl,rfl,rfl⟩:=trodAll_nil h
  cases τs with
  |nil=>exact⟨rfl,[],rfl,rfl,fun j x u hx=>by simp at hx⟩
  |cons=>cases hl
 |t::ts,τs,_,_,_,hl,hr,hok,h,hw=>by
  obtain⟨v,vs,d,ds,a,b,rfl,rfl,rfl,h1,h2⟩:=trodAll_cons h
  cases τs with
  |nil=>cases hl
  |cons τ τs=>
   obtain⟨cs,ho,hL⟩:=Bvb (hr (t,τ) (by simp)) (hok 0 t v rfl rfl) h1 (hw 0 t d rfl rfl)
   obtain⟨hlen,ys,hos,hLs⟩:=Bsy (by simpa using hl) (fun p hp=>hr p (by simp[hp])) (fun j t v ht hv=>hok (j+1) t v (by simpa using ht) (by simpa using hv)) h2 (fun j t d ht hd=>hw (j+1) t d (by simpa using ht) (by simpa using hd))
   exact⟨by simp[hlen],_,⟨cs,ys,rfl,ho,hos⟩,(T7.single hL).append hLs⟩
theorem Bf3{f:FuncId}{vs:List Value}{xs:List PV}(hc:Bp P f (xs.map .pv) [] ⟨.pv (.bool true),[],[]⟩)(hl:T7 W (· <W.heap.size) xs vs)(hG:GOK W (· <W.heap.size)):
  Calls P f vs.toArray W fun e W'=>e= .returned (.bool true)∧Below W.heap.size W W':=by
 refine(hc.2 W vs (fun _=>⟨none,0⟩) (· <W.heap.size) (fun b hb=>⟨hb,fun i hi=>by cases hi⟩) hG (fun i j b hi=>by cases hi) (fun i xs hx=>by simp at hx) (by simpa using hl.1) ?_).mono ?_
 ·intro j x v hx hv
  simp only[List.getElem?_map,Option.map_eq_some_iff] at hx
  obtain⟨y,hy,rfl⟩:=hx
  exact .pv _ _ (hl.2 j y v hy hv)
 ·rintro e W' ⟨v,δ,rfl,ha⟩
  refine⟨?_,ha.quiet.os,ha.quiet.tape,ha.quiet.out,ha.size,fun b hb=>ha.frame b hb (fun⟨i,hi,_⟩=>by cases hi)⟩
  cases ha.val with
  |pv _ _ h=>cases h;rfl
theorem Btq{f:FuncId}{fn:Func}{s:ChangeSpec}{apart fresh handsOn again:Bool}{n:Nat}{tb:TypeId}(τs:List TT)
  (hl:laidOutB P=true)(hp:fn.params.toList.all (fun t=>P.readableRec t&&decide (t<P.types.size))=true)(hr:fn.resultTypes= #[tb])(hb:P.underlying tb=some .bool)(hv:s.vars=[])
  (ht:fn.params.toList.length=τs.length)(hrd:(fn.params.toList.zip τs).all (fun p=>reads P n p.1 p.2)=true)(hs: ∀ds:List (DataW H),ds.length=fn.params.toList.length→s.fn H ds={results:=[.lit (.bool true)],args:=ds})
  (hc: ∀xs:List PV,AllOf τs xs→Bp P f (xs.map .pv) [] ⟨.pv (.bool true),[],[]⟩):
  ∀(W:World) (base:Nat) (args:Array Value) (ds gs:List (DataW H)) (before:List MemPlace),
   (∀(j:Nat) t v,fn.params[j]? =some t→args[j]? =some v→Value.okWide P W .any base t v)→
   DataW.Whole enc P fn.params.toList s.vars apart W args.toList ds gs before→
   (DataW.weightsEach P (fn.params.toList++s.plain.varTypes P) (ds++gs)).all (· ≤reachBytes)=true→
   GOK W (· <W.heap.size)→
   Calls P f args W fun e W'=> ∃v,e= .returned v∧s.post enc P fn apart fresh handsOn again W args v W':=by
 intro W base args ds gs before hok hW hz hG
 have hW0:=hW
 obtain⟨p,q,hA,hV,rfl,_,_⟩:=hW
 rw[hv] at hV
 obtain⟨rfl,rfl⟩:=trodVars_none hV
 obtain⟨hlen,xs,ho,hL⟩:=Bsy (n:=n) (base:=base) ht (by simpa using hrd) (fun j t v h1 h2=>hok j t v (by simpa using h1) (by simpa using h2)) hA (fun j t d h1 h2 k hk=>by
  have hj:=(List.getElem?_eq_some_iff.1 h1).1
  have hj2:=(List.getElem?_eq_some_iff.1 h2).1
  have:=DataW.weights_mem_each (P:=P) (ts:=fn.params.toList++s.plain.varTypes P) (ds:=ds++[]) (j:=j) (t:=t) (d:=d) (by rw[List.getElem?_append_left hj];exact h1) (by rw[List.getElem?_append_left hj2];exact h2) k hk
  have h3:=List.all_eq_true.1 hz k this
  simpa using h3)
 have hs':s.fn H (ds++[])={results:=[.lit (.bool true)],args:=ds}:=by rw[List.append_nil];exact hs ds hlen
 refine(Bf3 (hc xs ho) hL hG).mono fun e W' ⟨he,hb'⟩=>⟨_,he,?_⟩
 exact Bl6 (P:=P) hl (fun t ht=>by have:=List.all_eq_true.1 hp t ht;simpa using this) hr hb hv hW0 (by rw[hs']) (by rw[hs']) (by rw[hs']) hb'
end
def inR(k:IntKind)(n:Int):Prop:=k.min≤n∧n≤k.max
theorem of_slice{α:Type}{f:α→PV}{τ:TT}{wf:α→Prop}(hh: ∀xs,τ.Of xs→ ∃x,wf x∧τ.pack xs=f x){xs:List PV}(h:(TT.slice τ).Of xs): ∃l:List α,(l.length≤maxLen∧ ∀x∈l,wf x)∧xs=[.slice (l.map f)]:=by
 obtain⟨ys,rfl,hl,hy⟩:=h
 obtain⟨l,h0,h1,h2⟩:=Bki hh ys hy
 exact⟨l,⟨by omega,h1⟩,by rw[h2]⟩
end Go.Av
end
section
set_option maxRecDepth 100000
set_option maxHeartbeats 8000000
namespace Go.Av.G
open Go Go.Av Go.Proofs
structure Br where
 Hi:Nat
 Q1:Nat
 deriving DecidableEq,Inhabited
def Br.cl(x:Br):List PV:=[.fn x.Hi,.fn x.Q1]
def Br.pv(x:Br):PV:= .agg x.cl
structure Bz where
 f_0:Br
 f_1:Br
 f_2:Br
 f_3:Br
 deriving DecidableEq,Inhabited
def Bz.cl(x:Bz):List PV:=[.fn x.f_0.Hi,.fn x.f_0.Q1,.fn x.f_1.Hi,.fn x.f_1.Q1,.fn x.f_2.Hi,.fn x.f_2.Q1,.fn x.f_3.Hi,.fn x.f_3.Q1]
def Bz.pv(x:Bz):PV:= .agg x.cl
structure Ah where
 Ac:Int
 Abz:Int
 Arh:Int
 Ag:List UInt8
 deriving DecidableEq,Inhabited
def Ah.cl(x:Ah):List PV:=[.int .i64 x.Ac,.int .i64 x.Abz,.int .i64 x.Arh,.str x.Ag]
def Ah.pv(x:Ah):PV:= .agg x.cl
def Ah.same(x y:Ah):Bool:=((x.Ac==y.Ac)&&((x.Abz==y.Abz)&&((x.Arh==y.Arh)&&((x.Ag==y.Ag)&&true))))
theorem Ah.same_iff(x y:Ah):Ah.same x y=decide (x=y):=by
 rw[Bool.eq_iff_iff];rcases x with⟨_,_,_,_⟩;rcases y with⟨_,_,_,_⟩;simp[Ah.same,Ah.mk.injEq,and_assoc]
def Ah.tt:TT:= .struct (.field (.int .i64) (.field (.int .i64) (.field (.int .i64) (.field .str .unit))))
def Ah.wf(x:Ah):Prop:=inR .i64 x.Ac∧inR .i64 x.Abz∧inR .i64 x.Arh∧x.Ag.length≤reachBytes
theorem Ah.of{xs:List PV}(hh:Ah.tt.Of xs): ∃x:Ah,x.wf∧Ah.tt.pack xs=Ah.pv x:=by
 obtain⟨a0,b0,rfl,h0,hh⟩:=hh
 obtain⟨a1,b1,rfl,h1,hh⟩:=hh
 obtain⟨a2,b2,rfl,h2,hh⟩:=hh
 obtain⟨a3,b3,rfl,h3,hh⟩:=hh
 obtain rfl:_=[]:=hh
 obtain⟨n0,rfl,w0⟩:=h0
 obtain⟨n1,rfl,w1⟩:=h1
 obtain⟨n2,rfl,w2⟩:=h2
 obtain⟨n3,rfl,w3⟩:=h3
 exact⟨⟨n0,n1,n2,n3⟩,⟨w0,w1,w2,w3⟩,rfl⟩
structure Ab where
 Jt:List Ah
 Cz:Int
 Ca:Bool
 deriving DecidableEq,Inhabited
def Ab.cl(x:Ab):List PV:=[.slice (List.map Ah.pv x.Jt),.int .i64 x.Cz,.bool x.Ca]
def Ab.pv(x:Ab):PV:= .agg x.cl
def Ab.tt:TT:= .struct (.field (.slice Ah.tt) (.field (.int .i64) (.field .bool .unit)))
def Ab.wf(x:Ab):Prop:=(x.Jt.length≤maxLen∧ ∀x'∈x.Jt,Ah.wf x')∧inR .i64 x.Cz∧True
theorem Ab.of{xs:List PV}(hh:Ab.tt.Of xs): ∃x:Ab,x.wf∧Ab.tt.pack xs=Ab.pv x:=by
 obtain⟨a0,b0,rfl,h0,hh⟩:=hh
 obtain⟨a1,b1,rfl,h1,hh⟩:=hh
 obtain⟨a2,b2,rfl,h2,hh⟩:=hh
 obtain rfl:_=[]:=hh
 obtain⟨n0,w0,rfl⟩:=of_slice (f:=Ah.pv) (wf:=Ah.wf) (fun xs h=>Ah.of h) h0
 obtain⟨n1,rfl,w1⟩:=h1
 obtain⟨n2,rfl⟩:=h2
 exact⟨⟨n0,n1,n2⟩,⟨w0,w1,trivial⟩,rfl⟩
structure Aa where
 Ac:Int
 Ag:List UInt8
 deriving DecidableEq,Inhabited
def Aa.cl(x:Aa):List PV:=[.int .i64 x.Ac,.str x.Ag]
def Aa.pv(x:Aa):PV:= .agg x.cl
def Aa.same(x y:Aa):Bool:=((x.Ac==y.Ac)&&((x.Ag==y.Ag)&&true))
theorem Aa.same_iff(x y:Aa):Aa.same x y=decide (x=y):=by
 rw[Bool.eq_iff_iff];rcases x with⟨_,_⟩;rcases y with⟨_,_⟩;simp[Aa.same,Aa.mk.injEq,and_assoc]
def Aa.tt:TT:= .struct (.field (.int .i64) (.field .str .unit))
def Aa.wf(x:Aa):Prop:=inR .i64 x.Ac∧x.Ag.length≤reachBytes
theorem Aa.of{xs:List PV}(hh:Aa.tt.Of xs): ∃x:Aa,x.wf∧Aa.tt.pack xs=Aa.pv x:=by
 obtain⟨a0,b0,rfl,h0,hh⟩:=hh
 obtain⟨a1,b1,rfl,h1,hh⟩:=hh
 obtain rfl:_=[]:=hh
 obtain⟨n0,rfl,w0⟩:=h0
 obtain⟨n1,rfl,w1⟩:=h1
 exact⟨⟨n0,n1⟩,⟨w0,w1⟩,rfl⟩
structure Ar where
 Apg:Int
 Ab0:Int
 deriving DecidableEq,Inhabited
def Ar.cl(x:Ar):List PV:=[.int .i64 x.Apg,.int .i64 x.Ab0]
def Ar.pv(x:Ar):PV:= .agg x.cl
def Ar.same(x y:Ar):Bool:=((x.Apg==y.Apg)&&((x.Ab0==y.Ab0)&&true))
theorem Ar.same_iff(x y:Ar):Ar.same x y=decide (x=y):=by
 rw[Bool.eq_iff_iff];rcases x with⟨_,_⟩;rcases y with⟨_,_⟩;simp[Ar.same,Ar.mk.injEq,and_assoc]
def Ar.tt:TT:= .struct (.field (.int .i64) (.field (.int .i64) .unit))
def Ar.wf(x:Ar):Prop:=inR .i64 x.Apg∧inR .i64 x.Ab0
theorem Ar.of{xs:List PV}(hh:Ar.tt.Of xs): ∃x:Ar,x.wf∧Ar.tt.pack xs=Ar.pv x:=by
 obtain⟨a0,b0,rfl,h0,hh⟩:=hh
 obtain⟨a1,b1,rfl,h1,hh⟩:=hh
 obtain rfl:_=[]:=hh
 obtain⟨n0,rfl,w0⟩:=h0
 obtain⟨n1,rfl,w1⟩:=h1
 exact⟨⟨n0,n1⟩,⟨w0,w1⟩,rfl⟩
structure Aq where
 C3:List UInt8
 C4:List UInt8
 deriving DecidableEq,Inhabited
def Aq.cl(x:Aq):List PV:=[.str x.C3,.str x.C4]
def Aq.pv(x:Aq):PV:= .agg x.cl
def Aq.same(x y:Aq):Bool:=((x.C3==y.C3)&&((x.C4==y.C4)&&true))
theorem Aq.same_iff(x y:Aq):Aq.same x y=decide (x=y):=by
 rw[Bool.eq_iff_iff];rcases x with⟨_,_⟩;rcases y with⟨_,_⟩;simp[Aq.same,Aq.mk.injEq,and_assoc]
def Aq.tt:TT:= .struct (.field .str (.field .str .unit))
def Aq.wf(x:Aq):Prop:=x.C3.length≤reachBytes∧x.C4.length≤reachBytes
theorem Aq.of{xs:List PV}(hh:Aq.tt.Of xs): ∃x:Aq,x.wf∧Aq.tt.pack xs=Aq.pv x:=by
 obtain⟨a0,b0,rfl,h0,hh⟩:=hh
 obtain⟨a1,b1,rfl,h1,hh⟩:=hh
 obtain rfl:_=[]:=hh
 obtain⟨n0,rfl,w0⟩:=h0
 obtain⟨n1,rfl,w1⟩:=h1
 exact⟨⟨n0,n1⟩,⟨w0,w1⟩,rfl⟩
structure Af where
 B3:List UInt8
 C8:List UInt8
 Bo:List UInt8
 Bf:List UInt8
 Ai:List Aq
 B9:List Aa
 Bb:List UInt8
 A3:List UInt8
 Bj:List UInt8
 deriving DecidableEq,Inhabited
def Af.cl(x:Af):List PV:=[.str x.B3,.str x.C8,.str x.Bo,.str x.Bf,.slice (List.map Aq.pv x.Ai),.slice (List.map Aa.pv x.B9),.str x.Bb,.str x.A3,.str x.Bj]
def Af.pv(x:Af):PV:= .agg x.cl
def Af.tt:TT:= .struct (.field .str (.field .str (.field .str (.field .str (.field (.slice Aq.tt) (.field (.slice Aa.tt) (.field .str (.field .str (.field .str .unit)))))))))
def Af.wf(x:Af):Prop:=x.B3.length≤reachBytes∧x.C8.length≤reachBytes∧x.Bo.length≤reachBytes∧x.Bf.length≤reachBytes∧(x.Ai.length≤maxLen∧ ∀x'∈x.Ai,Aq.wf x')∧(x.B9.length≤maxLen∧ ∀x'∈x.B9,Aa.wf x')∧x.Bb.length≤reachBytes∧x.A3.length≤reachBytes∧x.Bj.length≤reachBytes
theorem Af.of{xs:List PV}(hh:Af.tt.Of xs): ∃x:Af,x.wf∧Af.tt.pack xs=Af.pv x:=by
 obtain⟨a0,b0,rfl,h0,hh⟩:=hh
 obtain⟨a1,b1,rfl,h1,hh⟩:=hh
 obtain⟨a2,b2,rfl,h2,hh⟩:=hh
 obtain⟨a3,b3,rfl,h3,hh⟩:=hh
 obtain⟨a4,b4,rfl,h4,hh⟩:=hh
 obtain⟨a5,b5,rfl,h5,hh⟩:=hh
 obtain⟨a6,b6,rfl,h6,hh⟩:=hh
 obtain⟨a7,b7,rfl,h7,hh⟩:=hh
 obtain⟨a8,b8,rfl,h8,hh⟩:=hh
 obtain rfl:_=[]:=hh
 obtain⟨n0,rfl,w0⟩:=h0
 obtain⟨n1,rfl,w1⟩:=h1
 obtain⟨n2,rfl,w2⟩:=h2
 obtain⟨n3,rfl,w3⟩:=h3
 obtain⟨n4,w4,rfl⟩:=of_slice (f:=Aq.pv) (wf:=Aq.wf) (fun xs h=>Aq.of h) h4
 obtain⟨n5,w5,rfl⟩:=of_slice (f:=Aa.pv) (wf:=Aa.wf) (fun xs h=>Aa.of h) h5
 obtain⟨n6,rfl,w6⟩:=h6
 obtain⟨n7,rfl,w7⟩:=h7
 obtain⟨n8,rfl,w8⟩:=h8
 exact⟨⟨n0,n1,n2,n3,n4,n5,n6,n7,n8⟩,⟨w0,w1,w2,w3,w4,w5,w6,w7,w8⟩,rfl⟩
structure Ae where
 Ac:Int
 Ath:Int
 f_E:Int
 deriving DecidableEq,Inhabited
def Ae.cl(x:Ae):List PV:=[.int .i64 x.Ac,.int .i64 x.Ath,.int .i64 x.f_E]
def Ae.pv(x:Ae):PV:= .agg x.cl
def Ae.same(x y:Ae):Bool:=((x.Ac==y.Ac)&&((x.Ath==y.Ath)&&((x.f_E==y.f_E)&&true)))
theorem Ae.same_iff(x y:Ae):Ae.same x y=decide (x=y):=by
 rw[Bool.eq_iff_iff];rcases x with⟨_,_,_⟩;rcases y with⟨_,_,_⟩;simp[Ae.same,Ae.mk.injEq,and_assoc]
def Ae.tt:TT:= .struct (.field (.int .i64) (.field (.int .i64) (.field (.int .i64) .unit)))
def Ae.wf(x:Ae):Prop:=inR .i64 x.Ac∧inR .i64 x.Ath∧inR .i64 x.f_E
theorem Ae.of{xs:List PV}(hh:Ae.tt.Of xs): ∃x:Ae,x.wf∧Ae.tt.pack xs=Ae.pv x:=by
 obtain⟨a0,b0,rfl,h0,hh⟩:=hh
 obtain⟨a1,b1,rfl,h1,hh⟩:=hh
 obtain⟨a2,b2,rfl,h2,hh⟩:=hh
 obtain rfl:_=[]:=hh
 obtain⟨n0,rfl,w0⟩:=h0
 obtain⟨n1,rfl,w1⟩:=h1
 obtain⟨n2,rfl,w2⟩:=h2
 exact⟨⟨n0,n1,n2⟩,⟨w0,w1,w2⟩,rfl⟩
structure A0 where
 f_L:List Ah
 Btl:Int
 Bsn:Bool
 deriving DecidableEq,Inhabited
def A0.cl(x:A0):List PV:=[.slice (List.map Ah.pv x.f_L),.int .i64 x.Btl,.bool x.Bsn]
def A0.pv(x:A0):PV:= .agg x.cl
def A0.tt:TT:= .struct (.field (.slice Ah.tt) (.field (.int .i64) (.field .bool .unit)))
def A0.wf(x:A0):Prop:=(x.f_L.length≤maxLen∧ ∀x'∈x.f_L,Ah.wf x')∧inR .i64 x.Btl∧True
theorem A0.of{xs:List PV}(hh:A0.tt.Of xs): ∃x:A0,x.wf∧A0.tt.pack xs=A0.pv x:=by
 obtain⟨a0,b0,rfl,h0,hh⟩:=hh
 obtain⟨a1,b1,rfl,h1,hh⟩:=hh
 obtain⟨a2,b2,rfl,h2,hh⟩:=hh
 obtain rfl:_=[]:=hh
 obtain⟨n0,w0,rfl⟩:=of_slice (f:=Ah.pv) (wf:=Ah.wf) (fun xs h=>Ah.of h) h0
 obtain⟨n1,rfl,w1⟩:=h1
 obtain⟨n2,rfl⟩:=h2
 exact⟨⟨n0,n1,n2⟩,⟨w0,w1,trivial⟩,rfl⟩
structure Ad where
 Amk:Int
 Ag:List UInt8
 deriving DecidableEq,Inhabited
def Ad.cl(x:Ad):List PV:=[.int .i64 x.Amk,.str x.Ag]
def Ad.pv(x:Ad):PV:= .agg x.cl
def Ad.same(x y:Ad):Bool:=((x.Amk==y.Amk)&&((x.Ag==y.Ag)&&true))
theorem Ad.same_iff(x y:Ad):Ad.same x y=decide (x=y):=by
 rw[Bool.eq_iff_iff];rcases x with⟨_,_⟩;rcases y with⟨_,_⟩;simp[Ad.same,Ad.mk.injEq,and_assoc]
def Ad.tt:TT:= .struct (.field (.int .i64) (.field .str .unit))
def Ad.wf(x:Ad):Prop:=inR .i64 x.Amk∧x.Ag.length≤reachBytes
theorem Ad.of{xs:List PV}(hh:Ad.tt.Of xs): ∃x:Ad,x.wf∧Ad.tt.pack xs=Ad.pv x:=by
 obtain⟨a0,b0,rfl,h0,hh⟩:=hh
 obtain⟨a1,b1,rfl,h1,hh⟩:=hh
 obtain rfl:_=[]:=hh
 obtain⟨n0,rfl,w0⟩:=h0
 obtain⟨n1,rfl,w1⟩:=h1
 exact⟨⟨n0,n1⟩,⟨w0,w1⟩,rfl⟩
instance dicS:Str where
 S:=fun i=>match i with
  |0=>Br
  |1=>Bz
  |2=>Ah
  |3=>Ab
  |4=>Aa
  |5=>Ar
  |6=>Aq
  |7=>Af
  |8=>Ae
  |9=>A0
  |10=>Ad
  |_=>Unit
instance dicC:Cel where
 ts:=fun i=>match i with
  |0=>[.fn,.fn]
  |1=>[.fn,.fn,.fn,.fn,.fn,.fn,.fn,.fn]
  |2=>[(.int .i64),(.int .i64),(.int .i64),.str]
  |3=>[(.sl (.st 2)),(.int .i64),.bool]
  |4=>[(.int .i64),.str]
  |5=>[(.int .i64),(.int .i64)]
  |6=>[.str,.str]
  |7=>[.str,.str,.str,.str,(.sl (.st 6)),(.sl (.st 4)),.str,.str,.str]
  |8=>[(.int .i64),(.int .i64),(.int .i64)]
  |9=>[(.sl (.st 2)),(.int .i64),.bool]
  |10=>[(.int .i64),.str]
  |_+11=>[]
 get:=fun i=>match i with
  |0=>fun(x:Br)=>(x.Hi,x.Q1,())
  |1=>fun(x:Bz)=>(x.f_0.Hi,x.f_0.Q1,x.f_1.Hi,x.f_1.Q1,x.f_2.Hi,x.f_2.Q1,x.f_3.Hi,x.f_3.Q1,())
  |2=>fun(x:Ah)=>(x.Ac,x.Abz,x.Arh,x.Ag,())
  |3=>fun(x:Ab)=>(x.Jt,x.Cz,x.Ca,())
  |4=>fun(x:Aa)=>(x.Ac,x.Ag,())
  |5=>fun(x:Ar)=>(x.Apg,x.Ab0,())
  |6=>fun(x:Aq)=>(x.C3,x.C4,())
  |7=>fun(x:Af)=>(x.B3,x.C8,x.Bo,x.Bf,x.Ai,x.B9,x.Bb,x.A3,x.Bj,())
  |8=>fun(x:Ae)=>(x.Ac,x.Ath,x.f_E,())
  |9=>fun(x:A0)=>(x.f_L,x.Btl,x.Bsn,())
  |10=>fun(x:Ad)=>(x.Amk,x.Ag,())
  |_+11=>fun _=>()
 put:=fun i=>match i with
  |0=>fun t=>(⟨t.1,t.2.1⟩:Br)
  |1=>fun t=>(⟨⟨t.1,t.2.1⟩,⟨t.2.2.1,t.2.2.2.1⟩,⟨t.2.2.2.2.1,t.2.2.2.2.2.1⟩,⟨t.2.2.2.2.2.2.1,t.2.2.2.2.2.2.2.1⟩⟩:Bz)
  |2=>fun t=>(⟨t.1,t.2.1,t.2.2.1,t.2.2.2.1⟩:Ah)
  |3=>fun t=>(⟨t.1,t.2.1,t.2.2.1⟩:Ab)
  |4=>fun t=>(⟨t.1,t.2.1⟩:Aa)
  |5=>fun t=>(⟨t.1,t.2.1⟩:Ar)
  |6=>fun t=>(⟨t.1,t.2.1⟩:Aq)
  |7=>fun t=>(⟨t.1,t.2.1,t.2.2.1,t.2.2.2.1,t.2.2.2.2.1,t.2.2.2.2.2.1,t.2.2.2.2.2.2.1,t.2.2.2.2.2.2.2.1,t.2.2.2.2.2.2.2.2.1⟩:Af)
  |8=>fun t=>(⟨t.1,t.2.1,t.2.2.1⟩:Ae)
  |9=>fun t=>(⟨t.1,t.2.1,t.2.2.1⟩:A0)
  |10=>fun t=>(⟨t.1,t.2.1⟩:Ad)
  |_+11=>fun _=>()
 cl:=fun i=>match i with
  |0=>Br.cl
  |1=>Bz.cl
  |2=>Ah.cl
  |3=>Ab.cl
  |4=>Aa.cl
  |5=>Ar.cl
  |6=>Aq.cl
  |7=>Af.cl
  |8=>Ae.cl
  |9=>A0.cl
  |10=>Ad.cl
  |_+11=>fun _=>[]
 z:=fun i=>match i with
  |0=>(default:Br)
  |1=>(default:Bz)
  |2=>(default:Ah)
  |3=>(default:Ab)
  |4=>(default:Aa)
  |5=>(default:Ar)
  |6=>(default:Aq)
  |7=>(default:Af)
  |8=>(default:Ae)
  |9=>(default:A0)
  |10=>(default:Ad)
  |_+11=>()
instance dic:Dic where
 scal:=fun i=>match i with
  |0=>rfl
  |1=>rfl
  |2=>rfl
  |3=>rfl
  |4=>rfl
  |5=>rfl
  |6=>rfl
  |7=>rfl
  |8=>rfl
  |9=>rfl
  |10=>rfl
  |_+11=>rfl
 cl_get:=fun i=>match i with
  |0=>fun _=>rfl
  |1=>fun _=>rfl
  |2=>fun _=>rfl
  |3=>fun _=>rfl
  |4=>fun _=>rfl
  |5=>fun _=>rfl
  |6=>fun _=>rfl
  |7=>fun _=>rfl
  |8=>fun _=>rfl
  |9=>fun _=>rfl
  |10=>fun _=>rfl
  |_+11=>fun _=>rfl
 cl_mk:=fun i=>match i with
  |0=>fun _=>rfl
  |1=>fun _=>rfl
  |2=>fun _=>rfl
  |3=>fun _=>rfl
  |4=>fun _=>rfl
  |5=>fun _=>rfl
  |6=>fun _=>rfl
  |7=>fun _=>rfl
  |8=>fun _=>rfl
  |9=>fun _=>rfl
  |10=>fun _=>rfl
  |_+11=>fun _=>rfl
noncomputable def Xc(s1:List UInt8):Option Int:=
 A4 (fun(qj2:List UInt8)=>match qj2 with
  |rest3=>(
   (B1 rest3 [32,9,10]).bind fun x4=>
   (strings_HasPrefix x4 [35]).bind fun x5=>
   if (!x5)=true then
    some (.inr (IntKind.wrap .i64 ((s1.length:Int)-(x4.length:Int))))
   else
    (strings_Cut x4 [10]).bind fun x6=>
    if (!x6.2.2)=true then
     some (.inr (s1.length:Int))
    else
     some (.inl x6.2.1):Option ((List UInt8)⊕Int))) s1
def Atr:Option Bz:=
 some (⟨(⟨127,128⟩:Br),(⟨129,130⟩:Br),(⟨131,132⟩:Br),(⟨133,134⟩:Br)⟩:Bz)
def Hx(b1:Int):Option Bool:=
 (some (decide (b1≥97))).bind fun c2=>
 some (c2&&(decide (b1≤122)))
def Hk(b1:Int):Option Bool:=
 (some (decide (b1≥48))).bind fun c2=>
 some (c2&&(decide (b1≤57)))
def M6(b1:Int):Option Bool:=
 some (b1==34)
def Uh(x1:Int):Option Bool:=
 some true
def F2(f:Nat)(a0:Int):Option Bool:=if f=127 then Hx a0 else if f=129 then Hk a0 else if f=131 then M6 a0 else if f=133 then Uh a0 else none
def Pq(b1:Int):Option Bool:=
 (Hx b1).bind fun x2=>
 (gdO (!x2) (Hk b1) (default:Bool)).bind fun x3=>
 (some (x2||x3)).bind fun c4=>
 some (c4||(b1==95))
def Qn(r1:Int):Option Bool:=
 (some (decide (r1>127))).bind fun c2=>
 (gdO (!c2) (Pq (IntKind.wrap .u8 r1)) (default:Bool)).bind fun x3=>
 some (c2||(!x3))
noncomputable def Axd(s1:List UInt8):Option Int:=
 (strings_IndexFunc Qn s1).bind fun x2=>
 if (decide (x2<0))=true then
  some (s1.length:Int)
 else
  some x2
noncomputable def Ajx(s1:List UInt8):Option (Int×Int):=
 (Axd s1).bind fun x2=>
 if (decide (x2>32))=true then
  some (0,3)
 else
  some (x2,0)
def I4(r1:Int):Option Bool:=
 (some (decide (r1>127))).bind fun c2=>
 (gdO (!c2) (Hk (IntKind.wrap .u8 r1)) (default:Bool)).bind fun x3=>
 some (c2||(!x3))
noncomputable def Qo(s1:List UInt8):Option Int:=
 (strings_IndexFunc I4 s1).bind fun x2=>
 if (decide (x2<0))=true then
  some (s1.length:Int)
 else
  some x2
noncomputable def Q5(s1:List UInt8):Option (Int×Int):=
 (Qo s1).bind fun x2=>
 (slO s1 x2 (s1.length:Int)).bind fun x3=>
 (some (decide ((x3.length:Int)>1))).bind fun c4=>
 (gdO c4 (byO x3 0) 0).bind fun x5=>
 ((if (c4&&(x5==46))=true then
   (slO x3 1 (x3.length:Int)).bind fun x7=>
   (Qo x7).bind fun x8=>
   some x8
 else
  some 0):Option Int).bind fun j6=>
 (some (decide (x2>15))).bind fun c10=>
 (some (c10||(decide (j6>9)))).bind fun c11=>
 (some (decide (x2>1))).bind fun c12=>
 (gdO (!c11&&c12) (byO s1 0) 0).bind fun x13=>
 if (c11||(c12&&(x13==48)))=true then
  some (0,3)
 else
  if (decide (j6>0))=true then
   some (IntKind.wrap .i64 ((IntKind.wrap .i64 (x2+1))+j6),0)
  else
   some (x2,0)
def Pr(b1:Int):Option Bool:=
 (some (decide (b1≥32))).bind fun c2=>
 some (c2&&(decide (b1≤126)))
def I5(r1:Int):Option Bool:=
 (some (decide (r1>127))).bind fun c2=>
 (gdO (!c2) (Pr (IntKind.wrap .u8 r1)) (default:Bool)).bind fun x3=>
 some (c2||(!x3))
noncomputable def Amm(s1:List UInt8):Option Int:=
 (strings_IndexFunc I5 s1).bind fun x2=>
 if (decide (x2<0))=true then
  some (s1.length:Int)
 else
  some x2
noncomputable def Q6(s1:List UInt8):Option (Int×Int):=
 (slO s1 1 (s1.length:Int)).bind fun x2=>
 (strings_IndexByte x2 34).bind fun x3=>
 if (decide (x3<0))=true then
  some (0,14)
 else
  (some (decide (x3>32))).bind fun c4=>
  (gdO (!c4) (slO s1 1 (IntKind.wrap .i64 (1+x3))) (default:List UInt8)).bind fun x5=>
  (gdO (!c4) (Amm x5) (default:Int)).bind fun x6=>
  if (c4||(decide (x6<x3)))=true then
   some (0,3)
  else
   some (IntKind.wrap .i64 (x3+2),0)
def Ajw(s1:List UInt8):Option (Int×Int):=
 (some (decide ((s1.length:Int)>1))).bind fun c2=>
 (gdO c2 (slO s1 0 2) (default:List UInt8)).bind fun x3=>
 (gdO c2 (strings_Contains [60,61,32,62,61,32,46,46] x3) (default:Bool)).bind fun x4=>
 (some (c2&&x4)).bind fun c5=>
 (gdO c5 (slO s1 0 2) (default:List UInt8)).bind fun x6=>
 (gdO c5 (strings_Contains x6 [32]) (default:Bool)).bind fun x7=>
 if (c5&&(!x7))=true then
  some (2,0)
 else
  (byO s1 0).bind fun x8=>
  (strings_IndexByte [123,125,40,41,91,93,59,58,44,37,61,60,62,43,45,42,47] x8).bind fun x9=>
  if (decide (x9≥0))=true then
   some (1,0)
  else
   some (0,14)
noncomputable def F3(f:Nat)(a0:List UInt8):Option (Int×Int):=if f=128 then Ajx a0 else if f=130 then Q5 a0 else if f=132 then Q6 a0 else if f=134 then Ajw a0 else none
noncomputable def Xb(s1:List UInt8):Option (Int×Int×Int):=
 (Atr).bind fun x2=>
 ((A4 (fun(qj3:Int)=>match qj3 with
   |x4=>(
    if (decide (x4<4))=true then
     (rdO [x2.f_0,x2.f_1,x2.f_2,x2.f_3] x4).bind fun x5=>
     (byO s1 0).bind fun x6=>
     (F2 x5.Hi x6).bind fun x7=>
     if x7=true then
      (F3 x5.Q1 s1).bind fun x8=>
      some (.inr (.inr (x4,x8.1,x8.2)))
     else
      some (.inl (IntKind.wrap .i64 (x4+1)))
    else
     some (.inr (.inl ())):Option (Int⊕(Unit⊕(Int×Int×Int))))) 0):Option (Unit⊕(Int×Int×Int))).bind fun j3=>match j3 with
 | .inr o=>some o
 | .inl _=>
 some (0,0,14)
def Qm(s1:List UInt8):Option (Int×Int):=
 (strings_Count s1 [10]).bind fun x2=>
 (strings_LastIndexByte s1 10).bind fun x3=>
 some (IntKind.wrap .i64 (x2+1),IntKind.wrap .i64 ((s1.length:Int)-x3))
noncomputable def Ab3(text1:List UInt8):Option ((List Ah)×Int×Int):=
 if (decide ((text1.length:Int)>8000))=true then
  some (([]:List Ah),0,4)
 else
  (Xc text1).bind fun x2=>
  ((A4 (fun(qj3:Int×(List Ah))=>match qj3 with
    |(at_4,row5)=>(
     if (decide (at_4<(text1.length:Int)))=true then
      (slO text1 at_4 (text1.length:Int)).bind fun x6=>
      (Xb x6).bind fun x7=>
      if (x7.2.2 !=0)=true then
       some (.inr (.inr (([]:List Ah),at_4,x7.2.2)))
      else
       if ((row5.length:Int)==1500)=true then
        some (.inr (.inr (([]:List Ah),at_4,6)))
       else
        (slO text1 0 at_4).bind fun x8=>
        (Qm x8).bind fun x9=>
        (slO text1 at_4 (IntKind.wrap .i64 (at_4+x7.2.1))).bind fun x10=>
        (apO 40 row5 [(⟨x7.1,x9.1,x9.2,x10⟩:Ah)]).bind fun x11=>
        (slO text1 (IntKind.wrap .i64 (at_4+x7.2.1)) (text1.length:Int)).bind fun x12=>
        (Xc x12).bind fun x13=>
        some (.inl (IntKind.wrap .i64 ((IntKind.wrap .i64 (at_4+x7.2.1))+x13),x11))
     else
      some (.inr (.inl row5)):Option ((Int×(List Ah))⊕((List Ah)⊕((List Ah)×Int×Int))))) (x2,([]:List Ah))):Option ((List Ah)⊕((List Ah)×Int×Int))).bind fun j3=>match j3 with
  | .inr o=>some o
  | .inl out14=>
  some (out14,0,0)
def W9(text1:List UInt8)(at_2:Int):Option (Int×Int×Int):=
 (some (decide (at_2<0))).bind fun c3=>
 if (c3||(decide (at_2>(text1.length:Int))))=true then
  some (0,0,1)
 else
  (slO text1 0 at_2).bind fun x4=>
  (Qm x4).bind fun x5=>
  some (x5.1,x5.2,0)
noncomputable def M7(text1:List UInt8):Option ((Int×Int×Int×Ab)⊕(Int×Int×Int)):=
 (Ab3 text1).bind fun x2=>
 if (x2.2.2==0)=true then
  some (.inl (0,0,0,(⟨x2.1,0,false⟩:Ab)))
 else
  (W9 text1 x2.2.1).bind fun x3=>
  some (.inr (x3.1,x3.2.1,x2.2.2))
def Bv(s1:List UInt8)(e2:Ab):Option Bool:=
 (some (!e2.Ca)).bind fun c3=>
 (some (c3&&(decide (e2.Cz<(e2.Jt.length:Int))))).bind fun c4=>
 (gdO c4 (rdO e2.Jt e2.Cz) (default:Ah)).bind fun x5=>
 (some (c4&&(x5.Ac !=2))).bind fun c6=>
 (gdO c6 (rdO e2.Jt e2.Cz) (default:Ah)).bind fun x7=>
 some (c6&&(x7.Ag==s1))
def Bd(s1:List UInt8)(e2:Ab):Option (Bool×Ab):=
 (Bv s1 e2).bind fun x3=>
 if (!x3)=true then
  some (false,e2)
 else
  some (true,(⟨e2.Jt,IntKind.wrap .i64 (e2.Cz+1),e2.Ca⟩:Ab))
noncomputable def Ap(l1:List (List UInt8))(e2:Ab):Option Ab:=
 A4 (fun(qj3:Int×Ab)=>match qj3 with
  |(x4,r5)=>(
   if (decide (x4<(l1.length:Int)))=true then
    (rdO l1 x4).bind fun x6=>
    (Bd x6 r5).bind fun x7=>
    if (!x7.1)=true then
     some (.inr (⟨x7.2.Jt,x7.2.Cz,true⟩:Ab))
    else
     some (.inl (IntKind.wrap .i64 (x4+1),x7.2))
   else
    some (.inr r5):Option ((Int×Ab)⊕Ab))) (0,e2)
noncomputable def Ei(s1:List (List UInt8))(v2:List UInt8):Option Int:=
 ((A4 (fun(qj3:Int)=>match qj3 with
   |x4=>(
    if (decide (x4<(s1.length:Int)))=true then
     (rdO s1 x4).bind fun x5=>
     if (v2==x5)=true then
      some (.inr (.inr x4))
     else
      some (.inl (IntKind.wrap .i64 (x4+1)))
    else
     some (.inr (.inl ())):Option (Int⊕(Unit⊕Int)))) 0):Option (Unit⊕Int)).bind fun j3=>match j3 with
 | .inr o=>some o
 | .inl _=>
 some (-1)
noncomputable def Cn(s1:List (List UInt8))(v2:List UInt8):Option Bool:=
 (Ei s1 v2).bind fun x3=>
 some (decide (x3≥0))
noncomputable def Xh(s1:List UInt8)(product2:Bool):Option Bool:=
 ((if product2=true then
   (apO 16 [[105,102],[116,104,101,110],[101,108,115,101],[97,110,100],[111,114],[110,111,116],[109,105,110],[109,97,120]] [[112,114,111,100,117,99,116],[98,97,115,105,115],[112,101,114,105,111,100],[116,105,101,114,115],[102,101,101],[109,105,110,105,109,117,109],[111,118,101,114,100,114,97,102,116],[110,111,116,105,99,101]]).bind fun x4=>
   some x4
 else
  some [[105,102],[116,104,101,110],[101,108,115,101],[97,110,100],[111,114],[110,111,116],[109,105,110],[109,97,120]]):Option (List (List UInt8))).bind fun j3=>
 (Cn j3 s1).bind fun x6=>
 some x6
noncomputable def A9(kind1:Int)(product2:Bool)(e3:Ab):Option ((List UInt8)×Ab):=
 (some e3.Ca).bind fun c4=>
 (some (c4||(decide (e3.Cz≥(e3.Jt.length:Int))))).bind fun c5=>
 (gdO (!c5) (rdO e3.Jt e3.Cz) (default:Ah)).bind fun x6=>
 (some (c5||(x6.Ac !=kind1))).bind fun c7=>
 (some (kind1==0)).bind fun c8=>
 (gdO (!c7&&c8) (rdO e3.Jt e3.Cz) (default:Ah)).bind fun x9=>
 (gdO (!c7&&c8) (Xh x9.Ag product2) (default:Bool)).bind fun x10=>
 if (c7||(c8&&x10))=true then
  some ([],(⟨e3.Jt,e3.Cz,true⟩:Ab))
 else
  (rdO e3.Jt (IntKind.wrap .i64 ((IntKind.wrap .i64 (e3.Cz+1))-1))).bind fun x11=>
  some (x11.Ag,(⟨e3.Jt,IntKind.wrap .i64 (e3.Cz+1),e3.Ca⟩:Ab))
noncomputable def Ds(slices1:List (List Aa)):Option (List Aa):=
 ((A4 (fun(qj2:Int×Int)=>match qj2 with
   |(size3,x4)=>(
    if (decide (x4<(slices1.length:Int)))=true then
     (rdO slices1 x4).bind fun x5=>
     ((if (decide ((IntKind.wrap .i64 (size3+(x5.length:Int)))<0))=true then
       none
     else
      some ()):Option Unit).bind fun _=>
     some (.inl (IntKind.wrap .i64 (size3+(x5.length:Int)),IntKind.wrap .i64 (x4+1)))
    else
     some (.inr size3):Option ((Int×Int)⊕Int))) (0,0)):Option Int).bind fun j2=>
 (C2 Aa 24 j2).bind fun x8=>
 ((A4 (fun(qj9:Int×(List Aa))=>match qj9 with
   |(x10,row11)=>(
    if (decide (x10<(slices1.length:Int)))=true then
     (rdO slices1 x10).bind fun x12=>
     (apO 24 row11 x12).bind fun x13=>
     some (.inl (IntKind.wrap .i64 (x10+1),x13))
    else
     some (.inr row11):Option ((Int×(List Aa))⊕(List Aa)))) (0,x8)):Option (List Aa)).bind fun j9=>
 some j9
noncomputable def Ci(kind1:Int)(l2:List (List Aa)):Option (List Aa):=
 (Ds l2).bind fun x3=>
 (apO 24 [(⟨kind1,[]⟩:Aa)] x3).bind fun x4=>
 some x4
def Aka:Option (List ((List UInt8)×Ar)):=
 some (mset (mset (mset (mset (mset (mset (mset (mset (mset (mset (mset ([]:List ((List UInt8)×Ar)) [111,114] (⟨13,1⟩:Ar)) [97,110,100] (⟨12,2⟩:Ar)) [60] (⟨7,4⟩:Ar)) [60,61] (⟨8,4⟩:Ar)) [61] (⟨9,4⟩:Ar)) [62] (⟨10,4⟩:Ar)) [62,61] (⟨11,4⟩:Ar)) [43] (⟨3,5⟩:Ar)) [45] (⟨4,5⟩:Ar)) [42] (⟨5,6⟩:Ar)) [47] (⟨6,6⟩:Ar))
def B6(level1:Int)(e2:Ab):Option (Int×Bool):=
 (some e2.Ca).bind fun c3=>
 (some (c3||(decide (e2.Cz≥(e2.Jt.length:Int))))).bind fun c4=>
 (gdO (!c4) (rdO e2.Jt e2.Cz) (default:Ah)).bind fun x5=>
 if (c4||(x5.Ac==2))=true then
  some (0,false)
 else
  (Aka).bind fun x6=>
  (rdO e2.Jt e2.Cz).bind fun x7=>
  (some ((A2p x6 x7.Ag).isSome)).bind fun c8=>
  some (((A2p x6 x7.Ag).getD ((⟨0,0⟩:Ar):Ar)).Apg,(c8&&((((A2p x6 x7.Ag).getD ((⟨0,0⟩:Ar):Ar)).Ab0)==level1)))
mutual
noncomputable def parse_reader_any:Nat→Ab→Option ((List Aa)×Ab)
 |0,_=>none
 |fuel+1,e1=>
  (Bd [105,102] e1).bind fun x2=>
  if (!x2.1)=true then
   (parse_reader_level fuel 1 x2.2).bind fun x3=>
   some (x3.1,x3.2)
  else
   (parse_reader_any fuel x2.2).bind fun x4=>
   (Ap [[116,104,101,110]] x4.2).bind fun x5=>
   (parse_reader_any fuel x5).bind fun x6=>
   (Ap [[101,108,115,101]] x6.2).bind fun x7=>
   (parse_reader_any fuel x7).bind fun x8=>
   (Ci 15 [x4.1,x6.1,x8.1]).bind fun x9=>
   some (x9,x8.2)
noncomputable def parse_reader_level:Nat→Int→Ab→Option ((List Aa)×Ab)
 |0,_,_=>none
 |fuel+1,n1,e2=>
  if e2.Ca=true then
   some (([]:List Aa),e2)
  else
   if (n1==3)=true then
    (Bd [110,111,116] e2).bind fun x3=>
    if x3.1=true then
     (parse_reader_level fuel 3 x3.2).bind fun x4=>
     (Ci 14 [x4.1]).bind fun x5=>
     some (x5,x4.2)
    else
     (parse_reader_level fuel 4 x3.2).bind fun x6=>
     some (x6.1,x6.2)
   else
    if (n1==7)=true then
     (Bd [45] e2).bind fun x7=>
     if x7.1=true then
      (parse_reader_level fuel 7 x7.2).bind fun x8=>
      (Ci 2 [x8.1]).bind fun x9=>
      some (x9,x8.2)
     else
      (parse_reader_primary fuel x7.2).bind fun x10=>
      some (x10.1,x10.2)
    else
     (parse_reader_level fuel (IntKind.wrap .i64 (n1+1)) e2).bind fun x11=>
     (B6 n1 x11.2).bind fun x12=>
     ((A4 (fun(qj13:(List Aa)×Int×Bool×Ab)=>match qj13 with
       |(out14,kind15,is16,r17)=>(
        if is16=true then
         (parse_reader_level fuel (IntKind.wrap .i64 (n1+1)) (⟨r17.Jt,IntKind.wrap .i64 (r17.Cz+1),r17.Ca⟩:Ab)).bind fun x18=>
         (Ci kind15 [out14,x18.1]).bind fun x19=>
         if (n1==4)=true then
          some (.inr (x19,x18.2))
         else
          (B6 n1 x18.2).bind fun x20=>
          some (.inl (x19,x20.1,x20.2,x18.2))
        else
         some (.inr (out14,r17)):Option (((List Aa)×Int×Bool×Ab)⊕((List Aa)×Ab)))) (x11.1,x12.1,x12.2,x11.2)):Option ((List Aa)×Ab)).bind fun(out21,r22)=>
     some (out21,r22)
noncomputable def parse_reader_primary:Nat→Ab→Option ((List Aa)×Ab)
 |0,_=>none
 |fuel+1,e1=>
  (Bd [40] e1).bind fun x2=>
  if x2.1=true then
   (parse_reader_any fuel x2.2).bind fun x3=>
   (Ap [[41]] x3.2).bind fun x4=>
   some (x3.1,x4)
  else
   (Bv [109,105,110] x2.2).bind fun x5=>
   (gdO (!x5) (Bv [109,97,120] x2.2) (default:Bool)).bind fun x6=>
   if (x5||x6)=true then
    (Bv [109,97,120] (⟨(bif !x5 then x2.2.Jt else x2.2.Jt),(bif !x5 then x2.2.Cz else x2.2.Cz),(bif !x5 then x2.2.Ca else x2.2.Ca)⟩:Ab)).bind fun x7=>
    ((if x7=true then
      some 17
    else
     some 16):Option Int).bind fun j8=>
    (Ap [[40]] (⟨(bif !x5 then x2.2.Jt else x2.2.Jt),IntKind.wrap .i64 ((bif !x5 then x2.2.Cz else x2.2.Cz)+1),(bif !x5 then x2.2.Ca else x2.2.Ca)⟩:Ab)).bind fun x10=>
    (parse_reader_any fuel x10).bind fun x11=>
    (Ap [[44]] x11.2).bind fun x12=>
    (parse_reader_any fuel x12).bind fun x13=>
    (Ap [[41]] x13.2).bind fun x14=>
    (Ci j8 [x11.1,x13.1]).bind fun x15=>
    some (x15,x14)
   else
    (some (decide ((bif !x5 then x2.2.Cz else x2.2.Cz)<((bif !x5 then x2.2.Jt else x2.2.Jt).length:Int)))).bind fun c16=>
    (gdO c16 (rdO (bif !x5 then x2.2.Jt else x2.2.Jt) (bif !x5 then x2.2.Cz else x2.2.Cz)) (default:Ah)).bind fun x17=>
    if (c16&&(x17.Ac==1))=true then
     (A9 1 false (⟨(bif !x5 then x2.2.Jt else x2.2.Jt),(bif !x5 then x2.2.Cz else x2.2.Cz),(bif !x5 then x2.2.Ca else x2.2.Ca)⟩:Ab)).bind fun x18=>
     (Bd [37] x18.2).bind fun x19=>
     ((if x19.1=true then
       (A5 x18.1 [37]).bind fun x21=>
       some x21
     else
      some x18.1):Option (List UInt8)).bind fun j20=>
     some ([(⟨0,j20⟩:Aa)],x19.2)
    else
     (A9 0 false (⟨(bif !x5 then x2.2.Jt else x2.2.Jt),(bif !x5 then x2.2.Cz else x2.2.Cz),(bif !x5 then x2.2.Ca else x2.2.Ca)⟩:Ab)).bind fun x23=>
     some ([(⟨1,x23.1⟩:Aa)],x23.2)
end
def Ls(kind1:Int):Option Int:=
 (some (decide (kind1<0))).bind fun c2=>
 if (c2||(decide (kind1>17)))=true then
  some (-1)
 else
  if (decide (kind1≤1))=true then
   some 0
  else
   (some (kind1==2)).bind fun c3=>
   if (c3||(kind1==14))=true then
    some 1
   else
    if (kind1==15)=true then
     some 3
    else
     some 2
def stringslite_HasSuffix(s1:List UInt8)(suffix2:List UInt8):Option Bool:=
 (some (decide ((s1.length:Int)≥(suffix2.length:Int)))).bind fun c3=>
 (gdO c3 (slO s1 (IntKind.wrap .i64 ((s1.length:Int)-(suffix2.length:Int))) (s1.length:Int)) (default:List UInt8)).bind fun x4=>
 some (c3&&(x4==suffix2))
def stringslite_TrimSuffix(s1:List UInt8)(suffix2:List UInt8):Option (List UInt8):=
 (stringslite_HasSuffix s1 suffix2).bind fun x3=>
 if x3=true then
  (slO s1 0 (IntKind.wrap .i64 ((s1.length:Int)-(suffix2.length:Int)))).bind fun x4=>
  some x4
 else
  some s1
def strings_TrimSuffix(s1:List UInt8)(suffix2:List UInt8):Option (List UInt8):=
 (stringslite_TrimSuffix s1 suffix2).bind fun x3=>
 some x3
noncomputable def Xa(t1:Ah):Option Bool:=
 if (t1.Ag==[])=true then
  some false
 else
  (Xb t1.Ag).bind fun x2=>
  (some (x2.2.2==0)).bind fun c3=>
  (some (c3&&(x2.1==t1.Ac))).bind fun c4=>
  some (c4&&(x2.2.1==(t1.Ag.length:Int)))
noncomputable def Ez(s1:List UInt8):Option Bool:=
 (Xa (⟨1,0,0,s1⟩:Ah)).bind fun x2=>
 some x2
noncomputable def Lu(s1:List UInt8)(product2:Bool):Option Bool:=
 (Xa (⟨0,0,0,s1⟩:Ah)).bind fun x3=>
 (gdO x3 (Xh s1 product2) (default:Bool)).bind fun x4=>
 some (x3&&(!x4))
noncomputable def Acc(n1:Aa):Option Bool:=
 if (n1.Ac==0)=true then
  (strings_TrimSuffix n1.Ag [37]).bind fun x2=>
  (Ez x2).bind fun x3=>
  some x3
 else
  if (n1.Ac==1)=true then
   (Lu n1.Ag false).bind fun x4=>
   some x4
  else
   some (n1.Ag==[])
noncomputable def Iv:Nat→(List Aa)→Option ((List Aa)×Int)
 |0,_=>none
 |fuel+1,l1=>
  (some ((l1.length:Int)==0)).bind fun c2=>
  (gdO (!c2) (rdO l1 0) (default:Aa)).bind fun x3=>
  (gdO (!c2) (Ls x3.Ac) (default:Int)).bind fun x4=>
  (some (c2||(decide (x4<0)))).bind fun c5=>
  (gdO (!c5) (rdO l1 0) (default:Aa)).bind fun x6=>
  (gdO (!c5) (Acc x6) (default:Bool)).bind fun x7=>
  if (c5||(!x7))=true then
   some (([]:List Aa),0)
  else
   (slO l1 1 (l1.length:Int)).bind fun x8=>
   (rdO l1 0).bind fun x9=>
   (Ls x9.Ac).bind fun x10=>
   ((A4 (fun(qj11:(List Aa)×Int×Int)=>match qj11 with
     |(rest12,deep13,x14)=>(
      if (decide (x14<x10))=true then
       (Iv fuel rest12).bind fun x15=>
       if (x15.2==0)=true then
        some (.inr (.inr (([]:List Aa),0)))
       else
        some (.inl (x15.1,(if x15.2>deep13 then x15.2 else deep13),IntKind.wrap .i64 (x14+1)))
      else
       some (.inr (.inl (rest12,deep13))):Option (((List Aa)×Int×Int)⊕(((List Aa)×Int)⊕((List Aa)×Int))))) (x8,0,0)):Option (((List Aa)×Int)⊕((List Aa)×Int))).bind fun j11=>match j11 with
   | .inr o=>some o
   | .inl (rest16,deep17)=>
   some (rest16,IntKind.wrap .i64 (deep17+1))
noncomputable def I8(l1:List Aa):Option Int:=
 if (decide ((l1.length:Int)>200))=true then
  some 0
 else
  (Iv 100000 l1).bind fun x2=>
  (some (decide ((x2.1.length:Int)>0))).bind fun c3=>
  if (c3||(decide (x2.2>24)))=true then
   some 0
  else
   some x2.2
noncomputable def Dk(l1:List Aa):Option Bool:=
 (I8 l1).bind fun x2=>
 some (decide (x2>0))
def Ft(text1:List UInt8)(fits2:Bool)(e3:Ab):Option (Int×Int×Int):=
 if (decide (e3.Cz<(e3.Jt.length:Int)))=true then
  (rdO e3.Jt e3.Cz).bind fun x4=>
  (rdO e3.Jt e3.Cz).bind fun x5=>
  some (x4.Abz,x5.Arh,14)
 else
  if e3.Ca=true then
   (W9 text1 (text1.length:Int)).bind fun x6=>
   some (x6.1,x6.2.1,14)
  else
   if (!fits2)=true then
    some (1,1,4)
   else
    some (0,0,0)
noncomputable def Ef(text1:List UInt8):Option ((List Aa)×Int×Int×Int):=
 (M7 text1).bind fun x2=>match x2 with
 | .inl a3=>
  if (a3.2.2.1 !=0)=true then
   some (([]:List Aa),a3.1,a3.2.1,a3.2.2.1)
  else
   (parse_reader_any 100000 a3.2.2.2).bind fun x5=>
   (Dk x5.1).bind fun x6=>
   (Ft text1 x6 x5.2).bind fun x7=>
   if (x7.2.2 !=0)=true then
    some (([]:List Aa),x7.1,x7.2.1,x7.2.2)
   else
    some (x5.1,0,0,0)
 | .inr b4=>
  if (b4.2.2 !=0)=true then
   some (([]:List Aa),b4.1,b4.2.1,b4.2.2)
  else
   none
def stringslite_CutSuffix(s1:List UInt8)(suffix2:List UInt8):Option ((List UInt8)×Bool):=
 (stringslite_HasSuffix s1 suffix2).bind fun x3=>
 if (!x3)=true then
  some (s1,false)
 else
  (slO s1 0 (IntKind.wrap .i64 ((s1.length:Int)-(suffix2.length:Int)))).bind fun x4=>
  some (x4,true)
def strings_CutSuffix(s1:List UInt8)(suffix2:List UInt8):Option ((List UInt8)×Bool):=
 (stringslite_CutSuffix s1 suffix2).bind fun x3=>
 some (x3.1,x3.2)
noncomputable def Am(slices1:List (List (List UInt8))):Option (List (List UInt8)):=
 ((A4 (fun(qj2:Int×Int)=>match qj2 with
   |(size3,x4)=>(
    if (decide (x4<(slices1.length:Int)))=true then
     (rdO slices1 x4).bind fun x5=>
     ((if (decide ((IntKind.wrap .i64 (size3+(x5.length:Int)))<0))=true then
       none
     else
      some ()):Option Unit).bind fun _=>
     some (.inl (IntKind.wrap .i64 (size3+(x5.length:Int)),IntKind.wrap .i64 (x4+1)))
    else
     some (.inr size3):Option ((Int×Int)⊕Int))) (0,0)):Option Int).bind fun j2=>
 (C2 (List UInt8) 16 j2).bind fun x8=>
 ((A4 (fun(qj9:Int×(List (List UInt8)))=>match qj9 with
   |(x10,row11)=>(
    if (decide (x10<(slices1.length:Int)))=true then
     (rdO slices1 x10).bind fun x12=>
     (apO 16 row11 x12).bind fun x13=>
     some (.inl (IntKind.wrap .i64 (x10+1),x13))
    else
     some (.inr row11):Option ((Int×(List (List UInt8)))⊕(List (List UInt8))))) (0,x8)):Option (List (List UInt8))).bind fun j9=>
 some j9
noncomputable def Uk(n1:Aa)(s2:List UInt8)(parts3:List (List (List UInt8))):Option (List (List UInt8)):=
 if (n1.Ac==0)=true then
  (strings_CutSuffix n1.Ag [37]).bind fun x4=>
  if x4.2=true then
   some [x4.1,[37]]
  else
   some [n1.Ag]
 else
  if (n1.Ac==1)=true then
   some [n1.Ag]
  else
   if (n1.Ac==2)=true then
    (rdO parts3 0).bind fun x5=>
    (apO 16 [[45]] x5).bind fun x6=>
    some x6
   else
    if (n1.Ac==14)=true then
     (rdO parts3 0).bind fun x7=>
     (apO 16 [[110,111,116]] x7).bind fun x8=>
     some x8
    else
     if (n1.Ac==15)=true then
      (rdO parts3 0).bind fun x9=>
      (rdO parts3 1).bind fun x10=>
      (rdO parts3 2).bind fun x11=>
      (Am [[[105,102]],x9,[[116,104,101,110]],x10,[[101,108,115,101]],x11]).bind fun x12=>
      some x12
     else
      ((if (n1.Ac==16)=true then
        some (n1.Ac==16)
      else
       some (n1.Ac==17)):Option Bool).bind fun j13=>
      if j13=true then
       ((if (n1.Ac==17)=true then
         some [109,97,120]
       else
        some [109,105,110]):Option (List UInt8)).bind fun j15=>
       (rdO parts3 0).bind fun x17=>
       (rdO parts3 1).bind fun x18=>
       (Am [[j15,[40]],x17,[[44]],x18,[[41]]]).bind fun x19=>
       some x19
      else
       (rdO parts3 0).bind fun x20=>
       (rdO parts3 1).bind fun x21=>
       (Am [x20,[s2],x21]).bind fun x22=>
       some x22
noncomputable def F5:Nat→(List Aa)→Int→Option ((List (List UInt8))×(List Aa))
 |0,_,_=>none
 |fuel+1,l1,level2=>
  (rdO l1 0).bind fun x3=>
  (slO l1 1 (l1.length:Int)).bind fun x4=>
  (Aj9 x3.Ac).bind fun x5=>
  ((if (x3.Ac==2)=true then
    some (7,[7])
  else
   if (x3.Ac==14)=true then
    some (3,[3])
   else
    if (x3.Ac==15)=true then
     some (0,[x5.2.2.1,x5.2.2.2,0])
    else
     some (x5.1,[x5.2.2.1,x5.2.2.2,0])):Option (Int×(List Int))).bind fun(own7,sides8)=>
  (Ls x3.Ac).bind fun x9=>
  ((A4 (fun(qj10:(List Aa)×Int×(List (List (List UInt8))))=>match qj10 with
    |(rest11,x12,row13)=>(
     if (decide (x12<x9))=true then
      (rdO sides8 x12).bind fun x14=>
      (F5 fuel rest11 x14).bind fun x15=>
      (apO 24 row13 [x15.1]).bind fun x16=>
      some (.inl (x15.2,IntKind.wrap .i64 (x12+1),x16))
     else
      some (.inr (rest11,row13)):Option (((List Aa)×Int×(List (List (List UInt8))))⊕((List Aa)×(List (List (List UInt8))))))) (x4,0,([]:List (List (List UInt8))))):Option ((List Aa)×(List (List (List UInt8))))).bind fun(rest17,parts18)=>
  (Uk x3 x5.2.1 parts18).bind fun x19=>
  ((if (decide (own7<level2))=true then
    (Am [[[40]],x19,[[41]]]).bind fun x21=>
    some x21
  else
   some x19):Option (List (List UInt8))).bind fun j20=>
  some (j20,rest17)
noncomputable def I9(l1:List Aa):Option ((List UInt8)×Int):=
 (Dk l1).bind fun x2=>
 if (!x2)=true then
  some ([],1)
 else
  (F5 100000 l1 0).bind fun x3=>
  (strings_Join x3.1 [32]).bind fun x4=>
  some (x4,0)
noncomputable def Cj(s1:List UInt8)(e2:Ab):Option ((List UInt8)×Ab):=
 (Ap [s1] e2).bind fun x3=>
 (A9 1 true x3).bind fun x4=>
 (Ap [[59]] x4.2).bind fun x5=>
 some (x4.1,x5)
noncomputable def Dl(e1:Ab):Option (Af×Ab):=
 (Ap [[112,114,111,100,117,99,116]] e1).bind fun x2=>
 (A9 0 true x2).bind fun x3=>
 (A9 0 true x3.2).bind fun x4=>
 (Ap [[123],[98,97,115,105,115]] x4.2).bind fun x5=>
 (A9 0 true x5).bind fun x6=>
 (Ap [[59]] x6.2).bind fun x7=>
 (Cj [112,101,114,105,111,100] x7).bind fun x8=>
 (Ap [[116,105,101,114,115],[123]] x8.2).bind fun x9=>
 ((A4 (fun(qj10:Bool×Ab×(List UInt8)×(List UInt8)×(List UInt8)×(List UInt8)×(List Aa)×(List UInt8)×(List UInt8)×(List UInt8)×(List Aq))=>match qj10 with
   |(first11,r12,d13,d14,d15,d16,d17,d18,d19,d20,row21)=>(
    (some (!r12.Ca)).bind fun c22=>
    (gdO (c22&& !first11) (Bv [125] r12) (default:Bool)).bind fun x23=>
    if (c22&&(first11||(!x23)))=true then
     (A9 1 true (⟨(bif (c22&& !first11) then r12.Jt else r12.Jt),(bif (c22&& !first11) then r12.Cz else r12.Cz),(bif (c22&& !first11) then r12.Ca else r12.Ca)⟩:Ab)).bind fun x24=>
     (Ap [[58]] x24.2).bind fun x25=>
     (A9 1 true x25).bind fun x26=>
     (Ap [[37],[59]] x26.2).bind fun x27=>
     (apO 32 row21 [(⟨x24.1,x26.1⟩:Aq)]).bind fun x28=>
     some (.inl (false,x27,d13,d14,d15,d16,d17,d18,d19,d20,x28))
    else
     some (.inr ((⟨(bif (c22&& !first11) then r12.Jt else r12.Jt),(bif (c22&& !first11) then r12.Cz else r12.Cz),(bif (c22&& !first11) then r12.Ca else r12.Ca)⟩:Ab),(⟨d13,d14,d15,d16,row21,d17,d18,d19,d20⟩:Af))):Option ((Bool×Ab×(List UInt8)×(List UInt8)×(List UInt8)×(List UInt8)×(List Aa)×(List UInt8)×(List UInt8)×(List UInt8)×(List Aq))⊕(Ab×Af)))) (true,x9,x3.1,x4.1,x6.1,x8.1,([]:List Aa),[],[],[],([]:List Aq))):Option (Ab×Af)).bind fun(r29,d30)=>
 (Ap [[125],[102,101,101]] r29).bind fun x31=>
 (parse_reader_any 100000 x31).bind fun x32=>
 (Ap [[59]] x32.2).bind fun x33=>
 (Cj [109,105,110,105,109,117,109] x33).bind fun x34=>
 (Cj [111,118,101,114,100,114,97,102,116] x34.2).bind fun x35=>
 (Cj [110,111,116,105,99,101] x35.2).bind fun x36=>
 (Ap [[125]] x36.2).bind fun x37=>
 some ((⟨d30.B3,d30.C8,d30.Bo,d30.Bf,d30.Ai,x32.1,x34.1,x35.1,x36.1⟩:Af),x37)
noncomputable def Xg(text1:List UInt8):Option ((List Af)×Int×Int×Int):=
 (M7 text1).bind fun x2=>match x2 with
 | .inl a3=>
  if (a3.2.2.1 !=0)=true then
   some (([]:List Af),a3.1,a3.2.1,a3.2.2.1)
  else
   ((A4 (fun(qj5:Bool×Ab×(List Af))=>match qj5 with
     |(fits6,x7,row8)=>(
      (some (!x7.Ca)).bind fun c9=>
      if (c9&&(decide (x7.Cz<(x7.Jt.length:Int))))=true then
       (Dl x7).bind fun x10=>
       (some (fits6&&(decide ((x10.1.Ai.length:Int)≤8)))).bind fun c11=>
       (gdO c11 (Dk x10.1.B9) (default:Bool)).bind fun x12=>
       (apO 160 row8 [x10.1]).bind fun x13=>
       some (.inl ((c11&&x12),x10.2,x13))
      else
       some (.inr (row8,fits6,x7)):Option ((Bool×Ab×(List Af))⊕((List Af)×Bool×Ab)))) (true,a3.2.2.2,([]:List Af))):Option ((List Af)×Bool×Ab)).bind fun(out14,fits15,x16)=>
   (Ft text1 (fits15&&(decide ((out14.length:Int)≤16))) x16).bind fun x17=>
   if (x17.2.2 !=0)=true then
    some (([]:List Af),x17.1,x17.2.1,x17.2.2)
   else
    some (out14,0,0,0)
 | .inr b4=>
  if (b4.2.2 !=0)=true then
   some (([]:List Af),b4.1,b4.2.1,b4.2.2)
  else
   none
noncomputable def M8(b1:Aq):Option Bool:=
 (Ez b1.C3).bind fun x2=>
 (some (!x2)).bind fun c3=>
 (gdO (!c3) (Ez b1.C4) (default:Bool)).bind fun x4=>
 some (c3||(!x4))
noncomputable def Eg(s1:List Aq):Option Int:=
 ((A4 (fun(qj2:Int)=>match qj2 with
   |x3=>(
    if (decide (x3<(s1.length:Int)))=true then
     (rdO s1 x3).bind fun x4=>
     (M8 x4).bind fun x5=>
     if x5=true then
      some (.inr (.inr x3))
     else
      some (.inl (IntKind.wrap .i64 (x3+1)))
    else
     some (.inr (.inl ())):Option (Int⊕(Unit⊕Int)))) 0):Option (Unit⊕Int)).bind fun j2=>match j2 with
 | .inr o=>some o
 | .inl _=>
 some (-1)
noncomputable def Cl(s1:List Aq):Option Bool:=
 (Eg s1).bind fun x2=>
 some (decide (x2≥0))
noncomputable def Amt(d1:Af):Option Bool:=
 ((A4 (fun(qj2:Int)=>match qj2 with
   |x3=>(
    if (decide (x3<([d1.B3,d1.C8,d1.Bo].length:Int)))=true then
     (rdO [d1.B3,d1.C8,d1.Bo] x3).bind fun x4=>
     (Lu x4 true).bind fun x5=>
     if (!x5)=true then
      some (.inr (.inr false))
     else
      some (.inl (IntKind.wrap .i64 (x3+1)))
    else
     some (.inr (.inl ())):Option (Int⊕(Unit⊕Bool)))) 0):Option (Unit⊕Bool)).bind fun j2=>match j2 with
 | .inr o=>some o
 | .inl _=>
 ((A4 (fun(qj6:Int)=>match qj6 with
   |x7=>(
    if (decide (x7<([d1.Bf,d1.Bb,d1.A3,d1.Bj].length:Int)))=true then
     (rdO [d1.Bf,d1.Bb,d1.A3,d1.Bj] x7).bind fun x8=>
     (Ez x8).bind fun x9=>
     if (!x9)=true then
      some (.inr (.inr false))
     else
      some (.inl (IntKind.wrap .i64 (x7+1)))
    else
     some (.inr (.inl ())):Option (Int⊕(Unit⊕Bool)))) 0):Option (Unit⊕Bool)).bind fun j6=>match j6 with
 | .inr o=>some o
 | .inl _=>
 (some (decide ((d1.Ai.length:Int)≥1))).bind fun c10=>
 (some (c10&&(decide ((d1.Ai.length:Int)≤8)))).bind fun c11=>
 (gdO c11 (Cl d1.Ai) (default:Bool)).bind fun x12=>
 (some (c11&&(!x12))).bind fun c13=>
 (gdO c13 (Dk d1.B9) (default:Bool)).bind fun x14=>
 some (c13&&x14)
noncomputable def Fq(d1:Af):Option Bool:=
 (Amt d1).bind fun x2=>
 some (!x2)
noncomputable def Eh(s1:List Af):Option Int:=
 ((A4 (fun(qj2:Int)=>match qj2 with
   |x3=>(
    if (decide (x3<(s1.length:Int)))=true then
     (rdO s1 x3).bind fun x4=>
     (Fq x4).bind fun x5=>
     if x5=true then
      some (.inr (.inr x3))
     else
      some (.inl (IntKind.wrap .i64 (x3+1)))
    else
     some (.inr (.inl ())):Option (Int⊕(Unit⊕Int)))) 0):Option (Unit⊕Int)).bind fun j2=>match j2 with
 | .inr o=>some o
 | .inl _=>
 some (-1)
noncomputable def Cm(s1:List Af):Option Bool:=
 (Eh s1).bind fun x2=>
 some (decide (x2≥0))
noncomputable def Hm(l1:List Af):Option ((List UInt8)×Int):=
 (some (decide ((l1.length:Int)>16))).bind fun c2=>
 (gdO (!c2) (Cm l1) (default:Bool)).bind fun x3=>
 if (c2||x3)=true then
  some ([],1)
 else
  ((A4 (fun(qj4:Int×(List (List UInt8)))=>match qj4 with
    |(x5,row6)=>(
     if (decide (x5<(l1.length:Int)))=true then
      (rdO l1 x5).bind fun x7=>
      (apO 16 row6 [[112,114,111,100,117,99,116],x7.B3,x7.C8,[123],[98,97,115,105,115],x7.Bo,[59],[112,101,114,105,111,100],x7.Bf,[59],[116,105,101,114,115],[123]]).bind fun x8=>
      ((A4 (fun(qj9:Int×(List (List UInt8)))=>match qj9 with
        |(x10,row11)=>(
         if (decide (x10<(x7.Ai.length:Int)))=true then
          (rdO x7.Ai x10).bind fun x12=>
          (apO 16 row11 [x12.C3,[58],x12.C4,[37],[59]]).bind fun x13=>
          some (.inl (IntKind.wrap .i64 (x10+1),x13))
         else
          some (.inr row11):Option ((Int×(List (List UInt8)))⊕(List (List UInt8))))) (0,x8)):Option (List (List UInt8))).bind fun j9=>
      (F5 100000 x7.B9 0).bind fun x15=>
      (apO 16 j9 [[125],[102,101,101]]).bind fun x16=>
      (apO 16 x16 x15.1).bind fun x17=>
      (apO 16 x17 [[59],[109,105,110,105,109,117,109],x7.Bb,[59],[111,118,101,114,100,114,97,102,116],x7.A3,[59],[110,111,116,105,99,101],x7.Bj,[59],[125]]).bind fun x18=>
      some (.inl (IntKind.wrap .i64 (x5+1),x18))
     else
      some (.inr row6):Option ((Int×(List (List UInt8)))⊕(List (List UInt8))))) (0,([]:List (List UInt8)))):Option (List (List UInt8))).bind fun j4=>
  (strings_Join j4 [32]).bind fun x20=>
  some (x20,0)
noncomputable def Dw(a1:List Aa)(b2:List Aa):Option Bool:=
 if ((a1.length:Int)!=(b2.length:Int))=true then
  some false
 else
  ((A4 (fun(qj3:Int)=>match qj3 with
    |i4=>(
     if (decide (i4<(a1.length:Int)))=true then
      (rdO a1 i4).bind fun x5=>
      (rdO b2 i4).bind fun x6=>
      if (!(Aa.same x5 x6))=true then
       some (.inr (.inr false))
      else
       some (.inl (IntKind.wrap .i64 (i4+1)))
     else
      some (.inr (.inl ())):Option (Int⊕(Unit⊕Bool)))) 0):Option (Unit⊕Bool)).bind fun j3=>match j3 with
  | .inr o=>some o
  | .inl _=>
  some true
noncomputable def D4(s11:List Aq)(s22:List Aq):Option Bool:=
 if ((s11.length:Int)!=(s22.length:Int))=true then
  some false
 else
  ((A4 (fun(qj3:Int)=>match qj3 with
    |x4=>(
     if (decide (x4<(s11.length:Int)))=true then
      (rdO s11 x4).bind fun x5=>
      (rdO s22 x4).bind fun x6=>
      if (!(Aq.same x5 x6))=true then
       some (.inr (.inr false))
      else
       some (.inl (IntKind.wrap .i64 (x4+1)))
     else
      some (.inr (.inl ())):Option (Int⊕(Unit⊕Bool)))) 0):Option (Unit⊕Bool)).bind fun j3=>match j3 with
  | .inr o=>some o
  | .inl _=>
  some true
noncomputable def D5(s11:List Aa)(s22:List Aa):Option Bool:=
 if ((s11.length:Int)!=(s22.length:Int))=true then
  some false
 else
  ((A4 (fun(qj3:Int)=>match qj3 with
    |x4=>(
     if (decide (x4<(s11.length:Int)))=true then
      (rdO s11 x4).bind fun x5=>
      (rdO s22 x4).bind fun x6=>
      if (!(Aa.same x5 x6))=true then
       some (.inr (.inr false))
      else
       some (.inl (IntKind.wrap .i64 (x4+1)))
     else
      some (.inr (.inl ())):Option (Int⊕(Unit⊕Bool)))) 0):Option (Unit⊕Bool)).bind fun j3=>match j3 with
  | .inr o=>some o
  | .inl _=>
  some true
noncomputable def Lr(a1:Af)(b2:Af):Option Bool:=
 (D4 a1.Ai b2.Ai).bind fun x3=>
 (gdO x3 (D5 a1.B9 b2.B9) (default:Bool)).bind fun x4=>
 (some (x3&&x4)).bind fun c5=>
 (some (c5&&(a1.B3==b2.B3))).bind fun c6=>
 (some (c6&&(a1.C8==b2.C8))).bind fun c7=>
 (some (c7&&(a1.Bo==b2.Bo))).bind fun c8=>
 (some (c8&&(a1.Bf==b2.Bf))).bind fun c9=>
 (some (c9&&(a1.Bb==b2.Bb))).bind fun c10=>
 (some (c10&&(a1.A3==b2.A3))).bind fun c11=>
 some (c11&&(a1.Bj==b2.Bj))
noncomputable def Cf:Option Bool:=
 (Ef [97,45,98,32,45,32,99,42,45,50,37]).bind fun x1=>
 (I9 x1.1).bind fun x2=>
 (Ef [40,97,32,60,32,49,41,32,61,32,40,110,111,116,32,98,41]).bind fun x3=>
 (I9 x3.1).bind fun x4=>
 (Ef [97,10,32,60,32,98,32,60,32,99]).bind fun x5=>
 (Ef [40,97]).bind fun x6=>
 (Xg [112,114,111,100,117,99,116,32,115,97,118,101,32,101,117,114,32,123,32,98,97,115,105,115,32,97,99,116,51,54,53,32,59,32,112,101,114,105,111,100,32,51,32,59,32,116,105,101,114,115,32,123,32,48,32,58,32,49,46,50,53,32,37,32,59,32,53,48,48,32,58,32,50,32,37,32,59,32,125,32,102,101,101,32,105,102,32,98,97,108,97,110,99,101,32,60,32,49,48,32,116,104,101,110,32,49,32,101,108,115,101,32,48,32,59,32,109,105,110,105,109,117,109,32,53,32,59,32,111,118,101,114,100,114,97,102,116,32,48,32,59,32,110,111,116,105,99,101,32,51,48,32,59,32,125]).bind fun x7=>
 (Hm x7.1).bind fun x8=>
 (Dw x1.1 [(⟨4,[]⟩:Aa),(⟨4,[]⟩:Aa),(⟨1,[97]⟩:Aa),(⟨1,[98]⟩:Aa),(⟨5,[]⟩:Aa),(⟨1,[99]⟩:Aa),(⟨2,[]⟩:Aa),(⟨0,[50,37]⟩:Aa)]).bind fun x9=>
 if ((x7.1.length:Int)!=1)=true then
  some false
 else
  (some (x1.2.2.2==0)).bind fun c10=>
  (some (c10&&x9)).bind fun c11=>
  (some (c11&&(x2.2==0))).bind fun c12=>
  (some (c12&&(x2.1==[97,32,45,32,98,32,45,32,99,32,42,32,45,32,50,32,37]))).bind fun c13=>
  (gdO c13 (I8 x1.1) (default:Int)).bind fun x14=>
  (some (c13&&(x14==4))).bind fun c15=>
  (some (c15&&(x3.2.2.2==0))).bind fun c16=>
  (some (c16&&(x4.2==0))).bind fun c17=>
  (some (c17&&(x4.1==[40,32,97,32,60,32,49,32,41,32,61,32,40,32,110,111,116,32,98,32,41]))).bind fun c18=>
  (some (c18&&(x5.2.2.2==14))).bind fun c19=>
  (some (c19&&(x5.2.1==2))).bind fun c20=>
  (some (c20&&(x5.2.2.1==6))).bind fun c21=>
  (some (c21&&(x6.2.2.2==14))).bind fun c22=>
  (some (c22&&(x6.2.1==1))).bind fun c23=>
  (some (c23&&(x6.2.2.1==3))).bind fun c24=>
  (some (c24&&(x7.2.2.2==0))).bind fun c25=>
  (some (c25&&(x8.2==0))).bind fun c26=>
  (some (c26&&(x8.1==[112,114,111,100,117,99,116,32,115,97,118,101,32,101,117,114,32,123,32,98,97,115,105,115,32,97,99,116,51,54,53,32,59,32,112,101,114,105,111,100,32,51,32,59,32,116,105,101,114,115,32,123,32,48,32,58,32,49,46,50,53,32,37,32,59,32,53,48,48,32,58,32,50,32,37,32,59,32,125,32,102,101,101,32,105,102,32,98,97,108,97,110,99,101,32,60,32,49,48,32,116,104,101,110,32,49,32,101,108,115,101,32,48,32,59,32,109,105,110,105,109,117,109,32,53,32,59,32,111,118,101,114,100,114,97,102,116,32,48,32,59,32,110,111,116,105,99,101,32,51,48,32,59,32,125]))).bind fun c27=>
  (gdO c27 (rdO x7.1 0) (default:Af)).bind fun x28=>
  (some (c27&&((x28.Ai.length:Int)==2))).bind fun c29=>
  (gdO c29 (rdO x7.1 0) (default:Af)).bind fun x30=>
  (gdO c29 (rdO x30.Ai 1) (default:Aq)).bind fun x31=>
  (some (c29&&(x31.C4==[50]))).bind fun c32=>
  (gdO c32 (rdO x7.1 0) (default:Af)).bind fun x33=>
  (some (c32&&(x33.Bj==[51,48]))).bind fun c34=>
  (gdO c34 (rdO x7.1 0) (default:Af)).bind fun x35=>
  (gdO c34 (rdO x7.1 0) (default:Af)).bind fun x36=>
  (gdO c34 (Lr x35 x36) (default:Bool)).bind fun x37=>
  (some (c34&&x37)).bind fun c38=>
  (gdO c38 (Dk [(⟨2,[]⟩:Aa)]) (default:Bool)).bind fun x39=>
  (some (c38&&(!x39))).bind fun c40=>
  (gdO c40 (Dk x1.1) (default:Bool)).bind fun x41=>
  some (c40&&x41)
def Di(b1:Int):Option Bool:=
 (some (decide (b1≥97))).bind fun c2=>
 some (c2&&(decide (b1≤122)))
def B2(b1:Int):Option Bool:=
 (some (decide (b1≥48))).bind fun c2=>
 some (c2&&(decide (b1≤57)))
noncomputable def Gf(s1:List UInt8):Option Ae:=
 ((A4 (fun(qj2:Int)=>match qj2 with
   |n3=>(
    (some (decide (n3<(s1.length:Int)))).bind fun c4=>
    (gdO c4 (byO s1 n3) 0).bind fun x5=>
    (gdO c4 (Di x5) (default:Bool)).bind fun x6=>
    (gdO (c4&& !x6) (byO s1 n3) 0).bind fun x7=>
    (gdO (c4&& !x6) (B2 x7) (default:Bool)).bind fun x8=>
    (some (x6||x8)).bind fun c9=>
    (gdO (c4&& !c9) (byO s1 n3) 0).bind fun x10=>
    if (c4&&(c9||(x10==95)))=true then
     some (.inl (IntKind.wrap .i64 (n3+1)))
    else
     some (.inr n3):Option (Int⊕Int))) 0):Option Int).bind fun j2=>
 if (decide (j2>32))=true then
  some (⟨0,0,3⟩:Ae)
 else
  some (⟨0,j2,0⟩:Ae)
noncomputable def Cw(s1:List UInt8):Option Int:=
 ((A4 (fun(qj2:Int)=>match qj2 with
   |n3=>(
    (some (decide (n3<(s1.length:Int)))).bind fun c4=>
    (gdO c4 (byO s1 n3) 0).bind fun x5=>
    (gdO c4 (B2 x5) (default:Bool)).bind fun x6=>
    if (c4&&x6)=true then
     some (.inl (IntKind.wrap .i64 (n3+1)))
    else
     some (.inr n3):Option (Int⊕Int))) 0):Option Int).bind fun j2=>
 some j2
noncomputable def Et(s1:List UInt8):Option Ae:=
 (Cw s1).bind fun x2=>
 (some (decide ((IntKind.wrap .i64 (x2+1))<(s1.length:Int)))).bind fun c3=>
 (gdO c3 (byO s1 x2) 0).bind fun x4=>
 (some (c3&&(x4==46))).bind fun c5=>
 (gdO c5 (byO s1 (IntKind.wrap .i64 (x2+1))) 0).bind fun x6=>
 (gdO c5 (B2 x6) (default:Bool)).bind fun x7=>
 ((if (c5&&x7)=true then
   (slO s1 (IntKind.wrap .i64 (x2+1)) (s1.length:Int)).bind fun x9=>
   (Cw x9).bind fun x10=>
   some x10
 else
  some 0):Option Int).bind fun j8=>
 (some (decide (x2>15))).bind fun c12=>
 (some (c12||(decide (j8>9)))).bind fun c13=>
 (some (decide (x2>1))).bind fun c14=>
 (gdO (!c13&&c14) (byO s1 0) 0).bind fun x15=>
 if (c13||(c14&&(x15==48)))=true then
  some (⟨0,0,3⟩:Ae)
 else
  if (decide (j8>0))=true then
   some (⟨1,IntKind.wrap .i64 ((IntKind.wrap .i64 (x2+1))+j8),0⟩:Ae)
  else
   some (⟨1,x2,0⟩:Ae)
noncomputable def Eu(s1:List UInt8):Option Ae:=
 ((A4 (fun(qj2:Int)=>match qj2 with
   |n3=>(
    (some (decide (n3<(s1.length:Int)))).bind fun c4=>
    (gdO c4 (byO s1 n3) 0).bind fun x5=>
    if (c4&&(x5 !=34))=true then
     some (.inl (IntKind.wrap .i64 (n3+1)))
    else
     some (.inr n3):Option (Int⊕Int))) 1):Option Int).bind fun j2=>
 if (j2==(s1.length:Int))=true then
  some (⟨0,0,14⟩:Ae)
 else
  ((A4 (fun(qj7:Int)=>match qj7 with
    |i8=>(
     if (decide (i8<j2))=true then
      (byO s1 i8).bind fun x9=>
      (some (decide (x9<32))).bind fun c10=>
      (gdO (!c10) (byO s1 i8) 0).bind fun x11=>
      if (c10||(decide (x11>126)))=true then
       some (.inr (.inr (⟨0,0,3⟩:Ae)))
      else
       some (.inl (IntKind.wrap .i64 (i8+1)))
     else
      some (.inr (.inl ())):Option (Int⊕(Unit⊕Ae)))) 1):Option (Unit⊕Ae)).bind fun j7=>match j7 with
  | .inr o=>some o
  | .inl _=>
  if (decide (j2>33))=true then
   some (⟨0,0,3⟩:Ae)
  else
   some (⟨2,IntKind.wrap .i64 (j2+1),0⟩:Ae)
noncomputable def Ge(s1:List UInt8):Option Ae:=
 (some (decide ((s1.length:Int)>1))).bind fun c2=>
 (gdO c2 (slO s1 0 2) (default:List UInt8)).bind fun x3=>
 (some (x3==[60,61])).bind fun c4=>
 (gdO (c2&& !c4) (slO s1 0 2) (default:List UInt8)).bind fun x5=>
 (some (c4||(x5==[62,61]))).bind fun c6=>
 (gdO (c2&& !c6) (slO s1 0 2) (default:List UInt8)).bind fun x7=>
 if (c2&&(c6||(x7==[46,46])))=true then
  some (⟨3,2,0⟩:Ae)
 else
  ((A4 (fun(qj8:Int)=>match qj8 with
    |i9=>(
     if (decide (i9<([123,125,40,41,91,93,59,58,44,37,61,60,62,43,45,42,47].length:Int)))=true then
      (byO [123,125,40,41,91,93,59,58,44,37,61,60,62,43,45,42,47] i9).bind fun x10=>
      (byO s1 0).bind fun x11=>
      if (x10==x11)=true then
       some (.inr (.inr (⟨3,1,0⟩:Ae)))
      else
       some (.inl (IntKind.wrap .i64 (i9+1)))
     else
      some (.inr (.inl ())):Option (Int⊕(Unit⊕Ae)))) 0):Option (Unit⊕Ae)).bind fun j8=>match j8 with
  | .inr o=>some o
  | .inl _=>
  some (⟨0,0,14⟩:Ae)
noncomputable def Gd(s1:List UInt8):Option Ae:=
 (byO s1 0).bind fun x2=>
 (Di x2).bind fun x3=>
 if x3=true then
  (Gf s1).bind fun x4=>
  some x4
 else
  (byO s1 0).bind fun x5=>
  (B2 x5).bind fun x6=>
  if x6=true then
   (Et s1).bind fun x7=>
   some x7
  else
   (byO s1 0).bind fun x8=>
   if (x8==34)=true then
    (Eu s1).bind fun x9=>
    some x9
   else
    (Ge s1).bind fun x10=>
    some x10
def Bl(l1:List Ah)(at_2:Int)(s3:List UInt8):Option Bool:=
 (some (decide (at_2<(l1.length:Int)))).bind fun c4=>
 (gdO c4 (rdO l1 at_2) (default:Ah)).bind fun x5=>
 (some (c4&&(x5.Ac !=2))).bind fun c6=>
 (gdO c6 (rdO l1 at_2) (default:Ah)).bind fun x7=>
 some (c6&&(x7.Ag==s3))
noncomputable def Fl(l1:List (List UInt8))(s2:List UInt8):Option Bool:=
 ((A4 (fun(qj3:Int)=>match qj3 with
   |i4=>(
    if (decide (i4<(l1.length:Int)))=true then
     (rdO l1 i4).bind fun x5=>
     if (x5==s2)=true then
      some (.inr (.inr true))
     else
      some (.inl (IntKind.wrap .i64 (i4+1)))
    else
     some (.inr (.inl ())):Option (Int⊕(Unit⊕Bool)))) 0):Option (Unit⊕Bool)).bind fun j3=>match j3 with
 | .inr o=>some o
 | .inl _=>
 some false
noncomputable def Ey(s1:List UInt8)(product2:Bool):Option Bool:=
 (Fl [[105,102],[116,104,101,110],[101,108,115,101],[97,110,100],[111,114],[110,111,116],[109,105,110],[109,97,120]] s1).bind fun x3=>
 (Fl [[112,114,111,100,117,99,116],[98,97,115,105,115],[112,101,114,105,111,100],[116,105,101,114,115],[102,101,101],[109,105,110,105,109,117,109],[111,118,101,114,100,114,97,102,116],[110,111,116,105,99,101]] s1).bind fun x4=>
 some (x3||(product2&&x4))
def Apd(t1:Ah):Option (Int×Int):=
 if (t1.Ac==2)=true then
  some (0,0)
 else
  if (t1.Ag==[111,114])=true then
   some (13,1)
  else
   if (t1.Ag==[97,110,100])=true then
    some (12,2)
   else
    if (t1.Ag==[60])=true then
     some (7,4)
    else
     if (t1.Ag==[60,61])=true then
      some (8,4)
     else
      if (t1.Ag==[61])=true then
       some (9,4)
      else
       if (t1.Ag==[62])=true then
        some (10,4)
       else
        if (t1.Ag==[62,61])=true then
         some (11,4)
        else
         if (t1.Ag==[43])=true then
          some (3,5)
         else
          if (t1.Ag==[45])=true then
           some (4,5)
          else
           if (t1.Ag==[42])=true then
            some (5,6)
           else
            if (t1.Ag==[47])=true then
             some (6,6)
            else
             some (0,0)
def Dc(kind1:Int)(a2:List Aa)(b3:List Aa)(c4:List Aa):Option (List Aa):=
 (apO 24 [(⟨kind1,[]⟩:Aa)] a2).bind fun x5=>
 (apO 24 x5 b3).bind fun x6=>
 (apO 24 x6 c4).bind fun x7=>
 some x7
mutual
noncomputable def cashbookref15_climb:Nat→(List Ah)→Int→Int→Option ((List Aa)×Int×Bool)
 |0,_,_,_=>none
 |fuel+1,l1,at_2,level3=>
  (cashbookref15_first fuel l1 at_2 level3).bind fun x4=>
  if (decide (x4.2.2<0))=true then
   some (([]:List Aa),x4.2.1,false)
  else
   ((A4 (fun(qj5:(List Aa)×Int×Int)=>match qj5 with
     |(out6,i7,own8)=>(
      if (decide (i7<(l1.length:Int)))=true then
       (rdO l1 i7).bind fun x9=>
       (Apd x9).bind fun x10=>
       ((if (x10.2==4)=true then
         some 5
       else
        some x10.2):Option Int).bind fun j11=>
       (some (x10.2==0)).bind fun c13=>
       (some (c13||(decide (x10.2<level3)))).bind fun c14=>
       if (c14||(decide (own8<j11)))=true then
        some (.inr (.inr (out6,i7,true)))
       else
        (cashbookref15_climb fuel l1 (IntKind.wrap .i64 (i7+1)) (IntKind.wrap .i64 (x10.2+1))).bind fun x15=>
        if (!x15.2.2)=true then
         some (.inr (.inr (([]:List Aa),x15.2.1,false)))
        else
         (Dc x10.1 out6 x15.1 ([]:List Aa)).bind fun x16=>
         some (.inl (x16,x15.2.1,x10.2))
      else
       some (.inr (.inl (out6,i7))):Option (((List Aa)×Int×Int)⊕(((List Aa)×Int)⊕((List Aa)×Int×Bool))))) (x4.1,x4.2.1,x4.2.2)):Option (((List Aa)×Int)⊕((List Aa)×Int×Bool))).bind fun j5=>match j5 with
   | .inr o=>some o
   | .inl (out17,i18)=>
   some (out17,i18,true)
noncomputable def cashbookref15_first:Nat→(List Ah)→Int→Int→Option ((List Aa)×Int×Int)
 |0,_,_,_=>none
 |fuel+1,l1,at_2,level3=>
  (some (level3==0)).bind fun c4=>
  (gdO c4 (Bl l1 at_2 [105,102]) (default:Bool)).bind fun x5=>
  if (c4&&x5)=true then
   (cashbookref15_climb fuel l1 (IntKind.wrap .i64 (at_2+1)) 0).bind fun x6=>
   (some (!x6.2.2)).bind fun c7=>
   (gdO (!c7) (Bl l1 x6.2.1 [116,104,101,110]) (default:Bool)).bind fun x8=>
   if (c7||(!x8))=true then
    some (([]:List Aa),x6.2.1,(-1))
   else
    (cashbookref15_climb fuel l1 (IntKind.wrap .i64 (x6.2.1+1)) 0).bind fun x9=>
    (some (!x9.2.2)).bind fun c10=>
    (gdO (!c10) (Bl l1 x9.2.1 [101,108,115,101]) (default:Bool)).bind fun x11=>
    if (c10||(!x11))=true then
     some (([]:List Aa),x9.2.1,(-1))
    else
     (cashbookref15_climb fuel l1 (IntKind.wrap .i64 (x9.2.1+1)) 0).bind fun x12=>
     if (!x12.2.2)=true then
      some (([]:List Aa),x12.2.1,(-1))
     else
      (Dc 15 x6.1 x9.1 x12.1).bind fun x13=>
      some (x13,x12.2.1,0)
  else
   (some (decide (level3≤3))).bind fun c14=>
   (gdO c14 (Bl l1 at_2 [110,111,116]) (default:Bool)).bind fun x15=>
   if (c14&&x15)=true then
    (cashbookref15_climb fuel l1 (IntKind.wrap .i64 (at_2+1)) 3).bind fun x16=>
    if (!x16.2.2)=true then
     some (([]:List Aa),x16.2.1,(-1))
    else
     (Dc 14 x16.1 ([]:List Aa) ([]:List Aa)).bind fun x17=>
     some (x17,x16.2.1,3)
   else
    (Bl l1 at_2 [45]).bind fun x18=>
    if x18=true then
     (cashbookref15_climb fuel l1 (IntKind.wrap .i64 (at_2+1)) 7).bind fun x19=>
     if (!x19.2.2)=true then
      some (([]:List Aa),x19.2.1,(-1))
     else
      (Dc 2 x19.1 ([]:List Aa) ([]:List Aa)).bind fun x20=>
      some (x20,x19.2.1,7)
    else
     (cashbookref15_primary fuel l1 at_2).bind fun x21=>
     some (x21.1,x21.2.1,x21.2.2)
noncomputable def cashbookref15_primary:Nat→(List Ah)→Int→Option ((List Aa)×Int×Int)
 |0,_,_=>none
 |fuel+1,l1,at_2=>
  if (decide (at_2≥(l1.length:Int)))=true then
   some (([]:List Aa),at_2,(-1))
  else
   (rdO l1 at_2).bind fun x3=>
   (Bl l1 at_2 [40]).bind fun x4=>
   if x4=true then
    (cashbookref15_climb fuel l1 (IntKind.wrap .i64 (at_2+1)) 0).bind fun x5=>
    (some (!x5.2.2)).bind fun c6=>
    (gdO (!c6) (Bl l1 x5.2.1 [41]) (default:Bool)).bind fun x7=>
    if (c6||(!x7))=true then
     some (([]:List Aa),x5.2.1,(-1))
    else
     some (x5.1,IntKind.wrap .i64 (x5.2.1+1),8)
   else
    (Bl l1 at_2 [109,105,110]).bind fun x8=>
    (gdO (!x8) (Bl l1 at_2 [109,97,120]) (default:Bool)).bind fun x9=>
    if (x8||x9)=true then
     (Bl l1 (IntKind.wrap .i64 (at_2+1)) [40]).bind fun x10=>
     if (!x10)=true then
      some (([]:List Aa),IntKind.wrap .i64 (at_2+1),(-1))
     else
      (cashbookref15_climb fuel l1 (IntKind.wrap .i64 (at_2+2)) 0).bind fun x11=>
      (some (!x11.2.2)).bind fun c12=>
      (gdO (!c12) (Bl l1 x11.2.1 [44]) (default:Bool)).bind fun x13=>
      if (c12||(!x13))=true then
       some (([]:List Aa),x11.2.1,(-1))
      else
       (cashbookref15_climb fuel l1 (IntKind.wrap .i64 (x11.2.1+1)) 0).bind fun x14=>
       (some (!x14.2.2)).bind fun c15=>
       (gdO (!c15) (Bl l1 x14.2.1 [41]) (default:Bool)).bind fun x16=>
       if (c15||(!x16))=true then
        some (([]:List Aa),x14.2.1,(-1))
       else
        if (x3.Ag==[109,105,110])=true then
         (Dc 16 x11.1 x14.1 ([]:List Aa)).bind fun x17=>
         some (x17,IntKind.wrap .i64 (x14.2.1+1),8)
        else
         (Dc 17 x11.1 x14.1 ([]:List Aa)).bind fun x18=>
         some (x18,IntKind.wrap .i64 (x14.2.1+1),8)
    else
     (some (x3.Ac==1)).bind fun c19=>
     (gdO c19 (Bl l1 (IntKind.wrap .i64 (at_2+1)) [37]) (default:Bool)).bind fun x20=>
     if (c19&&x20)=true then
      (A5 x3.Ag [37]).bind fun x21=>
      some ([(⟨0,x21⟩:Aa)],IntKind.wrap .i64 (at_2+2),8)
     else
      (Ey x3.Ag false).bind fun x22=>
      (some (x3.Ac==1)).bind fun c23=>
      (some (x3.Ac==0)).bind fun c24=>
      if (c23||(c24&&(!x22)))=true then
       some ([(⟨IntKind.wrap .i64 (1-x3.Ac),x3.Ag⟩:Aa)],IntKind.wrap .i64 (at_2+1),8)
      else
       some (([]:List Aa),at_2,(-1))
end
def Ck(kind1:Int):Option Int:=
 (some (decide (kind1<0))).bind fun c2=>
 if (c2||(decide (kind1>17)))=true then
  some (-1)
 else
  if (decide (kind1<2))=true then
   some 0
  else
   (some (kind1==2)).bind fun c3=>
   if (c3||(kind1==14))=true then
    some 1
   else
    if (kind1==15)=true then
     some 3
    else
     some 2
noncomputable def Dv(t1:Ah):Option Bool:=
 if (t1.Ag==[])=true then
  some false
 else
  (Gd t1.Ag).bind fun x2=>
  (some (x2.f_E==0)).bind fun c3=>
  (some (c3&&(x2.Ac==t1.Ac))).bind fun c4=>
  some (c4&&(x2.Ath==(t1.Ag.length:Int)))
noncomputable def Bk(s1:List UInt8):Option Bool:=
 (Dv (⟨1,0,0,s1⟩:Ah)).bind fun x2=>
 some x2
noncomputable def Cs(s1:List UInt8)(product2:Bool):Option Bool:=
 (Dv (⟨0,0,0,s1⟩:Ah)).bind fun x3=>
 (Ey s1 product2).bind fun x4=>
 some (x3&&(!x4))
noncomputable def Ed(n1:Aa):Option Bool:=
 if (n1.Ac==0)=true then
  (some (decide ((n1.Ag.length:Int)>0))).bind fun c2=>
  (gdO c2 (byO n1.Ag (IntKind.wrap .i64 ((n1.Ag.length:Int)-1))) 0).bind fun x3=>
  ((if (c2&&(x3==37))=true then
    some (IntKind.wrap .i64 ((n1.Ag.length:Int)-1))
  else
   some (n1.Ag.length:Int)):Option Int).bind fun j4=>
  (slO n1.Ag 0 j4).bind fun x6=>
  (Bk x6).bind fun x7=>
  some x7
 else
  if (n1.Ac==1)=true then
   (Cs n1.Ag false).bind fun x8=>
   some x8
  else
   some (n1.Ag==[])
noncomputable def Cg(l1:List Aa):Option Int:=
 if (decide ((l1.length:Int)>200))=true then
  some 0
 else
  ((A4 (fun(qj2:(List Int)×Int)=>match qj2 with
    |(stack3,i4)=>(
     if (decide (i4≥0))=true then
      (rdO l1 i4).bind fun x5=>
      (Ck x5.Ac).bind fun x6=>
      (rdO l1 i4).bind fun x7=>
      (Ed x7).bind fun x8=>
      (some (decide (x6<0))).bind fun c9=>
      (some (c9||(!x8))).bind fun c10=>
      if (c10||(decide (x6>(stack3.length:Int))))=true then
       some (.inr (.inr 0))
      else
       ((A4 (fun(qj11:Int×Int)=>match qj11 with
         |(deep12,k13)=>(
          if (decide (k13<x6))=true then
           (rdO stack3 (IntKind.wrap .i64 ((IntKind.wrap .i64 ((stack3.length:Int)-1))-k13))).bind fun x14=>
           some (.inl ((if x14>deep12 then x14 else deep12),IntKind.wrap .i64 (k13+1)))
          else
           some (.inr deep12):Option ((Int×Int)⊕Int))) (0,0)):Option Int).bind fun j11=>
       (slO stack3 0 (IntKind.wrap .i64 ((stack3.length:Int)-x6))).bind fun x16=>
       (apO 8 ([]:List Int) x16).bind fun x17=>
       (apO 8 x17 [IntKind.wrap .i64 (j11+1)]).bind fun x18=>
       some (.inl (x18,IntKind.wrap .i64 (i4-1)))
     else
      some (.inr (.inl stack3)):Option (((List Int)×Int)⊕((List Int)⊕Int)))) (([]:List Int),IntKind.wrap .i64 ((l1.length:Int)-1))):Option ((List Int)⊕Int)).bind fun j2=>match j2 with
  | .inr o=>some o
  | .inl stack19=>
  (some ((stack19.length:Int)!=1)).bind fun c20=>
  (gdO (!c20) (rdO stack19 0) (default:Int)).bind fun x21=>
  if (c20||(decide (x21>24)))=true then
   some 0
  else
   (rdO stack19 0).bind fun x22=>
   some x22
noncomputable def Gh(a1:Af)(b2:Af):Option Bool:=
 (Dw a1.B9 b2.B9).bind fun x3=>
 (some (!x3)).bind fun c4=>
 if (c4||((a1.Ai.length:Int)!=(b2.Ai.length:Int)))=true then
  some false
 else
  ((A4 (fun(qj5:Int)=>match qj5 with
    |i6=>(
     if (decide (i6<(a1.Ai.length:Int)))=true then
      (rdO a1.Ai i6).bind fun x7=>
      (rdO b2.Ai i6).bind fun x8=>
      if (!(Aq.same x7 x8))=true then
       some (.inr (.inr false))
      else
       some (.inl (IntKind.wrap .i64 (i6+1)))
     else
      some (.inr (.inl ())):Option (Int⊕(Unit⊕Bool)))) 0):Option (Unit⊕Bool)).bind fun j5=>match j5 with
  | .inr o=>some o
  | .inl _=>
  (some (a1.B3==b2.B3)).bind fun c9=>
  (some (c9&&(a1.C8==b2.C8))).bind fun c10=>
  (some (c10&&(a1.Bo==b2.Bo))).bind fun c11=>
  (some (c11&&(a1.Bf==b2.Bf))).bind fun c12=>
  (some (c12&&(a1.Bb==b2.Bb))).bind fun c13=>
  (some (c13&&(a1.A3==b2.A3))).bind fun c14=>
  some (c14&&(a1.Bj==b2.Bj))
noncomputable def Eb(l1:List Aa):Option Bool:=
 if (decide ((l1.length:Int)>300))=true then
  some false
 else
  ((A4 (fun(qj2:Int)=>match qj2 with
    |i3=>(
     if (decide (i3<(l1.length:Int)))=true then
      (rdO l1 i3).bind fun x4=>
      if (decide ((x4.Ag.length:Int)>300))=true then
       some (.inr (.inr false))
      else
       some (.inl (IntKind.wrap .i64 (i3+1)))
     else
      some (.inr (.inl ())):Option (Int⊕(Unit⊕Bool)))) 0):Option (Unit⊕Bool)).bind fun j2=>match j2 with
  | .inr o=>some o
  | .inl _=>
  some true
noncomputable def Ec(d1:Af):Option Bool:=
 (Eb d1.B9).bind fun x2=>
 (some (!x2)).bind fun c3=>
 (some (c3||(decide ((d1.Ai.length:Int)>300)))).bind fun c4=>
 if (c4||(decide ((IntKind.wrap .i64 ((IntKind.wrap .i64 ((IntKind.wrap .i64 ((IntKind.wrap .i64 ((IntKind.wrap .i64 ((IntKind.wrap .i64 ((d1.B3.length:Int)+(d1.C8.length:Int)))+(d1.Bo.length:Int)))+(d1.Bf.length:Int)))+(d1.Bb.length:Int)))+(d1.A3.length:Int)))+(d1.Bj.length:Int)))>300)))=true then
  some false
 else
  ((A4 (fun(qj5:Int)=>match qj5 with
    |i6=>(
     if (decide (i6<(d1.Ai.length:Int)))=true then
      (rdO d1.Ai i6).bind fun x7=>
      (rdO d1.Ai i6).bind fun x8=>
      if (decide ((IntKind.wrap .i64 ((x7.C3.length:Int)+(x8.C4.length:Int)))>300))=true then
       some (.inr (.inr false))
      else
       some (.inl (IntKind.wrap .i64 (i6+1)))
     else
      some (.inr (.inl ())):Option (Int⊕(Unit⊕Bool)))) 0):Option (Unit⊕Bool)).bind fun j5=>match j5 with
  | .inr o=>some o
  | .inl _=>
  some true
def C0(kind1:Int):Option (Int×(List UInt8)×Int×Int):=
 if (kind1==2)=true then
  some (7,[45],7,7)
 else
  if (kind1==3)=true then
   some (5,[43],5,6)
  else
   if (kind1==4)=true then
    some (5,[45],5,6)
   else
    if (kind1==5)=true then
     some (6,[42],6,7)
    else
     if (kind1==6)=true then
      some (6,[47],6,7)
     else
      if (kind1==7)=true then
       some (4,[60],5,5)
      else
       if (kind1==8)=true then
        some (4,[60,61],5,5)
       else
        if (kind1==9)=true then
         some (4,[61],5,5)
        else
         if (kind1==10)=true then
          some (4,[62],5,5)
         else
          if (kind1==11)=true then
           some (4,[62,61],5,5)
          else
           if (kind1==12)=true then
            some (2,[97,110,100],2,3)
           else
            if (kind1==13)=true then
             some (1,[111,114],1,2)
            else
             if (kind1==14)=true then
              some (3,[110,111,116],3,3)
             else
              if (kind1==15)=true then
               some (0,[105,102],0,0)
              else
               if (kind1==16)=true then
                some (8,[109,105,110],0,0)
               else
                if (kind1==17)=true then
                 some (8,[109,97,120],0,0)
                else
                 some (8,[],0,0)
def A2(p1:Ad)(level2:Int):Option (List UInt8):=
 if (decide (p1.Amk<level2))=true then
  (A5 [40,32] p1.Ag).bind fun x3=>
  (A5 x3 [32,41]).bind fun x4=>
  some x4
 else
  some p1.Ag
noncomputable def Ch(l1:List Aa):Option ((List UInt8)×Int):=
 (Cg l1).bind fun x2=>
 if (x2==0)=true then
  some ([],1)
 else
  ((A4 (fun(qj3:(List Ad)×Int)=>match qj3 with
    |(stack4,i5)=>(
     if (decide (i5≥0))=true then
      (rdO l1 i5).bind fun x6=>
      (Ck x6.Ac).bind fun x7=>
      (rdO l1 i5).bind fun x8=>
      (C0 x8.Ac).bind fun x9=>
      (rdO l1 i5).bind fun x10=>
      (some (x7==0)).bind fun c11=>
      (gdO c11 (byO x10.Ag (IntKind.wrap .i64 ((x10.Ag.length:Int)-1))) 0).bind fun x12=>
      ((if (c11&&(x12==37))=true then
        (slO x10.Ag 0 (IntKind.wrap .i64 ((x10.Ag.length:Int)-1))).bind fun x14=>
        (A5 x14 [32,37]).bind fun x15=>
        some x15
      else
       some x10.Ag):Option (List UInt8)).bind fun j13=>
      ((if (x7==1)=true then
        (A5 x9.2.1 [32]).bind fun x18=>
        (rdO stack4 (IntKind.wrap .i64 ((stack4.length:Int)-1))).bind fun x19=>
        (A2 x19 x9.2.2.1).bind fun x20=>
        (A5 x18 x20).bind fun x21=>
        some x21
      else
       some j13):Option (List UInt8)).bind fun j17=>
      (some (x7==2)).bind fun c23=>
      (gdO c23 (rdO l1 i5) (default:Aa)).bind fun x24=>
      ((if (c23&&(decide (x24.Ac<16)))=true then
        (rdO stack4 (IntKind.wrap .i64 ((stack4.length:Int)-1))).bind fun x26=>
        (A2 x26 x9.2.2.1).bind fun x27=>
        (A5 x27 [32]).bind fun x28=>
        (A5 x28 x9.2.1).bind fun x29=>
        (A5 x29 [32]).bind fun x30=>
        (rdO stack4 (IntKind.wrap .i64 ((IntKind.wrap .i64 ((stack4.length:Int)-1))-1))).bind fun x31=>
        (A2 x31 x9.2.2.2).bind fun x32=>
        (A5 x30 x32).bind fun x33=>
        some x33
      else
       some j17):Option (List UInt8)).bind fun j25=>
      (some (x7==2)).bind fun c35=>
      (gdO c35 (rdO l1 i5) (default:Aa)).bind fun x36=>
      ((if (c35&&(decide (x36.Ac≥16)))=true then
        (A5 x9.2.1 [32,40,32]).bind fun x38=>
        (rdO stack4 (IntKind.wrap .i64 ((stack4.length:Int)-1))).bind fun x39=>
        (A5 x38 x39.Ag).bind fun x40=>
        (A5 x40 [32,44,32]).bind fun x41=>
        (rdO stack4 (IntKind.wrap .i64 ((IntKind.wrap .i64 ((stack4.length:Int)-1))-1))).bind fun x42=>
        (A5 x41 x42.Ag).bind fun x43=>
        (A5 x43 [32,41]).bind fun x44=>
        some x44
      else
       some j25):Option (List UInt8)).bind fun j37=>
      ((if (x7==3)=true then
        (rdO stack4 (IntKind.wrap .i64 ((stack4.length:Int)-1))).bind fun x47=>
        (A5 [105,102,32] x47.Ag).bind fun x48=>
        (A5 x48 [32,116,104,101,110,32]).bind fun x49=>
        (rdO stack4 (IntKind.wrap .i64 ((IntKind.wrap .i64 ((stack4.length:Int)-1))-1))).bind fun x50=>
        (A5 x49 x50.Ag).bind fun x51=>
        (A5 x51 [32,101,108,115,101,32]).bind fun x52=>
        (rdO stack4 (IntKind.wrap .i64 ((IntKind.wrap .i64 ((stack4.length:Int)-1))-2))).bind fun x53=>
        (A5 x52 x53.Ag).bind fun x54=>
        some x54
      else
       some j37):Option (List UInt8)).bind fun j46=>
      (slO stack4 0 (IntKind.wrap .i64 ((stack4.length:Int)-x7))).bind fun x56=>
      (apO 24 ([]:List Ad) x56).bind fun x57=>
      (apO 24 x57 [(⟨x9.1,j46⟩:Ad)]).bind fun x58=>
      some (.inl (x58,IntKind.wrap .i64 (i5-1)))
     else
      some (.inr stack4):Option (((List Ad)×Int)⊕(List Ad)))) (([]:List Ad),IntKind.wrap .i64 ((l1.length:Int)-1))):Option (List Ad)).bind fun j3=>
  (rdO j3 0).bind fun x60=>
  some (x60.Ag,0)
noncomputable def Ew(d1:Af):Option Bool:=
 (Cs d1.B3 true).bind fun x2=>
 (Cs d1.C8 true).bind fun x3=>
 (Cs d1.Bo true).bind fun x4=>
 (Bk d1.Bf).bind fun x5=>
 (Bk d1.Bb).bind fun x6=>
 (Bk d1.A3).bind fun x7=>
 (Bk d1.Bj).bind fun x8=>
 (some (!x2)).bind fun c9=>
 (some (c9||(!x3))).bind fun c10=>
 (some (c10||(!x4))).bind fun c11=>
 (some (c11||(!x5))).bind fun c12=>
 (some (c12||(!x6))).bind fun c13=>
 (some (c13||(!x7))).bind fun c14=>
 (some (c14||(!x8))).bind fun c15=>
 (some (c15||(decide ((d1.Ai.length:Int)<1)))).bind fun c16=>
 (some (c16||(decide ((d1.Ai.length:Int)>8)))).bind fun c17=>
 (gdO (!c17) (Cg d1.B9) (default:Int)).bind fun x18=>
 if (c17||(x18==0))=true then
  some false
 else
  ((A4 (fun(qj19:Int)=>match qj19 with
    |i20=>(
     if (decide (i20<(d1.Ai.length:Int)))=true then
      (rdO d1.Ai i20).bind fun x21=>
      (Bk x21.C3).bind fun x22=>
      (rdO d1.Ai i20).bind fun x23=>
      (Bk x23.C4).bind fun x24=>
      (some (!x22)).bind fun c25=>
      if (c25||(!x24))=true then
       some (.inr (.inr false))
      else
       some (.inl (IntKind.wrap .i64 (i20+1)))
     else
      some (.inr (.inl ())):Option (Int⊕(Unit⊕Bool)))) 0):Option (Unit⊕Bool)).bind fun j19=>match j19 with
  | .inr o=>some o
  | .inl _=>
  some true
noncomputable def D0(l1:List Af):Option ((List UInt8)×Int):=
 if (decide ((l1.length:Int)>16))=true then
  some ([],1)
 else
  ((A4 (fun(qj2:(List UInt8)×Int)=>match qj2 with
    |(out3,i4)=>(
     if (decide (i4<(l1.length:Int)))=true then
      (rdO l1 i4).bind fun x5=>
      (Ew x5).bind fun x6=>
      if (!x6)=true then
       some (.inr (.inr ([],1)))
      else
       (Ch x5.B9).bind fun x7=>
       ((if (decide (i4>0))=true then
         (A5 out3 [32]).bind fun x9=>
         some x9
       else
        some out3):Option (List UInt8)).bind fun j8=>
       (A5 j8 [112,114,111,100,117,99,116,32]).bind fun x11=>
       (A5 x11 x5.B3).bind fun x12=>
       (A5 x12 [32]).bind fun x13=>
       (A5 x13 x5.C8).bind fun x14=>
       (A5 x14 [32,123,32,98,97,115,105,115,32]).bind fun x15=>
       (A5 x15 x5.Bo).bind fun x16=>
       (A5 x16 [32,59,32,112,101,114,105,111,100,32]).bind fun x17=>
       (A5 x17 x5.Bf).bind fun x18=>
       (A5 x18 [32,59,32,116,105,101,114,115,32,123,32]).bind fun x19=>
       ((A4 (fun(qj20:(List UInt8)×Int)=>match qj20 with
         |(out21,k22)=>(
          if (decide (k22<(x5.Ai.length:Int)))=true then
           (rdO x5.Ai k22).bind fun x23=>
           (A5 out21 x23.C3).bind fun x24=>
           (A5 x24 [32,58,32]).bind fun x25=>
           (rdO x5.Ai k22).bind fun x26=>
           (A5 x25 x26.C4).bind fun x27=>
           (A5 x27 [32,37,32,59,32]).bind fun x28=>
           some (.inl (x28,IntKind.wrap .i64 (k22+1)))
          else
           some (.inr out21):Option (((List UInt8)×Int)⊕(List UInt8)))) (x19,0)):Option (List UInt8)).bind fun j20=>
       (A5 j20 [125,32,102,101,101,32]).bind fun x30=>
       (A5 x30 x7.1).bind fun x31=>
       (A5 x31 [32,59,32,109,105,110,105,109,117,109,32]).bind fun x32=>
       (A5 x32 x5.Bb).bind fun x33=>
       (A5 x33 [32,59,32,111,118,101,114,100,114,97,102,116,32]).bind fun x34=>
       (A5 x34 x5.A3).bind fun x35=>
       (A5 x35 [32,59,32,110,111,116,105,99,101,32]).bind fun x36=>
       (A5 x36 x5.Bj).bind fun x37=>
       (A5 x37 [32,59,32,125]).bind fun x38=>
       some (.inl (x38,IntKind.wrap .i64 (i4+1)))
     else
      some (.inr (.inl out3)):Option (((List UInt8)×Int)⊕((List UInt8)⊕((List UInt8)×Int))))) ([],0)):Option ((List UInt8)⊕((List UInt8)×Int))).bind fun j2=>match j2 with
  | .inr o=>some o
  | .inl out39=>
  some (out39,0)
noncomputable def C5(l1:List Aa)(d2:List Af):Option Bool:=
 (Eb l1).bind fun x3=>
 (some (!x3)).bind fun c4=>
 if (c4||(decide ((d2.length:Int)>20)))=true then
  (Cf).bind fun x5=>
  some x5
 else
  ((A4 (fun(qj6:Int)=>match qj6 with
    |i7=>(
     if (decide (i7<(d2.length:Int)))=true then
      (rdO d2 i7).bind fun x8=>
      (Ec x8).bind fun x9=>
      if (!x9)=true then
       (Cf).bind fun x10=>
       some (.inr (.inr x10))
      else
       some (.inl (IntKind.wrap .i64 (i7+1)))
     else
      some (.inr (.inl ())):Option (Int⊕(Unit⊕Bool)))) 0):Option (Unit⊕Bool)).bind fun j6=>match j6 with
  | .inr o=>some o
  | .inl _=>
  (I9 l1).bind fun x11=>
  (Ch l1).bind fun x12=>
  (Hm d2).bind fun x13=>
  (D0 d2).bind fun x14=>
  (some (!(x11.1==x12.1))).bind fun c15=>
  (some (c15||(x11.2 !=x12.2))).bind fun c16=>
  (some (c16||(!(x13.1==x14.1)))).bind fun c17=>
  (some (c17||(x13.2 !=x14.2))).bind fun c18=>
  (gdO (!c18) (I8 l1) (default:Int)).bind fun x19=>
  (gdO (!c18) (Cg l1) (default:Int)).bind fun x20=>
  (some (c18||(x19 !=x20))).bind fun c21=>
  (gdO (!c21) (Dk l1) (default:Bool)).bind fun x22=>
  (gdO (!c21) (Cg l1) (default:Int)).bind fun x23=>
  if (c21||(!(x22==(decide (x23>0)))))=true then
   some false
  else
   (Cf).bind fun x24=>
   (some (decide ((d2.length:Int)<2))).bind fun c25=>
   (gdO (x24&& !c25) (rdO d2 0) (default:Af)).bind fun x26=>
   (gdO (x24&& !c25) (rdO d2 1) (default:Af)).bind fun x27=>
   (gdO (x24&& !c25) (Lr x26 x27) (default:Bool)).bind fun x28=>
   (gdO (x24&& !c25) (rdO d2 0) (default:Af)).bind fun x29=>
   (gdO (x24&& !c25) (rdO d2 1) (default:Af)).bind fun x30=>
   (gdO (x24&& !c25) (Gh x29 x30) (default:Bool)).bind fun x31=>
   some (x24&&(c25||(x28==x31)))
end Go.Av.G
end
section
set_option maxRecDepth 100000
set_option maxHeartbeats 8000000
namespace Go.Av.G
open Go Go.Av Go.Proofs
def Sr:Ent:=⟨[.ty .str,.ty .str],[],[.str,.str],⟨(.ty .str),[],[],[.str],[],[]⟩,none,fun p=>B1 p.1 p.2⟩
theorem Ai1:Sr.ok Tryz.prog 108:=fun p r h=>Aoe (show B1 _ _=some _ from h)
def Pk:Ent:=⟨[.ty .str,.ty .str],[],[.str,.str],⟨(.ty .bool),[],[],[.bool],[],[]⟩,none,fun p=>strings_HasPrefix p.1 p.2⟩
theorem Afm:Pk.ok Tryz.prog 109:=fun p r h=>Al5 (show strings_HasPrefix _ _=some _ from h)
def Ao5:Ent:=⟨[.ty .str,.ty .str],[],[.str,.str],⟨(.tup [(.ty .str),(.ty .str),(.ty .bool)]),[],[],[.str,.str,.bool],[],[]⟩,none,fun p=>strings_Cut p.1 p.2⟩
theorem Aug:Ao5.ok Tryz.prog 110:=fun p r h=>A1w (show strings_Cut _ _=some _ from h)
def Bdt:List TOp:=[oo 2 (.mov (.cst (.int .i64 0)))]
def Bdu:List TOp:=[oo 7 (.mov (.tmp 0)),oo 3 (.mov (.tmp 7))]
def Bdv:List TOp:=[oo 8 (.mov (.tmp 3)),oo 9 (.call 0 0 (.cst (.fn 108)) [(.tmp 8),(.cst (.str [32,9,10]))] [] []),oo 3 (.mov (.tmp 9))]
def Bdw:List TOp:=[oo 10 (.mov (.tmp 3)),oo 11 (.call 0 0 (.cst (.fn 109)) [(.tmp 10),(.cst (.str [35]))] [] []),oo 12 (.un .not (.tmp 11))]
def Bdx:List TOp:=[oo 13 (.mov (.tmp 0)),oo 14 (.len true (.tmp 13)),oo 15 (.mov (.tmp 3)),oo 16 (.len true (.tmp 15)),oo 17 (.bin false .sub (.tmp 14) (.tmp 16)),oo 2 (.mov (.tmp 17))]
def Au8:Kp:=⟨[],[(2,false)],[],[],[]⟩
def Bdy:List TOp:=[oo 19 (.mov (.tmp 3)),oo 20 (.call 0 0 (.cst (.fn 110)) [(.tmp 19),(.cst (.str [10]))] [] []),oo 18 (.mov (.tmp 20)),oo 21 (.ext 0 (.tmp 18)),oo 22 (.ext 1 (.tmp 18)),oo 23 (.ext 2 (.tmp 18)),oo 4 (.mov (.tmp 21)),oo 5 (.mov (.tmp 22)),oo 6 (.mov (.tmp 23))]
def Bdz:List TOp:=[oo 24 (.mov (.tmp 6)),oo 25 (.un .not (.tmp 24))]
def Bd0:List TOp:=[oo 26 (.mov (.tmp 0)),oo 27 (.len true (.tmp 26)),oo 2 (.mov (.tmp 27))]
def Bd1:List TOp:=[oo 28 (.mov (.tmp 5)),oo 3 (.mov (.tmp 28))]
def A9f:DC:=(.pass 1 (.seq (.ops Bdv) (.seq (.seq (.ops Bdw) (.cond (.tmp 12) (.free (.seq (.ops Bdx) (.keep Au8 .ret))) .skip)) (.seq (.ops Bdy) (.seq (.seq (.ops Bdz) (.cond (.tmp 25) (.free (.seq (.ops Bd0) (.keep Au8 .ret))) .skip)) (.ops Bd1))))))
def A9e:Kp:=⟨[],[(0,false),(3,false)],[],[],[]⟩
def A9g:Sig:=⟨[(0,none),(3,some (.ty .str))],[],[.str],[],[]⟩
def Bl4:TFd:=⟨1,[(.tmp 2,.bool)],[],(.seq (.ops Bdt) (.seq (.ops Bdu) (.pass 0 (.loop [0,3] [] A9e A9g A9f))))⟩
noncomputable def Aym:Ent:=⟨[.ty .str],[],[.str],⟨(.ty (.int .i64)),[],[],[(.int .i64)],[],[]⟩,none,fun p=>Xc p⟩
theorem Bcd:Aym.ok Tryz.prog 88:=Au hm Tryz.func88 (fd:=Bl4) (by kernel_rfl) (Ak (l:=[(108,Sr),(109,Pk),(110,Ao5)]) (y:=[]) ⟨Ai1,Afm,Aug,trivial⟩ trivial) (by kernel_rfl) (fun p=>by kernel_rfl)
def A8n:List TOp:=[oo 0 (.alloc [.pv .nilFn,.pv .nilFn,.pv .nilFn,.pv .nilFn,.pv .nilFn,.pv .nilFn,.pv .nilFn,.pv .nilFn])]
def A8o:List TOp:=[ot 1 (.st 0) (.build [.pv .nilFn,.pv .nilFn] [(0,1,(.cst (.fn 127))),(1,1,(.cst (.fn 128)))]),ot 2 (.st 0) (.build [.pv .nilFn,.pv .nilFn] [(0,1,(.cst (.fn 129))),(1,1,(.cst (.fn 130)))]),ot 3 (.st 0) (.build [.pv .nilFn,.pv .nilFn] [(0,1,(.cst (.fn 131))),(1,1,(.cst (.fn 132)))]),ot 4 (.st 0) (.build [.pv .nilFn,.pv .nilFn] [(0,1,(.cst (.fn 133))),(1,1,(.cst (.fn 134)))]),ot 5 (.st 1) (.build [.pv .nilFn,.pv .nilFn,.pv .nilFn,.pv .nilFn,.pv .nilFn,.pv .nilFn,.pv .nilFn,.pv .nilFn] [(0,2,(.tmp 1)),(2,2,(.tmp 2)),(4,2,(.tmp 3)),(6,2,(.tmp 4))]),on (.store 8 (.tmp 0) (.tmp 5))]
def A8m:Kp:=⟨[],[(0,false)],[(.loc 0 0,false)],[],[]⟩
def Bhp:TFd:=⟨0,[(.cell 0 true 8,(.st 1))],[],(.seq (.ops A8n) (.seq (.ops A8o) (.keep A8m .ret)))⟩
def Au0:Ent:=⟨[],[],[],⟨(.ty (.st 1)),[],[],[(.st 1)],[],[]⟩,none,fun p=>Atr⟩
theorem A7o:Au0.ok Tryz.prog 111:=Au hm Tryz.func111 (fd:=Bhp) (by kernel_rfl) (Ak (l:=[]) (y:=[]) trivial trivial) (by kernel_rfl) (fun p=>by kernel_rfl)
def Avq:List TOp:=[oo 2 (.mov (.cst (.bool false)))]
def Avr:List TOp:=[oo 3 (.mov (.tmp 0)),oo 4 (.bin false .geq (.tmp 3) (.cst (.int .u8 97))),oo 5 (.mov (.tmp 4)),og 6 5 true .bool (.mov (.tmp 0)),og 7 5 true .bool (.bin false .leq (.tmp 6) (.cst (.int .u8 122))),oo 8 (.pick (.tmp 5) (.tmp 7) (.cst (.bool false))),oo 2 (.mov (.tmp 8))]
def Avp:Kp:=⟨[],[(2,false)],[],[],[]⟩
def A2s:TFd:=⟨1,[(.tmp 2,.bool)],[],(.seq (.ops Avq) (.seq (.ops Avr) (.keep Avp .ret)))⟩
def Ajs:Ent:=⟨[.ty (.int .u8)],[],[(.int .u8)],⟨(.ty .bool),[],[],[.bool],[],[]⟩,none,fun p=>Hx p⟩
theorem Afr:Ajs.ok Tryz.prog 127:=Au hm Tryz.func127 (fd:=A2s) (by kernel_rfl) (Ak (l:=[]) (y:=[]) trivial trivial) (by kernel_rfl) (fun p=>by kernel_rfl)
def Ay7:List TOp:=[oo 2 (.mov (.cst (.bool false)))]
def Ay8:List TOp:=[oo 3 (.mov (.tmp 0)),oo 4 (.bin false .geq (.tmp 3) (.cst (.int .u8 48))),oo 5 (.mov (.tmp 4)),og 6 5 true .bool (.mov (.tmp 0)),og 7 5 true .bool (.bin false .leq (.tmp 6) (.cst (.int .u8 57))),oo 8 (.pick (.tmp 5) (.tmp 7) (.cst (.bool false))),oo 2 (.mov (.tmp 8))]
def Ay6:Kp:=⟨[],[(2,false)],[],[],[]⟩
def A8j:TFd:=⟨1,[(.tmp 2,.bool)],[],(.seq (.ops Ay7) (.seq (.ops Ay8) (.keep Ay6 .ret)))⟩
def Ux:Ent:=⟨[.ty (.int .u8)],[],[(.int .u8)],⟨(.ty .bool),[],[],[.bool],[],[]⟩,none,fun p=>Hk p⟩
theorem Q4:Ux.ok Tryz.prog 129:=Au hm Tryz.func129 (fd:=A8j) (by kernel_rfl) (Ak (l:=[]) (y:=[]) trivial trivial) (by kernel_rfl) (fun p=>by kernel_rfl)
def Aza:List TOp:=[oo 2 (.mov (.cst (.bool false)))]
def Azb:List TOp:=[oo 3 (.mov (.tmp 0)),oo 4 (.bin false .eql (.tmp 3) (.cst (.int .u8 34))),oo 2 (.mov (.tmp 4))]
def Ay9:Kp:=⟨[],[(2,false)],[],[],[]⟩
def A8k:TFd:=⟨1,[(.tmp 2,.bool)],[],(.seq (.ops Aza) (.seq (.ops Azb) (.keep Ay9 .ret)))⟩
def A2j:Ent:=⟨[.ty (.int .u8)],[],[(.int .u8)],⟨(.ty .bool),[],[],[.bool],[],[]⟩,none,fun p=>M6 p⟩
theorem Ayi:A2j.ok Tryz.prog 131:=Au hm Tryz.func131 (fd:=A8k) (by kernel_rfl) (Ak (l:=[]) (y:=[]) trivial trivial) (by kernel_rfl) (fun p=>by kernel_rfl)
def Azd:List TOp:=[oo 2 (.mov (.cst (.bool false)))]
def Aze:List TOp:=[oo 2 (.mov (.cst (.bool true)))]
def Azc:Kp:=⟨[],[(2,false)],[],[],[]⟩
def A8l:TFd:=⟨1,[(.tmp 2,.bool)],[],(.seq (.ops Azd) (.seq (.ops Aze) (.keep Azc .ret)))⟩
def A2k:Ent:=⟨[.ty (.int .u8)],[],[(.int .u8)],⟨(.ty .bool),[],[],[.bool],[],[]⟩,none,fun p=>Uh p⟩
theorem Ayj:A2k.ok Tryz.prog 133:=Au hm Tryz.func133 (fd:=A8l) (by kernel_rfl) (Ak (l:=[]) (y:=[]) trivial trivial) (by kernel_rfl) (fun p=>by kernel_rfl)
def Aop:Dyn:=⟨[.ty (.int .u8)],[(.int .u8)],⟨(.ty .bool),[],[],[.bool],[],[]⟩,fun f p=>F2 f p⟩
theorem Atp(g:Nat):(Aop.ent g).ok Tryz.prog g:=by
 intro p r h
 have h:F2 g p=some r:=h
 unfold F2 at h
 split at h
 ·rename_i e;subst e;exact Afr p r h
 split at h
 ·rename_i e;subst e;exact Q4 p r h
 split at h
 ·rename_i e;subst e;exact Ayi p r h
 split at h
 ·rename_i e;subst e;exact Ayj p r h
 cases h
def Avt:List TOp:=[oo 2 (.mov (.cst (.bool false)))]
def Avu:List TOp:=[oo 3 (.mov (.tmp 0)),oo 4 (.call 0 0 (.cst (.fn 127)) [(.tmp 3)] [] []),oo 5 (.mov (.tmp 4)),og 6 5 false .bool (.mov (.tmp 0)),og 7 5 false .bool (.call 0 0 (.cst (.fn 129)) [(.tmp 6)] [] []),oo 8 (.pick (.tmp 5) (.cst (.bool true)) (.tmp 7)),oo 9 (.mov (.tmp 8)),og 10 9 false .bool (.mov (.tmp 0)),og 11 9 false .bool (.bin false .eql (.tmp 10) (.cst (.int .u8 95))),oo 12 (.pick (.tmp 9) (.cst (.bool true)) (.tmp 11)),oo 2 (.mov (.tmp 12))]
def Avs:Kp:=⟨[],[(2,false)],[],[],[]⟩
def A2t:TFd:=⟨1,[(.tmp 2,.bool)],[],(.seq (.ops Avt) (.seq (.ops Avu) (.keep Avs .ret)))⟩
def Ajt:Ent:=⟨[.ty (.int .u8)],[],[(.int .u8)],⟨(.ty .bool),[],[],[.bool],[],[]⟩,none,fun p=>Pq p⟩
theorem Avm:Ajt.ok Tryz.prog 146:=Au hm Tryz.func146 (fd:=A2t) (by kernel_rfl) (Ak (l:=[(127,Ajs),(129,Ux)]) (y:=[]) ⟨Afr,Q4,trivial⟩ trivial) (by kernel_rfl) (fun p=>by kernel_rfl)
def A80:List TOp:=[oo 3 (.mov (.cst (.bool false)))]
def A81:List TOp:=[oo 4 (.mov (.tmp 0)),oo 5 (.bin false .gtr (.tmp 4) (.cst (.int .i32 127))),oo 6 (.mov (.tmp 5)),og 7 6 false .bool (.load false 1 (.tmp 1)),og 8 6 false .bool (.mov (.tmp 0)),og 9 6 false .bool (.conv .u8 (.tmp 8)),og 10 6 false .bool (.call 0 0 (.tmp 7) [(.tmp 9)] [] []),og 11 6 false .bool (.un .not (.tmp 10)),oo 12 (.pick (.tmp 6) (.cst (.bool true)) (.tmp 11)),oo 3 (.mov (.tmp 12))]
def A8z:Kp:=⟨[],[(3,false)],[],[],[]⟩
def Bhr:TFd:=⟨2,[(.tmp 3,.bool)],[],(.seq (.ops A80) (.seq (.ops A81) (.keep A8z .ret)))⟩
def Bcb:Ent:=⟨[.ty (.int .i32),.ic [.fnc 146] 0],[],[(.int .i32)],⟨(.ty .bool),[],[],[.bool],[],[]⟩,none,fun p=>Qn p⟩
theorem A7r:Bcb.ok Tryz.prog 157:=Au hm Tryz.func157 (fd:=Bhr) (by kernel_rfl) (Ak (l:=[(146,Ajt)]) (y:=[]) ⟨Avm,trivial⟩ trivial) (by kernel_rfl) (fun p=>by kernel_rfl)
noncomputable def Ga:Ent:=⟨[.ty .str,.fn 157 [.ic [.fnc 146] 0]],[],[.str],⟨(.ty (.int .i64)),[],[],[(.int .i64)],[],[]⟩,none,fun p=>strings_IndexFunc Qn p⟩
theorem Kr:Ga.ok Tryz.prog 156:=fun p r h=>Ht (f:=Qn) (fun x r h=>A7r x r h) (show strings_IndexFunc Qn _=some _ from h) A7n
def Bhv:List TOp:=[oo 3 (.box (.tmp 1)),oo 4 (.mov (.cst (.int .i64 0)))]
def Bhw:List TOp:=[oo 6 (.mov (.tmp 0)),oo 7 (.mkfn 157 [(.tmp 3)]),oo 8 (.call 0 0 (.cst (.fn 156)) [(.tmp 6),(.tmp 7)] [] []),oo 5 (.mov (.tmp 8))]
def Bhu:Kp:=⟨[.loc 3 0],[(0,false),(3,false)],[],[],[]⟩
def Bhx:List TOp:=[oo 9 (.mov (.tmp 5)),oo 10 (.bin false .lss (.tmp 9) (.cst (.int .i64 0)))]
def Bhy:List TOp:=[oo 11 (.mov (.tmp 0)),oo 12 (.len true (.tmp 11)),oo 4 (.mov (.tmp 12))]
def Azo:Kp:=⟨[],[(4,false)],[],[],[]⟩
def Bhz:List TOp:=[oo 13 (.mov (.tmp 5)),oo 4 (.mov (.tmp 13))]
def Bpr:TFd:=⟨2,[(.tmp 4,.bool)],[],(.seq (.ops Bhv) (.seq (.keep Bhu (.ops Bhw)) (.seq (.seq (.ops Bhx) (.cond (.tmp 10) (.free (.seq (.ops Bhy) (.keep Azo .ret))) .skip)) (.seq (.ops Bhz) (.keep Azo .ret)))))⟩
noncomputable def A5q:Ent:=⟨[.ty .str,.fnc 146],[],[.str],⟨(.ty (.int .i64)),[],[],[(.int .i64)],[],[]⟩,none,fun p=>Axd p⟩
theorem Bgt:A5q.ok Tryz.prog 145:=Au hm Tryz.func145 (fd:=Bpr) (by kernel_rfl) (Ak (l:=[(156,Ga)]) (y:=[]) ⟨Kr,trivial⟩ trivial) (by kernel_rfl) (fun p=>by kernel_rfl)
def Bd2:List TOp:=[oo 2 (.mov (.cst (.int .i64 0))),oo 3 (.mov (.cst (.int .i64 0)))]
def Bd3:List TOp:=[oo 5 (.mov (.tmp 0)),oo 6 (.call 0 0 (.cst (.fn 145)) [(.tmp 5),(.cst (.fn 146))] [] []),oo 4 (.mov (.tmp 6))]
def Bd4:List TOp:=[oo 7 (.mov (.tmp 4)),oo 8 (.bin false .gtr (.tmp 7) (.cst (.int .i64 32)))]
def Bd5:List TOp:=[oo 2 (.mov (.cst (.int .i64 0))),oo 3 (.mov (.cst (.int .i64 3)))]
def Au9:Kp:=⟨[],[(2,false),(3,false)],[],[],[]⟩
def Bd6:List TOp:=[oo 9 (.mov (.tmp 4)),oo 2 (.mov (.tmp 9)),oo 3 (.mov (.cst (.int .i64 0)))]
def Bl5:TFd:=⟨1,[(.tmp 2,.bool),(.tmp 3,.bool)],[],(.seq (.ops Bd2) (.seq (.ops Bd3) (.seq (.seq (.ops Bd4) (.cond (.tmp 8) (.free (.seq (.ops Bd5) (.keep Au9 .ret))) .skip)) (.seq (.ops Bd6) (.keep Au9 .ret)))))⟩
noncomputable def Bgv:Ent:=⟨[.ty .str],[],[.str],⟨(.tup [(.ty (.int .i64)),(.ty (.int .i64))]),[],[],[(.int .i64),(.int .i64)],[],[]⟩,none,fun p=>Ajx p⟩
theorem Bce:Bgv.ok Tryz.prog 128:=Au hm Tryz.func128 (fd:=Bl5) (by kernel_rfl) (Ak (l:=[(145,A5q)]) (y:=[]) ⟨Bgt,trivial⟩ trivial) (by kernel_rfl) (fun p=>by kernel_rfl)
def Azj:List TOp:=[oo 3 (.mov (.cst (.bool false)))]
def Azk:List TOp:=[oo 4 (.mov (.tmp 0)),oo 5 (.bin false .gtr (.tmp 4) (.cst (.int .i32 127))),oo 6 (.mov (.tmp 5)),og 7 6 false .bool (.load false 1 (.tmp 1)),og 8 6 false .bool (.mov (.tmp 0)),og 9 6 false .bool (.conv .u8 (.tmp 8)),og 10 6 false .bool (.call 0 0 (.tmp 7) [(.tmp 9)] [] []),og 11 6 false .bool (.un .not (.tmp 10)),oo 12 (.pick (.tmp 6) (.cst (.bool true)) (.tmp 11)),oo 3 (.mov (.tmp 12))]
def Azi:Kp:=⟨[],[(3,false)],[],[],[]⟩
def A8x:TFd:=⟨2,[(.tmp 3,.bool)],[],(.seq (.ops Azj) (.seq (.ops Azk) (.keep Azi .ret)))⟩
def A2n:Ent:=⟨[.ty (.int .i32),.ic [.fnc 129] 0],[],[(.int .i32)],⟨(.ty .bool),[],[],[.bool],[],[]⟩,none,fun p=>I4 p⟩
theorem Ayk:A2n.ok Tryz.prog 157:=Au hm Tryz.func157 (fd:=A8x) (by kernel_rfl) (Ak (l:=[(129,Ux)]) (y:=[]) ⟨Q4,trivial⟩ trivial) (by kernel_rfl) (fun p=>by kernel_rfl)
noncomputable def Fb:Ent:=⟨[.ty .str,.fn 157 [.ic [.fnc 129] 0]],[],[.str],⟨(.ty (.int .i64)),[],[],[(.int .i64)],[],[]⟩,none,fun p=>strings_IndexFunc I4 p⟩
theorem Iw:Fb.ok Tryz.prog 156:=fun p r h=>Ht (f:=I4) (fun x r h=>Ayk x r h) (show strings_IndexFunc I4 _=some _ from h) A7n
def A83:List TOp:=[oo 3 (.box (.tmp 1)),oo 4 (.mov (.cst (.int .i64 0)))]
def A84:List TOp:=[oo 6 (.mov (.tmp 0)),oo 7 (.mkfn 157 [(.tmp 3)]),oo 8 (.call 0 0 (.cst (.fn 156)) [(.tmp 6),(.tmp 7)] [] []),oo 5 (.mov (.tmp 8))]
def A82:Kp:=⟨[.loc 3 0],[(0,false),(3,false)],[],[],[]⟩
def A85:List TOp:=[oo 9 (.mov (.tmp 5)),oo 10 (.bin false .lss (.tmp 9) (.cst (.int .i64 0)))]
def A86:List TOp:=[oo 11 (.mov (.tmp 0)),oo 12 (.len true (.tmp 11)),oo 4 (.mov (.tmp 12))]
def Ar9:Kp:=⟨[],[(4,false)],[],[],[]⟩
def A87:List TOp:=[oo 13 (.mov (.tmp 5)),oo 4 (.mov (.tmp 13))]
def Bhs:TFd:=⟨2,[(.tmp 4,.bool)],[],(.seq (.ops A83) (.seq (.keep A82 (.ops A84)) (.seq (.seq (.ops A85) (.cond (.tmp 10) (.free (.seq (.ops A86) (.keep Ar9 .ret))) .skip)) (.seq (.ops A87) (.keep Ar9 .ret)))))⟩
noncomputable def Au2:Ent:=⟨[.ty .str,.fnc 129],[],[.str],⟨(.ty (.int .i64)),[],[],[(.int .i64)],[],[]⟩,none,fun p=>Qo p⟩
theorem A7s:Au2.ok Tryz.prog 145:=Au hm Tryz.func145 (fd:=Bhs) (by kernel_rfl) (Ak (l:=[(156,Fb)]) (y:=[]) ⟨Iw,trivial⟩ trivial) (by kernel_rfl) (fun p=>by kernel_rfl)
def A2v:List TOp:=[oo 2 (.mov (.cst (.int .i64 0))),oo 3 (.mov (.cst (.int .i64 0)))]
def A2w:List TOp:=[oo 7 (.mov (.tmp 0)),oo 8 (.call 0 0 (.cst (.fn 145)) [(.tmp 7),(.cst (.fn 129))] [] []),oo 4 (.mov (.tmp 8))]
def A2x:List TOp:=[oo 5 (.mov (.cst (.int .i64 0)))]
def A2y:List TOp:=[oo 9 (.mov (.tmp 0)),oo 10 (.mov (.tmp 4)),oo 11 (.slc true 0 (.tmp 9) (some (.tmp 10)) none),oo 6 (.mov (.tmp 11))]
def A2z:List TOp:=[oo 12 (.mov (.tmp 6)),oo 13 (.len true (.tmp 12)),oo 14 (.bin false .gtr (.tmp 13) (.cst (.int .i64 1))),oo 15 (.mov (.tmp 14)),og 16 15 true .bool (.mov (.tmp 6)),og 17 15 true .bool (.sidx (.tmp 16) (.cst (.int .i64 0))),og 18 15 true .bool (.bin false .eql (.tmp 17) (.cst (.int .u8 46))),oo 19 (.pick (.tmp 15) (.tmp 18) (.cst (.bool false)))]
def A20:List TOp:=[oo 20 (.mov (.tmp 6)),oo 21 (.slc true 0 (.tmp 20) (some (.cst (.int .i64 1))) none),oo 22 (.call 0 0 (.cst (.fn 145)) [(.tmp 21),(.cst (.fn 129))] [] []),oo 5 (.mov (.tmp 22))]
def A2u:Kp:=⟨[],[(0,false),(4,false),(5,false)],[],[],[]⟩
def A23:Sig:=⟨[(0,none),(4,none),(5,some (.ty (.int .i64)))],[],[(.int .i64)],[],[]⟩
def A21:List TOp:=[oo 24 (.mov (.tmp 4)),oo 25 (.bin false .gtr (.tmp 24) (.cst (.int .i64 15))),oo 26 (.mov (.tmp 25)),og 27 26 false .bool (.mov (.tmp 5)),og 28 26 false .bool (.bin false .gtr (.tmp 27) (.cst (.int .i64 9))),oo 29 (.pick (.tmp 26) (.cst (.bool true)) (.tmp 28)),oo 30 (.mov (.tmp 29)),og 31 30 false .bool (.mov (.tmp 4)),og 32 30 false .bool (.bin false .gtr (.tmp 31) (.cst (.int .i64 1))),og 33 30 false .bool (.mov (.tmp 32)),og 34 33 true .bool (.mov (.tmp 0)),og 35 33 true .bool (.sidx (.tmp 34) (.cst (.int .i64 0))),og 36 33 true .bool (.bin false .eql (.tmp 35) (.cst (.int .u8 48))),og 37 30 false .bool (.pick (.tmp 33) (.tmp 36) (.cst (.bool false))),oo 38 (.pick (.tmp 30) (.cst (.bool true)) (.tmp 37)),oo 23 (.mov (.tmp 38))]
def A22:List TOp:=[oo 2 (.mov (.cst (.int .i64 0))),oo 3 (.mov (.cst (.int .i64 3)))]
def Rw:Kp:=⟨[],[(2,false),(3,false)],[],[],[]⟩
def Azf:List TOp:=[oo 40 (.mov (.tmp 5)),oo 41 (.bin false .gtr (.tmp 40) (.cst (.int .i64 0))),oo 39 (.mov (.tmp 41))]
def Azg:List TOp:=[oo 42 (.mov (.tmp 4)),oo 43 (.bin false .add (.tmp 42) (.cst (.int .i64 1))),oo 44 (.mov (.tmp 5)),oo 45 (.bin false .add (.tmp 43) (.tmp 44)),oo 2 (.mov (.tmp 45)),oo 3 (.mov (.cst (.int .i64 0)))]
def Azh:List TOp:=[oo 46 (.mov (.tmp 4)),oo 2 (.mov (.tmp 46)),oo 3 (.mov (.cst (.int .i64 0)))]
def Bdl:TFd:=⟨1,[(.tmp 2,.bool),(.tmp 3,.bool)],[],(.seq (.ops A2v) (.seq (.ops A2w) (.seq (.ops A2x) (.seq (.seq (.ops A2y) (.seq (.ops A2z) (.join A2u A23 (.cond (.tmp 19) (.ops A20) .skip)))) (.seq (.pass 0 (.seq (.ops A21) (.cond (.tmp 23) (.free (.seq (.ops A22) (.keep Rw .ret))) (.seq (.ops Azf) (.cond (.tmp 39) (.free (.seq (.ops Azg) (.keep Rw .ret))) .skip))))) (.seq (.ops Azh) (.keep Rw .ret)))))))⟩
noncomputable def A7p:Ent:=⟨[.ty .str],[],[.str],⟨(.tup [(.ty (.int .i64)),(.ty (.int .i64))]),[],[],[(.int .i64),(.int .i64)],[],[]⟩,none,fun p=>Q5 p⟩
theorem A2l:A7p.ok Tryz.prog 130:=Au hm Tryz.func130 (fd:=Bdl) (by kernel_rfl) (Ak (l:=[(145,Au2)]) (y:=[]) ⟨A7s,trivial⟩ trivial) (by kernel_rfl) (fun p=>by kernel_rfl)
def H7:Ent:=⟨[.ty .str,.ty (.int .u8)],[],[.str,(.int .u8)],⟨(.ty (.int .i64)),[],[],[(.int .i64)],[],[]⟩,none,fun p=>strings_IndexByte p.1 p.2⟩
theorem Kq:H7.ok Tryz.prog 147:=fun p r h=>Al6 (show strings_IndexByte _ _=some _ from h)
def Avw:List TOp:=[oo 2 (.mov (.cst (.bool false)))]
def Avx:List TOp:=[oo 3 (.mov (.tmp 0)),oo 4 (.bin false .geq (.tmp 3) (.cst (.int .u8 32))),oo 5 (.mov (.tmp 4)),og 6 5 true .bool (.mov (.tmp 0)),og 7 5 true .bool (.bin false .leq (.tmp 6) (.cst (.int .u8 126))),oo 8 (.pick (.tmp 5) (.tmp 7) (.cst (.bool false))),oo 2 (.mov (.tmp 8))]
def Avv:Kp:=⟨[],[(2,false)],[],[],[]⟩
def A24:TFd:=⟨1,[(.tmp 2,.bool)],[],(.seq (.ops Avw) (.seq (.ops Avx) (.keep Avv .ret)))⟩
def Ajv:Ent:=⟨[.ty (.int .u8)],[],[(.int .u8)],⟨(.ty .bool),[],[],[.bool],[],[]⟩,none,fun p=>Pr p⟩
theorem Avn:Ajv.ok Tryz.prog 148:=Au hm Tryz.func148 (fd:=A24) (by kernel_rfl) (Ak (l:=[]) (y:=[]) trivial trivial) (by kernel_rfl) (fun p=>by kernel_rfl)
def Azm:List TOp:=[oo 3 (.mov (.cst (.bool false)))]
def Azn:List TOp:=[oo 4 (.mov (.tmp 0)),oo 5 (.bin false .gtr (.tmp 4) (.cst (.int .i32 127))),oo 6 (.mov (.tmp 5)),og 7 6 false .bool (.load false 1 (.tmp 1)),og 8 6 false .bool (.mov (.tmp 0)),og 9 6 false .bool (.conv .u8 (.tmp 8)),og 10 6 false .bool (.call 0 0 (.tmp 7) [(.tmp 9)] [] []),og 11 6 false .bool (.un .not (.tmp 10)),oo 12 (.pick (.tmp 6) (.cst (.bool true)) (.tmp 11)),oo 3 (.mov (.tmp 12))]
def Azl:Kp:=⟨[],[(3,false)],[],[],[]⟩
def A8y:TFd:=⟨2,[(.tmp 3,.bool)],[],(.seq (.ops Azm) (.seq (.ops Azn) (.keep Azl .ret)))⟩
def A2o:Ent:=⟨[.ty (.int .i32),.ic [.fnc 148] 0],[],[(.int .i32)],⟨(.ty .bool),[],[],[.bool],[],[]⟩,none,fun p=>I5 p⟩
theorem Ayl:A2o.ok Tryz.prog 157:=Au hm Tryz.func157 (fd:=A8y) (by kernel_rfl) (Ak (l:=[(148,Ajv)]) (y:=[]) ⟨Avn,trivial⟩ trivial) (by kernel_rfl) (fun p=>by kernel_rfl)
noncomputable def Fc:Ent:=⟨[.ty .str,.fn 157 [.ic [.fnc 148] 0]],[],[.str],⟨(.ty (.int .i64)),[],[],[(.int .i64)],[],[]⟩,none,fun p=>strings_IndexFunc I5 p⟩
theorem Ix:Fc.ok Tryz.prog 156:=fun p r h=>Ht (f:=I5) (fun x r h=>Ayl x r h) (show strings_IndexFunc I5 _=some _ from h) A7n
def A89:List TOp:=[oo 3 (.box (.tmp 1)),oo 4 (.mov (.cst (.int .i64 0)))]
def A9a:List TOp:=[oo 6 (.mov (.tmp 0)),oo 7 (.mkfn 157 [(.tmp 3)]),oo 8 (.call 0 0 (.cst (.fn 156)) [(.tmp 6),(.tmp 7)] [] []),oo 5 (.mov (.tmp 8))]
def A88:Kp:=⟨[.loc 3 0],[(0,false),(3,false)],[],[],[]⟩
def A9b:List TOp:=[oo 9 (.mov (.tmp 5)),oo 10 (.bin false .lss (.tmp 9) (.cst (.int .i64 0)))]
def A9c:List TOp:=[oo 11 (.mov (.tmp 0)),oo 12 (.len true (.tmp 11)),oo 4 (.mov (.tmp 12))]
def Asa:Kp:=⟨[],[(4,false)],[],[],[]⟩
def A9d:List TOp:=[oo 13 (.mov (.tmp 5)),oo 4 (.mov (.tmp 13))]
def Bht:TFd:=⟨2,[(.tmp 4,.bool)],[],(.seq (.ops A89) (.seq (.keep A88 (.ops A9a)) (.seq (.seq (.ops A9b) (.cond (.tmp 10) (.free (.seq (.ops A9c) (.keep Asa .ret))) .skip)) (.seq (.ops A9d) (.keep Asa .ret)))))⟩
noncomputable def Au3:Ent:=⟨[.ty .str,.fnc 148],[],[.str],⟨(.ty (.int .i64)),[],[],[(.int .i64)],[],[]⟩,none,fun p=>Amm p⟩
theorem A7t:Au3.ok Tryz.prog 145:=Au hm Tryz.func145 (fd:=Bht) (by kernel_rfl) (Ak (l:=[(156,Fc)]) (y:=[]) ⟨Ix,trivial⟩ trivial) (by kernel_rfl) (fun p=>by kernel_rfl)
def A25:List TOp:=[oo 2 (.mov (.cst (.int .i64 0))),oo 3 (.mov (.cst (.int .i64 0)))]
def A26:List TOp:=[oo 5 (.mov (.tmp 0)),oo 6 (.slc true 0 (.tmp 5) (some (.cst (.int .i64 1))) none),oo 7 (.call 0 0 (.cst (.fn 147)) [(.tmp 6),(.cst (.int .u8 34))] [] []),oo 4 (.mov (.tmp 7))]
def A27:List TOp:=[oo 8 (.mov (.tmp 4)),oo 9 (.bin false .lss (.tmp 8) (.cst (.int .i64 0)))]
def A28:List TOp:=[oo 2 (.mov (.cst (.int .i64 0))),oo 3 (.mov (.cst (.int .i64 14)))]
def Vi:Kp:=⟨[],[(2,false),(3,false)],[],[],[]⟩
def A29:List TOp:=[oo 10 (.mov (.tmp 4)),oo 11 (.bin false .gtr (.tmp 10) (.cst (.int .i64 32))),oo 12 (.mov (.tmp 11)),og 13 12 false .bool (.mov (.tmp 0)),og 14 12 false .bool (.mov (.tmp 4)),og 15 12 false .bool (.bin false .add (.cst (.int .i64 1)) (.tmp 14)),og 16 12 false .bool (.slc true 0 (.tmp 13) (some (.cst (.int .i64 1))) (some (.tmp 15))),og 17 12 false .bool (.call 0 0 (.cst (.fn 145)) [(.tmp 16),(.cst (.fn 148))] [] []),og 18 12 false .bool (.mov (.tmp 4)),og 19 12 false .bool (.bin false .lss (.tmp 17) (.tmp 18)),oo 20 (.pick (.tmp 12) (.cst (.bool true)) (.tmp 19))]
def A3a:List TOp:=[oo 2 (.mov (.cst (.int .i64 0))),oo 3 (.mov (.cst (.int .i64 3)))]
def A3b:List TOp:=[oo 21 (.mov (.tmp 4)),oo 22 (.bin false .add (.tmp 21) (.cst (.int .i64 2))),oo 2 (.mov (.tmp 22)),oo 3 (.mov (.cst (.int .i64 0)))]
def Bdm:TFd:=⟨1,[(.tmp 2,.bool),(.tmp 3,.bool)],[],(.seq (.ops A25) (.seq (.ops A26) (.seq (.seq (.ops A27) (.cond (.tmp 9) (.free (.seq (.ops A28) (.keep Vi .ret))) .skip)) (.seq (.seq (.ops A29) (.cond (.tmp 20) (.free (.seq (.ops A3a) (.keep Vi .ret))) .skip)) (.seq (.ops A3b) (.keep Vi .ret))))))⟩
noncomputable def A7q:Ent:=⟨[.ty .str],[],[.str],⟨(.tup [(.ty (.int .i64)),(.ty (.int .i64))]),[],[],[(.int .i64),(.int .i64)],[],[]⟩,none,fun p=>Q6 p⟩
theorem A2m:A7q.ok Tryz.prog 132:=Au hm Tryz.func132 (fd:=Bdm) (by kernel_rfl) (Ak (l:=[(147,H7),(145,Au3)]) (y:=[]) ⟨Kq,A7t,trivial⟩ trivial) (by kernel_rfl) (fun p=>by kernel_rfl)
def So:Ent:=⟨[.ty .str,.ty .str],[],[.str,.str],⟨(.ty .bool),[],[],[.bool],[],[]⟩,none,fun p=>strings_Contains p.1 p.2⟩
theorem Ai0:So.ok Tryz.prog 149:=fun p r h=>Aod (show strings_Contains _ _=some _ from h)
def Bdn:List TOp:=[oo 2 (.mov (.cst (.int .i64 0))),oo 3 (.mov (.cst (.int .i64 0)))]
def Bdo:List TOp:=[oo 5 (.mov (.tmp 0)),oo 6 (.len true (.tmp 5)),oo 7 (.bin false .gtr (.tmp 6) (.cst (.int .i64 1))),oo 8 (.mov (.tmp 7)),og 9 8 true .bool (.mov (.tmp 0)),og 10 8 true .bool (.slc true 0 (.tmp 9) none (some (.cst (.int .i64 2)))),og 11 8 true .bool (.call 0 0 (.cst (.fn 149)) [(.cst (.str [60,61,32,62,61,32,46,46])),(.tmp 10)] [] []),oo 12 (.pick (.tmp 8) (.tmp 11) (.cst (.bool false))),oo 13 (.mov (.tmp 12)),og 14 13 true .bool (.mov (.tmp 0)),og 15 13 true .bool (.slc true 0 (.tmp 14) none (some (.cst (.int .i64 2)))),og 16 13 true .bool (.call 0 0 (.cst (.fn 149)) [(.tmp 15),(.cst (.str [32]))] [] []),og 17 13 true .bool (.un .not (.tmp 16)),oo 18 (.pick (.tmp 13) (.tmp 17) (.cst (.bool false))),oo 4 (.mov (.tmp 18))]
def Bdp:List TOp:=[oo 2 (.mov (.cst (.int .i64 2))),oo 3 (.mov (.cst (.int .i64 0)))]
def Ala:Kp:=⟨[],[(2,false),(3,false)],[],[],[]⟩
def Bdq:List TOp:=[oo 20 (.mov (.tmp 0)),oo 21 (.sidx (.tmp 20) (.cst (.int .i64 0))),oo 22 (.call 0 0 (.cst (.fn 147)) [(.cst (.str [123,125,40,41,91,93,59,58,44,37,61,60,62,43,45,42,47])),(.tmp 21)] [] []),oo 23 (.bin false .geq (.tmp 22) (.cst (.int .i64 0))),oo 19 (.mov (.tmp 23))]
def Bdr:List TOp:=[oo 2 (.mov (.cst (.int .i64 1))),oo 3 (.mov (.cst (.int .i64 0)))]
def Bds:List TOp:=[oo 2 (.mov (.cst (.int .i64 0))),oo 3 (.mov (.cst (.int .i64 14)))]
def Bl3:TFd:=⟨1,[(.tmp 2,.bool),(.tmp 3,.bool)],[],(.seq (.ops Bdn) (.seq (.pass 0 (.seq (.ops Bdo) (.cond (.tmp 4) (.free (.seq (.ops Bdp) (.keep Ala .ret))) (.seq (.ops Bdq) (.cond (.tmp 19) (.free (.seq (.ops Bdr) (.keep Ala .ret))) .skip))))) (.seq (.ops Bds) (.keep Ala .ret))))⟩
def Bgu:Ent:=⟨[.ty .str],[],[.str],⟨(.tup [(.ty (.int .i64)),(.ty (.int .i64))]),[],[],[(.int .i64),(.int .i64)],[],[]⟩,none,fun p=>Ajw p⟩
theorem Bcc:Bgu.ok Tryz.prog 134:=Au hm Tryz.func134 (fd:=Bl3) (by kernel_rfl) (Ak (l:=[(149,So),(147,H7)]) (y:=[]) ⟨Ai0,Kq,trivial⟩ trivial) (by kernel_rfl) (fun p=>by kernel_rfl)
noncomputable def Aoq:Dyn:=⟨[.ty .str],[.str],⟨(.tup [(.ty (.int .i64)),(.ty (.int .i64))]),[],[],[(.int .i64),(.int .i64)],[],[]⟩,fun f p=>F3 f p⟩
theorem Atq(g:Nat):(Aoq.ent g).ok Tryz.prog g:=by
 intro p r h
 have h:F3 g p=some r:=h
 unfold F3 at h
 split at h
 ·rename_i e;subst e;exact Bce p r h
 split at h
 ·rename_i e;subst e;exact A2l p r h
 split at h
 ·rename_i e;subst e;exact A2m p r h
 split at h
 ·rename_i e;subst e;exact Bcc p r h
 cases h
def Bdd:List TOp:=[oo 2 (.mov (.cst (.int .i64 0))),oo 3 (.mov (.cst (.int .i64 0))),oo 4 (.mov (.cst (.int .i64 0)))]
def Bde:List TOp:=[oo 9 (.call 0 0 (.cst (.fn 111)) [] [] []),oo 10 (.mov (.cst (.int .i64 0)))]
def Bdf:List TOp:=[oo 11 (.bin false .lss (.tmp 10) (.cst (.int .i64 4)))]
def Bdg:List TOp:=[oo 12 (.mov (.tmp 10)),ot 13 (.st 0) (.aidx 4 2 (.tmp 9) (.tmp 10)),oo 6 (.alloc [.pv .nilFn,.pv .nilFn]),oo 5 (.mov (.tmp 12)),on (.store 2 (.tmp 6) (.tmp 13))]
def Bdh:List TOp:=[oo 14 (.fld 0 (.tmp 6)),oo 15 (.load false 1 (.tmp 14)),oo 16 (.mov (.tmp 0)),oo 17 (.sidx (.tmp 16) (.cst (.int .i64 0))),oo 18 (.call 0 0 (.tmp 15) [(.tmp 17)] [] [])]
def Bdi:List TOp:=[oo 20 (.fld 1 (.tmp 6)),oo 21 (.load false 1 (.tmp 20)),oo 22 (.mov (.tmp 0)),oo 23 (.call 0 0 (.tmp 21) [(.tmp 22)] [] []),oo 19 (.mov (.tmp 23)),oo 24 (.ext 0 (.tmp 19)),oo 25 (.ext 1 (.tmp 19)),oo 7 (.mov (.tmp 24)),oo 8 (.mov (.tmp 25))]
def Bdj:List TOp:=[oo 26 (.mov (.tmp 5)),oo 27 (.mov (.tmp 7)),oo 28 (.mov (.tmp 8)),oo 2 (.mov (.tmp 26)),oo 3 (.mov (.tmp 27)),oo 4 (.mov (.tmp 28))]
def Au7:Kp:=⟨[],[(2,false),(3,false),(4,false)],[],[],[]⟩
def Bdk:List TOp:=[oo 29 (.bin false .add (.tmp 10) (.cst (.int .i64 1))),oo 10 (.mov (.tmp 29))]
def Bdc:DC:=(.seq (.ops Bdf) (.seq (.cond (.tmp 11) .skip (.exit 0)) (.seq (.pass 1 (.seq (.ops Bdg) (.seq (.draw [] Bdh) (.cond (.tmp 18) (.free (.seq (.ops Bdi) (.seq (.ops Bdj) (.keep Au7 .ret)))) .skip)))) (.ops Bdk))))
def A8p:Kp:=⟨[],[(0,false),(9,false),(10,false)],[],[.loc 6 0],[]⟩
def A8s:Sig:=⟨[(0,none),(9,none),(10,some (.ty (.int .i64)))],[],[(.int .i64)],[],[]⟩
def A8q:Kp:=⟨[],[],[],[],[]⟩
def A8t:Sig:=⟨[],[],[],[],[]⟩
def A8r:List TOp:=[oo 2 (.mov (.cst (.int .i64 0))),oo 3 (.mov (.cst (.int .i64 0))),oo 4 (.mov (.cst (.int .i64 14)))]
def Bl2:TFd:=⟨1,[(.tmp 2,.bool),(.tmp 3,.bool),(.tmp 4,.bool)],[],(.seq (.ops Bdd) (.seq (.seq (.ops Bde) (.joinO A8q A8t (.block 0 (.loop [0,9,10] [] A8p A8s Bdc)))) (.seq (.ops A8r) (.keep Au7 .ret))))⟩
noncomputable def Aps:Ent:=⟨[.ty .str],[],[.str],⟨(.tup [(.ty (.int .i64)),(.ty (.int .i64)),(.ty (.int .i64))]),[],[],[(.int .i64),(.int .i64),(.int .i64)],[],[]⟩,none,fun p=>Xb p⟩
theorem Au1:Aps.ok Tryz.prog 89:=Au hm Tryz.func89 (fd:=Bl2) (by kernel_rfl) (Ak (l:=[(111,Au0)]) (y:=[Aop,Aoq]) ⟨A7o,trivial⟩ ⟨Atp,Atq,trivial⟩) (by kernel_rfl) (fun p=>by kernel_rfl)
def Afx:Ent:=⟨[.ty .str,.ty .str],[],[.str,.str],⟨(.ty (.int .i64)),[],[],[(.int .i64)],[],[]⟩,none,fun p=>strings_Count p.1 p.2⟩
theorem Aq1:Afx.ok Tryz.prog 112:=fun p r h=>Auf (show strings_Count _ _=some _ from h)
def Jh:Ent:=⟨[.ty .str,.ty (.int .u8)],[],[.str,(.int .u8)],⟨(.ty (.int .i64)),[],[],[(.int .i64)],[],[]⟩,none,fun p=>strings_LastIndexByte p.1 p.2⟩
theorem Sq:Jh.ok Tryz.prog 113:=fun p r h=>Ww (show strings_LastIndexByte _ _=some _ from h)
def A8v:List TOp:=[oo 2 (.mov (.cst (.int .i64 0))),oo 3 (.mov (.cst (.int .i64 0)))]
def A8w:List TOp:=[oo 4 (.mov (.tmp 0)),oo 5 (.call 0 0 (.cst (.fn 112)) [(.tmp 4),(.cst (.str [10]))] [] []),oo 6 (.bin false .add (.tmp 5) (.cst (.int .i64 1))),oo 7 (.mov (.tmp 0)),oo 8 (.len true (.tmp 7)),oo 9 (.mov (.tmp 0)),oo 10 (.call 0 0 (.cst (.fn 113)) [(.tmp 9),(.cst (.int .u8 10))] [] []),oo 11 (.bin false .sub (.tmp 8) (.tmp 10)),oo 2 (.mov (.tmp 6)),oo 3 (.mov (.tmp 11))]
def A8u:Kp:=⟨[],[(2,false),(3,false)],[],[],[]⟩
def Bhq:TFd:=⟨1,[(.tmp 2,.bool),(.tmp 3,.bool)],[],(.seq (.ops A8v) (.seq (.ops A8w) (.keep A8u .ret)))⟩
def Aju:Ent:=⟨[.ty .str],[],[.str],⟨(.tup [(.ty (.int .i64)),(.ty (.int .i64))]),[],[],[(.int .i64),(.int .i64)],[],[]⟩,none,fun p=>Qm p⟩
theorem Aru:Aju.ok Tryz.prog 90:=Au hm Tryz.func90 (fd:=Bhq) (by kernel_rfl) (Ak (l:=[(112,Afx),(113,Jh)]) (y:=[]) ⟨Aq1,Sq,trivial⟩ trivial) (by kernel_rfl) (fun p=>by kernel_rfl)
def Bhe:List TOp:=[oo 2 (.mov .nils),oo 3 (.mov (.cst (.int .i64 0))),oo 4 (.mov (.cst (.int .i64 0)))]
def Bhf:List TOp:=[oo 12 (.mov (.tmp 0)),oo 13 (.len true (.tmp 12)),oo 14 (.bin false .gtr (.tmp 13) (.cst (.int .i64 8000)))]
def Bhg:List TOp:=[oo 2 (.mov .nils),oo 3 (.mov (.cst (.int .i64 0))),oo 4 (.mov (.cst (.int .i64 4)))]
def Aep:Kp:=⟨[],[(2,true),(3,false),(4,false)],[],[],[]⟩
def Bhh:List TOp:=[oo 5 (.mov .nils)]
def Bhi:List TOp:=[oo 15 (.mov (.tmp 0)),oo 16 (.call 0 0 (.cst (.fn 88)) [(.tmp 15)] [] []),oo 6 (.mov (.tmp 16))]
def Bhj:List TOp:=[oo 17 (.mov (.tmp 6)),oo 18 (.mov (.tmp 0)),oo 19 (.len true (.tmp 18)),oo 20 (.bin false .lss (.tmp 17) (.tmp 19))]
def Bhk:List TOp:=[oo 22 (.mov (.tmp 0)),oo 23 (.mov (.tmp 6)),oo 24 (.slc true 0 (.tmp 22) (some (.tmp 23)) none),oo 25 (.call 0 0 (.cst (.fn 89)) [(.tmp 24)] [] []),oo 21 (.mov (.tmp 25)),oo 26 (.ext 0 (.tmp 21)),oo 27 (.ext 1 (.tmp 21)),oo 28 (.ext 2 (.tmp 21)),oo 7 (.mov (.tmp 26)),oo 8 (.mov (.tmp 27)),oo 9 (.mov (.tmp 28))]
def Bhl:List TOp:=[oo 30 (.mov (.tmp 9)),oo 31 (.bin false .neq (.tmp 30) (.cst (.int .i64 0))),oo 29 (.mov (.tmp 31))]
def Bhm:List TOp:=[oo 32 (.mov (.tmp 6)),oo 33 (.mov (.tmp 9)),oo 2 (.mov .nils),oo 3 (.mov (.tmp 32)),oo 4 (.mov (.tmp 33))]
def Bc3:List TOp:=[oo 35 (.mov (.tmp 5)),oo 36 (.len false (.tmp 35)),oo 37 (.bin false .eql (.tmp 36) (.cst (.int .i64 1500))),oo 34 (.mov (.tmp 37))]
def Bc4:List TOp:=[oo 38 (.mov (.tmp 6)),oo 2 (.mov .nils),oo 3 (.mov (.tmp 38)),oo 4 (.mov (.cst (.int .i64 6)))]
def Bc5:List TOp:=[oo 40 (.mov (.tmp 0)),oo 41 (.mov (.tmp 6)),oo 42 (.slc true 0 (.tmp 40) none (some (.tmp 41))),oo 43 (.call 0 0 (.cst (.fn 90)) [(.tmp 42)] [] []),oo 39 (.mov (.tmp 43)),oo 44 (.ext 0 (.tmp 39)),oo 45 (.ext 1 (.tmp 39)),oo 10 (.mov (.tmp 44)),oo 11 (.mov (.tmp 45))]
def Bc6:List TOp:=[oo 46 (.mov (.tmp 5)),oo 47 (.mov (.tmp 7)),oo 48 (.mov (.tmp 10)),oo 49 (.mov (.tmp 11)),oo 50 (.mov (.tmp 0)),oo 51 (.mov (.tmp 6)),oo 52 (.mov (.tmp 6)),oo 53 (.mov (.tmp 8)),oo 54 (.bin false .add (.tmp 52) (.tmp 53)),oo 55 (.slc true 0 (.tmp 50) (some (.tmp 51)) (some (.tmp 54))),ot 56 (.st 2) (.build [.pv (.int .i64 0),.pv (.int .i64 0),.pv (.int .i64 0),.pv (.str [])] [(0,1,(.tmp 47)),(1,1,(.tmp 48)),(2,1,(.tmp 49)),(3,1,(.tmp 55))]),ot 57 (.st 2) (.lit false 4 [(.tmp 56)]),ot 58 (.st 2) (.append 5 4 40 (.tmp 46) (.tmp 57)),oo 5 (.mov (.tmp 58))]
def Bc7:List TOp:=[oo 59 (.mov (.tmp 6)),oo 60 (.mov (.tmp 8)),oo 61 (.bin false .add (.tmp 59) (.tmp 60)),oo 6 (.mov (.tmp 61))]
def Bc8:List TOp:=[oo 62 (.mov (.tmp 6)),oo 63 (.mov (.tmp 0)),oo 64 (.mov (.tmp 6)),oo 65 (.slc true 0 (.tmp 63) (some (.tmp 64)) none),oo 66 (.call 0 0 (.cst (.fn 88)) [(.tmp 65)] [] []),oo 67 (.bin false .add (.tmp 62) (.tmp 66)),oo 6 (.mov (.tmp 67))]
def Bc2:DC:=(.seq (.seq (.ops Bhj) (.cond (.tmp 20) .skip (.exit 0))) (.pass 1 (.seq (.ops Bhk) (.seq (.pass 2 (.seq (.ops Bhl) (.cond (.tmp 29) (.free (.seq (.ops Bhm) (.keep Aep .ret))) (.seq (.ops Bc3) (.cond (.tmp 34) (.free (.seq (.ops Bc4) (.keep Aep .ret))) .skip))))) (.seq (.ops Bc5) (.seq (.ops Bc6) (.seq (.ops Bc7) (.ops Bc8))))))))
def Bc0:Kp:=⟨[],[(0,false),(5,false),(6,false)],[(.loc 5 0,false)],[],[((.slot 5 (.loc 5 0) 4),(.st 2))]⟩
def Bda:Sig:=⟨[(0,none),(5,some (.own (.loc 5 0))),(6,some (.ty (.int .i64)))],[(.loc 5 0,(.row (.st 2)))],[(.int .i64),(.sl (.st 2))],[],[]⟩
def Bc1:Kp:=⟨[.loc 5 0],[(5,true)],[],[],[]⟩
def Bdb:Sig:=⟨[(5,some (.ty (.sl (.st 2))))],[],[(.sl (.st 2))],[],[]⟩
def Bc9:List TOp:=[oo 68 (.mov (.tmp 5)),oo 2 (.mov (.tmp 68)),oo 3 (.mov (.cst (.int .i64 0))),oo 4 (.mov (.cst (.int .i64 0)))]
def Bpq:TFd:=⟨1,[(.tmp 2,.bool),(.tmp 3,.bool),(.tmp 4,.bool)],[],(.seq (.ops Bhe) (.seq (.seq (.ops Bhf) (.cond (.tmp 14) (.free (.seq (.ops Bhg) (.keep Aep .ret))) .skip)) (.seq (.ops Bhh) (.seq (.seq (.ops Bhi) (.joinO Bc1 Bdb (.block 0 (.loop [0,5,6] [] Bc0 Bda Bc2)))) (.seq (.ops Bc9) (.keep Aep .ret))))))⟩
noncomputable def A5p:Ent:=⟨[.ty .str],[],[.str],⟨(.tup [(.ty (.sl (.st 2))),(.ty (.int .i64)),(.ty (.int .i64))]),[],[],[(.sl (.st 2)),(.int .i64),(.int .i64)],[],[]⟩,none,fun p=>Ab3 p⟩
theorem Bgs:A5p.ok Tryz.prog 52:=Au hm Tryz.func52 (fd:=Bpq) (by kernel_rfl) (Ak (l:=[(88,Aym),(89,Aps),(90,Aju)]) (y:=[]) ⟨Bcd,Au1,Aru,trivial⟩ trivial) (by kernel_rfl) (fun p=>by kernel_rfl)
def A79:List TOp:=[oo 4 (.mov (.cst (.int .i64 0))),oo 5 (.mov (.cst (.int .i64 0))),oo 6 (.mov (.cst (.int .i64 0)))]
def A8a:List TOp:=[oo 9 (.mov (.tmp 1)),oo 10 (.bin false .lss (.tmp 9) (.cst (.int .i64 0))),oo 11 (.mov (.tmp 10)),og 12 11 false .bool (.mov (.tmp 1)),og 13 11 false .bool (.mov (.tmp 0)),og 14 11 false .bool (.len true (.tmp 13)),og 15 11 false .bool (.bin false .gtr (.tmp 12) (.tmp 14)),oo 16 (.pick (.tmp 11) (.cst (.bool true)) (.tmp 15))]
def A8b:List TOp:=[oo 4 (.mov (.cst (.int .i64 0))),oo 5 (.mov (.cst (.int .i64 0))),oo 6 (.mov (.cst (.int .i64 1)))]
def Ar7:Kp:=⟨[],[(4,false),(5,false),(6,false)],[],[],[]⟩
def A8c:List TOp:=[oo 18 (.mov (.tmp 0)),oo 19 (.mov (.tmp 1)),oo 20 (.slc true 0 (.tmp 18) none (some (.tmp 19))),oo 21 (.call 0 0 (.cst (.fn 90)) [(.tmp 20)] [] []),oo 17 (.mov (.tmp 21)),oo 22 (.ext 0 (.tmp 17)),oo 23 (.ext 1 (.tmp 17)),oo 7 (.mov (.tmp 22)),oo 8 (.mov (.tmp 23))]
def A8d:List TOp:=[oo 24 (.mov (.tmp 7)),oo 25 (.mov (.tmp 8)),oo 4 (.mov (.tmp 24)),oo 5 (.mov (.tmp 25)),oo 6 (.mov (.cst (.int .i64 0)))]
def Bhn:TFd:=⟨2,[(.tmp 4,.bool),(.tmp 5,.bool),(.tmp 6,.bool)],[],(.seq (.ops A79) (.seq (.seq (.ops A8a) (.cond (.tmp 16) (.free (.seq (.ops A8b) (.keep Ar7 .ret))) .skip)) (.seq (.ops A8c) (.seq (.ops A8d) (.keep Ar7 .ret)))))⟩
def Ajq:Ent:=⟨[.ty .str,.ty (.int .i64)],[],[.str,(.int .i64)],⟨(.tup [(.ty (.int .i64)),(.ty (.int .i64)),(.ty (.int .i64))]),[],[],[(.int .i64),(.int .i64),(.int .i64)],[],[]⟩,none,fun p=>W9 p.1 p.2⟩
theorem Ars:Ajq.ok Tryz.prog 53:=Au hm Tryz.func53 (fd:=Bhn) (by kernel_rfl) (Ak (l:=[(90,Aju)]) (y:=[]) ⟨Aru,trivial⟩ trivial) (by kernel_rfl) (fun p=>by kernel_rfl)
def Az6:List TOp:=[oo 2 (.mov .junk),oo 3 (.mov (.cst (.int .i64 0))),oo 4 (.mov (.cst (.int .i64 0))),oo 5 (.mov (.cst (.int .i64 0)))]
def Az7:List TOp:=[oo 13 (.mov (.tmp 0)),oo 14 (.call 0 0 (.cst (.fn 52)) [(.tmp 13)] [] []),oo 12 (.mov (.tmp 14)),oo 15 (.ext 0 (.tmp 12)),oo 16 (.ext 1 (.tmp 12)),oo 17 (.ext 2 (.tmp 12)),oo 6 (.mov (.tmp 15)),oo 7 (.mov (.tmp 16)),oo 8 (.mov (.tmp 17))]
def Az8:List TOp:=[oo 18 (.mov (.tmp 8)),oo 19 (.bin false .eql (.tmp 18) (.cst (.int .i64 0)))]
def Az9:List TOp:=[oo 20 (.mov (.tmp 6)),ot 21 (.st 3) (.build [.nils,.pv (.int .i64 0),.pv (.bool false)] [(0,1,(.tmp 20))]),oo 22 (.box (.tmp 21)),oo 2 (.mov (.tmp 22)),oo 3 (.mov (.cst (.int .i64 0))),oo 4 (.mov (.cst (.int .i64 0))),oo 5 (.mov (.cst (.int .i64 0)))]
def Az4:Kp:=⟨[],[(2,false),(3,false),(4,false),(5,false)],[(.loc 22 0,false)],[],[]⟩
def A0a:List TOp:=[oo 24 (.mov (.tmp 0)),oo 25 (.mov (.tmp 7)),oo 26 (.call 0 0 (.cst (.fn 53)) [(.tmp 24),(.tmp 25)] [] []),oo 23 (.mov (.tmp 26)),oo 27 (.ext 0 (.tmp 23)),oo 28 (.ext 1 (.tmp 23)),oo 29 (.ext 2 (.tmp 23)),oo 9 (.mov (.tmp 27)),oo 10 (.mov (.tmp 28)),oo 11 (.mov (.tmp 29))]
def A0b:List TOp:=[oo 30 (.mov (.tmp 9)),oo 31 (.mov (.tmp 10)),oo 32 (.mov (.tmp 8)),oo 2 (.mov .junk),oo 3 (.mov (.tmp 30)),oo 4 (.mov (.tmp 31)),oo 5 (.mov (.tmp 32))]
def Az5:Kp:=⟨[],[(3,false),(4,false),(5,false)],[],[],[]⟩
def A9t:TFd:=⟨1,[(.tmp 2,.bool),(.tmp 3,.bool),(.tmp 4,.bool),(.tmp 5,.bool)],[.loc 22 0],(.seq (.ops Az6) (.seq (.ops Az7) (.seq (.seq (.ops Az8) (.cond (.tmp 19) (.free (.seq (.ops Az9) (.keep Az4 .ret))) .skip)) (.seq (.ops A0a) (.seq (.ops A0b) (.keep Az5 .ret))))))⟩
noncomputable def Uz:Ent:=⟨[.ty .str],[],[.str],⟨(.tup [(.ptr (.res 0) 0),(.ty (.int .i64)),(.ty (.int .i64)),(.ty (.int .i64))]),[some (.st 3)],[],[(.int .i64),(.int .i64),(.int .i64),(.st 3)],[],[]⟩,(some ⟨(.tup [.dead,(.ty (.int .i64)),(.ty (.int .i64)),(.ty (.int .i64))]),[none],[],[(.int .i64),(.int .i64),(.int .i64)],[],[]⟩),fun p=>M7 p⟩
theorem Aj6:Uz.ok Tryz.prog 29:=Au hm Tryz.func29 (fd:=A9t) (by kernel_rfl) (Ak (l:=[(52,A5p),(53,Ajq)]) (y:=[]) ⟨Bgs,Ars,trivial⟩ trivial) (by kernel_rfl) (fun p=>by kernel_rfl)
def Aqo:List TOp:=[oo 4 (.mov (.cst (.bool false)))]
def Aqp:List TOp:=[oo 5 (.mov (.tmp 0)),oo 6 (.nchk (.tmp 5)),oo 7 (.fld 2 (.tmp 6)),oo 8 (.load false 1 (.tmp 7)),oo 9 (.un .not (.tmp 8)),oo 10 (.mov (.tmp 9)),og 11 10 true .bool (.mov (.tmp 0)),og 12 10 true .bool (.nchk (.tmp 11)),og 13 10 true .bool (.fld 1 (.tmp 12)),og 14 10 true .bool (.load false 1 (.tmp 13)),og 15 10 true .bool (.mov (.tmp 0)),og 16 10 true .bool (.nchk (.tmp 15)),og 17 10 true .bool (.fld 0 (.tmp 16)),og 18 10 true .bool (.load false 1 (.tmp 17)),og 19 10 true .bool (.len false (.tmp 18)),og 20 10 true .bool (.bin false .lss (.tmp 14) (.tmp 19)),oo 21 (.pick (.tmp 10) (.tmp 20) (.cst (.bool false))),oo 22 (.mov (.tmp 21)),og 23 22 true .bool (.mov (.tmp 0)),og 24 22 true .bool (.nchk (.tmp 23)),og 25 22 true .bool (.fld 0 (.tmp 24)),og 26 22 true .bool (.load false 1 (.tmp 25)),og 27 22 true .bool (.mov (.tmp 0)),og 28 22 true .bool (.nchk (.tmp 27)),og 29 22 true .bool (.fld 1 (.tmp 28)),og 30 22 true .bool (.load false 1 (.tmp 29)),og 31 22 true .bool (.idx 4 (.tmp 26) (.tmp 30)),og 32 22 true .bool (.fld 0 (.tmp 31)),og 33 22 true .bool (.load false 1 (.tmp 32)),og 34 22 true .bool (.bin false .neq (.tmp 33) (.cst (.int .i64 2))),oo 35 (.pick (.tmp 22) (.tmp 34) (.cst (.bool false))),oo 36 (.mov (.tmp 35)),og 37 36 true .bool (.mov (.tmp 0)),og 38 36 true .bool (.nchk (.tmp 37)),og 39 36 true .bool (.fld 0 (.tmp 38)),og 40 36 true .bool (.load false 1 (.tmp 39)),og 41 36 true .bool (.mov (.tmp 0)),og 42 36 true .bool (.nchk (.tmp 41)),og 43 36 true .bool (.fld 1 (.tmp 42)),og 44 36 true .bool (.load false 1 (.tmp 43)),og 45 36 true .bool (.idx 4 (.tmp 40) (.tmp 44)),og 46 36 true .bool (.fld 3 (.tmp 45)),og 47 36 true .bool (.load false 1 (.tmp 46)),og 48 36 true .bool (.mov (.tmp 1)),og 49 36 true .bool (.bin false .eql (.tmp 47) (.tmp 48)),oo 50 (.pick (.tmp 36) (.tmp 49) (.cst (.bool false))),oo 4 (.mov (.tmp 50))]
def Aqn:Kp:=⟨[],[(4,false)],[(.ext 0,false)],[],[]⟩
def At1:TFd:=⟨2,[(.tmp 4,.bool)],[],(.seq (.ops Aqo) (.seq (.draw [] Aqp) (.keep Aqn .ret)))⟩
def G8:Ent:=⟨[.ptr (.ext 0) 0,.ty .str],[.st 3],[.str,(.st 3)],⟨(.ty .bool),[],[some .same],[.bool],[],[]⟩,none,fun p=>Bv p.1 p.2⟩
theorem Iu:G8.ok Tryz.prog 63:=Au hm Tryz.func63 (fd:=At1) (by kernel_rfl) (Ak (l:=[]) (y:=[]) trivial trivial) (by kernel_rfl) (fun p=>by kernel_rfl)
def Als:List TOp:=[oo 4 (.mov (.cst (.bool false)))]
def Alt:List TOp:=[oo 5 (.mov (.tmp 0)),oo 6 (.mov (.tmp 1)),oo 7 (.call 0 2 (.cst (.fn 63)) [(.tmp 5),(.tmp 6)] [] [.ext 0]),oo 8 (.un .not (.tmp 7))]
def Alu:List TOp:=[oo 4 (.mov (.cst (.bool false)))]
def Nr:Kp:=⟨[],[(4,false)],[(.ext 0,false)],[],[]⟩
def Alv:List TOp:=[oo 9 (.mov (.tmp 0)),oo 10 (.nchk (.tmp 9)),oo 11 (.fld 1 (.tmp 10)),oo 12 (.load false 1 (.tmp 11)),oo 13 (.bin false .add (.tmp 12) (.cst (.int .i64 1))),oo 14 (.nchk (.tmp 9)),oo 15 (.fld 1 (.tmp 14)),on (.store 1 (.tmp 15) (.tmp 13))]
def Alw:List TOp:=[oo 4 (.mov (.cst (.bool true)))]
def Aqs:TFd:=⟨2,[(.tmp 4,.bool)],[],(.seq (.ops Als) (.seq (.seq (.ops Alt) (.cond (.tmp 8) (.free (.seq (.ops Alu) (.keep Nr .ret))) .skip)) (.seq (.ops Alv) (.seq (.ops Alw) (.keep Nr .ret)))))⟩
def Dy:Ent:=⟨[.ptr (.ext 0) 0,.ty .str],[.st 3],[.str,(.st 3)],⟨(.ty .bool),[],[some (.st 3)],[.bool,(.st 3)],[],[]⟩,none,fun p=>Bd p.1 p.2⟩
theorem E1:Dy.ok Tryz.prog 54:=Au hm Tryz.func54 (fd:=Aqs) (by kernel_rfl) (Ak (l:=[(63,G8)]) (y:=[]) ⟨Iu,trivial⟩ trivial) (by kernel_rfl) (fun p=>by kernel_rfl)
def Alf:List TOp:=[oo 6 (.mov (.tmp 1)),oo 7 (.len false (.tmp 6)),oo 8 (.mov (.cst (.int .i64 0)))]
def Alg:List TOp:=[oo 9 (.bin false .lss (.tmp 8) (.tmp 7))]
def Np:Kp:=⟨[],[],[(.ext 0,false)],[],[]⟩
def Alh:List TOp:=[oo 10 (.idx 1 (.tmp 6) (.tmp 8)),oo 11 (.load false 1 (.tmp 10)),oo 5 (.mov (.tmp 11))]
def Ali:List TOp:=[oo 12 (.mov (.tmp 0)),oo 13 (.mov (.tmp 5)),oo 14 (.call 0 2 (.cst (.fn 54)) [(.tmp 12),(.tmp 13)] [] [.ext 0]),oo 15 (.un .not (.tmp 14))]
def Alj:List TOp:=[oo 16 (.mov (.tmp 0)),oo 17 (.nchk (.tmp 16)),oo 18 (.fld 2 (.tmp 17)),on (.store 1 (.tmp 18) (.cst (.bool true)))]
def Alk:List TOp:=[oo 19 (.bin false .add (.tmp 8) (.cst (.int .i64 1))),oo 8 (.mov (.tmp 19))]
def Ale:DC:=(.seq (.ops Alg) (.seq (.cond (.tmp 9) .skip (.keep Np (.exit 0))) (.seq (.pass 1 (.seq (.ops Alh) (.seq (.ops Ali) (.cond (.tmp 15) (.free (.seq (.ops Alj) (.keep Np .ret))) .skip)))) (.ops Alk))))
def Ald:Kp:=⟨[],[(0,false),(6,false),(7,false),(8,false)],[(.ext 0,false)],[],[]⟩
def All:Sig:=⟨[(0,some (.ptr (.ext 0) 0)),(6,none),(7,none),(8,some (.ty (.int .i64)))],[(.ext 0,(.st 3))],[(.int .i64),(.st 3)],[],[]⟩
def Aqq:TFd:=⟨2,[],[],(.seq (.ops Alf) (.block 0 (.loop [0,6,7,8] [] Ald All Ale)))⟩
noncomputable def Dx:Ent:=⟨[.ptr (.ext 0) 0,.ty (.sl .str)],[.st 3],[(.sl .str),(.st 3)],⟨(.tup []),[],[some (.st 3)],[(.st 3)],[],[]⟩,none,fun p=>Ap p.1 p.2⟩
theorem E0:Dx.ok Tryz.prog 56:=Au hm Tryz.func56 (fd:=Aqq) (by kernel_rfl) (Ak (l:=[(54,Dy)]) (y:=[]) ⟨E1,trivial⟩ trivial) (by kernel_rfl) (fun p=>by kernel_rfl)
def Oc:List TOp:=[oo 4 (.mov (.cst (.int .i64 0)))]
def Od:List TOp:=[oo 6 (.mov (.tmp 0)),oo 7 (.len false (.tmp 6)),oo 8 (.mov (.cst (.int .i64 0)))]
def Oe:List TOp:=[oo 9 (.bin false .lss (.tmp 8) (.tmp 7))]
def Og:List TOp:=[oo 10 (.mov (.tmp 8)),oo 5 (.mov (.tmp 10))]
def Oh:List TOp:=[oo 11 (.mov (.tmp 1)),oo 12 (.mov (.tmp 0)),oo 13 (.mov (.tmp 5)),oo 14 (.idx 1 (.tmp 12) (.tmp 13)),oo 15 (.load false 1 (.tmp 14)),oo 16 (.bin false .eql (.tmp 11) (.tmp 15))]
def Oi:List TOp:=[oo 17 (.mov (.tmp 5)),oo 4 (.mov (.tmp 17))]
def F9:Kp:=⟨[],[(4,false)],[],[],[]⟩
def Oj:List TOp:=[oo 18 (.bin false .add (.tmp 8) (.cst (.int .i64 1))),oo 8 (.mov (.tmp 18))]
def Ob:DC:=(.seq (.ops Oe) (.seq (.cond (.tmp 9) .skip (.exit 0)) (.seq (.pass 1 (.seq (.ops Og) (.seq (.ops Oh) (.cond (.tmp 16) (.free (.seq (.ops Oi) (.keep F9 .ret))) .skip)))) (.ops Oj))))
def Oa:Kp:=⟨[],[(0,false),(1,false),(7,false),(8,false)],[],[],[]⟩
def Mh:Sig:=⟨[(0,none),(1,none),(7,none),(8,some (.ty (.int .i64)))],[],[(.int .i64)],[],[]⟩
def Mf:Kp:=⟨[],[],[],[],[]⟩
def Mi:Sig:=⟨[],[],[],[],[]⟩
def Mg:List TOp:=[oo 4 (.mov (.cst (.int .i64 (-1))))]
def Qd:TFd:=⟨2,[(.tmp 4,.bool)],[],(.seq (.ops Oc) (.seq (.seq (.ops Od) (.joinO Mf Mi (.block 0 (.loop [0,1,7,8] [] Oa Mh Ob)))) (.seq (.ops Mg) (.keep F9 .ret))))⟩
noncomputable def Gr:Ent:=⟨[.ty (.sl .str),.ty .str],[],[(.sl .str),.str],⟨(.ty (.int .i64)),[],[],[(.int .i64)],[],[]⟩,none,fun p=>Ei p.1 p.2⟩
theorem Oo:Gr.ok Tryz.prog 139:=Au hm Tryz.func139 (fd:=Qd) (by kernel_rfl) (Ak (l:=[]) (y:=[]) trivial trivial) (by kernel_rfl) (fun p=>by kernel_rfl)
def Kg:List TOp:=[oo 4 (.mov (.cst (.bool false)))]
def Kh:List TOp:=[oo 5 (.mov (.tmp 0)),oo 6 (.mov (.tmp 1)),oo 7 (.call 0 0 (.cst (.fn 139)) [(.tmp 5),(.tmp 6)] [] []),oo 8 (.bin false .geq (.tmp 7) (.cst (.int .i64 0))),oo 4 (.mov (.tmp 8))]
def Kf:Kp:=⟨[],[(4,false)],[],[],[]⟩
def L6:TFd:=⟨2,[(.tmp 4,.bool)],[],(.seq (.ops Kg) (.seq (.ops Kh) (.keep Kf .ret)))⟩
noncomputable def Fa:Ent:=⟨[.ty (.sl .str),.ty .str],[],[(.sl .str),.str],⟨(.ty .bool),[],[],[.bool],[],[]⟩,none,fun p=>Cn p.1 p.2⟩
theorem Kn:Fa.ok Tryz.prog 115:=Au hm Tryz.func115 (fd:=L6) (by kernel_rfl) (Ak (l:=[(139,Gr)]) (y:=[]) ⟨Oo,trivial⟩ trivial) (by kernel_rfl) (fun p=>by kernel_rfl)
def Baf:List TOp:=[oo 4 (.mov (.cst (.bool false)))]
def Bag:List TOp:=[ot 6 .str (.lit true 1 [(.cst (.str [105,102])),(.cst (.str [116,104,101,110])),(.cst (.str [101,108,115,101])),(.cst (.str [97,110,100])),(.cst (.str [111,114])),(.cst (.str [110,111,116])),(.cst (.str [109,105,110])),(.cst (.str [109,97,120]))]),oo 5 (.mov (.tmp 6))]
def Bah:List TOp:=[oo 7 (.mov (.tmp 1))]
def Bai:List TOp:=[oo 8 (.mov (.tmp 5)),ot 9 .str (.lit false 1 [(.cst (.str [112,114,111,100,117,99,116])),(.cst (.str [98,97,115,105,115])),(.cst (.str [112,101,114,105,111,100])),(.cst (.str [116,105,101,114,115])),(.cst (.str [102,101,101])),(.cst (.str [109,105,110,105,109,117,109])),(.cst (.str [111,118,101,114,100,114,97,102,116])),(.cst (.str [110,111,116,105,99,101]))]),ot 10 .str (.append 5 1 16 (.tmp 8) (.tmp 9)),oo 5 (.mov (.tmp 10))]
def Bad:Kp:=⟨[.loc 5 0,.loc 6 0],[(0,false),(5,true)],[],[],[]⟩
def Bak:Sig:=⟨[(0,none),(5,some (.ty (.sl .str)))],[],[(.sl .str)],[],[]⟩
def Baj:List TOp:=[oo 11 (.mov (.tmp 5)),oo 12 (.mov (.tmp 0)),oo 13 (.call 0 0 (.cst (.fn 115)) [(.tmp 11),(.tmp 12)] [] []),oo 4 (.mov (.tmp 13))]
def Bae:Kp:=⟨[],[(4,false)],[],[],[]⟩
def Bh3:TFd:=⟨2,[(.tmp 4,.bool)],[],(.seq (.ops Baf) (.seq (.ops Bag) (.seq (.seq (.ops Bah) (.join Bad Bak (.cond (.tmp 7) (.ops Bai) .skip))) (.seq (.ops Baj) (.keep Bae .ret)))))⟩
noncomputable def Aj8:Ent:=⟨[.ty .str,.ty .bool],[],[.str,.bool],⟨(.ty .bool),[],[],[.bool],[],[]⟩,none,fun p=>Xh p.1 p.2⟩
theorem Ar5:Aj8.ok Tryz.prog 96:=Au hm Tryz.func96 (fd:=Bh3) (by kernel_rfl) (Ak (l:=[(115,Fa)]) (y:=[]) ⟨Kn,trivial⟩ trivial) (by kernel_rfl) (fun p=>by kernel_rfl)
def Alm:List TOp:=[oo 6 (.mov (.cst (.str [])))]
def Aln:List TOp:=[oo 7 (.mov (.tmp 0)),oo 8 (.nchk (.tmp 7)),oo 9 (.fld 2 (.tmp 8)),oo 10 (.load false 1 (.tmp 9)),oo 11 (.mov (.tmp 10)),og 12 11 false .bool (.mov (.tmp 0)),og 13 11 false .bool (.nchk (.tmp 12)),og 14 11 false .bool (.fld 1 (.tmp 13)),og 15 11 false .bool (.load false 1 (.tmp 14)),og 16 11 false .bool (.mov (.tmp 0)),og 17 11 false .bool (.nchk (.tmp 16)),og 18 11 false .bool (.fld 0 (.tmp 17)),og 19 11 false .bool (.load false 1 (.tmp 18)),og 20 11 false .bool (.len false (.tmp 19)),og 21 11 false .bool (.bin false .geq (.tmp 15) (.tmp 20)),oo 22 (.pick (.tmp 11) (.cst (.bool true)) (.tmp 21)),oo 23 (.mov (.tmp 22)),og 24 23 false .bool (.mov (.tmp 0)),og 25 23 false .bool (.nchk (.tmp 24)),og 26 23 false .bool (.fld 0 (.tmp 25)),og 27 23 false .bool (.load false 1 (.tmp 26)),og 28 23 false .bool (.mov (.tmp 0)),og 29 23 false .bool (.nchk (.tmp 28)),og 30 23 false .bool (.fld 1 (.tmp 29)),og 31 23 false .bool (.load false 1 (.tmp 30)),og 32 23 false .bool (.idx 4 (.tmp 27) (.tmp 31)),og 33 23 false .bool (.fld 0 (.tmp 32)),og 34 23 false .bool (.load false 1 (.tmp 33)),og 35 23 false .bool (.mov (.tmp 1)),og 36 23 false .bool (.bin false .neq (.tmp 34) (.tmp 35)),oo 37 (.pick (.tmp 23) (.cst (.bool true)) (.tmp 36)),oo 38 (.mov (.tmp 37)),og 39 38 false .bool (.mov (.tmp 1)),og 40 38 false .bool (.bin false .eql (.tmp 39) (.cst (.int .i64 0))),og 41 38 false .bool (.mov (.tmp 40)),og 42 41 true .bool (.mov (.tmp 0)),og 43 41 true .bool (.nchk (.tmp 42)),og 44 41 true .bool (.fld 0 (.tmp 43)),og 45 41 true .bool (.load false 1 (.tmp 44)),og 46 41 true .bool (.mov (.tmp 0)),og 47 41 true .bool (.nchk (.tmp 46)),og 48 41 true .bool (.fld 1 (.tmp 47)),og 49 41 true .bool (.load false 1 (.tmp 48)),og 50 41 true .bool (.idx 4 (.tmp 45) (.tmp 49)),og 51 41 true .bool (.fld 3 (.tmp 50)),og 52 41 true .bool (.load false 1 (.tmp 51)),og 53 41 true .bool (.mov (.tmp 2)),og 54 41 true .bool (.call 0 0 (.cst (.fn 96)) [(.tmp 52),(.tmp 53)] [] []),og 55 38 false .bool (.pick (.tmp 41) (.tmp 54) (.cst (.bool false))),oo 56 (.pick (.tmp 38) (.cst (.bool true)) (.tmp 55))]
def Alo:List TOp:=[oo 57 (.mov (.tmp 0)),oo 58 (.nchk (.tmp 57)),oo 59 (.fld 2 (.tmp 58)),on (.store 1 (.tmp 59) (.cst (.bool true)))]
def Alp:List TOp:=[oo 6 (.mov (.cst (.str [])))]
def Nq:Kp:=⟨[],[(6,false)],[(.ext 0,false)],[],[]⟩
def Alq:List TOp:=[oo 60 (.mov (.tmp 0)),oo 61 (.nchk (.tmp 60)),oo 62 (.fld 1 (.tmp 61)),oo 63 (.load false 1 (.tmp 62)),oo 64 (.bin false .add (.tmp 63) (.cst (.int .i64 1))),oo 65 (.nchk (.tmp 60)),oo 66 (.fld 1 (.tmp 65)),on (.store 1 (.tmp 66) (.tmp 64))]
def Alr:List TOp:=[oo 67 (.mov (.tmp 0)),oo 68 (.nchk (.tmp 67)),oo 69 (.fld 0 (.tmp 68)),oo 70 (.load false 1 (.tmp 69)),oo 71 (.mov (.tmp 0)),oo 72 (.nchk (.tmp 71)),oo 73 (.fld 1 (.tmp 72)),oo 74 (.load false 1 (.tmp 73)),oo 75 (.bin false .sub (.tmp 74) (.cst (.int .i64 1))),oo 76 (.idx 4 (.tmp 70) (.tmp 75)),oo 77 (.fld 3 (.tmp 76)),oo 78 (.load false 1 (.tmp 77)),oo 6 (.mov (.tmp 78))]
def Aqr:TFd:=⟨3,[(.tmp 6,.bool)],[],(.seq (.ops Alm) (.seq (.seq (.draw [] Aln) (.cond (.tmp 56) (.free (.seq (.ops Alo) (.seq (.ops Alp) (.keep Nq .ret)))) .skip)) (.seq (.ops Alq) (.seq (.draw [] Alr) (.keep Nq .ret)))))⟩
noncomputable def Fh:Ent:=⟨[.ptr (.ext 0) 0,.ty (.int .i64),.ty .bool],[.st 3],[(.int .i64),.bool,(.st 3)],⟨(.ty .str),[],[some (.st 3)],[.str,(.st 3)],[],[]⟩,none,fun p=>A9 p.1 p.2.1 p.2.2⟩
theorem Ho:Fh.ok Tryz.prog 61:=Au hm Tryz.func61 (fd:=Aqr) (by kernel_rfl) (Ak (l:=[(96,Aj8)]) (y:=[]) ⟨Ar5,trivial⟩ trivial) (by kernel_rfl) (fun p=>by kernel_rfl)
def Abj:Ent:=⟨[.nils,.ty (.int .i64)],[],[(.int .i64)],⟨(.own (.res 0)),[some (.row (.st 4))],[],[(.sl (.st 4))],[],[]⟩,none,fun p=>C2 Aa 24 p⟩
theorem Aoc:Abj.ok Tryz.prog 114:=fun p r h=>by
 obtain⟨e1,e2⟩:=Abk (show C2 Aa 24 p=some r from h)
 subst e1
 exact As1 e2
def Ry:List TOp:=[oo 2 (.mov .nils)]
def Rz:List TOp:=[oo 3 (.mov (.cst (.int .i64 0)))]
def R0:List TOp:=[oo 9 (.mov (.tmp 0)),oo 10 (.len false (.tmp 9)),oo 11 (.mov (.cst (.int .i64 0)))]
def R1:List TOp:=[oo 12 (.bin false .lss (.tmp 11) (.tmp 10))]
def R2:List TOp:=[oo 13 (.idx 1 (.tmp 9) (.tmp 11)),oo 14 (.load false 1 (.tmp 13)),oo 5 (.mov (.tmp 14))]
def R3:List TOp:=[oo 15 (.mov (.tmp 3)),oo 16 (.mov (.tmp 5)),oo 17 (.len false (.tmp 16)),oo 18 (.bin false .add (.tmp 15) (.tmp 17)),oo 3 (.mov (.tmp 18))]
def R4:List TOp:=[oo 19 (.mov (.tmp 3)),oo 20 (.bin false .lss (.tmp 19) (.cst (.int .i64 0)))]
def Hr:Kp:=⟨[],[(0,false),(3,false),(9,false),(10,false),(11,false)],[],[],[]⟩
def R6:Sig:=⟨[(0,none),(3,none),(9,none),(10,none),(11,none)],[],[],[],[]⟩
def R5:List TOp:=[oo 22 (.bin false .add (.tmp 11) (.cst (.int .i64 1))),oo 11 (.mov (.tmp 22))]
def Py:DC:=(.seq (.ops R1) (.seq (.cond (.tmp 12) .skip (.exit 0)) (.seq (.pass 1 (.seq (.ops R2) (.seq (.ops R3) (.seq (.ops R4) (.join Hr R6 (.cond (.tmp 20) .stuck .skip)))))) (.ops R5))))
def P7:Sig:=⟨[(0,none),(3,some (.ty (.int .i64))),(9,none),(10,none),(11,some (.ty (.int .i64)))],[],[(.int .i64),(.int .i64)],[],[]⟩
def Pu:Kp:=⟨[],[(0,false),(3,false)],[],[],[]⟩
def P8:Sig:=⟨[(0,none),(3,some (.ty (.int .i64)))],[],[(.int .i64)],[],[]⟩
def P0:List TOp:=[oo 23 (.mov (.tmp 3)),oo 24 (.call 1 3 (.cst (.fn 114)) [.nils,(.tmp 23)] [] []),oo 6 (.mov (.tmp 24))]
def P1:List TOp:=[oo 25 (.mov (.tmp 0)),oo 26 (.len false (.tmp 25)),oo 27 (.mov (.cst (.int .i64 0)))]
def P2:List TOp:=[oo 28 (.bin false .lss (.tmp 27) (.tmp 26))]
def P3:List TOp:=[oo 29 (.idx 1 (.tmp 25) (.tmp 27)),oo 30 (.load false 1 (.tmp 29)),oo 8 (.mov (.tmp 30))]
def P4:List TOp:=[oo 31 (.mov (.tmp 6)),oo 32 (.mov (.tmp 8)),ot 33 (.st 4) (.append 24 2 24 (.tmp 31) (.tmp 32)),oo 6 (.mov (.tmp 33))]
def P5:List TOp:=[oo 34 (.bin false .add (.tmp 27) (.cst (.int .i64 1))),oo 27 (.mov (.tmp 34))]
def Pz:DC:=(.seq (.ops P2) (.seq (.cond (.tmp 28) .skip (.exit 2)) (.seq (.pass 3 (.seq (.ops P3) (.ops P4))) (.ops P5))))
def Pv:Kp:=⟨[],[(6,false),(25,false),(26,false),(27,false)],[(.loc 24 0,false)],[],[]⟩
def P9:Sig:=⟨[(6,some (.own (.loc 24 0))),(25,none),(26,none),(27,some (.ty (.int .i64)))],[(.loc 24 0,(.row (.st 4)))],[(.int .i64),(.sl (.st 4))],[],[]⟩
def Pw:Kp:=⟨[.loc 24 0],[(6,true)],[],[],[]⟩
def Qa:Sig:=⟨[(6,some (.ty (.sl (.st 4))))],[],[(.sl (.st 4))],[],[]⟩
def P6:List TOp:=[oo 35 (.mov (.tmp 6)),oo 2 (.mov (.tmp 35))]
def Px:Kp:=⟨[],[(2,false)],[],[],[]⟩
def Wm:TFd:=⟨1,[(.tmp 2,.bool)],[],(.seq (.ops Ry) (.seq (.ops Rz) (.seq (.seq (.ops R0) (.join Pu P8 (.block 0 (.loop [0,3,9,10,11] [] Hr P7 Py)))) (.seq (.ops P0) (.seq (.seq (.ops P1) (.join Pw Qa (.block 2 (.loop [6,25,26,27] [] Pv P9 Pz)))) (.seq (.ops P6) (.keep Px .ret)))))))⟩
noncomputable def H0:Ent:=⟨[.ty (.sl (.sl (.st 4)))],[],[(.sl (.sl (.st 4)))],⟨(.ty (.sl (.st 4))),[],[],[(.sl (.st 4))],[],[]⟩,none,fun p=>Ds p⟩
theorem Sl:H0.ok Tryz.prog 93:=Au hm Tryz.func93 (fd:=Wm) (by kernel_rfl) (Ak (l:=[(114,Abj)]) (y:=[]) ⟨Aoc,trivial⟩ trivial) (by kernel_rfl) (fun p=>by kernel_rfl)
def A4j:List TOp:=[oo 4 (.mov .nils)]
def A4k:List TOp:=[oo 5 (.mov (.tmp 0)),ot 6 (.st 4) (.build [.pv (.int .i64 0),.pv (.str [])] [(0,1,(.tmp 5))]),ot 7 (.st 4) (.lit true 2 [(.tmp 6)]),oo 8 (.mov (.tmp 1)),oo 9 (.call 0 0 (.cst (.fn 93)) [(.tmp 8)] [] []),ot 10 (.st 4) (.append 7 2 24 (.tmp 7) (.tmp 9)),oo 4 (.mov (.tmp 10))]
def A4i:Kp:=⟨[.loc 7 0],[(4,true)],[],[],[]⟩
def Bea:TFd:=⟨2,[(.tmp 4,.bool)],[],(.seq (.ops A4j) (.seq (.ops A4k) (.keep A4i .ret)))⟩
noncomputable def Pt:Ent:=⟨[.ty (.int .i64),.ty (.sl (.sl (.st 4)))],[],[(.int .i64),(.sl (.sl (.st 4)))],⟨(.ty (.sl (.st 4))),[],[],[(.sl (.st 4))],[],[]⟩,none,fun p=>Ci p.1 p.2⟩
theorem U0:Pt.ok Tryz.prog 57:=Au hm Tryz.func57 (fd:=Bea) (by kernel_rfl) (Ak (l:=[(93,H0)]) (y:=[]) ⟨Sl,trivial⟩ trivial) (by kernel_rfl) (fun p=>by kernel_rfl)
def A0g:List TOp:=[oo 0 (.mov .junk)]
def A0h:List TOp:=[om 1 .str (.st 5) (.mkmap .s),ot 2 (.st 5) (.build [.pv (.int .i64 0),.pv (.int .i64 0)] [(0,1,(.cst (.int .i64 13))),(1,1,(.cst (.int .i64 1)))]),on (.mset .s (.tmp 1) (.cst (.str [111,114])) (.tmp 2)),ot 3 (.st 5) (.build [.pv (.int .i64 0),.pv (.int .i64 0)] [(0,1,(.cst (.int .i64 12))),(1,1,(.cst (.int .i64 2)))]),on (.mset .s (.tmp 1) (.cst (.str [97,110,100])) (.tmp 3)),ot 4 (.st 5) (.build [.pv (.int .i64 0),.pv (.int .i64 0)] [(0,1,(.cst (.int .i64 7))),(1,1,(.cst (.int .i64 4)))]),on (.mset .s (.tmp 1) (.cst (.str [60])) (.tmp 4)),ot 5 (.st 5) (.build [.pv (.int .i64 0),.pv (.int .i64 0)] [(0,1,(.cst (.int .i64 8))),(1,1,(.cst (.int .i64 4)))]),on (.mset .s (.tmp 1) (.cst (.str [60,61])) (.tmp 5)),ot 6 (.st 5) (.build [.pv (.int .i64 0),.pv (.int .i64 0)] [(0,1,(.cst (.int .i64 9))),(1,1,(.cst (.int .i64 4)))]),on (.mset .s (.tmp 1) (.cst (.str [61])) (.tmp 6)),ot 7 (.st 5) (.build [.pv (.int .i64 0),.pv (.int .i64 0)] [(0,1,(.cst (.int .i64 10))),(1,1,(.cst (.int .i64 4)))]),on (.mset .s (.tmp 1) (.cst (.str [62])) (.tmp 7)),ot 8 (.st 5) (.build [.pv (.int .i64 0),.pv (.int .i64 0)] [(0,1,(.cst (.int .i64 11))),(1,1,(.cst (.int .i64 4)))]),on (.mset .s (.tmp 1) (.cst (.str [62,61])) (.tmp 8)),ot 9 (.st 5) (.build [.pv (.int .i64 0),.pv (.int .i64 0)] [(0,1,(.cst (.int .i64 3))),(1,1,(.cst (.int .i64 5)))]),on (.mset .s (.tmp 1) (.cst (.str [43])) (.tmp 9)),ot 10 (.st 5) (.build [.pv (.int .i64 0),.pv (.int .i64 0)] [(0,1,(.cst (.int .i64 4))),(1,1,(.cst (.int .i64 5)))]),on (.mset .s (.tmp 1) (.cst (.str [45])) (.tmp 10)),ot 11 (.st 5) (.build [.pv (.int .i64 0),.pv (.int .i64 0)] [(0,1,(.cst (.int .i64 5))),(1,1,(.cst (.int .i64 6)))]),on (.mset .s (.tmp 1) (.cst (.str [42])) (.tmp 11)),ot 12 (.st 5) (.build [.pv (.int .i64 0),.pv (.int .i64 0)] [(0,1,(.cst (.int .i64 6))),(1,1,(.cst (.int .i64 6)))]),on (.mset .s (.tmp 1) (.cst (.str [47])) (.tmp 12)),oo 13 (.mov (.tmp 1)),oo 0 (.mov (.tmp 13))]
def A0f:Kp:=⟨[],[(0,false)],[(.loc 1 0,false)],[],[]⟩
def Bal:TFd:=⟨0,[(.tmp 0,.bool)],[.loc 1 0],(.seq (.ops A0g) (.seq (.ops A0h) (.keep A0f .ret)))⟩
def Aov:Ent:=⟨[],[],[],⟨(.mp (.res 0)),[some (.map .str (.st 5))],[],[(.mp .str (.st 5))],[],[]⟩,none,fun p=>Aka⟩
theorem Akb:Aov.ok Tryz.prog 98:=Au hm Tryz.func98 (fd:=Bal) (by kernel_rfl) (Ak (l:=[]) (y:=[]) trivial trivial) (by kernel_rfl) (fun p=>by kernel_rfl)
def Aaq:List TOp:=[oo 4 (.mov (.cst (.int .i64 0))),oo 5 (.mov (.cst (.bool false)))]
def Aar:List TOp:=[oo 8 (.mov (.tmp 0)),oo 9 (.nchk (.tmp 8)),oo 10 (.fld 2 (.tmp 9)),oo 11 (.load false 1 (.tmp 10)),oo 12 (.mov (.tmp 11)),og 13 12 false .bool (.mov (.tmp 0)),og 14 12 false .bool (.nchk (.tmp 13)),og 15 12 false .bool (.fld 1 (.tmp 14)),og 16 12 false .bool (.load false 1 (.tmp 15)),og 17 12 false .bool (.mov (.tmp 0)),og 18 12 false .bool (.nchk (.tmp 17)),og 19 12 false .bool (.fld 0 (.tmp 18)),og 20 12 false .bool (.load false 1 (.tmp 19)),og 21 12 false .bool (.len false (.tmp 20)),og 22 12 false .bool (.bin false .geq (.tmp 16) (.tmp 21)),oo 23 (.pick (.tmp 12) (.cst (.bool true)) (.tmp 22)),oo 24 (.mov (.tmp 23)),og 25 24 false .bool (.mov (.tmp 0)),og 26 24 false .bool (.nchk (.tmp 25)),og 27 24 false .bool (.fld 0 (.tmp 26)),og 28 24 false .bool (.load false 1 (.tmp 27)),og 29 24 false .bool (.mov (.tmp 0)),og 30 24 false .bool (.nchk (.tmp 29)),og 31 24 false .bool (.fld 1 (.tmp 30)),og 32 24 false .bool (.load false 1 (.tmp 31)),og 33 24 false .bool (.idx 4 (.tmp 28) (.tmp 32)),og 34 24 false .bool (.fld 0 (.tmp 33)),og 35 24 false .bool (.load false 1 (.tmp 34)),og 36 24 false .bool (.bin false .eql (.tmp 35) (.cst (.int .i64 2))),oo 37 (.pick (.tmp 24) (.cst (.bool true)) (.tmp 36))]
def Aas:List TOp:=[oo 4 (.mov (.cst (.int .i64 0))),oo 5 (.mov (.cst (.bool false)))]
def Jf:Kp:=⟨[],[(4,false),(5,false)],[(.ext 0,false)],[],[]⟩
def Aat:List TOp:=[oo 39 (.call 1 0 (.cst (.fn 98)) [] [] []),oo 40 (.mov (.tmp 0)),oo 41 (.nchk (.tmp 40)),oo 42 (.fld 0 (.tmp 41)),oo 43 (.load false 1 (.tmp 42)),oo 44 (.mov (.tmp 0)),oo 45 (.nchk (.tmp 44)),oo 46 (.fld 1 (.tmp 45)),oo 47 (.load false 1 (.tmp 46)),oo 48 (.idx 4 (.tmp 43) (.tmp 47)),oo 49 (.fld 3 (.tmp 48)),oo 50 (.load false 1 (.tmp 49)),oo 51 (.mlook .s true (.agg [(.int .i64 0),(.int .i64 0)]) (.tmp 39) (.tmp 50)),oo 38 (.mov (.tmp 51)),oo 52 (.ext 0 (.tmp 38)),oo 53 (.ext 1 (.tmp 38)),oo 6 (.alloc [.pv (.int .i64 0),.pv (.int .i64 0)]),on (.store 2 (.tmp 6) (.tmp 52)),oo 7 (.mov (.tmp 53))]
def Aau:List TOp:=[oo 54 (.fld 0 (.tmp 6)),oo 55 (.load false 1 (.tmp 54)),oo 56 (.mov (.tmp 7)),oo 57 (.mov (.tmp 56)),og 58 57 true .bool (.fld 1 (.tmp 6)),og 59 57 true .bool (.load false 1 (.tmp 58)),og 60 57 true .bool (.mov (.tmp 1)),og 61 57 true .bool (.bin false .eql (.tmp 59) (.tmp 60)),oo 62 (.pick (.tmp 57) (.tmp 61) (.cst (.bool false))),oo 4 (.mov (.tmp 55)),oo 5 (.mov (.tmp 62))]
def Ail:TFd:=⟨2,[(.tmp 4,.bool),(.tmp 5,.bool)],[],(.seq (.ops Aaq) (.seq (.seq (.draw [] Aar) (.cond (.tmp 37) (.free (.seq (.ops Aas) (.keep Jf .ret))) .skip)) (.seq (.draw [.loc 39 0,.loc 6 0] Aat) (.seq (.draw [] Aau) (.keep Jf .ret)))))⟩
def J2:Ent:=⟨[.ptr (.ext 0) 0,.ty (.int .i64)],[.st 3],[(.int .i64),(.st 3)],⟨(.tup [(.ty (.int .i64)),(.ty .bool)]),[],[some .same],[(.int .i64),.bool],[],[]⟩,none,fun p=>B6 p.1 p.2⟩
theorem Xi:J2.ok Tryz.prog 92:=Au hm Tryz.func92 (fd:=Ail) (by kernel_rfl) (Ak (l:=[(98,Aov)]) (y:=[]) ⟨Akb,trivial⟩ trivial) (by kernel_rfl) (fun p=>by kernel_rfl)
def Anq:List TOp:=[oo 2 (.mov .nils)]
def Anr:List TOp:=[oo 5 (.mov (.tmp 0)),oo 6 (.call 0 2 (.cst (.fn 54)) [(.tmp 5),(.cst (.str [105,102]))] [] [.ext 0]),oo 7 (.un .not (.tmp 6))]
def Ans:List TOp:=[oo 8 (.mov (.tmp 0)),oo 9 (.call 0 2 (.cst (.fn 55)) [(.tmp 8),(.cst (.int .i64 1))] [] [.ext 0]),oo 2 (.mov (.tmp 9))]
def Pi:Kp:=⟨[],[(2,false)],[(.ext 0,false)],[],[]⟩
def Ant:List TOp:=[oo 10 (.mov (.tmp 0)),oo 11 (.call 0 2 (.cst (.fn 30)) [(.tmp 10)] [] [.ext 0]),oo 3 (.mov (.tmp 11))]
def Anu:List TOp:=[oo 12 (.mov (.tmp 0)),ot 13 .str (.lit false 1 [(.cst (.str [116,104,101,110]))]),oo 14 (.call 0 2 (.cst (.fn 56)) [(.tmp 12),(.tmp 13)] [] [.ext 0])]
def Anv:List TOp:=[oo 15 (.mov (.tmp 0)),oo 16 (.call 0 2 (.cst (.fn 30)) [(.tmp 15)] [] [.ext 0]),oo 4 (.mov (.tmp 16))]
def Anw:List TOp:=[oo 17 (.mov (.tmp 0)),ot 18 .str (.lit false 1 [(.cst (.str [101,108,115,101]))]),oo 19 (.call 0 2 (.cst (.fn 56)) [(.tmp 17),(.tmp 18)] [] [.ext 0])]
def Anx:List TOp:=[oo 20 (.mov (.tmp 3)),oo 21 (.mov (.tmp 4)),oo 22 (.mov (.tmp 0)),oo 23 (.call 0 2 (.cst (.fn 30)) [(.tmp 22)] [] [.ext 0]),ot 24 (.sl (.st 4)) (.lit false 1 [(.tmp 20),(.tmp 21),(.tmp 23)]),oo 25 (.call 0 0 (.cst (.fn 57)) [(.cst (.int .i64 15)),(.tmp 24)] [] []),oo 2 (.mov (.tmp 25))]
def Asm:TFd:=⟨1,[(.tmp 2,.bool)],[],(.seq (.ops Anq) (.seq (.seq (.ops Anr) (.cond (.tmp 7) (.free (.seq (.ops Ans) (.keep Pi .ret))) .skip)) (.seq (.ops Ant) (.seq (.ops Anu) (.seq (.ops Anv) (.seq (.ops Anw) (.seq (.ops Anx) (.keep Pi .ret))))))))⟩
noncomputable def De(fuel:Nat):Ent:=⟨[.ptr (.ext 0) 0],[.st 3],[(.st 3)],⟨(.ty (.sl (.st 4))),[],[some (.st 3)],[(.sl (.st 4)),(.st 3)],[],[]⟩,none,fun p=>parse_reader_any fuel p⟩
def Aim:List TOp:=[oo 4 (.mov .nils)]
def Ain:List TOp:=[oo 8 (.mov (.tmp 0)),oo 9 (.nchk (.tmp 8)),oo 10 (.fld 2 (.tmp 9)),oo 11 (.load false 1 (.tmp 10))]
def Aio:List TOp:=[oo 4 (.mov .nils)]
def Cp:Kp:=⟨[],[(4,true)],[(.ext 0,false)],[],[]⟩
def Aip:List TOp:=[oo 12 (.mov (.tmp 1))]
def Aiq:List TOp:=[oo 14 (.bin false .eql (.tmp 12) (.cst (.int .i64 3))),oo 13 (.mov (.tmp 14))]
def Air:List TOp:=[oo 15 (.mov (.tmp 0)),oo 16 (.call 0 2 (.cst (.fn 54)) [(.tmp 15),(.cst (.str [110,111,116]))] [] [.ext 0])]
def Ais:List TOp:=[oo 17 (.mov (.tmp 0)),oo 18 (.call 0 2 (.cst (.fn 55)) [(.tmp 17),(.cst (.int .i64 3))] [] [.ext 0]),ot 19 (.sl (.st 4)) (.lit false 1 [(.tmp 18)]),oo 20 (.call 0 0 (.cst (.fn 57)) [(.cst (.int .i64 14)),(.tmp 19)] [] []),oo 4 (.mov (.tmp 20))]
def Ait:List TOp:=[oo 21 (.mov (.tmp 0)),oo 22 (.call 0 2 (.cst (.fn 55)) [(.tmp 21),(.cst (.int .i64 4))] [] [.ext 0]),oo 4 (.mov (.tmp 22))]
def Aiu:List TOp:=[oo 24 (.bin false .eql (.tmp 12) (.cst (.int .i64 7))),oo 23 (.mov (.tmp 24))]
def Ae1:List TOp:=[oo 25 (.mov (.tmp 0)),oo 26 (.call 0 2 (.cst (.fn 54)) [(.tmp 25),(.cst (.str [45]))] [] [.ext 0])]
def Ae2:List TOp:=[oo 27 (.mov (.tmp 0)),oo 28 (.call 0 2 (.cst (.fn 55)) [(.tmp 27),(.cst (.int .i64 7))] [] [.ext 0]),ot 29 (.sl (.st 4)) (.lit false 1 [(.tmp 28)]),oo 30 (.call 0 0 (.cst (.fn 57)) [(.cst (.int .i64 2)),(.tmp 29)] [] []),oo 4 (.mov (.tmp 30))]
def Ae3:List TOp:=[oo 31 (.mov (.tmp 0)),oo 32 (.call 0 2 (.cst (.fn 91)) [(.tmp 31)] [] [.ext 0]),oo 4 (.mov (.tmp 32))]
def Ae4:List TOp:=[oo 33 (.mov (.tmp 0)),oo 34 (.mov (.tmp 1)),oo 35 (.bin false .add (.tmp 34) (.cst (.int .i64 1))),oo 36 (.call 0 2 (.cst (.fn 55)) [(.tmp 33),(.tmp 35)] [] [.ext 0]),oo 5 (.mov (.tmp 36))]
def Ae5:List TOp:=[oo 38 (.mov (.tmp 0)),oo 39 (.mov (.tmp 1)),oo 40 (.call 0 2 (.cst (.fn 92)) [(.tmp 38),(.tmp 39)] [] [.ext 0]),oo 37 (.mov (.tmp 40)),oo 41 (.ext 0 (.tmp 37)),oo 42 (.ext 1 (.tmp 37)),oo 6 (.mov (.tmp 41)),oo 7 (.mov (.tmp 42))]
def Ae6:List TOp:=[oo 43 (.mov (.tmp 7))]
def Ae7:List TOp:=[oo 50 (.mov (.tmp 0)),oo 51 (.nchk (.tmp 50)),oo 52 (.fld 1 (.tmp 51)),oo 53 (.load false 1 (.tmp 52)),oo 54 (.bin false .add (.tmp 53) (.cst (.int .i64 1))),oo 55 (.nchk (.tmp 50)),oo 56 (.fld 1 (.tmp 55)),on (.store 1 (.tmp 56) (.tmp 54))]
def Ae8:List TOp:=[oo 57 (.mov (.tmp 6)),oo 58 (.mov (.tmp 5)),oo 59 (.mov (.tmp 0)),oo 60 (.mov (.tmp 1)),oo 61 (.bin false .add (.tmp 60) (.cst (.int .i64 1))),oo 62 (.call 0 2 (.cst (.fn 55)) [(.tmp 59),(.tmp 61)] [] [.ext 0]),ot 63 (.sl (.st 4)) (.lit false 1 [(.tmp 58),(.tmp 62)]),oo 64 (.call 0 0 (.cst (.fn 57)) [(.tmp 57),(.tmp 63)] [] []),oo 5 (.mov (.tmp 64))]
def Ae9:List TOp:=[oo 65 (.mov (.tmp 1)),oo 66 (.bin false .eql (.tmp 65) (.cst (.int .i64 4)))]
def Afa:List TOp:=[oo 45 (.mov (.tmp 0)),oo 46 (.mov (.tmp 1)),oo 47 (.call 0 2 (.cst (.fn 92)) [(.tmp 45),(.tmp 46)] [] [.ext 0]),oo 44 (.mov (.tmp 47)),oo 48 (.ext 0 (.tmp 44)),oo 49 (.ext 1 (.tmp 44)),oo 6 (.mov (.tmp 48)),oo 7 (.mov (.tmp 49))]
def Ae0:DC:=(.seq (.seq (.ops Ae6) (.cond (.tmp 43) .skip (.exit 1))) (.seq (.pass 2 (.seq (.ops Ae7) (.seq (.ops Ae8) (.seq (.ops Ae9) (.cond (.tmp 66) (.exit 1) .skip))))) (.ops Afa)))
def Aey:Kp:=⟨[],[(0,false),(1,false),(5,false),(6,false),(7,false)],[(.ext 0,false)],[],[]⟩
def Afc:Sig:=⟨[(0,some (.ptr (.ext 0) 0)),(1,none),(5,some (.ty (.sl (.st 4)))),(6,some (.ty (.int .i64))),(7,some (.ty .bool))],[(.ext 0,(.st 3))],[(.sl (.st 4)),(.int .i64),.bool,(.st 3)],[],[]⟩
def Aez:Kp:=⟨[],[(5,false)],[(.ext 0,false)],[],[]⟩
def Afd:Sig:=⟨[(5,some (.ty (.sl (.st 4))))],[(.ext 0,(.st 3))],[(.sl (.st 4)),(.st 3)],[],[]⟩
def Afb:List TOp:=[oo 67 (.mov (.tmp 5)),oo 4 (.mov (.tmp 67))]
def An9:TFd:=⟨2,[(.tmp 4,.bool)],[],(.seq (.ops Aim) (.seq (.seq (.ops Ain) (.cond (.tmp 11) (.free (.seq (.ops Aio) (.keep Cp .ret))) .skip)) (.seq (.seq (.ops Aip) (.pass 0 (.seq (.ops Aiq) (.cond (.tmp 13) (.free (.seq (.seq (.ops Air) (.cond (.tmp 16) (.free (.seq (.ops Ais) (.keep Cp .ret))) .skip)) (.seq (.ops Ait) (.keep Cp .ret)))) (.seq (.ops Aiu) (.cond (.tmp 23) (.free (.seq (.seq (.ops Ae1) (.cond (.tmp 26) (.free (.seq (.ops Ae2) (.keep Cp .ret))) .skip)) (.seq (.ops Ae3) (.keep Cp .ret)))) .skip)))))) (.seq (.ops Ae4) (.seq (.seq (.ops Ae5) (.join Aez Afd (.block 1 (.loop [0,1,5,6,7] [] Aey Afc Ae0)))) (.seq (.ops Afb) (.keep Cp .ret)))))))⟩
noncomputable def Hn(fuel:Nat):Ent:=⟨[.ptr (.ext 0) 0,.ty (.int .i64)],[.st 3],[(.int .i64),(.st 3)],⟨(.ty (.sl (.st 4))),[],[some (.st 3)],[(.sl (.st 4)),(.st 3)],[],[]⟩,none,fun p=>parse_reader_level fuel p.1 p.2⟩
def Aav:List TOp:=[oo 2 (.mov .nils)]
def Aaw:List TOp:=[oo 9 (.mov (.tmp 0)),oo 10 (.call 0 2 (.cst (.fn 54)) [(.tmp 9),(.cst (.str [40]))] [] [.ext 0]),oo 8 (.mov (.tmp 10))]
def Aax:List TOp:=[oo 11 (.mov (.tmp 0)),oo 12 (.call 0 2 (.cst (.fn 30)) [(.tmp 11)] [] [.ext 0]),oo 3 (.mov (.tmp 12))]
def Aay:List TOp:=[oo 13 (.mov (.tmp 0)),ot 14 .str (.lit false 1 [(.cst (.str [41]))]),oo 15 (.call 0 2 (.cst (.fn 56)) [(.tmp 13),(.tmp 14)] [] [.ext 0])]
def Aaz:List TOp:=[oo 16 (.mov (.tmp 3)),oo 2 (.mov (.tmp 16))]
def Dr:Kp:=⟨[],[(2,false)],[(.ext 0,false)],[],[]⟩
def Aa0:List TOp:=[oo 18 (.mov (.tmp 0)),oo 19 (.call 0 2 (.cst (.fn 63)) [(.tmp 18),(.cst (.str [109,105,110]))] [] [.ext 0]),oo 20 (.mov (.tmp 19)),og 21 20 false .bool (.mov (.tmp 0)),og 22 20 false .bool (.call 0 2 (.cst (.fn 63)) [(.tmp 21),(.cst (.str [109,97,120]))] [] [.ext 0]),oo 23 (.pick (.tmp 20) (.cst (.bool true)) (.tmp 22)),oo 17 (.mov (.tmp 23))]
def Aa1:List TOp:=[oo 4 (.mov (.cst (.int .i64 16)))]
def Aa2:List TOp:=[oo 24 (.mov (.tmp 0)),oo 25 (.call 0 2 (.cst (.fn 63)) [(.tmp 24),(.cst (.str [109,97,120]))] [] [.ext 0])]
def Aa3:List TOp:=[oo 4 (.mov (.cst (.int .i64 17)))]
def Vl:Kp:=⟨[],[(0,false),(4,false)],[(.ext 0,false)],[],[]⟩
def V0:Sig:=⟨[(0,some (.ptr (.ext 0) 0)),(4,some (.ty (.int .i64)))],[(.ext 0,(.box [none,none,none]))],[(.int .i64)],[],[]⟩
def Vn:List TOp:=[oo 26 (.mov (.tmp 0)),oo 27 (.nchk (.tmp 26)),oo 28 (.fld 1 (.tmp 27)),oo 29 (.load false 1 (.tmp 28)),oo 30 (.bin false .add (.tmp 29) (.cst (.int .i64 1))),oo 31 (.nchk (.tmp 26)),oo 32 (.fld 1 (.tmp 31)),on (.store 1 (.tmp 32) (.tmp 30))]
def Vo:List TOp:=[oo 33 (.mov (.tmp 0)),ot 34 .str (.lit false 1 [(.cst (.str [40]))]),oo 35 (.call 0 2 (.cst (.fn 56)) [(.tmp 33),(.tmp 34)] [] [.ext 0])]
def Vp:List TOp:=[oo 36 (.mov (.tmp 0)),oo 37 (.call 0 2 (.cst (.fn 30)) [(.tmp 36)] [] [.ext 0]),oo 5 (.mov (.tmp 37))]
def Vq:List TOp:=[oo 38 (.mov (.tmp 0)),ot 39 .str (.lit false 1 [(.cst (.str [44]))]),oo 40 (.call 0 2 (.cst (.fn 56)) [(.tmp 38),(.tmp 39)] [] [.ext 0])]
def Vr:List TOp:=[oo 41 (.mov (.tmp 0)),oo 42 (.call 0 2 (.cst (.fn 30)) [(.tmp 41)] [] [.ext 0]),oo 6 (.mov (.tmp 42))]
def Vs:List TOp:=[oo 43 (.mov (.tmp 0)),ot 44 .str (.lit false 1 [(.cst (.str [41]))]),oo 45 (.call 0 2 (.cst (.fn 56)) [(.tmp 43),(.tmp 44)] [] [.ext 0])]
def Vt:List TOp:=[oo 46 (.mov (.tmp 4)),oo 47 (.mov (.tmp 5)),oo 48 (.mov (.tmp 6)),ot 49 (.sl (.st 4)) (.lit false 1 [(.tmp 47),(.tmp 48)]),oo 50 (.call 0 0 (.cst (.fn 57)) [(.tmp 46),(.tmp 49)] [] []),oo 2 (.mov (.tmp 50))]
def Vu:List TOp:=[oo 52 (.mov (.tmp 0)),oo 53 (.nchk (.tmp 52)),oo 54 (.fld 1 (.tmp 53)),oo 55 (.load false 1 (.tmp 54)),oo 56 (.mov (.tmp 0)),oo 57 (.nchk (.tmp 56)),oo 58 (.fld 0 (.tmp 57)),oo 59 (.load false 1 (.tmp 58)),oo 60 (.len false (.tmp 59)),oo 61 (.bin false .lss (.tmp 55) (.tmp 60)),oo 62 (.mov (.tmp 61)),og 63 62 true .bool (.mov (.tmp 0)),og 64 62 true .bool (.nchk (.tmp 63)),og 65 62 true .bool (.fld 0 (.tmp 64)),og 66 62 true .bool (.load false 1 (.tmp 65)),og 67 62 true .bool (.mov (.tmp 0)),og 68 62 true .bool (.nchk (.tmp 67)),og 69 62 true .bool (.fld 1 (.tmp 68)),og 70 62 true .bool (.load false 1 (.tmp 69)),og 71 62 true .bool (.idx 4 (.tmp 66) (.tmp 70)),og 72 62 true .bool (.fld 0 (.tmp 71)),og 73 62 true .bool (.load false 1 (.tmp 72)),og 74 62 true .bool (.bin false .eql (.tmp 73) (.cst (.int .i64 1))),oo 75 (.pick (.tmp 62) (.tmp 74) (.cst (.bool false))),oo 51 (.mov (.tmp 75))]
def Vv:List TOp:=[oo 76 (.mov (.tmp 0)),oo 77 (.call 0 2 (.cst (.fn 61)) [(.tmp 76),(.cst (.int .i64 1)),(.cst (.bool false))] [] [.ext 0]),oo 7 (.mov (.tmp 77))]
def Vw:List TOp:=[oo 78 (.mov (.tmp 0)),oo 79 (.call 0 2 (.cst (.fn 54)) [(.tmp 78),(.cst (.str [37]))] [] [.ext 0])]
def Vx:List TOp:=[oo 80 (.mov (.tmp 7)),oo 81 (.bin false .add (.tmp 80) (.cst (.str [37]))),oo 7 (.mov (.tmp 81))]
def Vm:Kp:=⟨[],[(7,false)],[(.ext 0,false)],[],[]⟩
def V1:Sig:=⟨[(7,some (.ty .str))],[(.ext 0,(.box [none,none,none]))],[.str],[],[]⟩
def Vy:List TOp:=[oo 82 (.mov (.tmp 7)),ot 83 (.st 4) (.build [.pv (.int .i64 0),.pv (.str [])] [(0,1,(.cst (.int .i64 0))),(1,1,(.tmp 82))]),ot 84 (.st 4) (.lit false 2 [(.tmp 83)]),oo 2 (.mov (.tmp 84))]
def Vz:List TOp:=[oo 85 (.mov (.tmp 0)),oo 86 (.call 0 2 (.cst (.fn 61)) [(.tmp 85),(.cst (.int .i64 0)),(.cst (.bool false))] [] [.ext 0]),ot 87 (.st 4) (.build [.pv (.int .i64 0),.pv (.str [])] [(0,1,(.cst (.int .i64 1))),(1,1,(.tmp 86))]),ot 88 (.st 4) (.lit false 2 [(.tmp 87)]),oo 2 (.mov (.tmp 88))]
def Aiv:TFd:=⟨1,[(.tmp 2,.bool)],[],(.seq (.ops Aav) (.seq (.pass 0 (.seq (.ops Aaw) (.cond (.tmp 8) (.free (.seq (.ops Aax) (.seq (.ops Aay) (.seq (.ops Aaz) (.keep Dr .ret))))) (.seq (.ops Aa0) (.cond (.tmp 17) (.free (.seq (.ops Aa1) (.seq (.seq (.ops Aa2) (.join Vl V0 (.cond (.tmp 25) (.ops Aa3) .skip))) (.seq (.ops Vn) (.seq (.ops Vo) (.seq (.ops Vp) (.seq (.ops Vq) (.seq (.ops Vr) (.seq (.ops Vs) (.seq (.ops Vt) (.keep Dr .ret))))))))))) (.seq (.draw [] Vu) (.cond (.tmp 51) (.free (.seq (.ops Vv) (.seq (.seq (.ops Vw) (.join Vm V1 (.cond (.tmp 79) (.ops Vx) .skip))) (.seq (.ops Vy) (.keep Dr .ret))))) .skip))))))) (.seq (.ops Vz) (.keep Dr .ret))))⟩
noncomputable def J3(fuel:Nat):Ent:=⟨[.ptr (.ext 0) 0],[.st 3],[(.st 3)],⟨(.ty (.sl (.st 4))),[],[some (.st 3)],[(.sl (.st 4)),(.st 3)],[],[]⟩,none,fun p=>parse_reader_primary fuel p⟩
theorem Bx: ∀fuel:Nat,(De fuel).ok Tryz.prog 30∧(Hn fuel).ok Tryz.prog 55∧(J3 fuel).ok Tryz.prog 91
 |0=>⟨(fun p r h=>(by have h:none=some r:=h;cases h)),(fun p r h=>(by have h:none=some r:=h;cases h)),(fun p r h=>(by have h:none=some r:=h;cases h))⟩
 |fuel+1=>⟨
  Au hm Tryz.func30 (fd:=Asm) (by kernel_rfl) (Ak (l:=[(54,Dy),(55,(Hn fuel)),(30,(De fuel)),(56,Dx),(57,Pt)]) (y:=[]) ⟨E1,(Bx fuel).2.1,(Bx fuel).1,E0,U0,trivial⟩ trivial) (by kernel_rfl) (fun p=>by kernel_rfl),
  Au hm Tryz.func55 (fd:=An9) (by kernel_rfl) (Ak (l:=[(54,Dy),(55,(Hn fuel)),(57,Pt),(91,(J3 fuel)),(92,J2)]) (y:=[]) ⟨E1,(Bx fuel).2.1,U0,(Bx fuel).2.2,Xi,trivial⟩ trivial) (by kernel_rfl) (fun p=>by kernel_rfl),
  Au hm Tryz.func91 (fd:=Aiv) (by kernel_rfl) (Ak (l:=[(54,Dy),(30,(De fuel)),(56,Dx),(63,G8),(57,Pt),(61,Fh)]) (y:=[]) ⟨E1,(Bx fuel).1,E0,Iu,U0,Ho,trivial⟩ trivial) (by kernel_rfl) (fun p=>by kernel_rfl)⟩
theorem Pf(fuel:Nat):(De fuel).ok Tryz.prog 30:=(Bx fuel).1
def A9u:List TOp:=[oo 2 (.mov (.cst (.int .i64 0)))]
def A9v:List TOp:=[oo 4 (.mov (.tmp 0)),oo 5 (.bin false .lss (.tmp 4) (.cst (.int .i64 0))),oo 6 (.mov (.tmp 5)),og 7 6 false .bool (.mov (.tmp 0)),og 8 6 false .bool (.bin false .gtr (.tmp 7) (.cst (.int .i64 17))),oo 9 (.pick (.tmp 6) (.cst (.bool true)) (.tmp 8)),oo 3 (.mov (.tmp 9))]
def A9w:List TOp:=[oo 2 (.mov (.cst (.int .i64 (-1))))]
def J8:Kp:=⟨[],[(2,false)],[],[],[]⟩
def A9x:List TOp:=[oo 11 (.mov (.tmp 0)),oo 12 (.bin false .leq (.tmp 11) (.cst (.int .i64 1))),oo 10 (.mov (.tmp 12))]
def A9y:List TOp:=[oo 2 (.mov (.cst (.int .i64 0)))]
def A9z:List TOp:=[oo 14 (.mov (.tmp 0)),oo 15 (.bin false .eql (.tmp 14) (.cst (.int .i64 2))),oo 16 (.mov (.tmp 15)),og 17 16 false .bool (.mov (.tmp 0)),og 18 16 false .bool (.bin false .eql (.tmp 17) (.cst (.int .i64 14))),oo 19 (.pick (.tmp 16) (.cst (.bool true)) (.tmp 18)),oo 13 (.mov (.tmp 19))]
def A90:List TOp:=[oo 2 (.mov (.cst (.int .i64 1)))]
def A91:List TOp:=[oo 21 (.mov (.tmp 0)),oo 22 (.bin false .eql (.tmp 21) (.cst (.int .i64 15))),oo 20 (.mov (.tmp 22))]
def A92:List TOp:=[oo 2 (.mov (.cst (.int .i64 3)))]
def A3y:List TOp:=[oo 2 (.mov (.cst (.int .i64 2)))]
def Bh1:TFd:=⟨1,[(.tmp 2,.bool)],[],(.seq (.ops A9u) (.seq (.pass 0 (.seq (.ops A9v) (.cond (.tmp 3) (.free (.seq (.ops A9w) (.keep J8 .ret))) (.seq (.ops A9x) (.cond (.tmp 10) (.free (.seq (.ops A9y) (.keep J8 .ret))) (.seq (.ops A9z) (.cond (.tmp 13) (.free (.seq (.ops A90) (.keep J8 .ret))) (.seq (.ops A91) (.cond (.tmp 20) (.free (.seq (.ops A92) (.keep J8 .ret))) .skip))))))))) (.seq (.ops A3y) (.keep J8 .ret))))⟩
def Aj7:Ent:=⟨[.ty (.int .i64)],[],[(.int .i64)],⟨(.ty (.int .i64)),[],[],[(.int .i64)],[],[]⟩,none,fun p=>Ls p⟩
theorem Ar3:Aj7.ok Tryz.prog 68:=Au hm Tryz.func68 (fd:=Bh1) (by kernel_rfl) (Ak (l:=[]) (y:=[]) trivial trivial) (by kernel_rfl) (fun p=>by kernel_rfl)
def Ws:List TOp:=[oo 4 (.mov (.cst (.bool false)))]
def Wt:List TOp:=[oo 5 (.mov (.tmp 0)),oo 6 (.len true (.tmp 5)),oo 7 (.mov (.tmp 1)),oo 8 (.len true (.tmp 7)),oo 9 (.bin false .geq (.tmp 6) (.tmp 8)),oo 10 (.mov (.tmp 9)),og 11 10 true .bool (.mov (.tmp 0)),og 12 10 true .bool (.mov (.tmp 0)),og 13 10 true .bool (.len true (.tmp 12)),og 14 10 true .bool (.mov (.tmp 1)),og 15 10 true .bool (.len true (.tmp 14)),og 16 10 true .bool (.bin false .sub (.tmp 13) (.tmp 15)),og 17 10 true .bool (.slc true 0 (.tmp 11) (some (.tmp 16)) none),og 18 10 true .bool (.mov (.tmp 1)),og 19 10 true .bool (.bin false .eql (.tmp 17) (.tmp 18)),oo 20 (.pick (.tmp 10) (.tmp 19) (.cst (.bool false))),oo 4 (.mov (.tmp 20))]
def Wr:Kp:=⟨[],[(4,false)],[],[],[]⟩
def Aff:TFd:=⟨2,[(.tmp 4,.bool)],[],(.seq (.ops Ws) (.seq (.ops Wt) (.keep Wr .ret)))⟩
def Fx:Ent:=⟨[.ty .str,.ty .str],[],[.str,.str],⟨(.ty .bool),[],[],[.bool],[],[]⟩,none,fun p=>stringslite_HasSuffix p.1 p.2⟩
theorem Ij:Fx.ok Tryz.prog 140:=Au hm Tryz.func140 (fd:=Aff) (by kernel_rfl) (Ak (l:=[]) (y:=[]) trivial trivial) (by kernel_rfl) (fun p=>by kernel_rfl)
def Tu:List TOp:=[oo 4 (.mov (.cst (.str [])))]
def Tv:List TOp:=[oo 5 (.mov (.tmp 0)),oo 6 (.mov (.tmp 1)),oo 7 (.call 0 0 (.cst (.fn 140)) [(.tmp 5),(.tmp 6)] [] [])]
def Tw:List TOp:=[oo 8 (.mov (.tmp 0)),oo 9 (.mov (.tmp 0)),oo 10 (.len true (.tmp 9)),oo 11 (.mov (.tmp 1)),oo 12 (.len true (.tmp 11)),oo 13 (.bin false .sub (.tmp 10) (.tmp 12)),oo 14 (.slc true 0 (.tmp 8) none (some (.tmp 13))),oo 4 (.mov (.tmp 14))]
def Hz:Kp:=⟨[],[(4,false)],[],[],[]⟩
def Tx:List TOp:=[oo 15 (.mov (.tmp 0)),oo 4 (.mov (.tmp 15))]
def Abh:TFd:=⟨2,[(.tmp 4,.bool)],[],(.seq (.ops Tu) (.seq (.seq (.ops Tv) (.cond (.tmp 7) (.free (.seq (.ops Tw) (.keep Hz .ret))) .skip)) (.seq (.ops Tx) (.keep Hz .ret))))⟩
def Ik:Ent:=⟨[.ty .str,.ty .str],[],[.str,.str],⟨(.ty .str),[],[],[.str],[],[]⟩,none,fun p=>stringslite_TrimSuffix p.1 p.2⟩
theorem T3:Ik.ok Tryz.prog 120:=Au hm Tryz.func120 (fd:=Abh) (by kernel_rfl) (Ak (l:=[(140,Fx)]) (y:=[]) ⟨Ij,trivial⟩ trivial) (by kernel_rfl) (fun p=>by kernel_rfl)
def Aiy:List TOp:=[oo 4 (.mov (.cst (.str [])))]
def Aiz:List TOp:=[oo 5 (.mov (.tmp 0)),oo 6 (.mov (.tmp 1)),oo 7 (.call 0 0 (.cst (.fn 120)) [(.tmp 5),(.tmp 6)] [] []),oo 4 (.mov (.tmp 7))]
def Aix:Kp:=⟨[],[(4,false)],[],[],[]⟩
def Aoa:TFd:=⟨2,[(.tmp 4,.bool)],[],(.seq (.ops Aiy) (.seq (.ops Aiz) (.keep Aix .ret)))⟩
def Oq:Ent:=⟨[.ty .str,.ty .str],[],[.str,.str],⟨(.ty .str),[],[],[.str],[],[]⟩,none,fun p=>strings_TrimSuffix p.1 p.2⟩
theorem Ai2:Oq.ok Tryz.prog 106:=Au hm Tryz.func106 (fd:=Aoa) (by kernel_rfl) (Ak (l:=[(120,Ik)]) (y:=[]) ⟨T3,trivial⟩ trivial) (by kernel_rfl) (fun p=>by kernel_rfl)
def A8e:List TOp:=[oo 1 (.box (.tmp 0)),oo 2 (.mov (.cst (.bool false)))]
def A8f:List TOp:=[oo 6 (.fld 3 (.tmp 1)),oo 7 (.load false 1 (.tmp 6)),oo 8 (.bin false .eql (.tmp 7) (.cst (.str [])))]
def A8g:List TOp:=[oo 2 (.mov (.cst (.bool false)))]
def Ar8:Kp:=⟨[],[(2,false)],[],[],[]⟩
def A8h:List TOp:=[oo 10 (.fld 3 (.tmp 1)),oo 11 (.load false 1 (.tmp 10)),oo 12 (.call 0 0 (.cst (.fn 89)) [(.tmp 11)] [] []),oo 9 (.mov (.tmp 12)),oo 13 (.ext 0 (.tmp 9)),oo 14 (.ext 1 (.tmp 9)),oo 15 (.ext 2 (.tmp 9)),oo 3 (.mov (.tmp 13)),oo 4 (.mov (.tmp 14)),oo 5 (.mov (.tmp 15))]
def A8i:List TOp:=[oo 16 (.mov (.tmp 5)),oo 17 (.bin false .eql (.tmp 16) (.cst (.int .i64 0))),oo 18 (.mov (.tmp 17)),og 19 18 true .bool (.mov (.tmp 3)),og 20 18 true .bool (.fld 0 (.tmp 1)),og 21 18 true .bool (.load false 1 (.tmp 20)),og 22 18 true .bool (.bin false .eql (.tmp 19) (.tmp 21)),oo 23 (.pick (.tmp 18) (.tmp 22) (.cst (.bool false))),oo 24 (.mov (.tmp 23)),og 25 24 true .bool (.mov (.tmp 4)),og 26 24 true .bool (.fld 3 (.tmp 1)),og 27 24 true .bool (.load false 1 (.tmp 26)),og 28 24 true .bool (.len true (.tmp 27)),og 29 24 true .bool (.bin false .eql (.tmp 25) (.tmp 28)),oo 30 (.pick (.tmp 24) (.tmp 29) (.cst (.bool false))),oo 2 (.mov (.tmp 30))]
def Bho:TFd:=⟨1,[(.tmp 2,.bool)],[],(.seq (.ops A8e) (.seq (.seq (.ops A8f) (.cond (.tmp 8) (.free (.seq (.ops A8g) (.keep Ar8 .ret))) .skip)) (.seq (.ops A8h) (.seq (.ops A8i) (.keep Ar8 .ret)))))⟩
noncomputable def Ajr:Ent:=⟨[.ty (.st 2)],[],[(.st 2)],⟨(.ty .bool),[],[],[.bool],[],[]⟩,none,fun p=>Xa p⟩
theorem Art:Ajr.ok Tryz.prog 103:=Au hm Tryz.func103 (fd:=Bho) (by kernel_rfl) (Ak (l:=[(89,Aps)]) (y:=[]) ⟨Au1,trivial⟩ trivial) (by kernel_rfl) (fun p=>by kernel_rfl)
def Av0:List TOp:=[oo 2 (.mov (.cst (.bool false)))]
def Av1:List TOp:=[oo 3 (.mov (.tmp 0)),ot 4 (.st 2) (.build [.pv (.int .i64 0),.pv (.int .i64 0),.pv (.int .i64 0),.pv (.str [])] [(0,1,(.cst (.int .i64 1))),(3,1,(.tmp 3))]),oo 5 (.call 0 0 (.cst (.fn 103)) [(.tmp 4)] [] []),oo 2 (.mov (.tmp 5))]
def Avz:Kp:=⟨[],[(2,false)],[],[],[]⟩
def A4l:TFd:=⟨1,[(.tmp 2,.bool)],[],(.seq (.ops Av0) (.seq (.ops Av1) (.keep Avz .ret)))⟩
noncomputable def J1:Ent:=⟨[.ty .str],[],[.str],⟨(.ty .bool),[],[],[.bool],[],[]⟩,none,fun p=>Ez p⟩
theorem Oy:J1.ok Tryz.prog 75:=Au hm Tryz.func75 (fd:=A4l) (by kernel_rfl) (Ak (l:=[(103,Ajr)]) (y:=[]) ⟨Art,trivial⟩ trivial) (by kernel_rfl) (fun p=>by kernel_rfl)
def A4w:List TOp:=[oo 4 (.mov (.cst (.bool false)))]
def A4x:List TOp:=[oo 5 (.mov (.tmp 0)),ot 6 (.st 2) (.build [.pv (.int .i64 0),.pv (.int .i64 0),.pv (.int .i64 0),.pv (.str [])] [(0,1,(.cst (.int .i64 0))),(3,1,(.tmp 5))]),oo 7 (.call 0 0 (.cst (.fn 103)) [(.tmp 6)] [] []),oo 8 (.mov (.tmp 7)),og 9 8 true .bool (.mov (.tmp 0)),og 10 8 true .bool (.mov (.tmp 1)),og 11 8 true .bool (.call 0 0 (.cst (.fn 96)) [(.tmp 9),(.tmp 10)] [] []),og 12 8 true .bool (.un .not (.tmp 11)),oo 13 (.pick (.tmp 8) (.tmp 12) (.cst (.bool false))),oo 4 (.mov (.tmp 13))]
def A4v:Kp:=⟨[],[(4,false)],[],[],[]⟩
def Bec:TFd:=⟨2,[(.tmp 4,.bool)],[],(.seq (.ops A4w) (.seq (.ops A4x) (.keep A4v .ret)))⟩
noncomputable def Acf:Ent:=⟨[.ty .str,.ty .bool],[],[.str,.bool],⟨(.ty .bool),[],[],[.bool],[],[]⟩,none,fun p=>Lu p.1 p.2⟩
theorem Aox:Acf.ok Tryz.prog 74:=Au hm Tryz.func74 (fd:=Bec) (by kernel_rfl) (Ak (l:=[(103,Ajr),(96,Aj8)]) (y:=[]) ⟨Art,Ar5,trivial⟩ trivial) (by kernel_rfl) (fun p=>by kernel_rfl)
def A3z:List TOp:=[oo 1 (.box (.tmp 0)),oo 2 (.mov (.cst (.bool false)))]
def A30:List TOp:=[oo 3 (.fld 0 (.tmp 1)),oo 4 (.load false 1 (.tmp 3))]
def A31:List TOp:=[oo 6 (.bin false .eql (.tmp 4) (.cst (.int .i64 0))),oo 5 (.mov (.tmp 6))]
def A32:List TOp:=[oo 7 (.fld 1 (.tmp 1)),oo 8 (.load false 1 (.tmp 7)),oo 9 (.call 0 0 (.cst (.fn 106)) [(.tmp 8),(.cst (.str [37]))] [] []),oo 10 (.call 0 0 (.cst (.fn 75)) [(.tmp 9)] [] []),oo 2 (.mov (.tmp 10))]
def Vk:Kp:=⟨[],[(2,false)],[],[],[]⟩
def A33:List TOp:=[oo 12 (.bin false .eql (.tmp 4) (.cst (.int .i64 1))),oo 11 (.mov (.tmp 12))]
def A34:List TOp:=[oo 13 (.fld 1 (.tmp 1)),oo 14 (.load false 1 (.tmp 13)),oo 15 (.call 0 0 (.cst (.fn 74)) [(.tmp 14),(.cst (.bool false))] [] []),oo 2 (.mov (.tmp 15))]
def A35:List TOp:=[oo 16 (.fld 1 (.tmp 1)),oo 17 (.load false 1 (.tmp 16)),oo 18 (.bin false .eql (.tmp 17) (.cst (.str []))),oo 2 (.mov (.tmp 18))]
def Bd9:TFd:=⟨1,[(.tmp 2,.bool)],[],(.seq (.ops A3z) (.seq (.seq (.ops A30) (.pass 0 (.seq (.ops A31) (.cond (.tmp 5) (.free (.seq (.ops A32) (.keep Vk .ret))) (.seq (.ops A33) (.cond (.tmp 11) (.free (.seq (.ops A34) (.keep Vk .ret))) .skip)))))) (.seq (.ops A35) (.keep Vk .ret))))⟩
noncomputable def Ar4:Ent:=⟨[.ty (.st 4)],[],[(.st 4)],⟨(.ty .bool),[],[],[.bool],[],[]⟩,none,fun p=>Acc p⟩
theorem A2r:Ar4.ok Tryz.prog 81:=Au hm Tryz.func81 (fd:=Bd9) (by kernel_rfl) (Ak (l:=[(106,Oq),(75,J1),(74,Acf)]) (y:=[]) ⟨Ai2,Oy,Aox,trivial⟩ trivial) (by kernel_rfl) (fun p=>by kernel_rfl)
def A4m:List TOp:=[oo 2 (.mov .nils),oo 3 (.mov (.cst (.int .i64 0)))]
def A4n:List TOp:=[oo 8 (.mov (.tmp 0)),oo 9 (.len false (.tmp 8)),oo 10 (.bin false .eql (.tmp 9) (.cst (.int .i64 0))),oo 11 (.mov (.tmp 10)),og 12 11 false .bool (.mov (.tmp 0)),og 13 11 false .bool (.idx 2 (.tmp 12) (.cst (.int .i64 0))),og 14 11 false .bool (.fld 0 (.tmp 13)),og 15 11 false .bool (.load false 1 (.tmp 14)),og 16 11 false .bool (.call 0 0 (.cst (.fn 68)) [(.tmp 15)] [] []),og 17 11 false .bool (.bin false .lss (.tmp 16) (.cst (.int .i64 0))),oo 18 (.pick (.tmp 11) (.cst (.bool true)) (.tmp 17)),oo 19 (.mov (.tmp 18)),og 20 19 false .bool (.mov (.tmp 0)),og 21 19 false .bool (.idx 2 (.tmp 20) (.cst (.int .i64 0))),og 22 19 false (.st 4) (.load true 2 (.tmp 21)),og 23 19 false .bool (.call 0 0 (.cst (.fn 81)) [(.tmp 22)] [] []),og 24 19 false .bool (.un .not (.tmp 23)),oo 25 (.pick (.tmp 19) (.cst (.bool true)) (.tmp 24))]
def A4o:List TOp:=[oo 2 (.mov .nils),oo 3 (.mov (.cst (.int .i64 0)))]
def Wl:Kp:=⟨[],[(2,true),(3,false)],[],[],[]⟩
def A4p:List TOp:=[oo 26 (.mov (.tmp 0)),ot 27 (.st 4) (.slc false 2 (.tmp 26) (some (.cst (.int .i64 1))) none),oo 4 (.mov (.tmp 27)),oo 5 (.mov (.cst (.int .i64 0)))]
def A4q:List TOp:=[oo 28 (.mov (.tmp 0)),oo 29 (.idx 2 (.tmp 28) (.cst (.int .i64 0))),oo 30 (.fld 0 (.tmp 29)),oo 31 (.load false 1 (.tmp 30)),oo 32 (.call 0 0 (.cst (.fn 68)) [(.tmp 31)] [] []),oo 33 (.mov (.cst (.int .i64 0)))]
def A4r:List TOp:=[oo 34 (.bin false .lss (.tmp 33) (.tmp 32))]
def A4s:List TOp:=[oo 36 (.mov (.tmp 4)),oo 37 (.call 0 0 (.cst (.fn 46)) [(.tmp 36)] [] []),oo 35 (.mov (.tmp 37)),oo 38 (.ext 0 (.tmp 35)),oo 39 (.ext 1 (.tmp 35)),oo 6 (.mov (.tmp 38)),oo 7 (.mov (.tmp 39))]
def A4t:List TOp:=[oo 40 (.mov (.tmp 7)),oo 41 (.bin false .eql (.tmp 40) (.cst (.int .i64 0)))]
def A4u:List TOp:=[oo 2 (.mov .nils),oo 3 (.mov (.cst (.int .i64 0)))]
def A0v:List TOp:=[oo 42 (.mov (.tmp 6)),oo 43 (.mov (.tmp 5)),oo 44 (.mov (.tmp 7)),oo 45 (.mm true (.tmp 43) [(.tmp 44)]),oo 4 (.mov (.tmp 42)),oo 5 (.mov (.tmp 45))]
def A0w:List TOp:=[oo 46 (.bin false .add (.tmp 33) (.cst (.int .i64 1))),oo 33 (.mov (.tmp 46))]
def A0u:DC:=(.seq (.ops A4r) (.seq (.cond (.tmp 34) .skip (.exit 0)) (.seq (.pass 1 (.seq (.ops A4s) (.seq (.seq (.ops A4t) (.cond (.tmp 41) (.free (.seq (.ops A4u) (.keep Wl .ret))) .skip)) (.ops A0v)))) (.ops A0w))))
def A0s:Kp:=⟨[],[(4,false),(5,false),(32,false),(33,false)],[],[],[]⟩
def A0y:Sig:=⟨[(4,some (.ty (.sl (.st 4)))),(5,some (.ty (.int .i64))),(32,none),(33,some (.ty (.int .i64)))],[],[(.sl (.st 4)),(.int .i64),(.int .i64)],[],[]⟩
def A0t:Kp:=⟨[],[(4,false),(5,false)],[],[],[]⟩
def A0z:Sig:=⟨[(4,some (.ty (.sl (.st 4)))),(5,some (.ty (.int .i64)))],[],[(.sl (.st 4)),(.int .i64)],[],[]⟩
def A0x:List TOp:=[oo 47 (.mov (.tmp 4)),oo 48 (.mov (.tmp 5)),oo 49 (.bin false .add (.tmp 48) (.cst (.int .i64 1))),oo 2 (.mov (.tmp 47)),oo 3 (.mov (.tmp 49))]
def Beb:TFd:=⟨1,[(.tmp 2,.bool),(.tmp 3,.bool)],[],(.seq (.ops A4m) (.seq (.seq (.ops A4n) (.cond (.tmp 25) (.free (.seq (.ops A4o) (.keep Wl .ret))) .skip)) (.seq (.ops A4p) (.seq (.seq (.ops A4q) (.joinO A0t A0z (.block 0 (.loop [4,5,32,33] [] A0s A0y A0u)))) (.seq (.ops A0x) (.keep Wl .ret))))))⟩
noncomputable def Ace(fuel:Nat):Ent:=⟨[.ty (.sl (.st 4))],[],[(.sl (.st 4))],⟨(.tup [(.ty (.sl (.st 4))),(.ty (.int .i64))]),[],[],[(.sl (.st 4)),(.int .i64)],[],[]⟩,none,fun p=>Iv fuel p⟩
theorem Aow: ∀fuel:Nat,(Ace fuel).ok Tryz.prog 46
 |0=>fun p r h=>by have h:none=some r:=h;cases h
 |fuel+1=>Au hm Tryz.func46 (fd:=Beb) (by kernel_rfl) (Ak (l:=[(68,Aj7),(81,Ar4),(46,(Ace fuel))]) (y:=[]) ⟨Ar3,A2r,(Aow fuel),trivial⟩ trivial) (by kernel_rfl) (fun p=>by kernel_rfl)
def Azp:List TOp:=[oo 2 (.mov (.cst (.int .i64 0)))]
def Azq:List TOp:=[oo 5 (.mov (.tmp 0)),oo 6 (.len false (.tmp 5)),oo 7 (.bin false .gtr (.tmp 6) (.cst (.int .i64 200)))]
def Azr:List TOp:=[oo 2 (.mov (.cst (.int .i64 0)))]
def Rx:Kp:=⟨[],[(2,false)],[],[],[]⟩
def Azs:List TOp:=[oo 9 (.mov (.tmp 0)),oo 10 (.call 0 0 (.cst (.fn 46)) [(.tmp 9)] [] []),oo 8 (.mov (.tmp 10)),oo 11 (.ext 0 (.tmp 8)),oo 12 (.ext 1 (.tmp 8)),oo 3 (.mov (.tmp 11)),oo 4 (.mov (.tmp 12))]
def Azt:List TOp:=[oo 13 (.mov (.tmp 3)),oo 14 (.len false (.tmp 13)),oo 15 (.bin false .gtr (.tmp 14) (.cst (.int .i64 0))),oo 16 (.mov (.tmp 15)),og 17 16 false .bool (.mov (.tmp 4)),og 18 16 false .bool (.bin false .gtr (.tmp 17) (.cst (.int .i64 24))),oo 19 (.pick (.tmp 16) (.cst (.bool true)) (.tmp 18))]
def Azu:List TOp:=[oo 2 (.mov (.cst (.int .i64 0)))]
def Azv:List TOp:=[oo 20 (.mov (.tmp 4)),oo 2 (.mov (.tmp 20))]
def A9q:TFd:=⟨1,[(.tmp 2,.bool)],[],(.seq (.ops Azp) (.seq (.seq (.ops Azq) (.cond (.tmp 7) (.free (.seq (.ops Azr) (.keep Rx .ret))) .skip)) (.seq (.ops Azs) (.seq (.seq (.ops Azt) (.cond (.tmp 19) (.free (.seq (.ops Azu) (.keep Rx .ret))) .skip)) (.seq (.ops Azv) (.keep Rx .ret))))))⟩
noncomputable def Mt:Ent:=⟨[.ty (.sl (.st 4))],[],[(.sl (.st 4))],⟨(.ty (.int .i64)),[],[],[(.int .i64)],[],[]⟩,none,fun p=>I8 p⟩
theorem Q7:Mt.ok Tryz.prog 21:=Au hm Tryz.func21 (fd:=A9q) (by kernel_rfl) (Ak (l:=[(46,(Ace 100000))]) (y:=[]) ⟨(Aow 100000),trivial⟩ trivial) (by kernel_rfl) (fun p=>by kernel_rfl)
def Az2:List TOp:=[oo 2 (.mov (.cst (.bool false)))]
def Az3:List TOp:=[oo 3 (.mov (.tmp 0)),oo 4 (.call 0 0 (.cst (.fn 21)) [(.tmp 3)] [] []),oo 5 (.bin false .gtr (.tmp 4) (.cst (.int .i64 0))),oo 2 (.mov (.tmp 5))]
def Az1:Kp:=⟨[],[(2,false)],[],[],[]⟩
def A9s:TFd:=⟨1,[(.tmp 2,.bool)],[],(.seq (.ops Az2) (.seq (.ops Az3) (.keep Az1 .ret)))⟩
noncomputable def E4:Ent:=⟨[.ty (.sl (.st 4))],[],[(.sl (.st 4))],⟨(.ty .bool),[],[],[.bool],[],[]⟩,none,fun p=>Dk p⟩
theorem Fs:E4.ok Tryz.prog 23:=Au hm Tryz.func23 (fd:=A9s) (by kernel_rfl) (Ak (l:=[(21,Mt)]) (y:=[]) ⟨Q7,trivial⟩ trivial) (by kernel_rfl) (fun p=>by kernel_rfl)
def Anz:List TOp:=[oo 6 (.mov (.cst (.int .i64 0))),oo 7 (.mov (.cst (.int .i64 0))),oo 8 (.mov (.cst (.int .i64 0)))]
def An0:List TOp:=[oo 13 (.mov (.tmp 0)),oo 14 (.nchk (.tmp 13)),oo 15 (.fld 1 (.tmp 14)),oo 16 (.load false 1 (.tmp 15)),oo 17 (.mov (.tmp 0)),oo 18 (.nchk (.tmp 17)),oo 19 (.fld 0 (.tmp 18)),oo 20 (.load false 1 (.tmp 19)),oo 21 (.len false (.tmp 20)),oo 22 (.bin false .lss (.tmp 16) (.tmp 21)),oo 12 (.mov (.tmp 22))]
def An1:List TOp:=[oo 23 (.mov (.tmp 0)),oo 24 (.nchk (.tmp 23)),oo 25 (.fld 0 (.tmp 24)),oo 26 (.load false 1 (.tmp 25)),oo 27 (.mov (.tmp 0)),oo 28 (.nchk (.tmp 27)),oo 29 (.fld 1 (.tmp 28)),oo 30 (.load false 1 (.tmp 29)),oo 31 (.idx 4 (.tmp 26) (.tmp 30)),oo 32 (.fld 1 (.tmp 31)),oo 33 (.load false 1 (.tmp 32)),oo 34 (.mov (.tmp 0)),oo 35 (.nchk (.tmp 34)),oo 36 (.fld 0 (.tmp 35)),oo 37 (.load false 1 (.tmp 36)),oo 38 (.mov (.tmp 0)),oo 39 (.nchk (.tmp 38)),oo 40 (.fld 1 (.tmp 39)),oo 41 (.load false 1 (.tmp 40)),oo 42 (.idx 4 (.tmp 37) (.tmp 41)),oo 43 (.fld 2 (.tmp 42)),oo 44 (.load false 1 (.tmp 43)),oo 6 (.mov (.tmp 33)),oo 7 (.mov (.tmp 44)),oo 8 (.mov (.cst (.int .i64 14)))]
def Fi:Kp:=⟨[],[(6,false),(7,false),(8,false)],[(.ext 0,false)],[],[]⟩
def An3:List TOp:=[oo 46 (.mov (.tmp 0)),oo 47 (.nchk (.tmp 46)),oo 48 (.fld 2 (.tmp 47)),oo 49 (.load false 1 (.tmp 48)),oo 45 (.mov (.tmp 49))]
def An4:List TOp:=[oo 51 (.mov (.tmp 1)),oo 52 (.mov (.tmp 1)),oo 53 (.len true (.tmp 52)),oo 54 (.call 0 0 (.cst (.fn 53)) [(.tmp 51),(.tmp 53)] [] []),oo 50 (.mov (.tmp 54)),oo 55 (.ext 0 (.tmp 50)),oo 56 (.ext 1 (.tmp 50)),oo 57 (.ext 2 (.tmp 50)),oo 9 (.mov (.tmp 55)),oo 10 (.mov (.tmp 56)),oo 11 (.mov (.tmp 57))]
def An5:List TOp:=[oo 58 (.mov (.tmp 9)),oo 59 (.mov (.tmp 10)),oo 6 (.mov (.tmp 58)),oo 7 (.mov (.tmp 59)),oo 8 (.mov (.cst (.int .i64 14)))]
def An6:List TOp:=[oo 61 (.mov (.tmp 2)),oo 62 (.un .not (.tmp 61)),oo 60 (.mov (.tmp 62))]
def An7:List TOp:=[oo 6 (.mov (.cst (.int .i64 1))),oo 7 (.mov (.cst (.int .i64 1))),oo 8 (.mov (.cst (.int .i64 4)))]
def An8:List TOp:=[oo 6 (.mov (.cst (.int .i64 0))),oo 7 (.mov (.cst (.int .i64 0))),oo 8 (.mov (.cst (.int .i64 0)))]
def Asn:TFd:=⟨3,[(.tmp 6,.bool),(.tmp 7,.bool),(.tmp 8,.bool)],[],(.seq (.ops Anz) (.seq (.pass 0 (.seq (.draw [] An0) (.cond (.tmp 12) (.free (.seq (.draw [] An1) (.keep Fi .ret))) (.seq (.ops An3) (.cond (.tmp 45) (.free (.seq (.ops An4) (.seq (.ops An5) (.keep Fi .ret)))) (.seq (.ops An6) (.cond (.tmp 60) (.free (.seq (.ops An7) (.keep Fi .ret))) .skip))))))) (.seq (.ops An8) (.keep Fi .ret))))⟩
def It:Ent:=⟨[.ptr (.ext 0) 0,.ty .str,.ty .bool],[.st 3],[.str,.bool,(.st 3)],⟨(.tup [(.ty (.int .i64)),(.ty (.int .i64)),(.ty (.int .i64))]),[],[some .same],[(.int .i64),(.int .i64),(.int .i64)],[],[]⟩,none,fun p=>Ft p.1 p.2.1 p.2.2⟩
theorem Pg:It.ok Tryz.prog 31:=Au hm Tryz.func31 (fd:=Asn) (by kernel_rfl) (Ak (l:=[(53,Ajq)]) (y:=[]) ⟨Ars,trivial⟩ trivial) (by kernel_rfl) (fun p=>by kernel_rfl)
def A3p:List TOp:=[oo 2 (.mov .nils),oo 3 (.mov (.cst (.int .i64 0))),oo 4 (.mov (.cst (.int .i64 0))),oo 5 (.mov (.cst (.int .i64 0)))]
def A3q:List TOp:=[oo 15 (.mov (.tmp 0)),oo 16 (.call 1 0 (.cst (.fn 29)) [(.tmp 15)] [] []),oo 14 (.mov (.tmp 16)),oo 17 (.ext 0 (.tmp 14)),oo 18 (.ext 1 (.tmp 14)),oo 19 (.ext 2 (.tmp 14)),oo 20 (.ext 3 (.tmp 14)),oo 6 (.mov (.tmp 17)),oo 7 (.mov (.tmp 18)),oo 8 (.mov (.tmp 19)),oo 9 (.mov (.tmp 20))]
def A3r:List TOp:=[oo 21 (.mov (.tmp 9)),oo 22 (.bin false .neq (.tmp 21) (.cst (.int .i64 0)))]
def A3s:List TOp:=[oo 23 (.mov (.tmp 7)),oo 24 (.mov (.tmp 8)),oo 25 (.mov (.tmp 9)),oo 2 (.mov .nils),oo 3 (.mov (.tmp 23)),oo 4 (.mov (.tmp 24)),oo 5 (.mov (.tmp 25))]
def Vj:Kp:=⟨[],[(2,true),(3,false),(4,false),(5,false)],[],[],[]⟩
def A3t:List TOp:=[oo 26 (.mov (.tmp 6)),oo 27 (.call 0 2 (.cst (.fn 30)) [(.tmp 26)] [] [.loc 16 0]),oo 10 (.mov (.tmp 27))]
def A3u:List TOp:=[oo 29 (.mov (.tmp 6)),oo 30 (.mov (.tmp 0)),oo 31 (.mov (.tmp 10)),oo 32 (.call 0 0 (.cst (.fn 23)) [(.tmp 31)] [] []),oo 33 (.call 0 2 (.cst (.fn 31)) [(.tmp 29),(.tmp 30),(.tmp 32)] [] [.loc 16 0]),oo 28 (.mov (.tmp 33)),oo 34 (.ext 0 (.tmp 28)),oo 35 (.ext 1 (.tmp 28)),oo 36 (.ext 2 (.tmp 28)),oo 11 (.mov (.tmp 34)),oo 12 (.mov (.tmp 35)),oo 13 (.mov (.tmp 36))]
def A3v:List TOp:=[oo 37 (.mov (.tmp 13)),oo 38 (.bin false .neq (.tmp 37) (.cst (.int .i64 0)))]
def A3w:List TOp:=[oo 39 (.mov (.tmp 11)),oo 40 (.mov (.tmp 12)),oo 41 (.mov (.tmp 13)),oo 2 (.mov .nils),oo 3 (.mov (.tmp 39)),oo 4 (.mov (.tmp 40)),oo 5 (.mov (.tmp 41))]
def A3x:List TOp:=[oo 42 (.mov (.tmp 10)),oo 2 (.mov (.tmp 42)),oo 3 (.mov (.cst (.int .i64 0))),oo 4 (.mov (.cst (.int .i64 0))),oo 5 (.mov (.cst (.int .i64 0)))]
def Bd8:TFd:=⟨1,[(.tmp 2,.bool),(.tmp 3,.bool),(.tmp 4,.bool),(.tmp 5,.bool)],[],(.seq (.ops A3p) (.seq (.ops A3q) (.seq (.seq (.ops A3r) (.cond (.tmp 22) (.free (.seq (.ops A3s) (.keep Vj .ret))) .skip)) (.seq (.ops A3t) (.seq (.seq (.ops A3u) (.seq (.ops A3v) (.cond (.tmp 38) (.free (.seq (.ops A3w) (.keep Vj .ret))) .skip))) (.seq (.ops A3x) (.keep Vj .ret)))))))⟩
noncomputable def Ar2:Ent:=⟨[.ty .str],[],[.str],⟨(.tup [(.ty (.sl (.st 4))),(.ty (.int .i64)),(.ty (.int .i64)),(.ty (.int .i64))]),[],[],[(.sl (.st 4)),(.int .i64),(.int .i64),(.int .i64)],[],[]⟩,none,fun p=>Ef p⟩
theorem A2q:Ar2.ok Tryz.prog 9:=Au hm Tryz.func9 (fd:=Bd8) (by kernel_rfl) (Ak (l:=[(29,Uz),(30,(De 100000)),(23,E4),(31,It)]) (y:=[]) ⟨Aj6,(Pf 100000),Fs,Pg,trivial⟩ trivial) (by kernel_rfl) (fun p=>by kernel_rfl)
def Aou:Ent:=⟨[.ty (.int .i64)],[],[.int .i64],⟨(.tup [(.ty (.int .i64)),(.ty .str),(.ty (.int .i64)),(.ty (.int .i64))]),[],[],[(.int .i64),.str,(.int .i64),(.int .i64)],[],[]⟩,none,fun p=>Aj9 p⟩
theorem At0:Aou.ok Tryz.prog 67:=fun p r h=>by
 have h:some (placeOf p)=some r:=h
 cases h
 exact Ay5 (es:=List.map (Bva Bn0 Ar.pv) (B5.map fun p=>(p.1,(⟨p.2.1,p.2.2⟩:Ar)))) (by kernel_rfl) (Akb () _ (by kernel_rfl))
def Wn:List TOp:=[oo 4 (.mov (.cst (.str []))),oo 5 (.mov (.cst (.bool false)))]
def Wo:List TOp:=[oo 6 (.mov (.tmp 0)),oo 7 (.mov (.tmp 1)),oo 8 (.call 0 0 (.cst (.fn 140)) [(.tmp 6),(.tmp 7)] [] []),oo 9 (.un .not (.tmp 8))]
def Wp:List TOp:=[oo 10 (.mov (.tmp 0)),oo 4 (.mov (.tmp 10)),oo 5 (.mov (.cst (.bool false)))]
def Ie:Kp:=⟨[],[(4,false),(5,false)],[],[],[]⟩
def Wq:List TOp:=[oo 11 (.mov (.tmp 0)),oo 12 (.mov (.tmp 0)),oo 13 (.len true (.tmp 12)),oo 14 (.mov (.tmp 1)),oo 15 (.len true (.tmp 14)),oo 16 (.bin false .sub (.tmp 13) (.tmp 15)),oo 17 (.slc true 0 (.tmp 11) none (some (.tmp 16))),oo 4 (.mov (.tmp 17)),oo 5 (.mov (.cst (.bool true)))]
def Afe:TFd:=⟨2,[(.tmp 4,.bool),(.tmp 5,.bool)],[],(.seq (.ops Wn) (.seq (.seq (.ops Wo) (.cond (.tmp 9) (.free (.seq (.ops Wp) (.keep Ie .ret))) .skip)) (.seq (.ops Wq) (.keep Ie .ret))))⟩
def Ji:Ent:=⟨[.ty .str,.ty .str],[],[.str,.str],⟨(.tup [(.ty .str),(.ty .bool)]),[],[],[.str,.bool],[],[]⟩,none,fun p=>stringslite_CutSuffix p.1 p.2⟩
theorem Wx:Ji.ok Tryz.prog 117:=Au hm Tryz.func117 (fd:=Afe) (by kernel_rfl) (Ak (l:=[(140,Fx)]) (y:=[]) ⟨Ij,trivial⟩ trivial) (by kernel_rfl) (fun p=>by kernel_rfl)
def Aly:List TOp:=[oo 4 (.mov (.cst (.str []))),oo 5 (.mov (.cst (.bool false)))]
def Alz:List TOp:=[oo 6 (.mov (.tmp 0)),oo 7 (.mov (.tmp 1)),oo 8 (.call 0 0 (.cst (.fn 117)) [(.tmp 6),(.tmp 7)] [] []),oo 9 (.ext 0 (.tmp 8)),oo 10 (.ext 1 (.tmp 8)),oo 4 (.mov (.tmp 9)),oo 5 (.mov (.tmp 10))]
def Alx:Kp:=⟨[],[(4,false),(5,false)],[],[],[]⟩
def Aqu:TFd:=⟨2,[(.tmp 4,.bool),(.tmp 5,.bool)],[],(.seq (.ops Aly) (.seq (.ops Alz) (.keep Alx .ret)))⟩
def Pj:Ent:=⟨[.ty .str,.ty .str],[],[.str,.str],⟨(.tup [(.ty .str),(.ty .bool)]),[],[],[.str,.bool],[],[]⟩,none,fun p=>strings_CutSuffix p.1 p.2⟩
theorem Al4:Pj.ok Tryz.prog 99:=Au hm Tryz.func99 (fd:=Aqu) (by kernel_rfl) (Ak (l:=[(117,Ji)]) (y:=[]) ⟨Wx,trivial⟩ trivial) (by kernel_rfl) (fun p=>by kernel_rfl)
def Abi:Ent:=⟨[.nils,.ty (.int .i64)],[],[(.int .i64)],⟨(.own (.res 0)),[some (.row .str)],[],[(.sl .str)],[],[]⟩,none,fun p=>C2 (List UInt8) 16 p⟩
theorem Aob:Abi.ok Tryz.prog 100:=fun p r h=>by
 obtain⟨e1,e2⟩:=Abk (show C2 (List UInt8) 16 p=some r from h)
 subst e1
 exact As0 e2
def Lv:List TOp:=[oo 2 (.mov .nils)]
def Lw:List TOp:=[oo 3 (.mov (.cst (.int .i64 0)))]
def Lx:List TOp:=[oo 9 (.mov (.tmp 0)),oo 10 (.len false (.tmp 9)),oo 11 (.mov (.cst (.int .i64 0)))]
def Ly:List TOp:=[oo 12 (.bin false .lss (.tmp 11) (.tmp 10))]
def Lz:List TOp:=[oo 13 (.idx 1 (.tmp 9) (.tmp 11)),oo 14 (.load false 1 (.tmp 13)),oo 5 (.mov (.tmp 14))]
def L0:List TOp:=[oo 15 (.mov (.tmp 3)),oo 16 (.mov (.tmp 5)),oo 17 (.len false (.tmp 16)),oo 18 (.bin false .add (.tmp 15) (.tmp 17)),oo 3 (.mov (.tmp 18))]
def L1:List TOp:=[oo 19 (.mov (.tmp 3)),oo 20 (.bin false .lss (.tmp 19) (.cst (.int .i64 0)))]
def Fv:Kp:=⟨[],[(0,false),(3,false),(9,false),(10,false),(11,false)],[],[],[]⟩
def L3:Sig:=⟨[(0,none),(3,none),(9,none),(10,none),(11,none)],[],[],[],[]⟩
def L2:List TOp:=[oo 22 (.bin false .add (.tmp 11) (.cst (.int .i64 1))),oo 11 (.mov (.tmp 22))]
def Kx:DC:=(.seq (.ops Ly) (.seq (.cond (.tmp 12) .skip (.exit 0)) (.seq (.pass 1 (.seq (.ops Lz) (.seq (.ops L0) (.seq (.ops L1) (.join Fv L3 (.cond (.tmp 20) .stuck .skip)))))) (.ops L2))))
def K8:Sig:=⟨[(0,none),(3,some (.ty (.int .i64))),(9,none),(10,none),(11,some (.ty (.int .i64)))],[],[(.int .i64),(.int .i64)],[],[]⟩
def Kt:Kp:=⟨[],[(0,false),(3,false)],[],[],[]⟩
def K9:Sig:=⟨[(0,none),(3,some (.ty (.int .i64)))],[],[(.int .i64)],[],[]⟩
def Kz:List TOp:=[oo 23 (.mov (.tmp 3)),oo 24 (.call 1 3 (.cst (.fn 100)) [.nils,(.tmp 23)] [] []),oo 6 (.mov (.tmp 24))]
def K0:List TOp:=[oo 25 (.mov (.tmp 0)),oo 26 (.len false (.tmp 25)),oo 27 (.mov (.cst (.int .i64 0)))]
def K3:List TOp:=[oo 28 (.bin false .lss (.tmp 27) (.tmp 26))]
def K4:List TOp:=[oo 29 (.idx 1 (.tmp 25) (.tmp 27)),oo 30 (.load false 1 (.tmp 29)),oo 8 (.mov (.tmp 30))]
def K5:List TOp:=[oo 31 (.mov (.tmp 6)),oo 32 (.mov (.tmp 8)),ot 33 .str (.append 24 1 16 (.tmp 31) (.tmp 32)),oo 6 (.mov (.tmp 33))]
def K6:List TOp:=[oo 34 (.bin false .add (.tmp 27) (.cst (.int .i64 1))),oo 27 (.mov (.tmp 34))]
def Ky:DC:=(.seq (.ops K3) (.seq (.cond (.tmp 28) .skip (.exit 2)) (.seq (.pass 3 (.seq (.ops K4) (.ops K5))) (.ops K6))))
def Ku:Kp:=⟨[],[(6,false),(25,false),(26,false),(27,false)],[(.loc 24 0,false)],[],[]⟩
def La:Sig:=⟨[(6,some (.own (.loc 24 0))),(25,none),(26,none),(27,some (.ty (.int .i64)))],[(.loc 24 0,(.row .str))],[(.int .i64),(.sl .str)],[],[]⟩
def Kv:Kp:=⟨[.loc 24 0],[(6,true)],[],[],[]⟩
def Lb:Sig:=⟨[(6,some (.ty (.sl .str)))],[],[(.sl .str)],[],[]⟩
def K7:List TOp:=[oo 35 (.mov (.tmp 6)),oo 2 (.mov (.tmp 35))]
def Kw:Kp:=⟨[],[(2,false)],[],[],[]⟩
def O8:TFd:=⟨1,[(.tmp 2,.bool)],[],(.seq (.ops Lv) (.seq (.ops Lw) (.seq (.seq (.ops Lx) (.join Kt K9 (.block 0 (.loop [0,3,9,10,11] [] Fv K8 Kx)))) (.seq (.ops Kz) (.seq (.seq (.ops K0) (.join Kv Lb (.block 2 (.loop [6,25,26,27] [] Ku La Ky)))) (.seq (.ops K7) (.keep Kw .ret)))))))⟩
noncomputable def Dp:Ent:=⟨[.ty (.sl (.sl .str))],[],[(.sl (.sl .str))],⟨(.ty (.sl .str)),[],[],[(.sl .str)],[],[]⟩,none,fun p=>Am p⟩
theorem Fw:Dp.ok Tryz.prog 70:=Au hm Tryz.func70 (fd:=O8) (by kernel_rfl) (Ak (l:=[(100,Abi)]) (y:=[]) ⟨Aob,trivial⟩ trivial) (by kernel_rfl) (fun p=>by kernel_rfl)
def A00:List TOp:=[oo 3 (.box (.tmp 0)),oo 6 (.mov .nils)]
def A01:List TOp:=[oo 10 (.fld 0 (.tmp 3)),oo 11 (.load false 1 (.tmp 10))]
def A02:List TOp:=[oo 13 (.bin false .eql (.tmp 11) (.cst (.int .i64 0))),oo 12 (.mov (.tmp 13))]
def A03:List TOp:=[oo 15 (.fld 1 (.tmp 3)),oo 16 (.load false 1 (.tmp 15)),oo 17 (.call 0 0 (.cst (.fn 99)) [(.tmp 16),(.cst (.str [37]))] [] []),oo 14 (.mov (.tmp 17)),oo 18 (.ext 0 (.tmp 14)),oo 19 (.ext 1 (.tmp 14)),oo 7 (.mov (.tmp 18)),oo 8 (.mov (.tmp 19))]
def A04:List TOp:=[oo 20 (.mov (.tmp 8))]
def A05:List TOp:=[oo 21 (.mov (.tmp 7)),ot 22 .str (.lit false 1 [(.tmp 21),(.cst (.str [37]))]),oo 6 (.mov (.tmp 22))]
def Dn:Kp:=⟨[.loc 33 0,.loc 40 0],[(6,true)],[],[],[]⟩
def A06:List TOp:=[oo 23 (.fld 1 (.tmp 3)),oo 24 (.load false 1 (.tmp 23)),ot 25 .str (.lit false 1 [(.tmp 24)]),oo 6 (.mov (.tmp 25))]
def A07:List TOp:=[oo 27 (.bin false .eql (.tmp 11) (.cst (.int .i64 1))),oo 26 (.mov (.tmp 27))]
def A08:List TOp:=[oo 28 (.fld 1 (.tmp 3)),oo 29 (.load false 1 (.tmp 28)),ot 30 .str (.lit false 1 [(.tmp 29)]),oo 6 (.mov (.tmp 30))]
def Awq:List TOp:=[oo 32 (.bin false .eql (.tmp 11) (.cst (.int .i64 2))),oo 31 (.mov (.tmp 32))]
def Awr:List TOp:=[ot 33 .str (.lit true 1 [(.cst (.str [45]))]),oo 34 (.mov (.tmp 2)),oo 35 (.idx 1 (.tmp 34) (.cst (.int .i64 0))),oo 36 (.load false 1 (.tmp 35)),ot 37 .str (.append 33 1 16 (.tmp 33) (.tmp 36)),oo 6 (.mov (.tmp 37))]
def Aws:List TOp:=[oo 39 (.bin false .eql (.tmp 11) (.cst (.int .i64 14))),oo 38 (.mov (.tmp 39))]
def Awt:List TOp:=[ot 40 .str (.lit true 1 [(.cst (.str [110,111,116]))]),oo 41 (.mov (.tmp 2)),oo 42 (.idx 1 (.tmp 41) (.cst (.int .i64 0))),oo 43 (.load false 1 (.tmp 42)),ot 44 .str (.append 40 1 16 (.tmp 40) (.tmp 43)),oo 6 (.mov (.tmp 44))]
def Awu:List TOp:=[oo 46 (.bin false .eql (.tmp 11) (.cst (.int .i64 15))),oo 45 (.mov (.tmp 46))]
def Awv:List TOp:=[ot 47 .str (.lit false 1 [(.cst (.str [105,102]))]),oo 48 (.mov (.tmp 2)),oo 49 (.idx 1 (.tmp 48) (.cst (.int .i64 0))),oo 50 (.load false 1 (.tmp 49)),ot 51 .str (.lit false 1 [(.cst (.str [116,104,101,110]))]),oo 52 (.mov (.tmp 2)),oo 53 (.idx 1 (.tmp 52) (.cst (.int .i64 1))),oo 54 (.load false 1 (.tmp 53)),ot 55 .str (.lit false 1 [(.cst (.str [101,108,115,101]))]),oo 56 (.mov (.tmp 2)),oo 57 (.idx 1 (.tmp 56) (.cst (.int .i64 2))),oo 58 (.load false 1 (.tmp 57)),ot 59 (.sl .str) (.lit false 1 [(.tmp 47),(.tmp 50),(.tmp 51),(.tmp 54),(.tmp 55),(.tmp 58)]),oo 60 (.call 0 0 (.cst (.fn 70)) [(.tmp 59)] [] []),oo 6 (.mov (.tmp 60))]
def Aww:List TOp:=[oo 62 (.bin false .eql (.tmp 11) (.cst (.int .i64 16))),oo 61 (.mov (.tmp 62))]
def Awx:List TOp:=[oo 63 (.bin false .eql (.tmp 11) (.cst (.int .i64 17))),oo 61 (.mov (.tmp 63))]
def Awo:Kp:=⟨[],[(1,false),(2,false),(3,false),(61,false)],[(.loc 3 0,false)],[],[]⟩
def Aw3:Sig:=⟨[(1,none),(2,none),(3,some (.ptr (.loc 3 0) 0)),(61,some (.ty .bool))],[(.loc 3 0,(.box [none,none]))],[.bool],[],[]⟩
def Awy:List TOp:=[oo 9 (.mov (.cst (.str [109,105,110])))]
def Awz:List TOp:=[oo 64 (.fld 0 (.tmp 3)),oo 65 (.load false 1 (.tmp 64)),oo 66 (.bin false .eql (.tmp 65) (.cst (.int .i64 17)))]
def Aw0:List TOp:=[oo 9 (.mov (.cst (.str [109,97,120])))]
def Awp:Kp:=⟨[],[(2,false),(9,false)],[],[.loc 3 0],[]⟩
def Aw4:Sig:=⟨[(2,none),(9,some (.ty .str))],[],[.str],[],[]⟩
def Aw1:List TOp:=[oo 67 (.mov (.tmp 9)),ot 68 .str (.lit false 1 [(.tmp 67),(.cst (.str [40]))]),oo 69 (.mov (.tmp 2)),oo 70 (.idx 1 (.tmp 69) (.cst (.int .i64 0))),oo 71 (.load false 1 (.tmp 70)),ot 72 .str (.lit false 1 [(.cst (.str [44]))]),oo 73 (.mov (.tmp 2)),oo 74 (.idx 1 (.tmp 73) (.cst (.int .i64 1))),oo 75 (.load false 1 (.tmp 74)),ot 76 .str (.lit false 1 [(.cst (.str [41]))]),ot 77 (.sl .str) (.lit false 1 [(.tmp 68),(.tmp 71),(.tmp 72),(.tmp 75),(.tmp 76)]),oo 78 (.call 0 0 (.cst (.fn 70)) [(.tmp 77)] [] []),oo 6 (.mov (.tmp 78))]
def Aw2:List TOp:=[oo 79 (.mov (.tmp 2)),oo 80 (.idx 1 (.tmp 79) (.cst (.int .i64 0))),oo 81 (.load false 1 (.tmp 80)),oo 82 (.mov (.tmp 1)),ot 83 .str (.lit false 1 [(.tmp 82)]),oo 84 (.mov (.tmp 2)),oo 85 (.idx 1 (.tmp 84) (.cst (.int .i64 1))),oo 86 (.load false 1 (.tmp 85)),ot 87 (.sl .str) (.lit false 1 [(.tmp 81),(.tmp 83),(.tmp 86)]),oo 88 (.call 0 0 (.cst (.fn 70)) [(.tmp 87)] [] []),oo 6 (.mov (.tmp 88))]
def Ban:TFd:=⟨3,[(.tmp 6,.bool)],[],(.seq (.ops A00) (.seq (.seq (.ops A01) (.pass 0 (.seq (.ops A02) (.cond (.tmp 12) (.free (.seq (.seq (.ops A03) (.seq (.ops A04) (.cond (.tmp 20) (.free (.seq (.ops A05) (.keep Dn .ret))) .skip))) (.seq (.ops A06) (.keep Dn .ret)))) (.seq (.ops A07) (.cond (.tmp 26) (.free (.seq (.ops A08) (.keep Dn .ret))) (.seq (.ops Awq) (.cond (.tmp 31) (.free (.seq (.ops Awr) (.keep Dn .ret))) (.seq (.ops Aws) (.cond (.tmp 38) (.free (.seq (.ops Awt) (.keep Dn .ret))) (.seq (.ops Awu) (.cond (.tmp 45) (.free (.seq (.draw [] Awv) (.keep Dn .ret))) (.seq (.seq (.ops Aww) (.join Awo Aw3 (.cond (.tmp 61) .skip (.ops Awx)))) (.cond (.tmp 61) (.free (.seq (.ops Awy) (.seq (.seq (.ops Awz) (.join Awp Aw4 (.cond (.tmp 66) (.ops Aw0) .skip))) (.seq (.draw [] Aw1) (.keep Dn .ret))))) .skip)))))))))))))) (.seq (.draw [] Aw2) (.keep Dn .ret))))⟩
noncomputable def Aoy:Ent:=⟨[.ty (.st 4),.ty .str,.ty (.sl (.sl .str))],[],[(.st 4),.str,(.sl (.sl .str))],⟨(.ty (.sl .str)),[],[],[(.sl .str)],[],[]⟩,none,fun p=>Uk p.1 p.2.1 p.2.2⟩
theorem Ay4:Aoy.ok Tryz.prog 69:=Au hm Tryz.func69 (fd:=Ban) (by kernel_rfl) (Ak (l:=[(99,Pj),(70,Dp)]) (y:=[]) ⟨Al4,Fw,trivial⟩ trivial) (by kernel_rfl) (fun p=>by kernel_rfl)
def A0i:List TOp:=[oo 4 (.mov .nils),oo 5 (.mov .nils)]
def A0j:List TOp:=[oo 18 (.mov (.tmp 0)),oo 19 (.idx 2 (.tmp 18) (.cst (.int .i64 0))),ot 20 (.st 4) (.load true 2 (.tmp 19)),oo 21 (.mov (.tmp 0)),ot 22 (.st 4) (.slc false 2 (.tmp 21) (some (.cst (.int .i64 1))) none),oo 6 (.alloc [.pv (.int .i64 0),.pv (.str [])]),on (.store 2 (.tmp 6) (.tmp 20)),oo 7 (.mov (.tmp 22))]
def A0k:List TOp:=[oo 8 (.mov .nils)]
def A0l:List TOp:=[oo 24 (.fld 0 (.tmp 6)),oo 25 (.load false 1 (.tmp 24)),oo 26 (.call 0 0 (.cst (.fn 67)) [(.tmp 25)] [] []),oo 23 (.mov (.tmp 26)),oo 27 (.ext 0 (.tmp 23)),oo 28 (.ext 1 (.tmp 23)),oo 29 (.ext 2 (.tmp 23)),oo 30 (.ext 3 (.tmp 23)),oo 9 (.mov (.tmp 27)),oo 10 (.mov (.tmp 28)),oo 11 (.mov (.tmp 29)),oo 12 (.mov (.tmp 30))]
def A0m:List TOp:=[oo 31 (.mov (.tmp 11)),oo 32 (.mov (.tmp 12)),ot 33 (.int .i64) (.lit false 1 [(.tmp 31),(.tmp 32),(.cst (.int .i64 0))]),oo 13 (.mov (.tmp 33))]
def A0n:List TOp:=[oo 34 (.fld 0 (.tmp 6)),oo 35 (.load false 1 (.tmp 34))]
def A0o:List TOp:=[oo 37 (.bin false .eql (.tmp 35) (.cst (.int .i64 2))),oo 36 (.mov (.tmp 37))]
def A0p:List TOp:=[ot 38 (.int .i64) (.lit false 1 [(.cst (.int .i64 7))]),oo 9 (.mov (.cst (.int .i64 7))),oo 13 (.mov (.tmp 38))]
def A0q:List TOp:=[oo 40 (.bin false .eql (.tmp 35) (.cst (.int .i64 14))),oo 39 (.mov (.tmp 40))]
def A0r:List TOp:=[ot 41 (.int .i64) (.lit false 1 [(.cst (.int .i64 3))]),oo 9 (.mov (.cst (.int .i64 3))),oo 13 (.mov (.tmp 41))]
def Av8:List TOp:=[oo 43 (.bin false .eql (.tmp 35) (.cst (.int .i64 15))),oo 42 (.mov (.tmp 43))]
def Av9:List TOp:=[oo 9 (.mov (.cst (.int .i64 0)))]
def Av2:Kp:=⟨[],[(1,false),(6,false),(7,false),(8,false),(9,false),(10,false),(13,false)],[(.loc 6 0,false)],[],[]⟩
def Awk:Sig:=⟨[(1,none),(6,some (.ptr (.loc 6 0) 0)),(7,none),(8,some .nils),(9,some (.ty (.int .i64))),(10,none),(13,some (.ty (.sl (.int .i64))))],[(.loc 6 0,(.box [none,none]))],[(.int .i64),(.sl (.int .i64))],[],[]⟩
def Awa:List TOp:=[oo 44 (.fld 0 (.tmp 6)),oo 45 (.load false 1 (.tmp 44)),oo 46 (.call 0 0 (.cst (.fn 68)) [(.tmp 45)] [] []),oo 47 (.mov (.cst (.int .i64 0)))]
def Awb:List TOp:=[oo 48 (.bin false .lss (.tmp 47) (.tmp 46))]
def Awc:List TOp:=[oo 49 (.mov (.tmp 47)),oo 14 (.mov (.tmp 49))]
def Awd:List TOp:=[oo 51 (.mov (.tmp 7)),oo 52 (.mov (.tmp 13)),oo 53 (.mov (.tmp 14)),oo 54 (.idx 1 (.tmp 52) (.tmp 53)),oo 55 (.load false 1 (.tmp 54)),oo 56 (.call 0 0 (.cst (.fn 37)) [(.tmp 51),(.tmp 55)] [] []),oo 50 (.mov (.tmp 56)),oo 57 (.ext 0 (.tmp 50)),oo 58 (.ext 1 (.tmp 50)),oo 15 (.mov (.tmp 57)),oo 16 (.mov (.tmp 58))]
def Awe:List TOp:=[oo 59 (.mov (.tmp 8)),oo 60 (.mov (.tmp 15)),ot 61 (.sl .str) (.lit false 1 [(.tmp 60)]),ot 62 (.sl .str) (.append 8 1 24 (.tmp 59) (.tmp 61)),oo 63 (.mov (.tmp 16)),oo 8 (.mov (.tmp 62)),oo 7 (.mov (.tmp 63))]
def Awf:List TOp:=[oo 64 (.bin false .add (.tmp 47) (.cst (.int .i64 1))),oo 47 (.mov (.tmp 64))]
def Av7:DC:=(.seq (.ops Awb) (.seq (.cond (.tmp 48) .skip (.exit 1)) (.seq (.pass 2 (.seq (.ops Awc) (.seq (.ops Awd) (.ops Awe)))) (.ops Awf))))
def Av3:Kp:=⟨[],[(1,false),(6,false),(7,false),(8,false),(9,false),(10,false),(13,false),(46,false),(47,false)],[(.loc 8 0,false),(.loc 6 0,false)],[],[((.slot 8 (.loc 8 0) 1),(.sl .str))]⟩
def Awl:Sig:=⟨[(1,none),(6,some (.ptr (.loc 6 0) 0)),(7,some (.ty (.sl (.st 4)))),(8,some (.own (.loc 8 0))),(9,none),(10,none),(13,none),(46,none),(47,some (.ty (.int .i64)))],[(.loc 8 0,(.row (.sl .str))),(.loc 6 0,(.box [none,none]))],[(.sl (.st 4)),(.int .i64),(.sl (.sl .str))],[],[]⟩
def Av4:Kp:=⟨[.loc 8 0],[(1,false),(6,false),(7,false),(8,true),(9,false),(10,false)],[(.loc 6 0,false)],[],[]⟩
def Awm:Sig:=⟨[(1,none),(6,some (.ptr (.loc 6 0) 0)),(7,some (.ty (.sl (.st 4)))),(8,some (.ty (.sl (.sl .str)))),(9,none),(10,none)],[(.loc 6 0,(.box [none,none]))],[(.sl (.st 4)),(.sl (.sl .str))],[],[]⟩
def Awg:List TOp:=[ot 65 (.st 4) (.load true 2 (.tmp 6)),oo 66 (.mov (.tmp 10)),oo 67 (.mov (.tmp 8)),oo 68 (.call 0 0 (.cst (.fn 69)) [(.tmp 65),(.tmp 66),(.tmp 67)] [] []),oo 17 (.mov (.tmp 68))]
def Awh:List TOp:=[oo 69 (.mov (.tmp 9)),oo 70 (.mov (.tmp 1)),oo 71 (.bin false .lss (.tmp 69) (.tmp 70))]
def Awi:List TOp:=[ot 72 .str (.lit false 1 [(.cst (.str [40]))]),oo 73 (.mov (.tmp 17)),ot 74 .str (.lit false 1 [(.cst (.str [41]))]),ot 75 (.sl .str) (.lit false 1 [(.tmp 72),(.tmp 73),(.tmp 74)]),oo 76 (.call 0 0 (.cst (.fn 70)) [(.tmp 75)] [] []),oo 17 (.mov (.tmp 76))]
def Av5:Kp:=⟨[],[(7,false),(17,false)],[],[.loc 6 0],[]⟩
def Awn:Sig:=⟨[(7,none),(17,some (.ty (.sl .str)))],[],[(.sl .str)],[],[]⟩
def Awj:List TOp:=[oo 77 (.mov (.tmp 17)),oo 78 (.mov (.tmp 7)),oo 4 (.mov (.tmp 77)),oo 5 (.mov (.tmp 78))]
def Av6:Kp:=⟨[],[(4,false),(5,false)],[],[],[]⟩
def Bam:TFd:=⟨2,[(.tmp 4,.bool),(.tmp 5,.bool)],[],(.seq (.ops A0i) (.seq (.draw [.loc 6 0] A0j) (.seq (.ops A0k) (.seq (.ops A0l) (.seq (.ops A0m) (.seq (.seq (.ops A0n) (.pass 0 (.seq (.ops A0o) (.join Av2 Awk (.cond (.tmp 36) (.ops A0p) (.seq (.ops A0q) (.cond (.tmp 39) (.ops A0r) (.seq (.ops Av8) (.cond (.tmp 42) (.ops Av9) .skip))))))))) (.seq (.seq (.ops Awa) (.join Av4 Awm (.block 1 (.loop [1,6,7,8,9,10,13,46,47] [] Av3 Awl Av7)))) (.seq (.ops Awg) (.seq (.seq (.ops Awh) (.join Av5 Awn (.cond (.tmp 71) (.ops Awi) .skip))) (.seq (.ops Awj) (.keep Av6 .ret)))))))))))⟩
noncomputable def Mu(fuel:Nat):Ent:=⟨[.ty (.sl (.st 4)),.ty (.int .i64)],[],[(.sl (.st 4)),(.int .i64)],⟨(.tup [(.ty (.sl .str)),(.ty (.sl (.st 4)))]),[],[],[(.sl .str),(.sl (.st 4))],[],[]⟩,none,fun p=>F5 fuel p.1 p.2⟩
theorem Q9: ∀fuel:Nat,(Mu fuel).ok Tryz.prog 37
 |0=>fun p r h=>by have h:none=some r:=h;cases h
 |fuel+1=>Au hm Tryz.func37 (fd:=Bam) (by kernel_rfl) (Ak (l:=[(67,Aou),(68,Aj7),(37,(Mu fuel)),(69,Aoy),(70,Dp)]) (y:=[]) ⟨At0,Ar3,(Q9 fuel),Ay4,Fw,trivial⟩ trivial) (by kernel_rfl) (fun p=>by kernel_rfl)
def Sp:Ent:=⟨[.ty (.sl .str),.ty .str],[],[(.sl .str),.str],⟨(.ty .str),[],[],[.str],[],[]⟩,none,fun p=>strings_Join p.1 p.2⟩
theorem Uq:Sp.ok Tryz.prog 38:=fun p r h=>Aw8 (show strings_Join _ _=some _ from h)
def Azw:List TOp:=[oo 2 (.mov (.cst (.str []))),oo 3 (.mov (.cst (.int .i64 0)))]
def Azx:List TOp:=[oo 6 (.mov (.tmp 0)),oo 7 (.call 0 0 (.cst (.fn 23)) [(.tmp 6)] [] []),oo 8 (.un .not (.tmp 7))]
def Azy:List TOp:=[oo 2 (.mov (.cst (.str []))),oo 3 (.mov (.cst (.int .i64 1)))]
def Alb:Kp:=⟨[],[(2,false),(3,false)],[],[],[]⟩
def Azz:List TOp:=[oo 10 (.mov (.tmp 0)),oo 11 (.call 0 0 (.cst (.fn 37)) [(.tmp 10),(.cst (.int .i64 0))] [] []),oo 9 (.mov (.tmp 11)),oo 12 (.ext 0 (.tmp 9)),oo 13 (.ext 1 (.tmp 9)),oo 4 (.mov (.tmp 12)),oo 5 (.mov (.tmp 13))]
def Az0:List TOp:=[oo 14 (.mov (.tmp 4)),oo 15 (.call 0 0 (.cst (.fn 38)) [(.tmp 14),(.cst (.str [32]))] [] []),oo 2 (.mov (.tmp 15)),oo 3 (.mov (.cst (.int .i64 0)))]
def A9r:TFd:=⟨1,[(.tmp 2,.bool),(.tmp 3,.bool)],[],(.seq (.ops Azw) (.seq (.seq (.ops Azx) (.cond (.tmp 8) (.free (.seq (.ops Azy) (.keep Alb .ret))) .skip)) (.seq (.ops Azz) (.seq (.ops Az0) (.keep Alb .ret)))))⟩
noncomputable def Uy:Ent:=⟨[.ty (.sl (.st 4))],[],[(.sl (.st 4))],⟨(.tup [(.ty .str),(.ty (.int .i64))]),[],[],[.str,(.int .i64)],[],[]⟩,none,fun p=>I9 p⟩
theorem Aj5:Uy.ok Tryz.prog 17:=Au hm Tryz.func17 (fd:=A9r) (by kernel_rfl) (Ak (l:=[(23,E4),(37,(Mu 100000)),(38,Sp)]) (y:=[]) ⟨Fs,(Q9 100000),Uq,trivial⟩ trivial) (by kernel_rfl) (fun p=>by kernel_rfl)
def Aet:List TOp:=[oo 4 (.mov (.cst (.str [])))]
def Aeu:List TOp:=[oo 6 (.mov (.tmp 0)),oo 7 (.mov (.tmp 1)),ot 8 .str (.lit false 1 [(.tmp 7)]),oo 9 (.call 0 2 (.cst (.fn 56)) [(.tmp 6),(.tmp 8)] [] [.ext 0])]
def Aev:List TOp:=[oo 10 (.mov (.tmp 0)),oo 11 (.call 0 2 (.cst (.fn 61)) [(.tmp 10),(.cst (.int .i64 1)),(.cst (.bool true))] [] [.ext 0]),oo 5 (.mov (.tmp 11))]
def Aew:List TOp:=[oo 12 (.mov (.tmp 0)),ot 13 .str (.lit false 1 [(.cst (.str [59]))]),oo 14 (.call 0 2 (.cst (.fn 56)) [(.tmp 12),(.tmp 13)] [] [.ext 0])]
def Aex:List TOp:=[oo 15 (.mov (.tmp 5)),oo 4 (.mov (.tmp 15))]
def Aes:Kp:=⟨[],[(4,false)],[(.ext 0,false)],[],[]⟩
def Alc:TFd:=⟨2,[(.tmp 4,.bool)],[],(.seq (.ops Aet) (.seq (.ops Aeu) (.seq (.ops Aev) (.seq (.ops Aew) (.seq (.ops Aex) (.keep Aes .ret))))))⟩
noncomputable def Lj:Ent:=⟨[.ptr (.ext 0) 0,.ty .str],[.st 3],[.str,(.st 3)],⟨(.ty .str),[],[some (.st 3)],[.str,(.st 3)],[],[]⟩,none,fun p=>Cj p.1 p.2⟩
theorem Acd:Lj.ok Tryz.prog 62:=Au hm Tryz.func62 (fd:=Alc) (by kernel_rfl) (Ak (l:=[(56,Dx),(61,Fh)]) (y:=[]) ⟨E0,Ho,trivial⟩ trivial) (by kernel_rfl) (fun p=>by kernel_rfl)
def Aa4:List TOp:=[oo 2 (.alloc [.pv (.str []),.pv (.str []),.pv (.str []),.pv (.str []),.nils,.nils,.pv (.str []),.pv (.str []),.pv (.str [])])]
def Aa5:List TOp:=[oo 3 (.alloc [.pv (.str []),.pv (.str []),.pv (.str []),.pv (.str []),.nils,.nils,.pv (.str []),.pv (.str []),.pv (.str [])])]
def Aa6:List TOp:=[oo 6 (.mov (.tmp 0)),ot 7 .str (.lit false 1 [(.cst (.str [112,114,111,100,117,99,116]))]),oo 8 (.call 0 2 (.cst (.fn 56)) [(.tmp 6),(.tmp 7)] [] [.ext 0])]
def Aa7:List TOp:=[oo 9 (.mov (.tmp 0)),oo 10 (.call 0 2 (.cst (.fn 61)) [(.tmp 9),(.cst (.int .i64 0)),(.cst (.bool true))] [] [.ext 0]),oo 11 (.mov (.tmp 0)),oo 12 (.call 0 2 (.cst (.fn 61)) [(.tmp 11),(.cst (.int .i64 0)),(.cst (.bool true))] [] [.ext 0]),oo 13 (.fld 0 (.tmp 3)),on (.store 1 (.tmp 13) (.tmp 10)),oo 14 (.fld 1 (.tmp 3)),on (.store 1 (.tmp 14) (.tmp 12))]
def Aa8:List TOp:=[oo 15 (.mov (.tmp 0)),ot 16 .str (.lit false 1 [(.cst (.str [123])),(.cst (.str [98,97,115,105,115]))]),oo 17 (.call 0 2 (.cst (.fn 56)) [(.tmp 15),(.tmp 16)] [] [.ext 0])]
def Aa9:List TOp:=[oo 18 (.mov (.tmp 0)),oo 19 (.call 0 2 (.cst (.fn 61)) [(.tmp 18),(.cst (.int .i64 0)),(.cst (.bool true))] [] [.ext 0]),oo 20 (.fld 2 (.tmp 3)),on (.store 1 (.tmp 20) (.tmp 19))]
def Aba:List TOp:=[oo 21 (.mov (.tmp 0)),ot 22 .str (.lit false 1 [(.cst (.str [59]))]),oo 23 (.call 0 2 (.cst (.fn 56)) [(.tmp 21),(.tmp 22)] [] [.ext 0])]
def Abb:List TOp:=[oo 24 (.mov (.tmp 0)),oo 25 (.call 0 2 (.cst (.fn 62)) [(.tmp 24),(.cst (.str [112,101,114,105,111,100]))] [] [.ext 0]),oo 26 (.fld 3 (.tmp 3)),on (.store 1 (.tmp 26) (.tmp 25))]
def Abc:List TOp:=[oo 27 (.mov (.tmp 0)),ot 28 .str (.lit false 1 [(.cst (.str [116,105,101,114,115])),(.cst (.str [123]))]),oo 29 (.call 0 2 (.cst (.fn 56)) [(.tmp 27),(.tmp 28)] [] [.ext 0])]
def Abd:List TOp:=[oo 4 (.mov (.cst (.bool true)))]
def V6:List TOp:=[oo 30 (.mov (.tmp 0)),oo 31 (.nchk (.tmp 30)),oo 32 (.fld 2 (.tmp 31)),oo 33 (.load false 1 (.tmp 32)),oo 34 (.un .not (.tmp 33)),oo 35 (.mov (.tmp 34)),og 36 35 true .bool (.mov (.tmp 4)),og 37 35 true .bool (.mov (.tmp 36)),og 38 37 false .bool (.mov (.tmp 0)),og 39 37 false .bool (.call 0 2 (.cst (.fn 63)) [(.tmp 38),(.cst (.str [125]))] [] [.ext 0]),og 40 37 false .bool (.un .not (.tmp 39)),og 41 35 true .bool (.pick (.tmp 37) (.cst (.bool true)) (.tmp 40)),oo 42 (.pick (.tmp 35) (.tmp 41) (.cst (.bool false)))]
def V7:List TOp:=[oo 43 (.mov (.tmp 0)),oo 44 (.call 0 2 (.cst (.fn 61)) [(.tmp 43),(.cst (.int .i64 1)),(.cst (.bool true))] [] [.ext 0]),ot 45 (.st 6) (.build [.pv (.str []),.pv (.str [])] [(0,1,(.tmp 44))]),oo 5 (.alloc [.pv (.str []),.pv (.str [])]),on (.store 2 (.tmp 5) (.tmp 45))]
def V8:List TOp:=[oo 46 (.mov (.tmp 0)),ot 47 .str (.lit false 1 [(.cst (.str [58]))]),oo 48 (.call 0 2 (.cst (.fn 56)) [(.tmp 46),(.tmp 47)] [] [.ext 0])]
def V9:List TOp:=[oo 49 (.mov (.tmp 0)),oo 50 (.call 0 2 (.cst (.fn 61)) [(.tmp 49),(.cst (.int .i64 1)),(.cst (.bool true))] [] [.ext 0]),oo 51 (.fld 1 (.tmp 5)),on (.store 1 (.tmp 51) (.tmp 50))]
def Wa:List TOp:=[oo 52 (.mov (.tmp 0)),ot 53 .str (.lit false 1 [(.cst (.str [37])),(.cst (.str [59]))]),oo 54 (.call 0 2 (.cst (.fn 56)) [(.tmp 52),(.tmp 53)] [] [.ext 0])]
def Wb:List TOp:=[oo 55 (.fld 4 (.tmp 3)),oo 56 (.load false 1 (.tmp 55)),ot 57 (.st 6) (.load true 2 (.tmp 5)),ot 58 (.st 6) (.lit false 2 [(.tmp 57)]),ot 59 (.st 6) (.append 500003 2 32 (.tmp 56) (.tmp 58)),oo 60 (.fld 4 (.tmp 3)),on (.store 1 (.tmp 60) (.tmp 59))]
def Wc:List TOp:=[oo 4 (.mov (.cst (.bool false)))]
def V5:DC:=(.seq (.seq (.ops V6) (.cond (.tmp 42) .skip (.exit 0))) (.seq (.pass 1 (.seq (.ops V7) (.seq (.ops V8) (.seq (.ops V9) (.seq (.ops Wa) (.ops Wb)))))) (.ops Wc)))
def V2:Kp:=⟨[],[(0,false),(2,false),(3,false),(4,false)],[(.loc 500003 0,false),(.ext 0,false),(.loc 2 0,false),(.loc 3 0,true)],[.loc 5 0],[((.cell (.loc 3 0) 4 (.loc 500003 0) 2),(.st 6))]⟩
def Wj:Sig:=⟨[(0,some (.ptr (.ext 0) 0)),(2,some (.ptr (.loc 2 0) 0)),(3,some (.ptr (.loc 3 0) 0)),(4,some (.ty .bool))],[(.loc 500003 0,(.row (.st 6))),(.ext 0,(.st 3)),(.loc 2 0,(.box [none,none,none,none,some .nils,some .nils,none,none,none])),(.loc 3 0,(.box [some (.ty .str),some (.ty .str),some (.ty .str),some (.ty .str),some (.own (.loc 500003 0)),some (.ty (.sl (.st 4))),some (.ty .str),some (.ty .str),some (.ty .str)]))],[.bool,(.st 3),.str,.str,.str,.str,(.sl (.st 4)),.str,.str,.str,(.sl (.st 6))],[0,2,3,4,5,6,7,8,9,10,1],[0,10,1,2,3,4,5,6,7,8,9]⟩
def V3:Kp:=⟨[.loc 500003 0],[(0,false),(2,false),(3,false)],[(.ext 0,false),(.loc 2 0,false),(.loc 3 0,true)],[],[]⟩
def Wk:Sig:=⟨[(0,some (.ptr (.ext 0) 0)),(2,some (.ptr (.loc 2 0) 0)),(3,some (.ptr (.loc 3 0) 0))],[(.ext 0,(.st 3)),(.loc 2 0,(.box [none,none,none,none,some .nils,some .nils,none,none,none])),(.loc 3 0,(.st 7))],[(.st 3),(.st 7)],[],[]⟩
def Wd:List TOp:=[oo 61 (.mov (.tmp 0)),ot 62 .str (.lit false 1 [(.cst (.str [125])),(.cst (.str [102,101,101]))]),oo 63 (.call 0 2 (.cst (.fn 56)) [(.tmp 61),(.tmp 62)] [] [.ext 0])]
def We:List TOp:=[oo 64 (.mov (.tmp 0)),oo 65 (.call 0 2 (.cst (.fn 30)) [(.tmp 64)] [] [.ext 0]),oo 66 (.fld 5 (.tmp 3)),on (.store 1 (.tmp 66) (.tmp 65))]
def Wf:List TOp:=[oo 67 (.mov (.tmp 0)),ot 68 .str (.lit false 1 [(.cst (.str [59]))]),oo 69 (.call 0 2 (.cst (.fn 56)) [(.tmp 67),(.tmp 68)] [] [.ext 0])]
def Wg:List TOp:=[oo 70 (.mov (.tmp 0)),oo 71 (.call 0 2 (.cst (.fn 62)) [(.tmp 70),(.cst (.str [109,105,110,105,109,117,109]))] [] [.ext 0]),oo 72 (.mov (.tmp 0)),oo 73 (.call 0 2 (.cst (.fn 62)) [(.tmp 72),(.cst (.str [111,118,101,114,100,114,97,102,116]))] [] [.ext 0]),oo 74 (.mov (.tmp 0)),oo 75 (.call 0 2 (.cst (.fn 62)) [(.tmp 74),(.cst (.str [110,111,116,105,99,101]))] [] [.ext 0]),oo 76 (.fld 6 (.tmp 3)),on (.store 1 (.tmp 76) (.tmp 71)),oo 77 (.fld 7 (.tmp 3)),on (.store 1 (.tmp 77) (.tmp 73)),oo 78 (.fld 8 (.tmp 3)),on (.store 1 (.tmp 78) (.tmp 75))]
def Wh:List TOp:=[oo 79 (.mov (.tmp 0)),ot 80 .str (.lit false 1 [(.cst (.str [125]))]),oo 81 (.call 0 2 (.cst (.fn 56)) [(.tmp 79),(.tmp 80)] [] [.ext 0])]
def Wi:List TOp:=[ot 82 (.st 7) (.load true 9 (.tmp 3)),on (.store 9 (.tmp 2) (.tmp 82))]
def V4:Kp:=⟨[],[(2,false)],[(.ext 0,false),(.loc 2 0,false)],[],[]⟩
def Aiw:TFd:=⟨1,[(.cell 2 true 9,(.st 7))],[],(.seq (.ops Aa4) (.seq (.ops Aa5) (.seq (.ops Aa6) (.seq (.ops Aa7) (.seq (.ops Aa8) (.seq (.ops Aa9) (.seq (.ops Aba) (.seq (.ops Abb) (.seq (.ops Abc) (.seq (.seq (.ops Abd) (.join V3 Wk (.block 0 (.loop [0,2,3,4] [] V2 Wj V5)))) (.seq (.ops Wd) (.seq (.ops We) (.seq (.ops Wf) (.seq (.ops Wg) (.seq (.ops Wh) (.seq (.ops Wi) (.keep V4 .ret)))))))))))))))))⟩
noncomputable def J4:Ent:=⟨[.ptr (.ext 0) 0],[.st 3],[(.st 3)],⟨(.ty (.st 7)),[],[some (.st 3)],[(.st 7),(.st 3)],[],[]⟩,none,fun p=>Dl p⟩
theorem Xj:J4.ok Tryz.prog 35:=Au hm Tryz.func35 (fd:=Aiw) (by kernel_rfl) (Ak (l:=[(56,Dx),(61,Fh),(62,Lj),(63,G8),(30,(De 100000))]) (y:=[]) ⟨E0,Ho,Acd,Iu,(Pf 100000),trivial⟩ trivial) (by kernel_rfl) (fun p=>by kernel_rfl)
def A9h:List TOp:=[oo 2 (.mov .nils),oo 3 (.mov (.cst (.int .i64 0))),oo 4 (.mov (.cst (.int .i64 0))),oo 5 (.mov (.cst (.int .i64 0)))]
def A9i:List TOp:=[oo 17 (.mov (.tmp 0)),oo 18 (.call 1 0 (.cst (.fn 29)) [(.tmp 17)] [] []),oo 16 (.mov (.tmp 18)),oo 19 (.ext 0 (.tmp 16)),oo 20 (.ext 1 (.tmp 16)),oo 21 (.ext 2 (.tmp 16)),oo 22 (.ext 3 (.tmp 16)),oo 6 (.mov (.tmp 19)),oo 7 (.mov (.tmp 20)),oo 8 (.mov (.tmp 21)),oo 9 (.mov (.tmp 22))]
def A9j:List TOp:=[oo 23 (.mov (.tmp 9)),oo 24 (.bin false .neq (.tmp 23) (.cst (.int .i64 0)))]
def A9k:List TOp:=[oo 25 (.mov (.tmp 7)),oo 26 (.mov (.tmp 8)),oo 27 (.mov (.tmp 9)),oo 2 (.mov .nils),oo 3 (.mov (.tmp 25)),oo 4 (.mov (.tmp 26)),oo 5 (.mov (.tmp 27))]
def Aeq:Kp:=⟨[],[(2,true),(3,false),(4,false),(5,false)],[],[],[]⟩
def A9l:List TOp:=[oo 10 (.mov .nils)]
def A9m:List TOp:=[oo 11 (.mov (.cst (.bool true)))]
def A9n:List TOp:=[oo 28 (.mov (.tmp 6)),oo 29 (.nchk (.tmp 28)),oo 30 (.fld 2 (.tmp 29)),oo 31 (.load false 1 (.tmp 30)),oo 32 (.un .not (.tmp 31)),oo 33 (.mov (.tmp 32)),og 34 33 true .bool (.mov (.tmp 6)),og 35 33 true .bool (.nchk (.tmp 34)),og 36 33 true .bool (.fld 1 (.tmp 35)),og 37 33 true .bool (.load false 1 (.tmp 36)),og 38 33 true .bool (.mov (.tmp 6)),og 39 33 true .bool (.nchk (.tmp 38)),og 40 33 true .bool (.fld 0 (.tmp 39)),og 41 33 true .bool (.load false 1 (.tmp 40)),og 42 33 true .bool (.len false (.tmp 41)),og 43 33 true .bool (.bin false .lss (.tmp 37) (.tmp 42)),oo 44 (.pick (.tmp 33) (.tmp 43) (.cst (.bool false)))]
def A9o:List TOp:=[oo 45 (.mov (.tmp 6)),oo 46 (.call 0 2 (.cst (.fn 35)) [(.tmp 45)] [] [.loc 18 0]),oo 12 (.alloc [.pv (.str []),.pv (.str []),.pv (.str []),.pv (.str []),.nils,.nils,.pv (.str []),.pv (.str []),.pv (.str [])]),on (.store 9 (.tmp 12) (.tmp 46))]
def A9p:List TOp:=[oo 47 (.mov (.tmp 11)),oo 48 (.mov (.tmp 47)),og 49 48 true .bool (.fld 4 (.tmp 12)),og 50 48 true .bool (.load false 1 (.tmp 49)),og 51 48 true .bool (.len false (.tmp 50)),og 52 48 true .bool (.bin false .leq (.tmp 51) (.cst (.int .i64 8))),oo 53 (.pick (.tmp 48) (.tmp 52) (.cst (.bool false))),oo 54 (.mov (.tmp 53)),og 55 54 true .bool (.fld 5 (.tmp 12)),og 56 54 true .bool (.load false 1 (.tmp 55)),og 57 54 true .bool (.call 0 0 (.cst (.fn 23)) [(.tmp 56)] [] []),oo 58 (.pick (.tmp 54) (.tmp 57) (.cst (.bool false))),oo 11 (.mov (.tmp 58))]
def A3f:List TOp:=[oo 59 (.mov (.tmp 10)),ot 60 (.st 7) (.load true 9 (.tmp 12)),ot 61 (.st 7) (.lit false 9 [(.tmp 60)]),ot 62 (.st 7) (.append 10 9 160 (.tmp 59) (.tmp 61)),oo 10 (.mov (.tmp 62))]
def A3e:DC:=(.seq (.seq (.draw [] A9n) (.cond (.tmp 44) .skip (.exit 0))) (.pass 1 (.seq (.ops A9o) (.seq (.ops A9p) (.ops A3f)))))
def A3c:Kp:=⟨[],[(0,false),(6,false),(10,false),(11,false)],[(.loc 10 0,false),(.loc 18 0,false)],[.loc 12 0],[((.slot 10 (.loc 10 0) 9),(.st 7))]⟩
def A3k:Sig:=⟨[(0,none),(6,some (.ptr (.loc 18 0) 0)),(10,some (.own (.loc 10 0))),(11,some (.ty .bool))],[(.loc 10 0,(.row (.st 7))),(.loc 18 0,(.st 3))],[.bool,(.st 3),(.sl (.st 7))],[0,2,1],[0,2,1]⟩
def A3d:Kp:=⟨[.loc 10 0],[(0,false),(6,false),(10,true),(11,false)],[(.loc 18 0,false)],[],[]⟩
def A3l:Sig:=⟨[(0,none),(6,some (.ptr (.loc 18 0) 0)),(10,some (.ty (.sl (.st 7)))),(11,some (.ty .bool))],[(.loc 18 0,(.st 3))],[(.sl (.st 7)),.bool,(.st 3)],[],[]⟩
def A3g:List TOp:=[oo 64 (.mov (.tmp 6)),oo 65 (.mov (.tmp 0)),oo 66 (.mov (.tmp 11)),oo 67 (.mov (.tmp 66)),og 68 67 true .bool (.mov (.tmp 10)),og 69 67 true .bool (.len false (.tmp 68)),og 70 67 true .bool (.bin false .leq (.tmp 69) (.cst (.int .i64 16))),oo 71 (.pick (.tmp 67) (.tmp 70) (.cst (.bool false))),oo 72 (.call 0 2 (.cst (.fn 31)) [(.tmp 64),(.tmp 65),(.tmp 71)] [] [.loc 18 0]),oo 63 (.mov (.tmp 72)),oo 73 (.ext 0 (.tmp 63)),oo 74 (.ext 1 (.tmp 63)),oo 75 (.ext 2 (.tmp 63)),oo 13 (.mov (.tmp 73)),oo 14 (.mov (.tmp 74)),oo 15 (.mov (.tmp 75))]
def A3h:List TOp:=[oo 76 (.mov (.tmp 15)),oo 77 (.bin false .neq (.tmp 76) (.cst (.int .i64 0)))]
def A3i:List TOp:=[oo 78 (.mov (.tmp 13)),oo 79 (.mov (.tmp 14)),oo 80 (.mov (.tmp 15)),oo 2 (.mov .nils),oo 3 (.mov (.tmp 78)),oo 4 (.mov (.tmp 79)),oo 5 (.mov (.tmp 80))]
def A3j:List TOp:=[oo 81 (.mov (.tmp 10)),oo 2 (.mov (.tmp 81)),oo 3 (.mov (.cst (.int .i64 0))),oo 4 (.mov (.cst (.int .i64 0))),oo 5 (.mov (.cst (.int .i64 0)))]
def Bh0:TFd:=⟨1,[(.tmp 2,.bool),(.tmp 3,.bool),(.tmp 4,.bool),(.tmp 5,.bool)],[],(.seq (.ops A9h) (.seq (.ops A9i) (.seq (.seq (.ops A9j) (.cond (.tmp 24) (.free (.seq (.ops A9k) (.keep Aeq .ret))) .skip)) (.seq (.ops A9l) (.seq (.ops A9m) (.seq (.join A3d A3l (.block 0 (.loop [0,6,10,11] [] A3c A3k A3e))) (.seq (.seq (.ops A3g) (.seq (.ops A3h) (.cond (.tmp 77) (.free (.seq (.ops A3i) (.keep Aeq .ret))) .skip))) (.seq (.ops A3j) (.keep Aeq .ret)))))))))⟩
noncomputable def Au5:Ent:=⟨[.ty .str],[],[.str],⟨(.tup [(.ty (.sl (.st 7))),(.ty (.int .i64)),(.ty (.int .i64)),(.ty (.int .i64))]),[],[],[(.sl (.st 7)),(.int .i64),(.int .i64),(.int .i64)],[],[]⟩,none,fun p=>Xg p⟩
theorem A74:Au5.ok Tryz.prog 12:=Au hm Tryz.func12 (fd:=Bh0) (by kernel_rfl) (Ak (l:=[(29,Uz),(35,J4),(23,E4),(31,It)]) (y:=[]) ⟨Aj6,Xj,Fs,Pg,trivial⟩ trivial) (by kernel_rfl) (fun p=>by kernel_rfl)
def A0d:List TOp:=[oo 1 (.box (.tmp 0)),oo 2 (.mov (.cst (.bool false)))]
def A0e:List TOp:=[oo 3 (.fld 0 (.tmp 1)),oo 4 (.load false 1 (.tmp 3)),oo 5 (.call 0 0 (.cst (.fn 75)) [(.tmp 4)] [] []),oo 6 (.un .not (.tmp 5)),oo 7 (.mov (.tmp 6)),og 8 7 false .bool (.fld 1 (.tmp 1)),og 9 7 false .bool (.load false 1 (.tmp 8)),og 10 7 false .bool (.call 0 0 (.cst (.fn 75)) [(.tmp 9)] [] []),og 11 7 false .bool (.un .not (.tmp 10)),oo 12 (.pick (.tmp 7) (.cst (.bool true)) (.tmp 11)),oo 2 (.mov (.tmp 12))]
def A0c:Kp:=⟨[],[(2,false)],[],[],[]⟩
def A93:TFd:=⟨1,[(.tmp 2,.bool)],[],(.seq (.ops A0d) (.seq (.ops A0e) (.keep A0c .ret)))⟩
noncomputable def Aot:Ent:=⟨[.ty (.st 6)],[],[(.st 6)],⟨(.ty .bool),[],[],[.bool],[],[]⟩,none,fun p=>M8 p⟩
theorem Ay3:Aot.ok Tryz.prog 76:=Au hm Tryz.func76 (fd:=A93) (by kernel_rfl) (Ak (l:=[(75,J1)]) (y:=[]) ⟨Oy,trivial⟩ trivial) (by kernel_rfl) (fun p=>by kernel_rfl)
def Nu:List TOp:=[oo 4 (.mov (.cst (.int .i64 0)))]
def Nv:List TOp:=[oo 6 (.mov (.tmp 0)),oo 7 (.len false (.tmp 6)),oo 8 (.mov (.cst (.int .i64 0)))]
def Nw:List TOp:=[oo 9 (.bin false .lss (.tmp 8) (.tmp 7))]
def Nx:List TOp:=[oo 10 (.mov (.tmp 8)),oo 5 (.mov (.tmp 10))]
def Ny:List TOp:=[oo 11 (.mov (.tmp 1)),oo 12 (.mov (.tmp 0)),oo 13 (.mov (.tmp 5)),oo 14 (.idx 2 (.tmp 12) (.tmp 13)),ot 15 (.st 6) (.load true 2 (.tmp 14)),oo 16 (.call 0 0 (.tmp 11) [(.tmp 15)] [] [])]
def Nz:List TOp:=[oo 17 (.mov (.tmp 5)),oo 4 (.mov (.tmp 17))]
def F7:Kp:=⟨[],[(4,false)],[],[],[]⟩
def N0:List TOp:=[oo 18 (.bin false .add (.tmp 8) (.cst (.int .i64 1))),oo 8 (.mov (.tmp 18))]
def Nt:DC:=(.seq (.ops Nw) (.seq (.cond (.tmp 9) .skip (.exit 0)) (.seq (.pass 1 (.seq (.ops Nx) (.seq (.ops Ny) (.cond (.tmp 16) (.free (.seq (.ops Nz) (.keep F7 .ret))) .skip)))) (.ops N0))))
def Ns:Kp:=⟨[],[(0,false),(1,false),(7,false),(8,false)],[],[],[]⟩
def L9:Sig:=⟨[(0,none),(1,some (.fnc 76)),(7,none),(8,some (.ty (.int .i64)))],[],[(.int .i64)],[],[]⟩
def L7:Kp:=⟨[],[],[],[],[]⟩
def Ma:Sig:=⟨[],[],[],[],[]⟩
def L8:List TOp:=[oo 4 (.mov (.cst (.int .i64 (-1))))]
def Qb:TFd:=⟨2,[(.tmp 4,.bool)],[],(.seq (.ops Nu) (.seq (.seq (.ops Nv) (.joinO L7 Ma (.block 0 (.loop [0,1,7,8] [] Ns L9 Nt)))) (.seq (.ops L8) (.keep F7 .ret))))⟩
noncomputable def Gp:Ent:=⟨[.ty (.sl (.st 6)),.fnc 76],[],[(.sl (.st 6))],⟨(.ty (.int .i64)),[],[],[(.int .i64)],[],[]⟩,none,fun p=>Eg p⟩
theorem Om:Gp.ok Tryz.prog 104:=Au hm Tryz.func104 (fd:=Qb) (by kernel_rfl) (Ak (l:=[(76,Aot)]) (y:=[]) ⟨Ay3,trivial⟩ trivial) (by kernel_rfl) (fun p=>by kernel_rfl)
def Ka:List TOp:=[oo 4 (.mov (.cst (.bool false)))]
def Kb:List TOp:=[oo 5 (.mov (.tmp 0)),oo 6 (.mov (.tmp 1)),oo 7 (.call 0 0 (.cst (.fn 104)) [(.tmp 5),(.tmp 6)] [] []),oo 8 (.bin false .geq (.tmp 7) (.cst (.int .i64 0))),oo 4 (.mov (.tmp 8))]
def J9:Kp:=⟨[],[(4,false)],[],[],[]⟩
def L4:TFd:=⟨2,[(.tmp 4,.bool)],[],(.seq (.ops Ka) (.seq (.ops Kb) (.keep J9 .ret)))⟩
noncomputable def E8:Ent:=⟨[.ty (.sl (.st 6)),.fnc 76],[],[(.sl (.st 6))],⟨(.ty .bool),[],[],[.bool],[],[]⟩,none,fun p=>Cl p⟩
theorem Kl:E8.ok Tryz.prog 77:=Au hm Tryz.func77 (fd:=L4) (by kernel_rfl) (Ak (l:=[(104,Gp)]) (y:=[]) ⟨Om,trivial⟩ trivial) (by kernel_rfl) (fun p=>by kernel_rfl)
def A96:List TOp:=[oo 1 (.box (.tmp 0)),oo 2 (.mov (.cst (.bool false)))]
def A97:List TOp:=[oo 8 (.fld 0 (.tmp 1)),oo 9 (.load false 1 (.tmp 8)),oo 10 (.fld 1 (.tmp 1)),oo 11 (.load false 1 (.tmp 10)),oo 12 (.fld 2 (.tmp 1)),oo 13 (.load false 1 (.tmp 12)),ot 14 .str (.lit false 1 [(.tmp 9),(.tmp 11),(.tmp 13)]),oo 15 (.len false (.tmp 14)),oo 16 (.mov (.cst (.int .i64 0)))]
def A98:List TOp:=[oo 17 (.bin false .lss (.tmp 16) (.tmp 15))]
def A99:List TOp:=[oo 18 (.idx 1 (.tmp 14) (.tmp 16)),oo 19 (.load false 1 (.tmp 18)),oo 4 (.mov (.tmp 19))]
def Baa:List TOp:=[oo 20 (.mov (.tmp 4)),oo 21 (.call 0 0 (.cst (.fn 74)) [(.tmp 20),(.cst (.bool true))] [] []),oo 22 (.un .not (.tmp 21))]
def Bab:List TOp:=[oo 2 (.mov (.cst (.bool false)))]
def Aer:Kp:=⟨[],[(2,false)],[],[],[]⟩
def Bac:List TOp:=[oo 23 (.bin false .add (.tmp 16) (.cst (.int .i64 1))),oo 16 (.mov (.tmp 23))]
def A95:DC:=(.seq (.ops A98) (.seq (.cond (.tmp 17) .skip (.exit 0)) (.seq (.pass 1 (.seq (.ops A99) (.seq (.ops Baa) (.cond (.tmp 22) (.free (.seq (.ops Bab) (.keep Aer .ret))) .skip)))) (.ops Bac))))
def A94:Kp:=⟨[],[(1,false),(14,false),(15,false),(16,false)],[(.loc 1 0,false)],[],[]⟩
def A4g:Sig:=⟨[(1,some (.ptr (.loc 1 0) 0)),(14,none),(15,none),(16,some (.ty (.int .i64)))],[(.loc 1 0,(.box [none,none,none,none,none,none,none,none,none]))],[(.int .i64)],[],[]⟩
def Ao0:Kp:=⟨[],[(1,false)],[(.loc 1 0,false)],[],[]⟩
def Ao1:Sig:=⟨[(1,some (.ptr (.loc 1 0) 0))],[(.loc 1 0,(.box [none,none,none,none,none,none,none,none,none]))],[],[],[]⟩
def A38:List TOp:=[oo 24 (.fld 3 (.tmp 1)),oo 25 (.load false 1 (.tmp 24)),oo 26 (.fld 6 (.tmp 1)),oo 27 (.load false 1 (.tmp 26)),oo 28 (.fld 7 (.tmp 1)),oo 29 (.load false 1 (.tmp 28)),oo 30 (.fld 8 (.tmp 1)),oo 31 (.load false 1 (.tmp 30)),ot 32 .str (.lit false 1 [(.tmp 25),(.tmp 27),(.tmp 29),(.tmp 31)]),oo 33 (.len false (.tmp 32)),oo 34 (.mov (.cst (.int .i64 0)))]
def A39:List TOp:=[oo 35 (.bin false .lss (.tmp 34) (.tmp 33))]
def A4a:List TOp:=[oo 36 (.idx 1 (.tmp 32) (.tmp 34)),oo 37 (.load false 1 (.tmp 36)),oo 6 (.mov (.tmp 37))]
def A4b:List TOp:=[oo 38 (.mov (.tmp 6)),oo 39 (.call 0 0 (.cst (.fn 75)) [(.tmp 38)] [] []),oo 40 (.un .not (.tmp 39))]
def A4c:List TOp:=[oo 2 (.mov (.cst (.bool false)))]
def A4d:List TOp:=[oo 41 (.bin false .add (.tmp 34) (.cst (.int .i64 1))),oo 34 (.mov (.tmp 41))]
def A37:DC:=(.seq (.ops A39) (.seq (.cond (.tmp 35) .skip (.exit 2)) (.seq (.pass 3 (.seq (.ops A4a) (.seq (.ops A4b) (.cond (.tmp 40) (.free (.seq (.ops A4c) (.keep Aer .ret))) .skip)))) (.ops A4d))))
def A36:Kp:=⟨[],[(1,false),(32,false),(33,false),(34,false)],[(.loc 1 0,false)],[],[]⟩
def A4h:Sig:=⟨[(1,some (.ptr (.loc 1 0) 0)),(32,none),(33,none),(34,some (.ty (.int .i64)))],[(.loc 1 0,(.box [none,none,none,none,none,none,none,none,none]))],[(.int .i64)],[],[]⟩
def A4e:List TOp:=[oo 7 (.mov (.cst (.fn 76)))]
def A4f:List TOp:=[oo 42 (.fld 4 (.tmp 1)),oo 43 (.load false 1 (.tmp 42)),oo 44 (.len false (.tmp 43)),oo 45 (.bin false .geq (.tmp 44) (.cst (.int .i64 1))),oo 46 (.mov (.tmp 45)),og 47 46 true .bool (.fld 4 (.tmp 1)),og 48 46 true .bool (.load false 1 (.tmp 47)),og 49 46 true .bool (.len false (.tmp 48)),og 50 46 true .bool (.bin false .leq (.tmp 49) (.cst (.int .i64 8))),oo 51 (.pick (.tmp 46) (.tmp 50) (.cst (.bool false))),oo 52 (.mov (.tmp 51)),og 53 52 true .bool (.fld 4 (.tmp 1)),og 54 52 true .bool (.load false 1 (.tmp 53)),og 55 52 true .bool (.mov (.tmp 7)),og 56 52 true .bool (.call 0 0 (.cst (.fn 77)) [(.tmp 54),(.tmp 55)] [] []),og 57 52 true .bool (.un .not (.tmp 56)),oo 58 (.pick (.tmp 52) (.tmp 57) (.cst (.bool false))),oo 59 (.mov (.tmp 58)),og 60 59 true .bool (.fld 5 (.tmp 1)),og 61 59 true .bool (.load false 1 (.tmp 60)),og 62 59 true .bool (.call 0 0 (.cst (.fn 23)) [(.tmp 61)] [] []),oo 63 (.pick (.tmp 59) (.tmp 62) (.cst (.bool false))),oo 2 (.mov (.tmp 63))]
def Bh2:TFd:=⟨1,[(.tmp 2,.bool)],[],(.seq (.ops A96) (.seq (.seq (.ops A97) (.joinO Ao0 Ao1 (.block 0 (.loop [1,14,15,16] [] A94 A4g A95)))) (.seq (.seq (.ops A38) (.joinO Ao0 Ao1 (.block 2 (.loop [1,32,33,34] [] A36 A4h A37)))) (.seq (.ops A4e) (.seq (.ops A4f) (.keep Aer .ret))))))⟩
noncomputable def Au6:Ent:=⟨[.ty (.st 7)],[],[(.st 7)],⟨(.ty .bool),[],[],[.bool],[],[]⟩,none,fun p=>Amt p⟩
theorem A75:Au6.ok Tryz.prog 43:=Au hm Tryz.func43 (fd:=Bh2) (by kernel_rfl) (Ak (l:=[(74,Acf),(75,J1),(77,E8),(23,E4)]) (y:=[]) ⟨Aox,Oy,Kl,Fs,trivial⟩ trivial) (by kernel_rfl) (fun p=>by kernel_rfl)
def Ano:List TOp:=[oo 1 (.box (.tmp 0)),oo 2 (.mov (.cst (.bool false)))]
def Anp:List TOp:=[ot 3 (.st 7) (.load true 9 (.tmp 1)),oo 4 (.call 0 0 (.cst (.fn 43)) [(.tmp 3)] [] []),oo 5 (.un .not (.tmp 4)),oo 2 (.mov (.tmp 5))]
def Ann:Kp:=⟨[],[(2,false)],[],[],[]⟩
def Asb:TFd:=⟨1,[(.tmp 2,.bool)],[],(.seq (.ops Ano) (.seq (.ops Anp) (.keep Ann .ret)))⟩
noncomputable def Q8:Ent:=⟨[.ty (.st 7)],[],[(.st 7)],⟨(.ty .bool),[],[],[.bool],[],[]⟩,none,fun p=>Fq p⟩
theorem Am4:Q8.ok Tryz.prog 42:=Au hm Tryz.func42 (fd:=Asb) (by kernel_rfl) (Ak (l:=[(43,Au6)]) (y:=[]) ⟨A75,trivial⟩ trivial) (by kernel_rfl) (fun p=>by kernel_rfl)
def N3:List TOp:=[oo 4 (.mov (.cst (.int .i64 0)))]
def N4:List TOp:=[oo 6 (.mov (.tmp 0)),oo 7 (.len false (.tmp 6)),oo 8 (.mov (.cst (.int .i64 0)))]
def N5:List TOp:=[oo 9 (.bin false .lss (.tmp 8) (.tmp 7))]
def N6:List TOp:=[oo 10 (.mov (.tmp 8)),oo 5 (.mov (.tmp 10))]
def N7:List TOp:=[oo 11 (.mov (.tmp 1)),oo 12 (.mov (.tmp 0)),oo 13 (.mov (.tmp 5)),oo 14 (.idx 9 (.tmp 12) (.tmp 13)),ot 15 (.st 7) (.load true 9 (.tmp 14)),oo 16 (.call 0 0 (.tmp 11) [(.tmp 15)] [] [])]
def N8:List TOp:=[oo 17 (.mov (.tmp 5)),oo 4 (.mov (.tmp 17))]
def F8:Kp:=⟨[],[(4,false)],[],[],[]⟩
def N9:List TOp:=[oo 18 (.bin false .add (.tmp 8) (.cst (.int .i64 1))),oo 8 (.mov (.tmp 18))]
def N2:DC:=(.seq (.ops N5) (.seq (.cond (.tmp 9) .skip (.exit 0)) (.seq (.pass 1 (.seq (.ops N6) (.seq (.ops N7) (.cond (.tmp 16) (.free (.seq (.ops N8) (.keep F8 .ret))) .skip)))) (.ops N9))))
def N1:Kp:=⟨[],[(0,false),(1,false),(7,false),(8,false)],[],[],[]⟩
def Md:Sig:=⟨[(0,none),(1,some (.fnc 42)),(7,none),(8,some (.ty (.int .i64)))],[],[(.int .i64)],[],[]⟩
def Mb:Kp:=⟨[],[],[],[],[]⟩
def Me:Sig:=⟨[],[],[],[],[]⟩
def Mc:List TOp:=[oo 4 (.mov (.cst (.int .i64 (-1))))]
def Qc:TFd:=⟨2,[(.tmp 4,.bool)],[],(.seq (.ops N3) (.seq (.seq (.ops N4) (.joinO Mb Me (.block 0 (.loop [0,1,7,8] [] N1 Md N2)))) (.seq (.ops Mc) (.keep F8 .ret))))⟩
noncomputable def Gq:Ent:=⟨[.ty (.sl (.st 7)),.fnc 42],[],[(.sl (.st 7))],⟨(.ty (.int .i64)),[],[],[(.int .i64)],[],[]⟩,none,fun p=>Eh p⟩
theorem On:Gq.ok Tryz.prog 78:=Au hm Tryz.func78 (fd:=Qc) (by kernel_rfl) (Ak (l:=[(42,Q8)]) (y:=[]) ⟨Am4,trivial⟩ trivial) (by kernel_rfl) (fun p=>by kernel_rfl)
def Kd:List TOp:=[oo 4 (.mov (.cst (.bool false)))]
def Ke:List TOp:=[oo 5 (.mov (.tmp 0)),oo 6 (.mov (.tmp 1)),oo 7 (.call 0 0 (.cst (.fn 78)) [(.tmp 5),(.tmp 6)] [] []),oo 8 (.bin false .geq (.tmp 7) (.cst (.int .i64 0))),oo 4 (.mov (.tmp 8))]
def Kc:Kp:=⟨[],[(4,false)],[],[],[]⟩
def L5:TFd:=⟨2,[(.tmp 4,.bool)],[],(.seq (.ops Kd) (.seq (.ops Ke) (.keep Kc .ret)))⟩
noncomputable def E9:Ent:=⟨[.ty (.sl (.st 7)),.fnc 42],[],[(.sl (.st 7))],⟨(.ty .bool),[],[],[.bool],[],[]⟩,none,fun p=>Cm p⟩
theorem Km:E9.ok Tryz.prog 44:=Au hm Tryz.func44 (fd:=L5) (by kernel_rfl) (Ak (l:=[(78,Gq)]) (y:=[]) ⟨On,trivial⟩ trivial) (by kernel_rfl) (fun p=>by kernel_rfl)
def Asc:List TOp:=[oo 2 (.mov (.cst (.str []))),oo 3 (.mov (.cst (.int .i64 0)))]
def Asd:List TOp:=[oo 4 (.mov (.cst (.fn 42)))]
def Ase:List TOp:=[oo 12 (.mov (.tmp 0)),oo 13 (.len false (.tmp 12)),oo 14 (.bin false .gtr (.tmp 13) (.cst (.int .i64 16))),oo 15 (.mov (.tmp 14)),og 16 15 false .bool (.mov (.tmp 0)),og 17 15 false .bool (.mov (.tmp 4)),og 18 15 false .bool (.call 0 0 (.cst (.fn 44)) [(.tmp 16),(.tmp 17)] [] []),oo 19 (.pick (.tmp 15) (.cst (.bool true)) (.tmp 18))]
def Asf:List TOp:=[oo 2 (.mov (.cst (.str []))),oo 3 (.mov (.cst (.int .i64 1)))]
def Ul:Kp:=⟨[],[(2,false),(3,false)],[],[],[]⟩
def Asg:List TOp:=[oo 5 (.mov .nils)]
def Ash:List TOp:=[oo 20 (.mov (.tmp 0)),oo 21 (.len false (.tmp 20)),oo 22 (.mov (.cst (.int .i64 0)))]
def Asi:List TOp:=[oo 23 (.bin false .lss (.tmp 22) (.tmp 21))]
def Asj:List TOp:=[oo 24 (.idx 9 (.tmp 20) (.tmp 22)),ot 25 (.st 7) (.load true 9 (.tmp 24)),oo 7 (.alloc [.pv (.str []),.pv (.str []),.pv (.str []),.pv (.str []),.nils,.nils,.pv (.str []),.pv (.str []),.pv (.str [])]),on (.store 9 (.tmp 7) (.tmp 25))]
def Asl:List TOp:=[oo 26 (.mov (.tmp 5)),oo 27 (.fld 0 (.tmp 7)),oo 28 (.load false 1 (.tmp 27)),oo 29 (.fld 1 (.tmp 7)),oo 30 (.load false 1 (.tmp 29)),oo 31 (.fld 2 (.tmp 7)),oo 32 (.load false 1 (.tmp 31)),oo 33 (.fld 3 (.tmp 7)),oo 34 (.load false 1 (.tmp 33)),ot 35 .str (.lit false 1 [(.cst (.str [112,114,111,100,117,99,116])),(.tmp 28),(.tmp 30),(.cst (.str [123])),(.cst (.str [98,97,115,105,115])),(.tmp 32),(.cst (.str [59])),(.cst (.str [112,101,114,105,111,100])),(.tmp 34),(.cst (.str [59])),(.cst (.str [116,105,101,114,115])),(.cst (.str [123]))]),ot 36 .str (.append 5 1 16 (.tmp 26) (.tmp 35)),oo 5 (.mov (.tmp 36))]
def Ap9:List TOp:=[oo 37 (.fld 4 (.tmp 7)),oo 38 (.load false 1 (.tmp 37)),oo 39 (.len false (.tmp 38)),oo 40 (.mov (.cst (.int .i64 0)))]
def Aqa:List TOp:=[oo 41 (.bin false .lss (.tmp 40) (.tmp 39))]
def Aqb:List TOp:=[oo 42 (.idx 2 (.tmp 38) (.tmp 40)),ot 43 (.st 6) (.load true 2 (.tmp 42)),oo 9 (.alloc [.pv (.str []),.pv (.str [])]),on (.store 2 (.tmp 9) (.tmp 43))]
def Aqc:List TOp:=[oo 44 (.mov (.tmp 5)),oo 45 (.fld 0 (.tmp 9)),oo 46 (.load false 1 (.tmp 45)),oo 47 (.fld 1 (.tmp 9)),oo 48 (.load false 1 (.tmp 47)),ot 49 .str (.lit false 1 [(.tmp 46),(.cst (.str [58])),(.tmp 48),(.cst (.str [37])),(.cst (.str [59]))]),ot 50 .str (.append 5 1 16 (.tmp 44) (.tmp 49)),oo 5 (.mov (.tmp 50))]
def Aqd:List TOp:=[oo 51 (.bin false .add (.tmp 40) (.cst (.int .i64 1))),oo 40 (.mov (.tmp 51))]
def Ap7:DC:=(.seq (.ops Aqa) (.seq (.cond (.tmp 41) .skip (.exit 2)) (.seq (.pass 3 (.seq (.ops Aqb) (.ops Aqc))) (.ops Aqd))))
def Ap3:Kp:=⟨[],[(5,false),(7,false),(20,false),(21,false),(22,false),(38,false),(39,false),(40,false)],[(.loc 5 0,false),(.loc 7 0,false)],[.loc 9 0],[]⟩
def Aqj:Sig:=⟨[(5,some (.own (.loc 5 0))),(7,some (.ptr (.loc 7 0) 0)),(20,none),(21,none),(22,none),(38,none),(39,none),(40,some (.ty (.int .i64)))],[(.loc 5 0,(.row .str)),(.loc 7 0,(.box [none,none,none,none,none,none,none,none,none]))],[(.int .i64),(.sl .str)],[],[]⟩
def Ap4:Kp:=⟨[],[(5,false),(7,false),(20,false),(21,false),(22,false)],[(.loc 5 0,false),(.loc 7 0,false)],[],[]⟩
def Aqk:Sig:=⟨[(5,some (.own (.loc 5 0))),(7,some (.ptr (.loc 7 0) 0)),(20,none),(21,none),(22,none)],[(.loc 5 0,(.row .str)),(.loc 7 0,(.box [none,none,none,none,none,none,none,none,none]))],[(.sl .str)],[],[]⟩
def Aqe:List TOp:=[oo 53 (.fld 5 (.tmp 7)),oo 54 (.load false 1 (.tmp 53)),oo 55 (.call 0 0 (.cst (.fn 37)) [(.tmp 54),(.cst (.int .i64 0))] [] []),oo 52 (.mov (.tmp 55)),oo 56 (.ext 0 (.tmp 52)),oo 57 (.ext 1 (.tmp 52)),oo 10 (.mov (.tmp 56)),oo 11 (.mov (.tmp 57))]
def Aqf:List TOp:=[oo 58 (.mov (.tmp 5)),ot 59 .str (.lit false 1 [(.cst (.str [125])),(.cst (.str [102,101,101]))]),ot 60 .str (.append 5 1 16 (.tmp 58) (.tmp 59)),oo 61 (.mov (.tmp 10)),ot 62 .str (.append 60 1 16 (.tmp 60) (.tmp 61)),oo 5 (.mov (.tmp 62))]
def Aqg:List TOp:=[oo 63 (.mov (.tmp 5)),oo 64 (.fld 6 (.tmp 7)),oo 65 (.load false 1 (.tmp 64)),oo 66 (.fld 7 (.tmp 7)),oo 67 (.load false 1 (.tmp 66)),oo 68 (.fld 8 (.tmp 7)),oo 69 (.load false 1 (.tmp 68)),ot 70 .str (.lit false 1 [(.cst (.str [59])),(.cst (.str [109,105,110,105,109,117,109])),(.tmp 65),(.cst (.str [59])),(.cst (.str [111,118,101,114,100,114,97,102,116])),(.tmp 67),(.cst (.str [59])),(.cst (.str [110,111,116,105,99,101])),(.tmp 69),(.cst (.str [59])),(.cst (.str [125]))]),ot 71 .str (.append 5 1 16 (.tmp 63) (.tmp 70)),oo 5 (.mov (.tmp 71))]
def Aqh:List TOp:=[oo 72 (.bin false .add (.tmp 22) (.cst (.int .i64 1))),oo 22 (.mov (.tmp 72))]
def Ap8:DC:=(.seq (.ops Asi) (.seq (.cond (.tmp 23) .skip (.exit 0)) (.seq (.pass 1 (.seq (.ops Asj) (.seq (.ops Asl) (.seq (.seq (.ops Ap9) (.join Ap4 Aqk (.block 2 (.loop [5,7,20,21,22,38,39,40] [] Ap3 Aqj Ap7)))) (.seq (.ops Aqe) (.seq (.ops Aqf) (.ops Aqg))))))) (.ops Aqh))))
def Ap5:Kp:=⟨[],[(5,false),(20,false),(21,false),(22,false)],[(.loc 5 0,false)],[.loc 7 0],[((.slot 5 (.loc 5 0) 1),.str)]⟩
def Aql:Sig:=⟨[(5,some (.own (.loc 5 0))),(20,none),(21,none),(22,some (.ty (.int .i64)))],[(.loc 5 0,(.row .str))],[(.int .i64),(.sl .str)],[],[]⟩
def Ap6:Kp:=⟨[.loc 5 0],[(5,true)],[],[],[]⟩
def Aqm:Sig:=⟨[(5,some (.ty (.sl .str)))],[],[(.sl .str)],[],[]⟩
def Aqi:List TOp:=[oo 73 (.mov (.tmp 5)),oo 74 (.call 0 0 (.cst (.fn 38)) [(.tmp 73),(.cst (.str [32]))] [] []),oo 2 (.mov (.tmp 74)),oo 3 (.mov (.cst (.int .i64 0)))]
def Avy:TFd:=⟨1,[(.tmp 2,.bool),(.tmp 3,.bool)],[],(.seq (.ops Asc) (.seq (.ops Asd) (.seq (.seq (.ops Ase) (.cond (.tmp 19) (.free (.seq (.ops Asf) (.keep Ul .ret))) .skip)) (.seq (.ops Asg) (.seq (.seq (.ops Ash) (.join Ap6 Aqm (.block 0 (.loop [5,20,21,22] [] Ap5 Aql Ap8)))) (.seq (.ops Aqi) (.keep Ul .ret)))))))⟩
noncomputable def Lq:Ent:=⟨[.ty (.sl (.st 7))],[],[(.sl (.st 7))],⟨(.tup [(.ty .str),(.ty (.int .i64))]),[],[],[.str,(.int .i64)],[],[]⟩,none,fun p=>Hm p⟩
theorem Uj:Lq.ok Tryz.prog 19:=Au hm Tryz.func19 (fd:=Avy) (by kernel_rfl) (Ak (l:=[(44,E9),(37,(Mu 100000)),(38,Sp)]) (y:=[]) ⟨Km,(Q9 100000),Uq,trivial⟩ trivial) (by kernel_rfl) (fun p=>by kernel_rfl)
def Adr:List TOp:=[oo 4 (.mov (.cst (.bool false)))]
def Ads:List TOp:=[oo 6 (.mov (.tmp 0)),oo 7 (.len false (.tmp 6)),oo 8 (.mov (.tmp 1)),oo 9 (.len false (.tmp 8)),oo 10 (.bin false .neq (.tmp 7) (.tmp 9))]
def Adt:List TOp:=[oo 4 (.mov (.cst (.bool false)))]
def Gl:Kp:=⟨[],[(4,false)],[],[],[]⟩
def Adu:List TOp:=[oo 5 (.mov (.cst (.int .i64 0)))]
def Adv:List TOp:=[oo 11 (.mov (.tmp 5)),oo 12 (.mov (.tmp 0)),oo 13 (.len false (.tmp 12)),oo 14 (.bin false .lss (.tmp 11) (.tmp 13))]
def Adw:List TOp:=[oo 17 (.mov (.tmp 0)),oo 18 (.mov (.tmp 5)),oo 19 (.idx 2 (.tmp 17) (.tmp 18)),ot 20 (.st 4) (.load true 2 (.tmp 19)),oo 21 (.mov (.tmp 1)),oo 22 (.mov (.tmp 5)),oo 23 (.idx 2 (.tmp 21) (.tmp 22)),ot 24 (.st 4) (.load true 2 (.tmp 23)),oo 25 (.eqs true [.i,.s] (.tmp 20) (.tmp 24))]
def Adx:List TOp:=[oo 4 (.mov (.cst (.bool false)))]
def Ady:List TOp:=[oo 15 (.mov (.tmp 5)),oo 16 (.bin false .add (.tmp 15) (.cst (.int .i64 1))),oo 5 (.mov (.tmp 16))]
def Adq:DC:=(.seq (.seq (.ops Adv) (.cond (.tmp 14) .skip (.exit 0))) (.seq (.pass 1 (.seq (.draw [] Adw) (.cond (.tmp 25) (.free (.seq (.ops Adx) (.keep Gl .ret))) .skip))) (.ops Ady)))
def Y1:Kp:=⟨[],[(0,false),(1,false),(5,false)],[],[],[]⟩
def Y4:Sig:=⟨[(0,none),(1,none),(5,some (.ty (.int .i64)))],[],[(.int .i64)],[],[]⟩
def Y2:Kp:=⟨[],[],[],[],[]⟩
def Y5:Sig:=⟨[],[],[],[],[]⟩
def Y3:List TOp:=[oo 4 (.mov (.cst (.bool true)))]
def Ak2:TFd:=⟨2,[(.tmp 4,.bool)],[],(.seq (.ops Adr) (.seq (.seq (.ops Ads) (.cond (.tmp 10) (.free (.seq (.ops Adt) (.keep Gl .ret))) .skip)) (.seq (.seq (.ops Adu) (.joinO Y2 Y5 (.block 0 (.loop [0,1,5] [] Y1 Y4 Adq)))) (.seq (.ops Y3) (.keep Gl .ret)))))⟩
noncomputable def Gw:Ent:=⟨[.ty (.sl (.st 4)),.ty (.sl (.st 4))],[],[(.sl (.st 4)),(.sl (.st 4))],⟨(.ty .bool),[],[],[.bool],[],[]⟩,none,fun p=>Dw p.1 p.2⟩
theorem Jq:Gw.ok Tryz.prog 11:=Au hm Tryz.func11 (fd:=Ak2) (by kernel_rfl) (Ak (l:=[]) (y:=[]) trivial trivial) (by kernel_rfl) (fun p=>by kernel_rfl)
def Tb:List TOp:=[oo 4 (.mov (.cst (.bool false)))]
def Tc:List TOp:=[oo 6 (.mov (.tmp 0)),oo 7 (.len false (.tmp 6)),oo 8 (.mov (.tmp 1)),oo 9 (.len false (.tmp 8)),oo 10 (.bin false .neq (.tmp 7) (.tmp 9))]
def Td:List TOp:=[oo 4 (.mov (.cst (.bool false)))]
def Eo:Kp:=⟨[],[(4,false)],[],[],[]⟩
def Te:List TOp:=[oo 11 (.mov (.tmp 0)),oo 12 (.len false (.tmp 11)),oo 13 (.mov (.cst (.int .i64 0)))]
def Tf:List TOp:=[oo 14 (.bin false .lss (.tmp 13) (.tmp 12))]
def Tg:List TOp:=[oo 15 (.mov (.tmp 13)),oo 5 (.mov (.tmp 15))]
def Th:List TOp:=[oo 16 (.mov (.tmp 0)),oo 17 (.mov (.tmp 5)),oo 18 (.idx 2 (.tmp 16) (.tmp 17)),ot 19 (.st 6) (.load true 2 (.tmp 18)),oo 20 (.mov (.tmp 1)),oo 21 (.mov (.tmp 5)),oo 22 (.idx 2 (.tmp 20) (.tmp 21)),ot 23 (.st 6) (.load true 2 (.tmp 22)),oo 24 (.eqs true [.s,.s] (.tmp 19) (.tmp 23))]
def Ti:List TOp:=[oo 4 (.mov (.cst (.bool false)))]
def Tj:List TOp:=[oo 25 (.bin false .add (.tmp 13) (.cst (.int .i64 1))),oo 13 (.mov (.tmp 25))]
def R9:DC:=(.seq (.ops Tf) (.seq (.cond (.tmp 14) .skip (.exit 0)) (.seq (.pass 1 (.seq (.ops Tg) (.seq (.draw [] Th) (.cond (.tmp 24) (.free (.seq (.ops Ti) (.keep Eo .ret))) .skip)))) (.ops Tj))))
def R7:Kp:=⟨[],[(0,false),(1,false),(12,false),(13,false)],[],[],[]⟩
def Sb:Sig:=⟨[(0,none),(1,none),(12,none),(13,some (.ty (.int .i64)))],[],[(.int .i64)],[],[]⟩
def R8:Kp:=⟨[],[],[],[],[]⟩
def Sc:Sig:=⟨[],[],[],[],[]⟩
def Sa:List TOp:=[oo 4 (.mov (.cst (.bool true)))]
def Abf:TFd:=⟨2,[(.tmp 4,.bool)],[],(.seq (.ops Tb) (.seq (.seq (.ops Tc) (.cond (.tmp 10) (.free (.seq (.ops Td) (.keep Eo .ret))) .skip)) (.seq (.seq (.ops Te) (.joinO R8 Sc (.block 0 (.loop [0,1,12,13] [] R7 Sb R9)))) (.seq (.ops Sa) (.keep Eo .ret)))))⟩
noncomputable def Ih:Ent:=⟨[.ty (.sl (.st 6)),.ty (.sl (.st 6))],[],[(.sl (.st 6)),(.sl (.st 6))],⟨(.ty .bool),[],[],[.bool],[],[]⟩,none,fun p=>D4 p.1 p.2⟩
theorem Tz:Ih.ok Tryz.prog 48:=Au hm Tryz.func48 (fd:=Abf) (by kernel_rfl) (Ak (l:=[]) (y:=[]) trivial trivial) (by kernel_rfl) (fun p=>by kernel_rfl)
def Tl:List TOp:=[oo 4 (.mov (.cst (.bool false)))]
def Tm:List TOp:=[oo 6 (.mov (.tmp 0)),oo 7 (.len false (.tmp 6)),oo 8 (.mov (.tmp 1)),oo 9 (.len false (.tmp 8)),oo 10 (.bin false .neq (.tmp 7) (.tmp 9))]
def Tn:List TOp:=[oo 4 (.mov (.cst (.bool false)))]
def Ep:Kp:=⟨[],[(4,false)],[],[],[]⟩
def To:List TOp:=[oo 11 (.mov (.tmp 0)),oo 12 (.len false (.tmp 11)),oo 13 (.mov (.cst (.int .i64 0)))]
def Tp:List TOp:=[oo 14 (.bin false .lss (.tmp 13) (.tmp 12))]
def Tq:List TOp:=[oo 15 (.mov (.tmp 13)),oo 5 (.mov (.tmp 15))]
def Tr:List TOp:=[oo 16 (.mov (.tmp 0)),oo 17 (.mov (.tmp 5)),oo 18 (.idx 2 (.tmp 16) (.tmp 17)),ot 19 (.st 4) (.load true 2 (.tmp 18)),oo 20 (.mov (.tmp 1)),oo 21 (.mov (.tmp 5)),oo 22 (.idx 2 (.tmp 20) (.tmp 21)),ot 23 (.st 4) (.load true 2 (.tmp 22)),oo 24 (.eqs true [.i,.s] (.tmp 19) (.tmp 23))]
def Ts:List TOp:=[oo 4 (.mov (.cst (.bool false)))]
def Tt:List TOp:=[oo 25 (.bin false .add (.tmp 13) (.cst (.int .i64 1))),oo 13 (.mov (.tmp 25))]
def Sf:DC:=(.seq (.ops Tp) (.seq (.cond (.tmp 14) .skip (.exit 0)) (.seq (.pass 1 (.seq (.ops Tq) (.seq (.draw [] Tr) (.cond (.tmp 24) (.free (.seq (.ops Ts) (.keep Ep .ret))) .skip)))) (.ops Tt))))
def Sd:Kp:=⟨[],[(0,false),(1,false),(12,false),(13,false)],[],[],[]⟩
def Sh:Sig:=⟨[(0,none),(1,none),(12,none),(13,some (.ty (.int .i64)))],[],[(.int .i64)],[],[]⟩
def Se:Kp:=⟨[],[],[],[],[]⟩
def Si:Sig:=⟨[],[],[],[],[]⟩
def Sg:List TOp:=[oo 4 (.mov (.cst (.bool true)))]
def Abg:TFd:=⟨2,[(.tmp 4,.bool)],[],(.seq (.ops Tl) (.seq (.seq (.ops Tm) (.cond (.tmp 10) (.free (.seq (.ops Tn) (.keep Ep .ret))) .skip)) (.seq (.seq (.ops To) (.joinO Se Si (.block 0 (.loop [0,1,12,13] [] Sd Sh Sf)))) (.seq (.ops Sg) (.keep Ep .ret)))))⟩
noncomputable def Ii:Ent:=⟨[.ty (.sl (.st 4)),.ty (.sl (.st 4))],[],[(.sl (.st 4)),(.sl (.st 4))],⟨(.ty .bool),[],[],[.bool],[],[]⟩,none,fun p=>D5 p.1 p.2⟩
theorem T0:Ii.ok Tryz.prog 49:=Au hm Tryz.func49 (fd:=Abg) (by kernel_rfl) (Ak (l:=[]) (y:=[]) trivial trivial) (by kernel_rfl) (fun p=>by kernel_rfl)
def A3n:List TOp:=[oo 2 (.box (.tmp 0)),oo 3 (.box (.tmp 1)),oo 4 (.mov (.cst (.bool false)))]
def A3o:List TOp:=[oo 5 (.fld 4 (.tmp 2)),oo 6 (.load false 1 (.tmp 5)),oo 7 (.fld 4 (.tmp 3)),oo 8 (.load false 1 (.tmp 7)),oo 9 (.call 0 0 (.cst (.fn 48)) [(.tmp 6),(.tmp 8)] [] []),oo 10 (.mov (.tmp 9)),og 11 10 true .bool (.fld 5 (.tmp 2)),og 12 10 true .bool (.load false 1 (.tmp 11)),og 13 10 true .bool (.fld 5 (.tmp 3)),og 14 10 true .bool (.load false 1 (.tmp 13)),og 15 10 true .bool (.call 0 0 (.cst (.fn 49)) [(.tmp 12),(.tmp 14)] [] []),oo 16 (.pick (.tmp 10) (.tmp 15) (.cst (.bool false))),oo 17 (.mov (.tmp 16)),og 18 17 true .bool (.fld 0 (.tmp 2)),og 19 17 true .bool (.load false 1 (.tmp 18)),og 20 17 true .bool (.fld 0 (.tmp 3)),og 21 17 true .bool (.load false 1 (.tmp 20)),og 22 17 true .bool (.bin false .eql (.tmp 19) (.tmp 21)),oo 23 (.pick (.tmp 17) (.tmp 22) (.cst (.bool false))),oo 24 (.mov (.tmp 23)),og 25 24 true .bool (.fld 1 (.tmp 2)),og 26 24 true .bool (.load false 1 (.tmp 25)),og 27 24 true .bool (.fld 1 (.tmp 3)),og 28 24 true .bool (.load false 1 (.tmp 27)),og 29 24 true .bool (.bin false .eql (.tmp 26) (.tmp 28)),oo 30 (.pick (.tmp 24) (.tmp 29) (.cst (.bool false))),oo 31 (.mov (.tmp 30)),og 32 31 true .bool (.fld 2 (.tmp 2)),og 33 31 true .bool (.load false 1 (.tmp 32)),og 34 31 true .bool (.fld 2 (.tmp 3)),og 35 31 true .bool (.load false 1 (.tmp 34)),og 36 31 true .bool (.bin false .eql (.tmp 33) (.tmp 35)),oo 37 (.pick (.tmp 31) (.tmp 36) (.cst (.bool false))),oo 38 (.mov (.tmp 37)),og 39 38 true .bool (.fld 3 (.tmp 2)),og 40 38 true .bool (.load false 1 (.tmp 39)),og 41 38 true .bool (.fld 3 (.tmp 3)),og 42 38 true .bool (.load false 1 (.tmp 41)),og 43 38 true .bool (.bin false .eql (.tmp 40) (.tmp 42)),oo 44 (.pick (.tmp 38) (.tmp 43) (.cst (.bool false))),oo 45 (.mov (.tmp 44)),og 46 45 true .bool (.fld 6 (.tmp 2)),og 47 45 true .bool (.load false 1 (.tmp 46)),og 48 45 true .bool (.fld 6 (.tmp 3)),og 49 45 true .bool (.load false 1 (.tmp 48)),og 50 45 true .bool (.bin false .eql (.tmp 47) (.tmp 49)),oo 51 (.pick (.tmp 45) (.tmp 50) (.cst (.bool false))),oo 52 (.mov (.tmp 51)),og 53 52 true .bool (.fld 7 (.tmp 2)),og 54 52 true .bool (.load false 1 (.tmp 53)),og 55 52 true .bool (.fld 7 (.tmp 3)),og 56 52 true .bool (.load false 1 (.tmp 55)),og 57 52 true .bool (.bin false .eql (.tmp 54) (.tmp 56)),oo 58 (.pick (.tmp 52) (.tmp 57) (.cst (.bool false))),oo 59 (.mov (.tmp 58)),og 60 59 true .bool (.fld 8 (.tmp 2)),og 61 59 true .bool (.load false 1 (.tmp 60)),og 62 59 true .bool (.fld 8 (.tmp 3)),og 63 59 true .bool (.load false 1 (.tmp 62)),og 64 59 true .bool (.bin false .eql (.tmp 61) (.tmp 63)),oo 65 (.pick (.tmp 59) (.tmp 64) (.cst (.bool false))),oo 4 (.mov (.tmp 65))]
def A3m:Kp:=⟨[],[(4,false)],[],[],[]⟩
def Bd7:TFd:=⟨2,[(.tmp 4,.bool)],[],(.seq (.ops A3n) (.seq (.ops A3o) (.keep A3m .ret)))⟩
noncomputable def Acb:Ent:=⟨[.ty (.st 7),.ty (.st 7)],[],[(.st 7),(.st 7)],⟨(.ty .bool),[],[],[.bool],[],[]⟩,none,fun p=>Lr p.1 p.2⟩
theorem Aos:Acb.ok Tryz.prog 24:=Au hm Tryz.func24 (fd:=Bd7) (by kernel_rfl) (Ak (l:=[(48,Ih),(49,Ii)]) (y:=[]) ⟨Tz,T0,trivial⟩ trivial) (by kernel_rfl) (fun p=>by kernel_rfl)
end Go.Av.G
end
