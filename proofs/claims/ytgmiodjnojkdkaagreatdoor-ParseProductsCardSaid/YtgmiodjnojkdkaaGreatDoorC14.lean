import Derived.ProofKit
import Derived.SizedLaws
import Derived.Test.YtgmiodjnojkdkaaGreatDoorC13
set_option linter.all false
section
namespace Go.Av
open Go Go.ChangeShapes Go.WideShapes Go.ChangeAt Go.RowKit
inductive TT where
 |int (k:IntKind)
 |bool
 |str
 |slice (t:TT)
 |unit
 |field (t r:TT)
 |struct (t:TT)
def TT.sz:TT→Nat
 | .unit=>0
 | .field t r=>t.sz+r.sz
 | .struct t=>t.sz
 |_=>1
def TT.pack:TT→List PV→PV
 | .struct _,xs=> .agg xs
 | .unit,xs=> .agg xs
 | .field _ _,xs=> .agg xs
 |_,xs=>xs.headD .nilI
def TT.Of:TT→List PV→Prop
 | .int k,xs=> ∃n,xs=[.int k n]∧k.min≤n∧n≤k.max
 | .bool,xs=> ∃b,xs=[.bool b]
 | .str,xs=> ∃s,xs=[.str s]∧s.length≤reachBytes
 | .slice t,xs=> ∃ys:List (List PV),xs=[.slice (ys.map t.pack)]∧ys.length≤maxLen∧ ∀y∈ys,t.Of y
 | .unit,xs=>xs=[]
 | .field t r,xs=> ∃a b,xs=a++b∧t.Of a∧r.Of b
 | .struct t,xs=>t.Of xs
def Ii(P:Program)(rd:TypeId→TT→Bool):Nat→List Field→TT→Bool
 |_,[],.unit=>true
 |off,f::fs,.field t r=>f.offset==off&&(P.cellsOf f.type==t.sz&&(rd f.type t&&Ii P rd (off+t.sz) fs r))
 |_,_,_=>false
def reads(P:Program):Nat→TypeId→TT→Bool
 |0,_,_=>false
 |n+1,t,τ=>match P.underlying t,τ with
  |some (.int k),.int k'=>k==k'
  |some .bool,.bool=>true
  |some .string,.str=>true
  |some (.slice e),.slice r=>P.cellsOf e==r.sz&&(decide (0<r.sz)&&reads P n e r)
  |some (.struct fs),.struct r=>P.cellsOf t==r.sz&&Ii P (reads P n) 0 fs.toList r
  |_,_=>false
theorem TT.Of.len: ∀{t:TT} {xs:List PV},t.Of xs→xs.length=t.sz
 | .int k,xs,⟨n,h,_⟩=>by subst h;rfl
 | .bool,xs,⟨b,h⟩=>by subst h;rfl
 | .str,xs,⟨s,h,_⟩=>by subst h;rfl
 | .slice t,xs,⟨ys,h,_⟩=>by subst h;rfl
 | .unit,xs,h=>by simp[TT.Of] at h;subst h;rfl
 | .field t r,xs,⟨a,b,h,ha,hb⟩=>by subst h;simp[TT.sz,ha.len,hb.len]
 | .struct t,xs,h=>TT.Of.len (t:=t) h
theorem TT.Of.one: ∀{t:TT} {xs:List PV},t.Of xs→ ∀x∈xs,x.one=true
 | .int k,xs,⟨n,h,_⟩=>by subst h;simp[PV.one]
 | .bool,xs,⟨b,h⟩=>by subst h;simp[PV.one]
 | .str,xs,⟨s,h,_⟩=>by subst h;simp[PV.one]
 | .slice t,xs,⟨ys,h,_⟩=>by subst h;simp[PV.one]
 | .unit,xs,h=>by simp[TT.Of] at h;subst h;simp
 | .field t r,xs,⟨a,b,h,ha,hb⟩=>by
  subst h
  intro x hx
  rcases List.mem_append.1 hx with hx|hx
  ·exact ha.one x hx
  ·exact hb.one x hx
 | .struct t,xs,h=>TT.Of.one (t:=t) h
theorem N5{t:TT}{xs:List PV}(h:t.Of xs):(t.pack xs).cells=xs:=by
 cases t with
 |struct t=>rfl
 |int k=>obtain⟨n,rfl,_⟩:=h;rfl
 |bool=>obtain⟨n,rfl⟩:=h;rfl
 |str=>obtain⟨n,rfl,_⟩:=h;rfl
 |slice t=>obtain⟨n,rfl,_⟩:=h;rfl
 |unit=>rfl
 |field t r=>rfl
def Vy(w:World)(ok:Nat→Prop)(xs:List PV)(us:List Value):Prop:=xs.length=us.length∧ ∀(j:Nat) (x:PV) (u:Value),xs[j]? =some x→us[j]? =some u→Bg w ok x u
theorem Vy.append{w:World}{ok:Nat→Prop}{xs xs':List PV}{us us':List Value}(h:Vy w ok xs us)(h':Vy w ok xs' us'):Vy w ok (xs++xs') (us++us'):=by
 refine⟨by simp[h.1,h'.1],fun j x u hx hu=>?_⟩
 by_cases hj:j<xs.length
 ·rw[List.getElem?_append_left hj] at hx
  rw[List.getElem?_append_left (h.1▸hj)] at hu
  exact h.2 j x u hx hu
 ·rw[List.getElem?_append_right (by omega)] at hx
  rw[List.getElem?_append_right (by rw[←h.1];omega),←h.1] at hu
  exact h'.2 _ x u hx hu
theorem Vy.single{w:World}{ok:Nat→Prop}{x:PV}{u:Value}(h:Bg w ok x u):Vy w ok [x] [u]:=by
 refine⟨rfl,fun j y v hy hv=>?_⟩
 cases j with
 |zero=>simp at hy hv;subst hy;subst hv;exact h
 |succ j=>simp at hy
section
variable {H:Type} {enc:TypeId×Value→H} {P:Program} {W:World}
theorem Buv{n m:Nat}{cs:List Value}(IH: ∀(t:TypeId) (τ:TT) (cs:List Value) (x:DataW H×List MemPlace),reads P n t τ=true→DataW.trod enc P W 0 (fun _=>true) true m t cs=some x→(∀k∈x.1.weights P t,k≤reachBytes)→cs.length=τ.sz∧ ∃xs,τ.Of xs∧Vy W (· <W.heap.size) xs cs):
  ∀(fs:List Field) (τ:TT) (off:Nat),Ii P (reads P n) off fs τ=true→(∀f∈fs,∃x,DataW.trod enc P W 0 (fun _=>true) true m f.type ((cs.drop f.offset).take (P.cellsOf f.type))=some x∧ ∀k∈x.1.weights P f.type,k≤reachBytes)→off+τ.sz=cs.length→
   ∃xs,τ.Of xs∧Vy W (· <W.heap.size) xs (cs.drop off)
 |[],.unit,off,h,ht,hl=>⟨[],rfl,by simp[TT.sz] at hl;subst hl;exact⟨by simp,fun j x u hx=>by simp at hx⟩⟩
 |f::fs,.field t r,off,h,ht,hl=>by
  simp only[Ii,Bool.and_eq_true,beq_iff_eq] at h
  obtain⟨rfl,hc,hr,hF⟩:=h
  obtain⟨x,hx,hxw⟩:=ht f (by simp)
  obtain⟨hlen,xs,ho,hL⟩:=IH _ _ _ _ hr hx hxw
  simp only[TT.sz] at hl
  obtain⟨ys,ho',hL'⟩:=Buv IH fs r (f.offset+t.sz) hF (fun g hg=>ht g (by simp[hg])) (by omega)
  refine⟨xs++ys,⟨xs,ys,rfl,ho,ho'⟩,?_⟩
  have e:cs.drop f.offset=(cs.drop f.offset).take (P.cellsOf f.type)++cs.drop (f.offset+t.sz):=by
   rw[hc,←List.drop_drop]
   exact(List.take_append_drop _ _).symm
  rw[e]
  exact hL.append hL'
 |[],.int _,_,h,_,_=>by simp[Ii] at h
 |[],.bool,_,h,_,_=>by simp[Ii] at h
 |[],.str,_,h,_,_=>by simp[Ii] at h
 |[],.slice _,_,h,_,_=>by simp[Ii] at h
 |[],.field _ _,_,h,_,_=>by simp[Ii] at h
 |[],.struct _,_,h,_,_=>by simp[Ii] at h
 |_::_,.int _,_,h,_,_=>by simp[Ii] at h
 |_::_,.bool,_,h,_,_=>by simp[Ii] at h
 |_::_,.str,_,h,_,_=>by simp[Ii] at h
 |_::_,.slice _,_,h,_,_=>by simp[Ii] at h
 |_::_,.unit,_,h,_,_=>by simp[Ii] at h
 |_::_,.struct _,_,h,_,_=>by simp[Ii] at h
theorem Bzd{n m:Nat}{e:TypeId}{τ:TT}(IH: ∀(t:TypeId) (τ:TT) (cs:List Value) (x:DataW H×List MemPlace),reads P n t τ=true→DataW.trod enc P W 0 (fun _=>true) true m t cs=some x→(∀k∈x.1.weights P t,k≤reachBytes)→cs.length=τ.sz∧ ∃xs,τ.Of xs∧Vy W (· <W.heap.size) xs cs)
  (hc:P.cellsOf e=τ.sz)(h0:0<τ.sz)(hr:reads P n e τ=true){a:Addr}{len:Nat}{elems:List (DataW H×List MemPlace)}(hl:elems.length=len)(hwt: ∀e2∈elems,∀k∈e2.1.weights P e,k≤reachBytes)
  (h: ∀i,i<len→(W.cells? 0 (a.add (i*P.cellsOf e)) (P.cellsOf e)).bind (DataW.trod enc P W 0 (fun _=>true) true m e)=elems[i]?):
  ∃(ys:List (List PV)) (us:Nat→Nat→Value),ys.length=len∧(∀y∈ys,τ.Of y)∧(0<len→a.spot=none)∧(∀i j,i<len→j<τ.sz→a.block<W.heap.size∧W.cell? ⟨a.block,a.off+i*τ.sz+j,none⟩=some (us i j))∧
   ∀(i j:Nat) (y:List PV) (x:PV),ys[i]? =some y→y[j]? =some x→Bg W (· <W.heap.size) x (us i j):=by
 have key: ∀i,∃q:List PV×List Value,i<len→W.cells? 0 (a.add (i*P.cellsOf e)) (P.cellsOf e)=some q.2∧q.2.length=τ.sz∧τ.Of q.1∧Vy W (· <W.heap.size) q.1 q.2:=by
  intro i
  by_cases hi:i<len
  ·have:=h i hi
   rw[List.getElem?_eq_getElem (by omega)] at this
   obtain⟨cs,h1,h2⟩:=Option.bind_eq_some_iff.1 this
   obtain⟨h3,xs,h4,h5⟩:=IH _ _ _ _ hr h2 (hwt _ (List.getElem_mem _))
   exact⟨(xs,cs),fun _=>⟨h1,h3,h4,h5⟩⟩
  ·exact⟨([],[]),fun h=>absurd h hi⟩
 obtain⟨f,hf⟩:=Classical.skolem.1 key
 have hcell: ∀i,i<len→ ∀j,j<τ.sz→W.cell? ((a.add (i*τ.sz)).add j)=some (((f i).2[j]?).getD default):=by
  intro i hi j hj
  obtain⟨h1,h2,h3,h4⟩:=hf i hi
  rw[hc] at h1
  rw[(World.cells?_some h1).2.2 j hj,List.getElem?_eq_getElem (by omega)]
  rfl
 have hspot:0<len→a.spot=none:=by
  intro hlen
  have:=hcell 0 hlen 0 h0
  simp only[Nat.zero_mul,Addr.add,if_true] at this
  unfold World.cell? at this
  cases hs:a.spot with
  |none=>rfl
  |some s=>rw[hs] at this;split at this<;>simp at this
 refine⟨(List.range len).map fun i=>(f i).1,fun i j=>((f i).2[j]?).getD default,by simp,?_,hspot,?_,?_⟩
 ·intro y hy
  simp only[List.mem_map,List.mem_range] at hy
  obtain⟨i,hi,rfl⟩:=hy
  exact(hf i hi).2.2.1
 ·intro i j hi hj
  have hs:=hspot (by omega)
  have hh:=hcell i hi j hj
  have e1:(a.add (i*τ.sz)).add j=⟨a.block,a.off+i*τ.sz+j,none⟩:=by
   rcases a with⟨b,o,s⟩
   simp only at hs
   subst hs
   unfold Addr.add
   split<;>split<;>simp_all
  rw[e1] at hh
  refine⟨?_,hh⟩
  unfold World.cell? at hh
  split at hh
  ·rename_i hb
   exact(Array.getElem?_eq_some_iff.1 hb).1
  ·cases hh
 ·intro i j y x hy hx
  simp only[List.getElem?_map,Option.map_eq_some_iff] at hy
  obtain⟨i',hi',rfl⟩:=hy
  have hi:i<len:=by
   have:=(List.getElem?_eq_some_iff.1 hi').1
   simpa using this
  obtain rfl:i=i':=by simpa [List.getElem?_range hi] using hi'
  obtain⟨h1,h2,h3,h4⟩:=hf i hi
  have hj:j<(f i).2.length:=by
   rw[←h4.1]
   exact(List.getElem?_eq_some_iff.1 hx).1
  have:=h4.2 j x (f i).2[j] hx (List.getElem?_eq_getElem hj)
  simpa [List.getElem?_eq_getElem hj] using this
theorem Ap6{e:TypeId}{d:DataW H}: ∀{l:List (DataW H)},d∈l→ ∀{k:Nat},k∈d.weights P e→k∈DataW.weightsAll P e l
 |[],h,_,_=>by cases h
 |a::l,h,k,hk=>by
  simp only[DataW.weightsAll,List.mem_append]
  rcases List.mem_cons.1 h with rfl|h
  ·exact Or.inl hk
  ·exact Or.inr (Ap6 h hk)
theorem Bw4: ∀(m n:Nat) (t:TypeId) (τ:TT) (cs:List Value) (x:DataW H×List MemPlace),reads P n t τ=true→DataW.trod enc P W 0 (fun _=>true) true m t cs=some x→(∀k∈x.1.weights P t,k≤reachBytes)→cs.length=τ.sz∧ ∃xs,τ.Of xs∧Vy W (· <W.heap.size) xs cs
 |m,0,t,τ,cs,x,hr,h,hw=>by simp[reads] at hr
 |0,n+1,t,τ,cs,x,hr,h,hw=>by simp[DataW.trod] at h
 |m+1,n+1,t,τ,cs,x,hr,h,hws=>by
  have IH:=Bw4 m n
  unfold reads at hr
  split at hr
  ·rename_i k k' ht
   obtain rfl:k=k':=by simpa using hr
   obtain⟨i,rfl,_,hw⟩:=DataW.trod_int ht h
   simp only[Lit.wf,Bool.and_eq_true,decide_eq_true_eq] at hw
   exact⟨rfl,_,⟨i,rfl,hw.1,hw.2⟩,.single (.int k i)⟩
  ·rename_i ht
   obtain⟨b,rfl,_⟩:=DataW.trod_bool ht h
   exact⟨rfl,_,⟨b,rfl⟩,.single (.bool b)⟩
  ·rename_i ht
   obtain⟨s,rfl,hx2,hw⟩:=DataW.trod_string ht h
   exact⟨rfl,_,⟨s.data.toList,rfl,hws _ (by rw[hx2];simp[DataW.weights])⟩,.single (by simpa using Bg.str (w:=W) (ok:=(· <W.heap.size)) s.data.toList)⟩
  ·rename_i e r ht
   simp only[Bool.and_eq_true,beq_iff_eq,decide_eq_true_eq] at hr
   obtain⟨hc,h0,hr⟩:=hr
   rcases DataW.trod_slice ht h with⟨rfl,_⟩|⟨a,len,cap,elems,rest,m',hm,rfl,hx2,_,hlc,hcm,hel,hat,_,_⟩
   ·exact⟨rfl,_,⟨[],rfl,Nat.zero_le _,by simp⟩,.single (.slice [] none 0 0 r.sz (fun _ _=>default) rfl (Nat.le_refl _) (by simp) (by simp) (by intro i j hi;omega) (by omega) (by intro i j x y hx;simp at hx))⟩
   ·obtain rfl:m=m':=by omega
    obtain⟨ys,us,hl,ho,hs,hcell,hlie⟩:=Bzd IH hc h0 hr hel (fun e2 he2 k hk=>hws k (by
     rw[hx2]
     unfold DataW.weights
     rw[ht]
     simp only[List.mem_cons,List.mem_append]
     exact Or.inr (Or.inl (Ap6 (List.mem_map.2 ⟨e2,he2,rfl⟩) hk)))) hat
    refine⟨rfl,_,⟨ys,rfl,by omega,ho⟩,.single (.slice _ (some a) len cap r.sz us (by simp[hl]) hlc ?_ ?_ ?_ ?_ ?_)⟩
    ·intro x hx
     obtain⟨y,hy,rfl⟩:=List.mem_map.1 hx
     rw[N5 (ho y hy)]
     exact(ho y hy).len
    ·intro x hx
     obtain⟨y,hy,rfl⟩:=List.mem_map.1 hx
     rw[N5 (ho y hy)]
     exact(ho y hy).one
    ·intro i j hi hj
     exact⟨a,rfl,hs (by omega),(hcell i j hi hj).1,(hcell i j hi hj).2⟩
    ·intro h;exact⟨a,rfl,hs h⟩
    ·intro i j x y hx hy
     simp only[List.getElem?_map,Option.map_eq_some_iff] at hx
     obtain⟨z,hz,rfl⟩:=hx
     rw[N5 (ho z (List.mem_of_getElem? hz))] at hy
     exact hlie i j z y hz hy
  ·rename_i fs r ht
   simp only[Bool.and_eq_true,beq_iff_eq] at hr
   obtain⟨hc,hF⟩:=hr
   obtain⟨xs,m',hm,hx2,hlen,hxl,hf⟩:=DataW.trod_struct ht h
   obtain rfl:m=m':=by omega
   refine⟨by rw[hlen,hc];rfl,?_⟩
   obtain⟨ys,ho,hL⟩:=Buv (cs:=cs) IH fs.toList r 0 hF (fun f hf'=>by
    obtain⟨i,hi,he⟩:=List.getElem_of_mem hf'
    have hi':i<fs.size:=by simpa using hi
    have:=hf i f (by rw[Array.getElem?_eq_getElem hi'];simpa using he)
    rw[List.getElem?_eq_getElem (by omega)] at this
    refine⟨_,this,fun k hk=>hws k ?_⟩
    rw[hx2]
    unfold DataW.weights
    rw[ht]
    refine DataW.weights_mem_each (j:=i) (t:=f.type) (d:=(xs[i]'(by omega)).1) ?_ ?_ k hk
    ·rw[List.getElem?_map,List.getElem?_eq_getElem hi]
     simp[he]
    ·rw[List.getElem?_map,List.getElem?_eq_getElem (by omega)]
     rfl) (by rw[hlen,hc];simp)
   exact⟨ys,ho,by simpa using hL⟩
  ·cases hr
theorem Bzc{n base:Nat}{t:TypeId}{τ:TT}{v:Value}{d:DataW H}{ps:List MemPlace}(hr:reads P n t τ=true)(hok:Value.okWide P W .any base t v)(h:DataW.Trod enc P W 0 (fun _=>true) true t v d ps)(hw: ∀k∈d.weights P t,k≤reachBytes):
  ∃xs,τ.Of xs∧Bg W (· <W.heap.size) (τ.pack xs) v:=by
 obtain⟨m,hm⟩:=h
 obtain⟨hlen,xs,ho,hL⟩:=Bw4 m n t τ _ _ hr hm hw
 refine⟨xs,ho,?_⟩
 have one: ∀u,v=u→u.cells= #[u]→(τ.pack xs).cells=[τ.pack xs]→Bg W (· <W.heap.size) (τ.pack xs) v:=by
  intro u hu hc hp
  subst hu
  rw[N5 ho] at hp
  rw[hc,hp] at hL
  exact hL.2 0 _ _ rfl rfl
 cases n with
 |zero=>simp[reads] at hr
 |succ n=>
  unfold reads at hr
  split at hr
  ·rename_i ht
   obtain⟨i,rfl⟩:=okWide_int ht hok
   obtain⟨k,rfl,_⟩:=ho
   exact one _ rfl rfl rfl
  ·rename_i ht
   obtain⟨i,rfl⟩:=okWide_bool ht hok
   obtain⟨k,rfl⟩:=ho
   exact one _ rfl rfl rfl
  ·rename_i ht
   obtain⟨i,rfl⟩:=okWide_string ht hok
   obtain⟨k,rfl,_⟩:=ho
   exact one _ rfl rfl rfl
  ·rename_i ht
   obtain⟨a,l,c,rfl⟩:=okWide_slice ht hok
   obtain⟨k,rfl,_⟩:=ho
   exact one _ rfl rfl rfl
  ·rename_i ht
   obtain⟨us,rfl,hs⟩:=okWide_struct ht hok
   simp only[TT.pack]
   have:=Bg.agg (w:=W) (ok:=(· <W.heap.size)) xs us.toList (by simpa [Value.cells] using hL.1) (fun x hx=>TT.Of.one ho x hx) (by simpa [Value.cells] using hL.2)
   simpa using this
  ·cases hr
theorem Bog{α:Type}{f:α→PV}{τ:TT}{wf:α→Prop}(hh: ∀xs,τ.Of xs→ ∃x,wf x∧τ.pack xs=f x): ∀ys:List (List PV),(∀y∈ys,τ.Of y)→ ∃l:List α,l.length=ys.length∧(∀x∈l,wf x)∧ys.map τ.pack=l.map f
 |[],_=>⟨[],rfl,by simp,rfl⟩
 |y::ys,h=>by
  obtain⟨x,hx,he⟩:=hh y (h y (by simp))
  obtain⟨l,h0,h1,h2⟩:=Bog hh ys (fun z hz=>h z (by simp[hz]))
  refine⟨x::l,by simp[h0],?_,by simp[he,h2]⟩
  intro z hz
  rcases List.mem_cons.1 hz with rfl|hz
  ·exact hx
  ·exact h1 z hz
theorem Aw5{W':World}(hl:laidOutB P=true)(hb:Below W.heap.size W W'){sp:Nat→Bool}: ∀{ts:List TypeId} {vs:List Value} {ds:List (DataW H)} {ps:List MemPlace},
  (∀t∈ts,P.readableRec t=true∧t<P.types.size)→DataW.TrodAll enc P W 0 (fun _=>true) true ts vs ds ps→(∀p∈ps,p.block<W.heap.size)→(∀p∈ps,sp p.block=true)→DataW.TrodAll enc P W' 0 sp true ts vs ds ps
 |[],_,_,_,_,h,_,_=>by
  obtain⟨rfl,rfl,rfl⟩:=trodAll_nil h
  rfl
 |t::ts,_,_,_,hr,h,hlt,hs=>by
  obtain⟨v,vs,d,ds,a,b,rfl,rfl,rfl,h1,h2⟩:=trodAll_cons h
  exact⟨a,b,WideElems.Trod_stays hl (hr t (by simp)).1 (hr t (by simp)).2 h1 (fun p hp=>hb.same (hlt p (by simp[hp]))) (fun p hp=>hs p (by simp[hp])),Aw5 hl hb (fun u hu=>hr u (by simp[hu])) h2 (fun p hp=>hlt p (by simp[hp])) (fun p hp=>hs p (by simp[hp])),rfl⟩
theorem A6e{W':World}(hb:Below W.heap.size W W')(may:MemPlace→Prop):W.keptBut W' may:=by
 refine⟨hb.os,hb.output,fun i hi=>?_⟩
 rw[hb.block i hi]
 split<;>simp_all
theorem Bp8{f:Func}{s:ChangeSpec}{apart fresh handsOn again:Bool}{W':World}{args:Array Value}{ds gs:List (DataW H)}{before:List MemPlace}{tb:TypeId}
  (hl:laidOutB P=true)(hp: ∀t∈f.params.toList,P.readableRec t=true∧t<P.types.size)(hr:f.resultTypes= #[tb])(hb:P.underlying tb=some .bool)(hv:s.vars=[])
  (hW:DataW.Whole enc P f.params.toList s.vars apart W args.toList ds gs before)(h1:(s.fn H (ds++gs)).results=[.lit (.bool true)])(h2:(s.fn H (ds++gs)).args=ds)(h3:(s.fn H (ds++gs)).vars=[])
  (hbel:Below W.heap.size W W'):s.post enc P f apart fresh handsOn again W args (.bool true) W':=by
 have hlt:=hW.lt
 have hW0:=hW
 obtain⟨p,q,hA,hV,rfl,hz,hn⟩:=hW
 rw[hv] at hV
 obtain⟨rfl,rfl⟩:=trodVars_none hV
 have hres: ∀(b:Nat) (sp:Nat→Bool) (hd:Bool),DataW.TrodAll enc P W' b sp hd f.resultTypes.toList ((Value.bool true).resultList f.resultTypes.size) [.lit (.bool true)] []:=by
  intro b sp hd
  rw[hr]
  exact trodAll_mk1 ⟨1,by simp[DataW.trod,Value.cells,hb]⟩
 have hargs: ∀sp:Nat→Bool,(∀x∈p,sp x.block=true)→DataW.TrodAll enc P W' 0 sp true f.params.toList args.toList ds p:=fun sp hs=>Aw5 hl hbel hp hA (fun x hx=>hlt x (by simp[hx])) hs
 refine⟨ds,[],p++[],[],p,[],hW0,by rw[h1];exact hres _ _ _,by rw[h2];exact hargs _ (fun x hx=>by simpa using hlt x (by simp[hx])),by rw[h3,hv];rfl,A6e hbel _,fun _=>?_⟩
 refine⟨?_,_,[],([]++p)++[],⟨[]++p,[],trodAll_append (hargs _ (fun _ _=>rfl)) (hres _ _ _),by rw[hv];rfl,rfl,?_,?_⟩,?_⟩
 ·exact ok_one (f:=f) hr rfl (okWide_bool_mk hb true)
 ·intro b off hm
  have hm':MemPlace.cell b off∈p:=by simpa using hm
  have h0:=hz b off (by simpa using hm')
  have hlb:=hlt _ (by simpa using hm':MemPlace.cell b off∈p++[])
  unfold World.frozen? at h0⊢
  rw[hbel.block b hlb]
  exact h0
 ·intro ha
  simpa using hn ha
 ·intro x hx _
  simpa using hx
def AllOf:List TT→List PV→Prop
 |[],xs=>xs=[]
 |τ::ts,xs=> ∃cs ys,xs=τ.pack cs::ys∧τ.Of cs∧AllOf ts ys
theorem Bw3{n base:Nat}: ∀{ts:List TypeId} {τs:List TT} {vs:List Value} {ds:List (DataW H)} {ps:List MemPlace},ts.length=τs.length→(∀p∈ts.zip τs,reads P n p.1 p.2=true)→
  (∀(j:Nat) t v,ts[j]? =some t→vs[j]? =some v→Value.okWide P W .any base t v)→DataW.TrodAll enc P W 0 (fun _=>true) true ts vs ds ps→(∀(j:Nat) t d,ts[j]? =some t→ds[j]? =some d→ ∀k∈DataW.weights P t d,k≤reachBytes)→ds.length=ts.length∧ ∃xs,AllOf τs xs∧Vy W (· <W.heap.size) xs vs
 |[],τs,_,_,_,hl,_,_,h,_=>by
  obtain⟨rfl,rfl,rfl⟩:=trodAll_nil h
  cases τs with
  |nil=>exact⟨rfl,[],rfl,rfl,fun j x u hx=>by simp at hx⟩
  |cons=>cases hl
 |t::ts,τs,_,_,_,hl,hr,hok,h,hw=>by
  obtain⟨v,vs,d,ds,a,b,rfl,rfl,rfl,h1,h2⟩:=trodAll_cons h
  cases τs with
  |nil=>cases hl
  |cons τ τs=>
   obtain⟨cs,ho,hL⟩:=Bzc (hr (t,τ) (by simp)) (hok 0 t v rfl rfl) h1 (hw 0 t d rfl rfl)
   obtain⟨hlen,ys,hos,hLs⟩:=Bw3 (by simpa using hl) (fun p hp=>hr p (by simp[hp])) (fun j t v ht hv=>hok (j+1) t v (by simpa using ht) (by simpa using hv)) h2 (fun j t d ht hd=>hw (j+1) t d (by simpa using ht) (by simpa using hd))
   exact⟨by simp[hlen],_,⟨cs,ys,rfl,ho,hos⟩,(Vy.single hL).append hLs⟩
theorem Bkc{f:FuncId}{vs:List Value}{xs:List PV}(hc:Bp P f (xs.map .pv) [] ⟨.pv (.bool true),[],[]⟩)(hl:Vy W (· <W.heap.size) xs vs)(hG:GOK W (· <W.heap.size)):
  Calls P f vs.toArray W fun e W'=>e= .returned (.bool true)∧Below W.heap.size W W':=by
 refine(hc.2 W vs (fun _=>⟨none,0⟩) (· <W.heap.size) (fun b hb=>⟨hb,fun i hi=>by cases hi⟩) hG (fun i j b hi=>by cases hi) (fun i xs hx=>by simp at hx) (by simpa using hl.1) ?_).mono ?_
 ·intro j x v hx hv
  simp only[List.getElem?_map,Option.map_eq_some_iff] at hx
  obtain⟨y,hy,rfl⟩:=hx
  exact .pv _ _ (hl.2 j y v hy hv)
 ·rintro e W' ⟨v,δ,rfl,ha⟩
  refine⟨?_,ha.quiet.os,ha.quiet.tape,ha.quiet.out,ha.size,fun b hb=>ha.frame b hb (fun⟨i,hi,_⟩=>by cases hi)⟩
  cases ha.val with
  |pv _ _ h=>cases h;rfl
theorem Bxu{f:FuncId}{fn:Func}{s:ChangeSpec}{apart fresh handsOn again:Bool}{n:Nat}{tb:TypeId}(τs:List TT)
  (hl:laidOutB P=true)(hp:fn.params.toList.all (fun t=>P.readableRec t&&decide (t<P.types.size))=true)(hr:fn.resultTypes= #[tb])(hb:P.underlying tb=some .bool)(hv:s.vars=[])
  (ht:fn.params.toList.length=τs.length)(hrd:(fn.params.toList.zip τs).all (fun p=>reads P n p.1 p.2)=true)(hs: ∀ds:List (DataW H),ds.length=fn.params.toList.length→s.fn H ds={results:=[.lit (.bool true)],args:=ds})
  (hc: ∀xs:List PV,AllOf τs xs→Bp P f (xs.map .pv) [] ⟨.pv (.bool true),[],[]⟩):
  ∀(W:World) (base:Nat) (args:Array Value) (ds gs:List (DataW H)) (before:List MemPlace),
   (∀(j:Nat) t v,fn.params[j]? =some t→args[j]? =some v→Value.okWide P W .any base t v)→
   DataW.Whole enc P fn.params.toList s.vars apart W args.toList ds gs before→
   (DataW.weightsEach P (fn.params.toList++s.plain.varTypes P) (ds++gs)).all (· ≤reachBytes)=true→
   GOK W (· <W.heap.size)→
   Calls P f args W fun e W'=> ∃v,e= .returned v∧s.post enc P fn apart fresh handsOn again W args v W':=by
 intro W base args ds gs before hok hW hz hG
 have hW0:=hW
 obtain⟨p,q,hA,hV,rfl,_,_⟩:=hW
 rw[hv] at hV
 obtain⟨rfl,rfl⟩:=trodVars_none hV
 obtain⟨hlen,xs,ho,hL⟩:=Bw3 (n:=n) (base:=base) ht (by simpa using hrd) (fun j t v h1 h2=>hok j t v (by simpa using h1) (by simpa using h2)) hA (fun j t d h1 h2 k hk=>by
  have hj:=(List.getElem?_eq_some_iff.1 h1).1
  have hj2:=(List.getElem?_eq_some_iff.1 h2).1
  have:=DataW.weights_mem_each (P:=P) (ts:=fn.params.toList++s.plain.varTypes P) (ds:=ds++[]) (j:=j) (t:=t) (d:=d) (by rw[List.getElem?_append_left hj];exact h1) (by rw[List.getElem?_append_left hj2];exact h2) k hk
  have h3:=List.all_eq_true.1 hz k this
  simpa using h3)
 have hs':s.fn H (ds++[])={results:=[.lit (.bool true)],args:=ds}:=by rw[List.append_nil];exact hs ds hlen
 refine(Bkc (hc xs ho) hL hG).mono fun e W' ⟨he,hb'⟩=>⟨_,he,?_⟩
 exact Bp8 (P:=P) hl (fun t ht=>by have:=List.all_eq_true.1 hp t ht;simpa using this) hr hb hv hW0 (by rw[hs']) (by rw[hs']) (by rw[hs']) hb'
end
def inR(k:IntKind)(n:Int):Prop:=k.min≤n∧n≤k.max
theorem of_slice{α:Type}{f:α→PV}{τ:TT}{wf:α→Prop}(hh: ∀xs,τ.Of xs→ ∃x,wf x∧τ.pack xs=f x){xs:List PV}(h:(TT.slice τ).Of xs): ∃l:List α,(l.length≤maxLen∧ ∀x∈l,wf x)∧xs=[.slice (l.map f)]:=by
 obtain⟨ys,rfl,hl,hy⟩:=h
 obtain⟨l,h0,h1,h2⟩:=Bog hh ys hy
 exact⟨l,⟨by omega,h1⟩,by rw[h2]⟩
end Go.Av
end
section
set_option maxRecDepth 100000
set_option maxHeartbeats 8000000
namespace Go.Av.G
open Go Go.Av Go.Proofs
structure Br where
 Hw:Nat
 Sy:Nat
 deriving DecidableEq,Inhabited
def Br.cl(x:Br):List PV:=[.fn x.Hw,.fn x.Sy]
def Br.pv(x:Br):PV:= .agg x.cl
structure Bz where
 f_0:Br
 f_1:Br
 f_2:Br
 f_3:Br
 deriving DecidableEq,Inhabited
def Bz.cl(x:Bz):List PV:=[.fn x.f_0.Hw,.fn x.f_0.Sy,.fn x.f_1.Hw,.fn x.f_1.Sy,.fn x.f_2.Hw,.fn x.f_2.Sy,.fn x.f_3.Hw,.fn x.f_3.Sy]
def Bz.pv(x:Bz):PV:= .agg x.cl
structure Ad where
 Ag:Int
 Sx:Int
 Amu:Int
 Aj:List UInt8
 deriving DecidableEq,Inhabited
def Ad.cl(x:Ad):List PV:=[.int .i64 x.Ag,.int .i64 x.Sx,.int .i64 x.Amu,.str x.Aj]
def Ad.pv(x:Ad):PV:= .agg x.cl
def Ad.same(x y:Ad):Bool:=((x.Ag==y.Ag)&&((x.Sx==y.Sx)&&((x.Amu==y.Amu)&&((x.Aj==y.Aj)&&true))))
theorem Ad.same_iff(x y:Ad):Ad.same x y=decide (x=y):=by
 rw[Bool.eq_iff_iff];rcases x with⟨_,_,_,_⟩;rcases y with⟨_,_,_,_⟩;simp[Ad.same,Ad.mk.injEq,and_assoc]
def Ad.tt:TT:= .struct (.field (.int .i64) (.field (.int .i64) (.field (.int .i64) (.field .str .unit))))
def Ad.wf(x:Ad):Prop:=inR .i64 x.Ag∧inR .i64 x.Sx∧inR .i64 x.Amu∧x.Aj.length≤reachBytes
theorem Ad.of{xs:List PV}(hh:Ad.tt.Of xs): ∃x:Ad,x.wf∧Ad.tt.pack xs=Ad.pv x:=by
 obtain⟨a0,b0,rfl,h0,hh⟩:=hh
 obtain⟨a1,b1,rfl,h1,hh⟩:=hh
 obtain⟨a2,b2,rfl,h2,hh⟩:=hh
 obtain⟨a3,b3,rfl,h3,hh⟩:=hh
 obtain rfl:_=[]:=hh
 obtain⟨n0,rfl,w0⟩:=h0
 obtain⟨n1,rfl,w1⟩:=h1
 obtain⟨n2,rfl,w2⟩:=h2
 obtain⟨n3,rfl,w3⟩:=h3
 exact⟨⟨n0,n1,n2,n3⟩,⟨w0,w1,w2,w3⟩,rfl⟩
structure Ab where
 J7:List Ad
 C3:Int
 B9:Bool
 deriving DecidableEq,Inhabited
def Ab.cl(x:Ab):List PV:=[.slice (List.map Ad.pv x.J7),.int .i64 x.C3,.bool x.B9]
def Ab.pv(x:Ab):PV:= .agg x.cl
def Ab.tt:TT:= .struct (.field (.slice Ad.tt) (.field (.int .i64) (.field .bool .unit)))
def Ab.wf(x:Ab):Prop:=(x.J7.length≤maxLen∧ ∀x'∈x.J7,Ad.wf x')∧inR .i64 x.C3∧True
theorem Ab.of{xs:List PV}(hh:Ab.tt.Of xs): ∃x:Ab,x.wf∧Ab.tt.pack xs=Ab.pv x:=by
 obtain⟨a0,b0,rfl,h0,hh⟩:=hh
 obtain⟨a1,b1,rfl,h1,hh⟩:=hh
 obtain⟨a2,b2,rfl,h2,hh⟩:=hh
 obtain rfl:_=[]:=hh
 obtain⟨n0,w0,rfl⟩:=of_slice (f:=Ad.pv) (wf:=Ad.wf) (fun xs h=>Ad.of h) h0
 obtain⟨n1,rfl,w1⟩:=h1
 obtain⟨n2,rfl⟩:=h2
 exact⟨⟨n0,n1,n2⟩,⟨w0,w1,trivial⟩,rfl⟩
structure Aa where
 Ag:Int
 Aj:List UInt8
 deriving DecidableEq,Inhabited
def Aa.cl(x:Aa):List PV:=[.int .i64 x.Ag,.str x.Aj]
def Aa.pv(x:Aa):PV:= .agg x.cl
def Aa.same(x y:Aa):Bool:=((x.Ag==y.Ag)&&((x.Aj==y.Aj)&&true))
theorem Aa.same_iff(x y:Aa):Aa.same x y=decide (x=y):=by
 rw[Bool.eq_iff_iff];rcases x with⟨_,_⟩;rcases y with⟨_,_⟩;simp[Aa.same,Aa.mk.injEq,and_assoc]
def Aa.tt:TT:= .struct (.field (.int .i64) (.field .str .unit))
def Aa.wf(x:Aa):Prop:=inR .i64 x.Ag∧x.Aj.length≤reachBytes
theorem Aa.of{xs:List PV}(hh:Aa.tt.Of xs): ∃x:Aa,x.wf∧Aa.tt.pack xs=Aa.pv x:=by
 obtain⟨a0,b0,rfl,h0,hh⟩:=hh
 obtain⟨a1,b1,rfl,h1,hh⟩:=hh
 obtain rfl:_=[]:=hh
 obtain⟨n0,rfl,w0⟩:=h0
 obtain⟨n1,rfl,w1⟩:=h1
 exact⟨⟨n0,n1⟩,⟨w0,w1⟩,rfl⟩
structure As where
 Ati:Int
 Ad6:Int
 deriving DecidableEq,Inhabited
def As.cl(x:As):List PV:=[.int .i64 x.Ati,.int .i64 x.Ad6]
def As.pv(x:As):PV:= .agg x.cl
def As.same(x y:As):Bool:=((x.Ati==y.Ati)&&((x.Ad6==y.Ad6)&&true))
theorem As.same_iff(x y:As):As.same x y=decide (x=y):=by
 rw[Bool.eq_iff_iff];rcases x with⟨_,_⟩;rcases y with⟨_,_⟩;simp[As.same,As.mk.injEq,and_assoc]
def As.tt:TT:= .struct (.field (.int .i64) (.field (.int .i64) .unit))
def As.wf(x:As):Prop:=inR .i64 x.Ati∧inR .i64 x.Ad6
theorem As.of{xs:List PV}(hh:As.tt.Of xs): ∃x:As,x.wf∧As.tt.pack xs=As.pv x:=by
 obtain⟨a0,b0,rfl,h0,hh⟩:=hh
 obtain⟨a1,b1,rfl,h1,hh⟩:=hh
 obtain rfl:_=[]:=hh
 obtain⟨n0,rfl,w0⟩:=h0
 obtain⟨n1,rfl,w1⟩:=h1
 exact⟨⟨n0,n1⟩,⟨w0,w1⟩,rfl⟩
structure Ah where
 J5:List UInt8
 J6:List UInt8
 deriving DecidableEq,Inhabited
def Ah.cl(x:Ah):List PV:=[.str x.J5,.str x.J6]
def Ah.pv(x:Ah):PV:= .agg x.cl
def Ah.same(x y:Ah):Bool:=((x.J5==y.J5)&&((x.J6==y.J6)&&true))
theorem Ah.same_iff(x y:Ah):Ah.same x y=decide (x=y):=by
 rw[Bool.eq_iff_iff];rcases x with⟨_,_⟩;rcases y with⟨_,_⟩;simp[Ah.same,Ah.mk.injEq,and_assoc]
def Ah.tt:TT:= .struct (.field .str (.field .str .unit))
def Ah.wf(x:Ah):Prop:=x.J5.length≤reachBytes∧x.J6.length≤reachBytes
theorem Ah.of{xs:List PV}(hh:Ah.tt.Of xs): ∃x:Ah,x.wf∧Ah.tt.pack xs=Ah.pv x:=by
 obtain⟨a0,b0,rfl,h0,hh⟩:=hh
 obtain⟨a1,b1,rfl,h1,hh⟩:=hh
 obtain rfl:_=[]:=hh
 obtain⟨n0,rfl,w0⟩:=h0
 obtain⟨n1,rfl,w1⟩:=h1
 exact⟨⟨n0,n1⟩,⟨w0,w1⟩,rfl⟩
structure Af where
 F7:List UInt8
 Jf:List UInt8
 Dt:List UInt8
 Cx:List UInt8
 Az:List Ah
 C2:List Aa
 Cq:List UInt8
 Bu:List UInt8
 Cw:List UInt8
 deriving DecidableEq,Inhabited
def Af.cl(x:Af):List PV:=[.str x.F7,.str x.Jf,.str x.Dt,.str x.Cx,.slice (List.map Ah.pv x.Az),.slice (List.map Aa.pv x.C2),.str x.Cq,.str x.Bu,.str x.Cw]
def Af.pv(x:Af):PV:= .agg x.cl
def Af.tt:TT:= .struct (.field .str (.field .str (.field .str (.field .str (.field (.slice Ah.tt) (.field (.slice Aa.tt) (.field .str (.field .str (.field .str .unit)))))))))
def Af.wf(x:Af):Prop:=x.F7.length≤reachBytes∧x.Jf.length≤reachBytes∧x.Dt.length≤reachBytes∧x.Cx.length≤reachBytes∧(x.Az.length≤maxLen∧ ∀x'∈x.Az,Ah.wf x')∧(x.C2.length≤maxLen∧ ∀x'∈x.C2,Aa.wf x')∧x.Cq.length≤reachBytes∧x.Bu.length≤reachBytes∧x.Cw.length≤reachBytes
theorem Af.of{xs:List PV}(hh:Af.tt.Of xs): ∃x:Af,x.wf∧Af.tt.pack xs=Af.pv x:=by
 obtain⟨a0,b0,rfl,h0,hh⟩:=hh
 obtain⟨a1,b1,rfl,h1,hh⟩:=hh
 obtain⟨a2,b2,rfl,h2,hh⟩:=hh
 obtain⟨a3,b3,rfl,h3,hh⟩:=hh
 obtain⟨a4,b4,rfl,h4,hh⟩:=hh
 obtain⟨a5,b5,rfl,h5,hh⟩:=hh
 obtain⟨a6,b6,rfl,h6,hh⟩:=hh
 obtain⟨a7,b7,rfl,h7,hh⟩:=hh
 obtain⟨a8,b8,rfl,h8,hh⟩:=hh
 obtain rfl:_=[]:=hh
 obtain⟨n0,rfl,w0⟩:=h0
 obtain⟨n1,rfl,w1⟩:=h1
 obtain⟨n2,rfl,w2⟩:=h2
 obtain⟨n3,rfl,w3⟩:=h3
 obtain⟨n4,w4,rfl⟩:=of_slice (f:=Ah.pv) (wf:=Ah.wf) (fun xs h=>Ah.of h) h4
 obtain⟨n5,w5,rfl⟩:=of_slice (f:=Aa.pv) (wf:=Aa.wf) (fun xs h=>Aa.of h) h5
 obtain⟨n6,rfl,w6⟩:=h6
 obtain⟨n7,rfl,w7⟩:=h7
 obtain⟨n8,rfl,w8⟩:=h8
 exact⟨⟨n0,n1,n2,n3,n4,n5,n6,n7,n8⟩,⟨w0,w1,w2,w3,w4,w5,w6,w7,w8⟩,rfl⟩
structure Ae where
 Ag:Int
 P7:Int
 f_E:Int
 deriving DecidableEq,Inhabited
def Ae.cl(x:Ae):List PV:=[.int .i64 x.Ag,.int .i64 x.P7,.int .i64 x.f_E]
def Ae.pv(x:Ae):PV:= .agg x.cl
def Ae.same(x y:Ae):Bool:=((x.Ag==y.Ag)&&((x.P7==y.P7)&&((x.f_E==y.f_E)&&true)))
theorem Ae.same_iff(x y:Ae):Ae.same x y=decide (x=y):=by
 rw[Bool.eq_iff_iff];rcases x with⟨_,_,_⟩;rcases y with⟨_,_,_⟩;simp[Ae.same,Ae.mk.injEq,and_assoc]
def Ae.tt:TT:= .struct (.field (.int .i64) (.field (.int .i64) (.field (.int .i64) .unit)))
def Ae.wf(x:Ae):Prop:=inR .i64 x.Ag∧inR .i64 x.P7∧inR .i64 x.f_E
theorem Ae.of{xs:List PV}(hh:Ae.tt.Of xs): ∃x:Ae,x.wf∧Ae.tt.pack xs=Ae.pv x:=by
 obtain⟨a0,b0,rfl,h0,hh⟩:=hh
 obtain⟨a1,b1,rfl,h1,hh⟩:=hh
 obtain⟨a2,b2,rfl,h2,hh⟩:=hh
 obtain rfl:_=[]:=hh
 obtain⟨n0,rfl,w0⟩:=h0
 obtain⟨n1,rfl,w1⟩:=h1
 obtain⟨n2,rfl,w2⟩:=h2
 exact⟨⟨n0,n1,n2⟩,⟨w0,w1,w2⟩,rfl⟩
structure Ac where
 f_L:List Ad
 Sw:Int
 Om:Bool
 deriving DecidableEq,Inhabited
def Ac.cl(x:Ac):List PV:=[.slice (List.map Ad.pv x.f_L),.int .i64 x.Sw,.bool x.Om]
def Ac.pv(x:Ac):PV:= .agg x.cl
def Ac.tt:TT:= .struct (.field (.slice Ad.tt) (.field (.int .i64) (.field .bool .unit)))
def Ac.wf(x:Ac):Prop:=(x.f_L.length≤maxLen∧ ∀x'∈x.f_L,Ad.wf x')∧inR .i64 x.Sw∧True
theorem Ac.of{xs:List PV}(hh:Ac.tt.Of xs): ∃x:Ac,x.wf∧Ac.tt.pack xs=Ac.pv x:=by
 obtain⟨a0,b0,rfl,h0,hh⟩:=hh
 obtain⟨a1,b1,rfl,h1,hh⟩:=hh
 obtain⟨a2,b2,rfl,h2,hh⟩:=hh
 obtain rfl:_=[]:=hh
 obtain⟨n0,w0,rfl⟩:=of_slice (f:=Ad.pv) (wf:=Ad.wf) (fun xs h=>Ad.of h) h0
 obtain⟨n1,rfl,w1⟩:=h1
 obtain⟨n2,rfl⟩:=h2
 exact⟨⟨n0,n1,n2⟩,⟨w0,w1,trivial⟩,rfl⟩
structure Ar where
 Avj:Int
 Aj:List UInt8
 deriving DecidableEq,Inhabited
def Ar.cl(x:Ar):List PV:=[.int .i64 x.Avj,.str x.Aj]
def Ar.pv(x:Ar):PV:= .agg x.cl
def Ar.same(x y:Ar):Bool:=((x.Avj==y.Avj)&&((x.Aj==y.Aj)&&true))
theorem Ar.same_iff(x y:Ar):Ar.same x y=decide (x=y):=by
 rw[Bool.eq_iff_iff];rcases x with⟨_,_⟩;rcases y with⟨_,_⟩;simp[Ar.same,Ar.mk.injEq,and_assoc]
def Ar.tt:TT:= .struct (.field (.int .i64) (.field .str .unit))
def Ar.wf(x:Ar):Prop:=inR .i64 x.Avj∧x.Aj.length≤reachBytes
theorem Ar.of{xs:List PV}(hh:Ar.tt.Of xs): ∃x:Ar,x.wf∧Ar.tt.pack xs=Ar.pv x:=by
 obtain⟨a0,b0,rfl,h0,hh⟩:=hh
 obtain⟨a1,b1,rfl,h1,hh⟩:=hh
 obtain rfl:_=[]:=hh
 obtain⟨n0,rfl,w0⟩:=h0
 obtain⟨n1,rfl,w1⟩:=h1
 exact⟨⟨n0,n1⟩,⟨w0,w1⟩,rfl⟩
instance dicS:Str where
 S:=fun i=>match i with
  |0=>Br
  |1=>Bz
  |2=>Ad
  |3=>Ab
  |4=>Aa
  |5=>As
  |6=>Ah
  |7=>Af
  |8=>Ae
  |9=>Ac
  |10=>Ar
  |_=>Unit
instance dicC:Cel where
 ts:=fun i=>match i with
  |0=>[.fn,.fn]
  |1=>[.fn,.fn,.fn,.fn,.fn,.fn,.fn,.fn]
  |2=>[(.int .i64),(.int .i64),(.int .i64),.str]
  |3=>[(.sl (.st 2)),(.int .i64),.bool]
  |4=>[(.int .i64),.str]
  |5=>[(.int .i64),(.int .i64)]
  |6=>[.str,.str]
  |7=>[.str,.str,.str,.str,(.sl (.st 6)),(.sl (.st 4)),.str,.str,.str]
  |8=>[(.int .i64),(.int .i64),(.int .i64)]
  |9=>[(.sl (.st 2)),(.int .i64),.bool]
  |10=>[(.int .i64),.str]
  |_+11=>[]
 get:=fun i=>match i with
  |0=>fun(x:Br)=>(x.Hw,x.Sy,())
  |1=>fun(x:Bz)=>(x.f_0.Hw,x.f_0.Sy,x.f_1.Hw,x.f_1.Sy,x.f_2.Hw,x.f_2.Sy,x.f_3.Hw,x.f_3.Sy,())
  |2=>fun(x:Ad)=>(x.Ag,x.Sx,x.Amu,x.Aj,())
  |3=>fun(x:Ab)=>(x.J7,x.C3,x.B9,())
  |4=>fun(x:Aa)=>(x.Ag,x.Aj,())
  |5=>fun(x:As)=>(x.Ati,x.Ad6,())
  |6=>fun(x:Ah)=>(x.J5,x.J6,())
  |7=>fun(x:Af)=>(x.F7,x.Jf,x.Dt,x.Cx,x.Az,x.C2,x.Cq,x.Bu,x.Cw,())
  |8=>fun(x:Ae)=>(x.Ag,x.P7,x.f_E,())
  |9=>fun(x:Ac)=>(x.f_L,x.Sw,x.Om,())
  |10=>fun(x:Ar)=>(x.Avj,x.Aj,())
  |_+11=>fun _=>()
 put:=fun i=>match i with
  |0=>fun t=>(⟨t.1,t.2.1⟩:Br)
  |1=>fun t=>(⟨⟨t.1,t.2.1⟩,⟨t.2.2.1,t.2.2.2.1⟩,⟨t.2.2.2.2.1,t.2.2.2.2.2.1⟩,⟨t.2.2.2.2.2.2.1,t.2.2.2.2.2.2.2.1⟩⟩:Bz)
  |2=>fun t=>(⟨t.1,t.2.1,t.2.2.1,t.2.2.2.1⟩:Ad)
  |3=>fun t=>(⟨t.1,t.2.1,t.2.2.1⟩:Ab)
  |4=>fun t=>(⟨t.1,t.2.1⟩:Aa)
  |5=>fun t=>(⟨t.1,t.2.1⟩:As)
  |6=>fun t=>(⟨t.1,t.2.1⟩:Ah)
  |7=>fun t=>(⟨t.1,t.2.1,t.2.2.1,t.2.2.2.1,t.2.2.2.2.1,t.2.2.2.2.2.1,t.2.2.2.2.2.2.1,t.2.2.2.2.2.2.2.1,t.2.2.2.2.2.2.2.2.1⟩:Af)
  |8=>fun t=>(⟨t.1,t.2.1,t.2.2.1⟩:Ae)
  |9=>fun t=>(⟨t.1,t.2.1,t.2.2.1⟩:Ac)
  |10=>fun t=>(⟨t.1,t.2.1⟩:Ar)
  |_+11=>fun _=>()
 cl:=fun i=>match i with
  |0=>Br.cl
  |1=>Bz.cl
  |2=>Ad.cl
  |3=>Ab.cl
  |4=>Aa.cl
  |5=>As.cl
  |6=>Ah.cl
  |7=>Af.cl
  |8=>Ae.cl
  |9=>Ac.cl
  |10=>Ar.cl
  |_+11=>fun _=>[]
 z:=fun i=>match i with
  |0=>(default:Br)
  |1=>(default:Bz)
  |2=>(default:Ad)
  |3=>(default:Ab)
  |4=>(default:Aa)
  |5=>(default:As)
  |6=>(default:Ah)
  |7=>(default:Af)
  |8=>(default:Ae)
  |9=>(default:Ac)
  |10=>(default:Ar)
  |_+11=>()
instance dic:Dic where
 scal:=fun i=>match i with
  |0=>rfl
  |1=>rfl
  |2=>rfl
  |3=>rfl
  |4=>rfl
  |5=>rfl
  |6=>rfl
  |7=>rfl
  |8=>rfl
  |9=>rfl
  |10=>rfl
  |_+11=>rfl
 cl_get:=fun i=>match i with
  |0=>fun _=>rfl
  |1=>fun _=>rfl
  |2=>fun _=>rfl
  |3=>fun _=>rfl
  |4=>fun _=>rfl
  |5=>fun _=>rfl
  |6=>fun _=>rfl
  |7=>fun _=>rfl
  |8=>fun _=>rfl
  |9=>fun _=>rfl
  |10=>fun _=>rfl
  |_+11=>fun _=>rfl
 cl_mk:=fun i=>match i with
  |0=>fun _=>rfl
  |1=>fun _=>rfl
  |2=>fun _=>rfl
  |3=>fun _=>rfl
  |4=>fun _=>rfl
  |5=>fun _=>rfl
  |6=>fun _=>rfl
  |7=>fun _=>rfl
  |8=>fun _=>rfl
  |9=>fun _=>rfl
  |10=>fun _=>rfl
  |_+11=>fun _=>rfl
noncomputable def Zc(s1:List UInt8):Option Int:=
 A5 (fun(qj2:List UInt8)=>match qj2 with
  |rest3=>(
   (B1 rest3 [32,9,10]).bind fun x4=>
   (strings_HasPrefix x4 [35]).bind fun x5=>
   if (!x5)=true then
    some (.inr (IntKind.wrap .i64 ((s1.length:Int)-(x4.length:Int))))
   else
    (strings_Cut x4 [10]).bind fun x6=>
    if (!x6.2.2)=true then
     some (.inr (s1.length:Int))
    else
     some (.inl x6.2.1):Option ((List UInt8)⊕Int))) s1
def Axt:Option Bz:=
 some (⟨(⟨127,128⟩:Br),(⟨129,130⟩:Br),(⟨131,132⟩:Br),(⟨133,134⟩:Br)⟩:Bz)
def Ia(b1:Int):Option Bool:=
 (some (decide (b1≥97))).bind fun c2=>
 some (c2&&(decide (b1≤122)))
def Hx(b1:Int):Option Bool:=
 (some (decide (b1≥48))).bind fun c2=>
 some (c2&&(decide (b1≤57)))
def Oq(b1:Int):Option Bool:=
 some (b1==34)
def V7(x1:Int):Option Bool:=
 some true
def Gi(f:Nat)(a0:Int):Option Bool:=if f=127 then Ia a0 else if f=129 then Hx a0 else if f=131 then Oq a0 else if f=133 then V7 a0 else none
def Q4(b1:Int):Option Bool:=
 (Ia b1).bind fun x2=>
 (gdO (!x2) (Hx b1) (default:Bool)).bind fun x3=>
 (some (x2||x3)).bind fun c4=>
 some (c4||(b1==95))
def Sg(r1:Int):Option Bool:=
 (some (decide (r1>127))).bind fun c2=>
 (gdO (!c2) (Q4 (IntKind.wrap .u8 r1)) (default:Bool)).bind fun x3=>
 some (c2||(!x3))
noncomputable def A1d(s1:List UInt8):Option Int:=
 (strings_IndexFunc Sg s1).bind fun x2=>
 if (decide (x2<0))=true then
  some (s1.length:Int)
 else
  some x2
noncomputable def Anc(s1:List UInt8):Option (Int×Int):=
 (A1d s1).bind fun x2=>
 if (decide (x2>32))=true then
  some (0,3)
 else
  some (x2,0)
def Jj(r1:Int):Option Bool:=
 (some (decide (r1>127))).bind fun c2=>
 (gdO (!c2) (Hx (IntKind.wrap .u8 r1)) (default:Bool)).bind fun x3=>
 some (c2||(!x3))
noncomputable def Sh(s1:List UInt8):Option Int:=
 (strings_IndexFunc Jj s1).bind fun x2=>
 if (decide (x2<0))=true then
  some (s1.length:Int)
 else
  some x2
noncomputable def S2(s1:List UInt8):Option (Int×Int):=
 (Sh s1).bind fun x2=>
 (slO s1 x2 (s1.length:Int)).bind fun x3=>
 (some (decide ((x3.length:Int)>1))).bind fun c4=>
 (gdO c4 (byO x3 0) 0).bind fun x5=>
 ((if (c4&&(x5==46))=true then
   (slO x3 1 (x3.length:Int)).bind fun x7=>
   (Sh x7).bind fun x8=>
   some x8
 else
  some 0):Option Int).bind fun j6=>
 (some (decide (x2>15))).bind fun c10=>
 (some (c10||(decide (j6>9)))).bind fun c11=>
 (some (decide (x2>1))).bind fun c12=>
 (gdO (!c11&&c12) (byO s1 0) 0).bind fun x13=>
 if (c11||(c12&&(x13==48)))=true then
  some (0,3)
 else
  if (decide (j6>0))=true then
   some (IntKind.wrap .i64 ((IntKind.wrap .i64 (x2+1))+j6),0)
  else
   some (x2,0)
def Q5(b1:Int):Option Bool:=
 (some (decide (b1≥32))).bind fun c2=>
 some (c2&&(decide (b1≤126)))
def Jk(r1:Int):Option Bool:=
 (some (decide (r1>127))).bind fun c2=>
 (gdO (!c2) (Q5 (IntKind.wrap .u8 r1)) (default:Bool)).bind fun x3=>
 some (c2||(!x3))
noncomputable def Aqj(s1:List UInt8):Option Int:=
 (strings_IndexFunc Jk s1).bind fun x2=>
 if (decide (x2<0))=true then
  some (s1.length:Int)
 else
  some x2
noncomputable def S3(s1:List UInt8):Option (Int×Int):=
 (slO s1 1 (s1.length:Int)).bind fun x2=>
 (strings_IndexByte x2 34).bind fun x3=>
 if (decide (x3<0))=true then
  some (0,14)
 else
  (some (decide (x3>32))).bind fun c4=>
  (gdO (!c4) (slO s1 1 (IntKind.wrap .i64 (1+x3))) (default:List UInt8)).bind fun x5=>
  (gdO (!c4) (Aqj x5) (default:Int)).bind fun x6=>
  if (c4||(decide (x6<x3)))=true then
   some (0,3)
  else
   some (IntKind.wrap .i64 (x3+2),0)
def Anb(s1:List UInt8):Option (Int×Int):=
 (some (decide ((s1.length:Int)>1))).bind fun c2=>
 (gdO c2 (slO s1 0 2) (default:List UInt8)).bind fun x3=>
 (gdO c2 (strings_Contains [60,61,32,62,61,32,46,46] x3) (default:Bool)).bind fun x4=>
 (some (c2&&x4)).bind fun c5=>
 (gdO c5 (slO s1 0 2) (default:List UInt8)).bind fun x6=>
 (gdO c5 (strings_Contains x6 [32]) (default:Bool)).bind fun x7=>
 if (c5&&(!x7))=true then
  some (2,0)
 else
  (byO s1 0).bind fun x8=>
  (strings_IndexByte [123,125,40,41,91,93,59,58,44,37,61,60,62,43,45,42,47] x8).bind fun x9=>
  if (decide (x9≥0))=true then
   some (1,0)
  else
   some (0,14)
noncomputable def Gj(f:Nat)(a0:List UInt8):Option (Int×Int):=if f=128 then Anc a0 else if f=130 then S2 a0 else if f=132 then S3 a0 else if f=134 then Anb a0 else none
noncomputable def Zb(s1:List UInt8):Option (Int×Int×Int):=
 (Axt).bind fun x2=>
 ((A5 (fun(qj3:Int)=>match qj3 with
   |x4=>(
    if (decide (x4<4))=true then
     (rdO [x2.f_0,x2.f_1,x2.f_2,x2.f_3] x4).bind fun x5=>
     (byO s1 0).bind fun x6=>
     (Gi x5.Hw x6).bind fun x7=>
     if x7=true then
      (Gj x5.Sy s1).bind fun x8=>
      some (.inr (.inr (x4,x8.1,x8.2)))
     else
      some (.inl (IntKind.wrap .i64 (x4+1)))
    else
     some (.inr (.inl ())):Option (Int⊕(Unit⊕(Int×Int×Int))))) 0):Option (Unit⊕(Int×Int×Int))).bind fun j3=>match j3 with
 | .inr o=>some o
 | .inl _=>
 some (0,0,14)
def Sf(s1:List UInt8):Option (Int×Int):=
 (strings_Count s1 [10]).bind fun x2=>
 (strings_LastIndexByte s1 10).bind fun x3=>
 some (IntKind.wrap .i64 (x2+1),IntKind.wrap .i64 ((s1.length:Int)-x3))
noncomputable def Ad9(text1:List UInt8):Option ((List Ad)×Int×Int):=
 if (decide ((text1.length:Int)>8000))=true then
  some (([]:List Ad),0,4)
 else
  (Zc text1).bind fun x2=>
  ((A5 (fun(qj3:Int×(List Ad))=>match qj3 with
    |(at_4,row5)=>(
     if (decide (at_4<(text1.length:Int)))=true then
      (slO text1 at_4 (text1.length:Int)).bind fun x6=>
      (Zb x6).bind fun x7=>
      if (x7.2.2 !=0)=true then
       some (.inr (.inr (([]:List Ad),at_4,x7.2.2)))
      else
       if ((row5.length:Int)==1500)=true then
        some (.inr (.inr (([]:List Ad),at_4,6)))
       else
        (slO text1 0 at_4).bind fun x8=>
        (Sf x8).bind fun x9=>
        (slO text1 at_4 (IntKind.wrap .i64 (at_4+x7.2.1))).bind fun x10=>
        (apO 40 row5 [(⟨x7.1,x9.1,x9.2,x10⟩:Ad)]).bind fun x11=>
        (slO text1 (IntKind.wrap .i64 (at_4+x7.2.1)) (text1.length:Int)).bind fun x12=>
        (Zc x12).bind fun x13=>
        some (.inl (IntKind.wrap .i64 ((IntKind.wrap .i64 (at_4+x7.2.1))+x13),x11))
     else
      some (.inr (.inl row5)):Option ((Int×(List Ad))⊕((List Ad)⊕((List Ad)×Int×Int))))) (x2,([]:List Ad))):Option ((List Ad)⊕((List Ad)×Int×Int))).bind fun j3=>match j3 with
  | .inr o=>some o
  | .inl out14=>
  some (out14,0,0)
def Y9(text1:List UInt8)(at_2:Int):Option (Int×Int×Int):=
 (some (decide (at_2<0))).bind fun c3=>
 if (c3||(decide (at_2>(text1.length:Int))))=true then
  some (0,0,1)
 else
  (slO text1 0 at_2).bind fun x4=>
  (Sf x4).bind fun x5=>
  some (x5.1,x5.2,0)
noncomputable def Ov(text1:List UInt8):Option ((Int×Int×Int×Ab)⊕(Int×Int×Int)):=
 (Ad9 text1).bind fun x2=>
 if (x2.2.2==0)=true then
  some (.inl (0,0,0,(⟨x2.1,0,false⟩:Ab)))
 else
  (Y9 text1 x2.2.1).bind fun x3=>
  some (.inr (x3.1,x3.2.1,x2.2.2))
def Bw(s1:List UInt8)(e2:Ab):Option Bool:=
 (some (!e2.B9)).bind fun c3=>
 (some (c3&&(decide (e2.C3<(e2.J7.length:Int))))).bind fun c4=>
 (gdO c4 (rdO e2.J7 e2.C3) (default:Ad)).bind fun x5=>
 (some (c4&&(x5.Ag !=2))).bind fun c6=>
 (gdO c6 (rdO e2.J7 e2.C3) (default:Ad)).bind fun x7=>
 some (c6&&(x7.Aj==s1))
def Bf(s1:List UInt8)(e2:Ab):Option (Bool×Ab):=
 (Bw s1 e2).bind fun x3=>
 if (!x3)=true then
  some (false,e2)
 else
  some (true,(⟨e2.J7,IntKind.wrap .i64 (e2.C3+1),e2.B9⟩:Ab))
noncomputable def Aq(l1:List (List UInt8))(e2:Ab):Option Ab:=
 A5 (fun(qj3:Int×Ab)=>match qj3 with
  |(x4,r5)=>(
   if (decide (x4<(l1.length:Int)))=true then
    (rdO l1 x4).bind fun x6=>
    (Bf x6 r5).bind fun x7=>
    if (!x7.1)=true then
     some (.inr (⟨x7.2.J7,x7.2.C3,true⟩:Ab))
    else
     some (.inl (IntKind.wrap .i64 (x4+1),x7.2))
   else
    some (.inr r5):Option ((Int×Ab)⊕Ab))) (0,e2)
noncomputable def Er(s1:List (List UInt8))(v2:List UInt8):Option Int:=
 ((A5 (fun(qj3:Int)=>match qj3 with
   |x4=>(
    if (decide (x4<(s1.length:Int)))=true then
     (rdO s1 x4).bind fun x5=>
     if (v2==x5)=true then
      some (.inr (.inr x4))
     else
      some (.inl (IntKind.wrap .i64 (x4+1)))
    else
     some (.inr (.inl ())):Option (Int⊕(Unit⊕Int)))) 0):Option (Unit⊕Int)).bind fun j3=>match j3 with
 | .inr o=>some o
 | .inl _=>
 some (-1)
noncomputable def Cn(s1:List (List UInt8))(v2:List UInt8):Option Bool:=
 (Er s1 v2).bind fun x3=>
 some (decide (x3≥0))
noncomputable def Zh(s1:List UInt8)(product2:Bool):Option Bool:=
 ((if product2=true then
   (apO 16 [[105,102],[116,104,101,110],[101,108,115,101],[97,110,100],[111,114],[110,111,116],[109,105,110],[109,97,120]] [[112,114,111,100,117,99,116],[98,97,115,105,115],[112,101,114,105,111,100],[116,105,101,114,115],[102,101,101],[109,105,110,105,109,117,109],[111,118,101,114,100,114,97,102,116],[110,111,116,105,99,101]]).bind fun x4=>
   some x4
 else
  some [[105,102],[116,104,101,110],[101,108,115,101],[97,110,100],[111,114],[110,111,116],[109,105,110],[109,97,120]]):Option (List (List UInt8))).bind fun j3=>
 (Cn j3 s1).bind fun x6=>
 some x6
noncomputable def Ba(kind1:Int)(product2:Bool)(e3:Ab):Option ((List UInt8)×Ab):=
 (some e3.B9).bind fun c4=>
 (some (c4||(decide (e3.C3≥(e3.J7.length:Int))))).bind fun c5=>
 (gdO (!c5) (rdO e3.J7 e3.C3) (default:Ad)).bind fun x6=>
 (some (c5||(x6.Ag !=kind1))).bind fun c7=>
 (some (kind1==0)).bind fun c8=>
 (gdO (!c7&&c8) (rdO e3.J7 e3.C3) (default:Ad)).bind fun x9=>
 (gdO (!c7&&c8) (Zh x9.Aj product2) (default:Bool)).bind fun x10=>
 if (c7||(c8&&x10))=true then
  some ([],(⟨e3.J7,e3.C3,true⟩:Ab))
 else
  (rdO e3.J7 (IntKind.wrap .i64 ((IntKind.wrap .i64 (e3.C3+1))-1))).bind fun x11=>
  some (x11.Aj,(⟨e3.J7,IntKind.wrap .i64 (e3.C3+1),e3.B9⟩:Ab))
noncomputable def Dx(slices1:List (List Aa)):Option (List Aa):=
 ((A5 (fun(qj2:Int×Int)=>match qj2 with
   |(size3,x4)=>(
    if (decide (x4<(slices1.length:Int)))=true then
     (rdO slices1 x4).bind fun x5=>
     ((if (decide ((IntKind.wrap .i64 (size3+(x5.length:Int)))<0))=true then
       none
     else
      some ()):Option Unit).bind fun _=>
     some (.inl (IntKind.wrap .i64 (size3+(x5.length:Int)),IntKind.wrap .i64 (x4+1)))
    else
     some (.inr size3):Option ((Int×Int)⊕Int))) (0,0)):Option Int).bind fun j2=>
 (C9 Aa 24 j2).bind fun x8=>
 ((A5 (fun(qj9:Int×(List Aa))=>match qj9 with
   |(x10,row11)=>(
    if (decide (x10<(slices1.length:Int)))=true then
     (rdO slices1 x10).bind fun x12=>
     (apO 24 row11 x12).bind fun x13=>
     some (.inl (IntKind.wrap .i64 (x10+1),x13))
    else
     some (.inr row11):Option ((Int×(List Aa))⊕(List Aa)))) (0,x8)):Option (List Aa)).bind fun j9=>
 some j9
noncomputable def Cj(kind1:Int)(l2:List (List Aa)):Option (List Aa):=
 (Dx l2).bind fun x3=>
 (apO 24 [(⟨kind1,[]⟩:Aa)] x3).bind fun x4=>
 some x4
def Ans:Option (List ((List UInt8)×As)):=
 some (mset (mset (mset (mset (mset (mset (mset (mset (mset (mset (mset ([]:List ((List UInt8)×As)) [111,114] (⟨13,1⟩:As)) [97,110,100] (⟨12,2⟩:As)) [60] (⟨7,4⟩:As)) [60,61] (⟨8,4⟩:As)) [61] (⟨9,4⟩:As)) [62] (⟨10,4⟩:As)) [62,61] (⟨11,4⟩:As)) [43] (⟨3,5⟩:As)) [45] (⟨4,5⟩:As)) [42] (⟨5,6⟩:As)) [47] (⟨6,6⟩:As))
def B6(level1:Int)(e2:Ab):Option (Int×Bool):=
 (some e2.B9).bind fun c3=>
 (some (c3||(decide (e2.C3≥(e2.J7.length:Int))))).bind fun c4=>
 (gdO (!c4) (rdO e2.J7 e2.C3) (default:Ad)).bind fun x5=>
 if (c4||(x5.Ag==2))=true then
  some (0,false)
 else
  (Ans).bind fun x6=>
  (rdO e2.J7 e2.C3).bind fun x7=>
  (some ((A6m x6 x7.Aj).isSome)).bind fun c8=>
  some (((A6m x6 x7.Aj).getD ((⟨0,0⟩:As):As)).Ati,(c8&&((((A6m x6 x7.Aj).getD ((⟨0,0⟩:As):As)).Ad6)==level1)))
mutual
noncomputable def parse_reader_any:Nat→Ab→Option ((List Aa)×Ab)
 |0,_=>none
 |fuel+1,e1=>
  (Bf [105,102] e1).bind fun x2=>
  if (!x2.1)=true then
   (parse_reader_level fuel 1 x2.2).bind fun x3=>
   some (x3.1,x3.2)
  else
   (parse_reader_any fuel x2.2).bind fun x4=>
   (Aq [[116,104,101,110]] x4.2).bind fun x5=>
   (parse_reader_any fuel x5).bind fun x6=>
   (Aq [[101,108,115,101]] x6.2).bind fun x7=>
   (parse_reader_any fuel x7).bind fun x8=>
   (Cj 15 [x4.1,x6.1,x8.1]).bind fun x9=>
   some (x9,x8.2)
noncomputable def parse_reader_level:Nat→Int→Ab→Option ((List Aa)×Ab)
 |0,_,_=>none
 |fuel+1,n1,e2=>
  if e2.B9=true then
   some (([]:List Aa),e2)
  else
   if (n1==3)=true then
    (Bf [110,111,116] e2).bind fun x3=>
    if x3.1=true then
     (parse_reader_level fuel 3 x3.2).bind fun x4=>
     (Cj 14 [x4.1]).bind fun x5=>
     some (x5,x4.2)
    else
     (parse_reader_level fuel 4 x3.2).bind fun x6=>
     some (x6.1,x6.2)
   else
    if (n1==7)=true then
     (Bf [45] e2).bind fun x7=>
     if x7.1=true then
      (parse_reader_level fuel 7 x7.2).bind fun x8=>
      (Cj 2 [x8.1]).bind fun x9=>
      some (x9,x8.2)
     else
      (parse_reader_primary fuel x7.2).bind fun x10=>
      some (x10.1,x10.2)
    else
     (parse_reader_level fuel (IntKind.wrap .i64 (n1+1)) e2).bind fun x11=>
     (B6 n1 x11.2).bind fun x12=>
     ((A5 (fun(qj13:(List Aa)×Int×Bool×Ab)=>match qj13 with
       |(out14,kind15,is16,r17)=>(
        if is16=true then
         (parse_reader_level fuel (IntKind.wrap .i64 (n1+1)) (⟨r17.J7,IntKind.wrap .i64 (r17.C3+1),r17.B9⟩:Ab)).bind fun x18=>
         (Cj kind15 [out14,x18.1]).bind fun x19=>
         if (n1==4)=true then
          some (.inr (x19,x18.2))
         else
          (B6 n1 x18.2).bind fun x20=>
          some (.inl (x19,x20.1,x20.2,x18.2))
        else
         some (.inr (out14,r17)):Option (((List Aa)×Int×Bool×Ab)⊕((List Aa)×Ab)))) (x11.1,x12.1,x12.2,x11.2)):Option ((List Aa)×Ab)).bind fun(out21,r22)=>
     some (out21,r22)
noncomputable def parse_reader_primary:Nat→Ab→Option ((List Aa)×Ab)
 |0,_=>none
 |fuel+1,e1=>
  (Bf [40] e1).bind fun x2=>
  if x2.1=true then
   (parse_reader_any fuel x2.2).bind fun x3=>
   (Aq [[41]] x3.2).bind fun x4=>
   some (x3.1,x4)
  else
   (Bw [109,105,110] x2.2).bind fun x5=>
   (gdO (!x5) (Bw [109,97,120] x2.2) (default:Bool)).bind fun x6=>
   if (x5||x6)=true then
    (Bw [109,97,120] (⟨(bif !x5 then x2.2.J7 else x2.2.J7),(bif !x5 then x2.2.C3 else x2.2.C3),(bif !x5 then x2.2.B9 else x2.2.B9)⟩:Ab)).bind fun x7=>
    ((if x7=true then
      some 17
    else
     some 16):Option Int).bind fun j8=>
    (Aq [[40]] (⟨(bif !x5 then x2.2.J7 else x2.2.J7),IntKind.wrap .i64 ((bif !x5 then x2.2.C3 else x2.2.C3)+1),(bif !x5 then x2.2.B9 else x2.2.B9)⟩:Ab)).bind fun x10=>
    (parse_reader_any fuel x10).bind fun x11=>
    (Aq [[44]] x11.2).bind fun x12=>
    (parse_reader_any fuel x12).bind fun x13=>
    (Aq [[41]] x13.2).bind fun x14=>
    (Cj j8 [x11.1,x13.1]).bind fun x15=>
    some (x15,x14)
   else
    (some (decide ((bif !x5 then x2.2.C3 else x2.2.C3)<((bif !x5 then x2.2.J7 else x2.2.J7).length:Int)))).bind fun c16=>
    (gdO c16 (rdO (bif !x5 then x2.2.J7 else x2.2.J7) (bif !x5 then x2.2.C3 else x2.2.C3)) (default:Ad)).bind fun x17=>
    if (c16&&(x17.Ag==1))=true then
     (Ba 1 false (⟨(bif !x5 then x2.2.J7 else x2.2.J7),(bif !x5 then x2.2.C3 else x2.2.C3),(bif !x5 then x2.2.B9 else x2.2.B9)⟩:Ab)).bind fun x18=>
     (Bf [37] x18.2).bind fun x19=>
     ((if x19.1=true then
       (Bkd x18.1 [37]).bind fun x21=>
       some x21
     else
      some x18.1):Option (List UInt8)).bind fun j20=>
     some ([(⟨0,j20⟩:Aa)],x19.2)
    else
     (Ba 0 false (⟨(bif !x5 then x2.2.J7 else x2.2.J7),(bif !x5 then x2.2.C3 else x2.2.C3),(bif !x5 then x2.2.B9 else x2.2.B9)⟩:Ab)).bind fun x23=>
     some ([(⟨1,x23.1⟩:Aa)],x23.2)
end
def L8(kind1:Int):Option Int:=
 (some (decide (kind1<0))).bind fun c2=>
 if (c2||(decide (kind1>17)))=true then
  some (-1)
 else
  if (decide (kind1≤1))=true then
   some 0
  else
   (some (kind1==2)).bind fun c3=>
   if (c3||(kind1==14))=true then
    some 1
   else
    if (kind1==15)=true then
     some 3
    else
     some 2
def stringslite_HasSuffix(s1:List UInt8)(suffix2:List UInt8):Option Bool:=
 (some (decide ((s1.length:Int)≥(suffix2.length:Int)))).bind fun c3=>
 (gdO c3 (slO s1 (IntKind.wrap .i64 ((s1.length:Int)-(suffix2.length:Int))) (s1.length:Int)) (default:List UInt8)).bind fun x4=>
 some (c3&&(x4==suffix2))
def stringslite_TrimSuffix(s1:List UInt8)(suffix2:List UInt8):Option (List UInt8):=
 (stringslite_HasSuffix s1 suffix2).bind fun x3=>
 if x3=true then
  (slO s1 0 (IntKind.wrap .i64 ((s1.length:Int)-(suffix2.length:Int)))).bind fun x4=>
  some x4
 else
  some s1
def strings_TrimSuffix(s1:List UInt8)(suffix2:List UInt8):Option (List UInt8):=
 (stringslite_TrimSuffix s1 suffix2).bind fun x3=>
 some x3
noncomputable def Za(t1:Ad):Option Bool:=
 if (t1.Aj==[])=true then
  some false
 else
  (Zb t1.Aj).bind fun x2=>
  (some (x2.2.2==0)).bind fun c3=>
  (some (c3&&(x2.1==t1.Ag))).bind fun c4=>
  some (c4&&(x2.2.1==(t1.Aj.length:Int)))
noncomputable def Fa(s1:List UInt8):Option Bool:=
 (Za (⟨1,0,0,s1⟩:Ad)).bind fun x2=>
 some x2
noncomputable def L9(s1:List UInt8)(product2:Bool):Option Bool:=
 (Za (⟨0,0,0,s1⟩:Ad)).bind fun x3=>
 (gdO x3 (Zh s1 product2) (default:Bool)).bind fun x4=>
 some (x3&&(!x4))
noncomputable def Aei(n1:Aa):Option Bool:=
 if (n1.Ag==0)=true then
  (strings_TrimSuffix n1.Aj [37]).bind fun x2=>
  (Fa x2).bind fun x3=>
  some x3
 else
  if (n1.Ag==1)=true then
   (L9 n1.Aj false).bind fun x4=>
   some x4
  else
   some (n1.Aj==[])
noncomputable def I6:Nat→(List Aa)→Option ((List Aa)×Int)
 |0,_=>none
 |fuel+1,l1=>
  (some ((l1.length:Int)==0)).bind fun c2=>
  (gdO (!c2) (rdO l1 0) (default:Aa)).bind fun x3=>
  (gdO (!c2) (L8 x3.Ag) (default:Int)).bind fun x4=>
  (some (c2||(decide (x4<0)))).bind fun c5=>
  (gdO (!c5) (rdO l1 0) (default:Aa)).bind fun x6=>
  (gdO (!c5) (Aei x6) (default:Bool)).bind fun x7=>
  if (c5||(!x7))=true then
   some (([]:List Aa),0)
  else
   (slO l1 1 (l1.length:Int)).bind fun x8=>
   (rdO l1 0).bind fun x9=>
   (L8 x9.Ag).bind fun x10=>
   ((A5 (fun(qj11:(List Aa)×Int×Int)=>match qj11 with
     |(rest12,deep13,x14)=>(
      if (decide (x14<x10))=true then
       (I6 fuel rest12).bind fun x15=>
       if (x15.2==0)=true then
        some (.inr (.inr (([]:List Aa),0)))
       else
        some (.inl (x15.1,(if x15.2>deep13 then x15.2 else deep13),IntKind.wrap .i64 (x14+1)))
      else
       some (.inr (.inl (rest12,deep13))):Option (((List Aa)×Int×Int)⊕(((List Aa)×Int)⊕((List Aa)×Int))))) (x8,0,0)):Option (((List Aa)×Int)⊕((List Aa)×Int))).bind fun j11=>match j11 with
   | .inr o=>some o
   | .inl (rest16,deep17)=>
   some (rest16,IntKind.wrap .i64 (deep17+1))
noncomputable def Ot(l1:List Aa):Option Int:=
 if (decide ((l1.length:Int)>200))=true then
  some 0
 else
  (I6 100000 l1).bind fun x2=>
  (some (decide ((x2.1.length:Int)>0))).bind fun c3=>
  if (c3||(decide (x2.2>24)))=true then
   some 0
  else
   some x2.2
noncomputable def Ee(l1:List Aa):Option Bool:=
 (Ot l1).bind fun x2=>
 some (decide (x2>0))
def F9(text1:List UInt8)(fits2:Bool)(e3:Ab):Option (Int×Int×Int):=
 if (decide (e3.C3<(e3.J7.length:Int)))=true then
  (rdO e3.J7 e3.C3).bind fun x4=>
  (rdO e3.J7 e3.C3).bind fun x5=>
  some (x4.Sx,x5.Amu,14)
 else
  if e3.B9=true then
   (Y9 text1 (text1.length:Int)).bind fun x6=>
   some (x6.1,x6.2.1,14)
  else
   if (!fits2)=true then
    some (1,1,4)
   else
    some (0,0,0)
noncomputable def Em(text1:List UInt8):Option ((List Aa)×Int×Int×Int):=
 (Ov text1).bind fun x2=>match x2 with
 | .inl a3=>
  if (a3.2.2.1 !=0)=true then
   some (([]:List Aa),a3.1,a3.2.1,a3.2.2.1)
  else
   (parse_reader_any 100000 a3.2.2.2).bind fun x5=>
   (Ee x5.1).bind fun x6=>
   (F9 text1 x6 x5.2).bind fun x7=>
   if (x7.2.2 !=0)=true then
    some (([]:List Aa),x7.1,x7.2.1,x7.2.2)
   else
    some (x5.1,0,0,0)
 | .inr b4=>
  if (b4.2.2 !=0)=true then
   some (([]:List Aa),b4.1,b4.2.1,b4.2.2)
  else
   none
def stringslite_CutSuffix(s1:List UInt8)(suffix2:List UInt8):Option ((List UInt8)×Bool):=
 (stringslite_HasSuffix s1 suffix2).bind fun x3=>
 if (!x3)=true then
  some (s1,false)
 else
  (slO s1 0 (IntKind.wrap .i64 ((s1.length:Int)-(suffix2.length:Int)))).bind fun x4=>
  some (x4,true)
def strings_CutSuffix(s1:List UInt8)(suffix2:List UInt8):Option ((List UInt8)×Bool):=
 (stringslite_CutSuffix s1 suffix2).bind fun x3=>
 some (x3.1,x3.2)
noncomputable def Ao(slices1:List (List (List UInt8))):Option (List (List UInt8)):=
 ((A5 (fun(qj2:Int×Int)=>match qj2 with
   |(size3,x4)=>(
    if (decide (x4<(slices1.length:Int)))=true then
     (rdO slices1 x4).bind fun x5=>
     ((if (decide ((IntKind.wrap .i64 (size3+(x5.length:Int)))<0))=true then
       none
     else
      some ()):Option Unit).bind fun _=>
     some (.inl (IntKind.wrap .i64 (size3+(x5.length:Int)),IntKind.wrap .i64 (x4+1)))
    else
     some (.inr size3):Option ((Int×Int)⊕Int))) (0,0)):Option Int).bind fun j2=>
 (C9 (List UInt8) 16 j2).bind fun x8=>
 ((A5 (fun(qj9:Int×(List (List UInt8)))=>match qj9 with
   |(x10,row11)=>(
    if (decide (x10<(slices1.length:Int)))=true then
     (rdO slices1 x10).bind fun x12=>
     (apO 16 row11 x12).bind fun x13=>
     some (.inl (IntKind.wrap .i64 (x10+1),x13))
    else
     some (.inr row11):Option ((Int×(List (List UInt8)))⊕(List (List UInt8))))) (0,x8)):Option (List (List UInt8))).bind fun j9=>
 some j9
noncomputable def V9(n1:Aa)(s2:List UInt8)(parts3:List (List (List UInt8))):Option (List (List UInt8)):=
 if (n1.Ag==0)=true then
  (strings_CutSuffix n1.Aj [37]).bind fun x4=>
  if x4.2=true then
   some [x4.1,[37]]
  else
   some [n1.Aj]
 else
  if (n1.Ag==1)=true then
   some [n1.Aj]
  else
   if (n1.Ag==2)=true then
    (rdO parts3 0).bind fun x5=>
    (apO 16 [[45]] x5).bind fun x6=>
    some x6
   else
    if (n1.Ag==14)=true then
     (rdO parts3 0).bind fun x7=>
     (apO 16 [[110,111,116]] x7).bind fun x8=>
     some x8
    else
     if (n1.Ag==15)=true then
      (rdO parts3 0).bind fun x9=>
      (rdO parts3 1).bind fun x10=>
      (rdO parts3 2).bind fun x11=>
      (Ao [[[105,102]],x9,[[116,104,101,110]],x10,[[101,108,115,101]],x11]).bind fun x12=>
      some x12
     else
      ((if (n1.Ag==16)=true then
        some (n1.Ag==16)
      else
       some (n1.Ag==17)):Option Bool).bind fun j13=>
      if j13=true then
       ((if (n1.Ag==17)=true then
         some [109,97,120]
       else
        some [109,105,110]):Option (List UInt8)).bind fun j15=>
       (rdO parts3 0).bind fun x17=>
       (rdO parts3 1).bind fun x18=>
       (Ao [[j15,[40]],x17,[[44]],x18,[[41]]]).bind fun x19=>
       some x19
      else
       (rdO parts3 0).bind fun x20=>
       (rdO parts3 1).bind fun x21=>
       (Ao [x20,[s2],x21]).bind fun x22=>
       some x22
noncomputable def Gl:Nat→(List Aa)→Int→Option ((List (List UInt8))×(List Aa))
 |0,_,_=>none
 |fuel+1,l1,level2=>
  (rdO l1 0).bind fun x3=>
  (slO l1 1 (l1.length:Int)).bind fun x4=>
  (Anr x3.Ag).bind fun x5=>
  ((if (x3.Ag==2)=true then
    some (7,[7])
  else
   if (x3.Ag==14)=true then
    some (3,[3])
   else
    if (x3.Ag==15)=true then
     some (0,[x5.2.2.1,x5.2.2.2,0])
    else
     some (x5.1,[x5.2.2.1,x5.2.2.2,0])):Option (Int×(List Int))).bind fun(own7,sides8)=>
  (L8 x3.Ag).bind fun x9=>
  ((A5 (fun(qj10:(List Aa)×Int×(List (List (List UInt8))))=>match qj10 with
    |(rest11,x12,row13)=>(
     if (decide (x12<x9))=true then
      (rdO sides8 x12).bind fun x14=>
      (Gl fuel rest11 x14).bind fun x15=>
      (apO 24 row13 [x15.1]).bind fun x16=>
      some (.inl (x15.2,IntKind.wrap .i64 (x12+1),x16))
     else
      some (.inr (rest11,row13)):Option (((List Aa)×Int×(List (List (List UInt8))))⊕((List Aa)×(List (List (List UInt8))))))) (x4,0,([]:List (List (List UInt8))))):Option ((List Aa)×(List (List (List UInt8))))).bind fun(rest17,parts18)=>
  (V9 x3 x5.2.1 parts18).bind fun x19=>
  ((if (decide (own7<level2))=true then
    (Ao [[[40]],x19,[[41]]]).bind fun x21=>
    some x21
  else
   some x19):Option (List (List UInt8))).bind fun j20=>
  some (j20,rest17)
noncomputable def Ou(l1:List Aa):Option ((List UInt8)×Int):=
 (Ee l1).bind fun x2=>
 if (!x2)=true then
  some ([],1)
 else
  (Gl 100000 l1 0).bind fun x3=>
  (strings_Join x3.1 [32]).bind fun x4=>
  some (x4,0)
noncomputable def Ck(s1:List UInt8)(e2:Ab):Option ((List UInt8)×Ab):=
 (Aq [s1] e2).bind fun x3=>
 (Ba 1 true x3).bind fun x4=>
 (Aq [[59]] x4.2).bind fun x5=>
 some (x4.1,x5)
noncomputable def Dm(e1:Ab):Option (Af×Ab):=
 (Aq [[112,114,111,100,117,99,116]] e1).bind fun x2=>
 (Ba 0 true x2).bind fun x3=>
 (Ba 0 true x3.2).bind fun x4=>
 (Aq [[123],[98,97,115,105,115]] x4.2).bind fun x5=>
 (Ba 0 true x5).bind fun x6=>
 (Aq [[59]] x6.2).bind fun x7=>
 (Ck [112,101,114,105,111,100] x7).bind fun x8=>
 (Aq [[116,105,101,114,115],[123]] x8.2).bind fun x9=>
 ((A5 (fun(qj10:Bool×Ab×(List UInt8)×(List UInt8)×(List UInt8)×(List UInt8)×(List Aa)×(List UInt8)×(List UInt8)×(List UInt8)×(List Ah))=>match qj10 with
   |(first11,r12,d13,d14,d15,d16,d17,d18,d19,d20,row21)=>(
    (some (!r12.B9)).bind fun c22=>
    (gdO (c22&& !first11) (Bw [125] r12) (default:Bool)).bind fun x23=>
    if (c22&&(first11||(!x23)))=true then
     (Ba 1 true (⟨(bif (c22&& !first11) then r12.J7 else r12.J7),(bif (c22&& !first11) then r12.C3 else r12.C3),(bif (c22&& !first11) then r12.B9 else r12.B9)⟩:Ab)).bind fun x24=>
     (Aq [[58]] x24.2).bind fun x25=>
     (Ba 1 true x25).bind fun x26=>
     (Aq [[37],[59]] x26.2).bind fun x27=>
     (apO 32 row21 [(⟨x24.1,x26.1⟩:Ah)]).bind fun x28=>
     some (.inl (false,x27,d13,d14,d15,d16,d17,d18,d19,d20,x28))
    else
     some (.inr ((⟨(bif (c22&& !first11) then r12.J7 else r12.J7),(bif (c22&& !first11) then r12.C3 else r12.C3),(bif (c22&& !first11) then r12.B9 else r12.B9)⟩:Ab),(⟨d13,d14,d15,d16,row21,d17,d18,d19,d20⟩:Af))):Option ((Bool×Ab×(List UInt8)×(List UInt8)×(List UInt8)×(List UInt8)×(List Aa)×(List UInt8)×(List UInt8)×(List UInt8)×(List Ah))⊕(Ab×Af)))) (true,x9,x3.1,x4.1,x6.1,x8.1,([]:List Aa),[],[],[],([]:List Ah))):Option (Ab×Af)).bind fun(r29,d30)=>
 (Aq [[125],[102,101,101]] r29).bind fun x31=>
 (parse_reader_any 100000 x31).bind fun x32=>
 (Aq [[59]] x32.2).bind fun x33=>
 (Ck [109,105,110,105,109,117,109] x33).bind fun x34=>
 (Ck [111,118,101,114,100,114,97,102,116] x34.2).bind fun x35=>
 (Ck [110,111,116,105,99,101] x35.2).bind fun x36=>
 (Aq [[125]] x36.2).bind fun x37=>
 some ((⟨d30.F7,d30.Jf,d30.Dt,d30.Cx,d30.Az,x32.1,x34.1,x35.1,x36.1⟩:Af),x37)
noncomputable def Sl(text1:List UInt8):Option ((List Af)×Int×Int×Int):=
 (Ov text1).bind fun x2=>match x2 with
 | .inl a3=>
  if (a3.2.2.1 !=0)=true then
   some (([]:List Af),a3.1,a3.2.1,a3.2.2.1)
  else
   ((A5 (fun(qj5:Bool×Ab×(List Af))=>match qj5 with
     |(fits6,x7,row8)=>(
      (some (!x7.B9)).bind fun c9=>
      if (c9&&(decide (x7.C3<(x7.J7.length:Int))))=true then
       (Dm x7).bind fun x10=>
       (some (fits6&&(decide ((x10.1.Az.length:Int)≤8)))).bind fun c11=>
       (gdO c11 (Ee x10.1.C2) (default:Bool)).bind fun x12=>
       (apO 160 row8 [x10.1]).bind fun x13=>
       some (.inl ((c11&&x12),x10.2,x13))
      else
       some (.inr (row8,fits6,x7)):Option ((Bool×Ab×(List Af))⊕((List Af)×Bool×Ab)))) (true,a3.2.2.2,([]:List Af))):Option ((List Af)×Bool×Ab)).bind fun(out14,fits15,x16)=>
   (F9 text1 (fits15&&(decide ((out14.length:Int)≤16))) x16).bind fun x17=>
   if (x17.2.2 !=0)=true then
    some (([]:List Af),x17.1,x17.2.1,x17.2.2)
   else
    some (out14,0,0,0)
 | .inr b4=>
  if (b4.2.2 !=0)=true then
   some (([]:List Af),b4.1,b4.2.1,b4.2.2)
  else
   none
noncomputable def Ow(b1:Ah):Option Bool:=
 (Fa b1.J5).bind fun x2=>
 (some (!x2)).bind fun c3=>
 (gdO (!c3) (Fa b1.J6) (default:Bool)).bind fun x4=>
 some (c3||(!x4))
noncomputable def Eo(s1:List Ah):Option Int:=
 ((A5 (fun(qj2:Int)=>match qj2 with
   |x3=>(
    if (decide (x3<(s1.length:Int)))=true then
     (rdO s1 x3).bind fun x4=>
     (Ow x4).bind fun x5=>
     if x5=true then
      some (.inr (.inr x3))
     else
      some (.inl (IntKind.wrap .i64 (x3+1)))
    else
     some (.inr (.inl ())):Option (Int⊕(Unit⊕Int)))) 0):Option (Unit⊕Int)).bind fun j2=>match j2 with
 | .inr o=>some o
 | .inl _=>
 some (-1)
noncomputable def Cl(s1:List Ah):Option Bool:=
 (Eo s1).bind fun x2=>
 some (decide (x2≥0))
noncomputable def Aqp(d1:Af):Option Bool:=
 ((A5 (fun(qj2:Int)=>match qj2 with
   |x3=>(
    if (decide (x3<([d1.F7,d1.Jf,d1.Dt].length:Int)))=true then
     (rdO [d1.F7,d1.Jf,d1.Dt] x3).bind fun x4=>
     (L9 x4 true).bind fun x5=>
     if (!x5)=true then
      some (.inr (.inr false))
     else
      some (.inl (IntKind.wrap .i64 (x3+1)))
    else
     some (.inr (.inl ())):Option (Int⊕(Unit⊕Bool)))) 0):Option (Unit⊕Bool)).bind fun j2=>match j2 with
 | .inr o=>some o
 | .inl _=>
 ((A5 (fun(qj6:Int)=>match qj6 with
   |x7=>(
    if (decide (x7<([d1.Cx,d1.Cq,d1.Bu,d1.Cw].length:Int)))=true then
     (rdO [d1.Cx,d1.Cq,d1.Bu,d1.Cw] x7).bind fun x8=>
     (Fa x8).bind fun x9=>
     if (!x9)=true then
      some (.inr (.inr false))
     else
      some (.inl (IntKind.wrap .i64 (x7+1)))
    else
     some (.inr (.inl ())):Option (Int⊕(Unit⊕Bool)))) 0):Option (Unit⊕Bool)).bind fun j6=>match j6 with
 | .inr o=>some o
 | .inl _=>
 (some (decide ((d1.Az.length:Int)≥1))).bind fun c10=>
 (some (c10&&(decide ((d1.Az.length:Int)≤8)))).bind fun c11=>
 (gdO c11 (Cl d1.Az) (default:Bool)).bind fun x12=>
 (some (c11&&(!x12))).bind fun c13=>
 (gdO c13 (Ee d1.C2) (default:Bool)).bind fun x14=>
 some (c13&&x14)
noncomputable def F8(d1:Af):Option Bool:=
 (Aqp d1).bind fun x2=>
 some (!x2)
noncomputable def Ep(s1:List Af):Option Int:=
 ((A5 (fun(qj2:Int)=>match qj2 with
   |x3=>(
    if (decide (x3<(s1.length:Int)))=true then
     (rdO s1 x3).bind fun x4=>
     (F8 x4).bind fun x5=>
     if x5=true then
      some (.inr (.inr x3))
     else
      some (.inl (IntKind.wrap .i64 (x3+1)))
    else
     some (.inr (.inl ())):Option (Int⊕(Unit⊕Int)))) 0):Option (Unit⊕Int)).bind fun j2=>match j2 with
 | .inr o=>some o
 | .inl _=>
 some (-1)
noncomputable def Cm(s1:List Af):Option Bool:=
 (Ep s1).bind fun x2=>
 some (decide (x2≥0))
noncomputable def Kf(l1:List Af):Option ((List UInt8)×Int):=
 (some (decide ((l1.length:Int)>16))).bind fun c2=>
 (gdO (!c2) (Cm l1) (default:Bool)).bind fun x3=>
 if (c2||x3)=true then
  some ([],1)
 else
  ((A5 (fun(qj4:Int×(List (List UInt8)))=>match qj4 with
    |(x5,row6)=>(
     if (decide (x5<(l1.length:Int)))=true then
      (rdO l1 x5).bind fun x7=>
      (apO 16 row6 [[112,114,111,100,117,99,116],x7.F7,x7.Jf,[123],[98,97,115,105,115],x7.Dt,[59],[112,101,114,105,111,100],x7.Cx,[59],[116,105,101,114,115],[123]]).bind fun x8=>
      ((A5 (fun(qj9:Int×(List (List UInt8)))=>match qj9 with
        |(x10,row11)=>(
         if (decide (x10<(x7.Az.length:Int)))=true then
          (rdO x7.Az x10).bind fun x12=>
          (apO 16 row11 [x12.J5,[58],x12.J6,[37],[59]]).bind fun x13=>
          some (.inl (IntKind.wrap .i64 (x10+1),x13))
         else
          some (.inr row11):Option ((Int×(List (List UInt8)))⊕(List (List UInt8))))) (0,x8)):Option (List (List UInt8))).bind fun j9=>
      (Gl 100000 x7.C2 0).bind fun x15=>
      (apO 16 j9 [[125],[102,101,101]]).bind fun x16=>
      (apO 16 x16 x15.1).bind fun x17=>
      (apO 16 x17 [[59],[109,105,110,105,109,117,109],x7.Cq,[59],[111,118,101,114,100,114,97,102,116],x7.Bu,[59],[110,111,116,105,99,101],x7.Cw,[59],[125]]).bind fun x18=>
      some (.inl (IntKind.wrap .i64 (x5+1),x18))
     else
      some (.inr row6):Option ((Int×(List (List UInt8)))⊕(List (List UInt8))))) (0,([]:List (List UInt8)))):Option (List (List UInt8))).bind fun j4=>
  (strings_Join j4 [32]).bind fun x20=>
  some (x20,0)
noncomputable def D2(a1:List Aa)(b2:List Aa):Option Bool:=
 if ((a1.length:Int)!=(b2.length:Int))=true then
  some false
 else
  ((A5 (fun(qj3:Int)=>match qj3 with
    |i4=>(
     if (decide (i4<(a1.length:Int)))=true then
      (rdO a1 i4).bind fun x5=>
      (rdO b2 i4).bind fun x6=>
      if (!(Aa.same x5 x6))=true then
       some (.inr (.inr false))
      else
       some (.inl (IntKind.wrap .i64 (i4+1)))
     else
      some (.inr (.inl ())):Option (Int⊕(Unit⊕Bool)))) 0):Option (Unit⊕Bool)).bind fun j3=>match j3 with
  | .inr o=>some o
  | .inl _=>
  some true
noncomputable def Ea(s11:List Ah)(s22:List Ah):Option Bool:=
 if ((s11.length:Int)!=(s22.length:Int))=true then
  some false
 else
  ((A5 (fun(qj3:Int)=>match qj3 with
    |x4=>(
     if (decide (x4<(s11.length:Int)))=true then
      (rdO s11 x4).bind fun x5=>
      (rdO s22 x4).bind fun x6=>
      if (!(Ah.same x5 x6))=true then
       some (.inr (.inr false))
      else
       some (.inl (IntKind.wrap .i64 (x4+1)))
     else
      some (.inr (.inl ())):Option (Int⊕(Unit⊕Bool)))) 0):Option (Unit⊕Bool)).bind fun j3=>match j3 with
  | .inr o=>some o
  | .inl _=>
  some true
noncomputable def Eb(s11:List Aa)(s22:List Aa):Option Bool:=
 if ((s11.length:Int)!=(s22.length:Int))=true then
  some false
 else
  ((A5 (fun(qj3:Int)=>match qj3 with
    |x4=>(
     if (decide (x4<(s11.length:Int)))=true then
      (rdO s11 x4).bind fun x5=>
      (rdO s22 x4).bind fun x6=>
      if (!(Aa.same x5 x6))=true then
       some (.inr (.inr false))
      else
       some (.inl (IntKind.wrap .i64 (x4+1)))
     else
      some (.inr (.inl ())):Option (Int⊕(Unit⊕Bool)))) 0):Option (Unit⊕Bool)).bind fun j3=>match j3 with
  | .inr o=>some o
  | .inl _=>
  some true
noncomputable def S5(a1:Af)(b2:Af):Option Bool:=
 (Ea a1.Az b2.Az).bind fun x3=>
 (gdO x3 (Eb a1.C2 b2.C2) (default:Bool)).bind fun x4=>
 (some (x3&&x4)).bind fun c5=>
 (some (c5&&(a1.F7==b2.F7))).bind fun c6=>
 (some (c6&&(a1.Jf==b2.Jf))).bind fun c7=>
 (some (c7&&(a1.Dt==b2.Dt))).bind fun c8=>
 (some (c8&&(a1.Cx==b2.Cx))).bind fun c9=>
 (some (c9&&(a1.Cq==b2.Cq))).bind fun c10=>
 (some (c10&&(a1.Bu==b2.Bu))).bind fun c11=>
 some (c11&&(a1.Cw==b2.Cw))
noncomputable def C5:Option Bool:=
 (Em [97,45,98,32,45,32,99,42,45,50,37]).bind fun x1=>
 (Ou x1.1).bind fun x2=>
 (Em [40,97,32,60,32,49,41,32,61,32,40,110,111,116,32,98,41]).bind fun x3=>
 (Ou x3.1).bind fun x4=>
 (Em [97,10,32,60,32,98,32,60,32,99]).bind fun x5=>
 (Em [40,97]).bind fun x6=>
 (Sl [112,114,111,100,117,99,116,32,115,97,118,101,32,101,117,114,32,123,32,98,97,115,105,115,32,97,99,116,51,54,53,32,59,32,112,101,114,105,111,100,32,51,32,59,32,116,105,101,114,115,32,123,32,48,32,58,32,49,46,50,53,32,37,32,59,32,53,48,48,32,58,32,50,32,37,32,59,32,125,32,102,101,101,32,105,102,32,98,97,108,97,110,99,101,32,60,32,49,48,32,116,104,101,110,32,49,32,101,108,115,101,32,48,32,59,32,109,105,110,105,109,117,109,32,53,32,59,32,111,118,101,114,100,114,97,102,116,32,48,32,59,32,110,111,116,105,99,101,32,51,48,32,59,32,125]).bind fun x7=>
 (Kf x7.1).bind fun x8=>
 (D2 x1.1 [(⟨4,[]⟩:Aa),(⟨4,[]⟩:Aa),(⟨1,[97]⟩:Aa),(⟨1,[98]⟩:Aa),(⟨5,[]⟩:Aa),(⟨1,[99]⟩:Aa),(⟨2,[]⟩:Aa),(⟨0,[50,37]⟩:Aa)]).bind fun x9=>
 if ((x7.1.length:Int)!=1)=true then
  some false
 else
  (some (x1.2.2.2==0)).bind fun c10=>
  (some (c10&&x9)).bind fun c11=>
  (some (c11&&(x2.2==0))).bind fun c12=>
  (some (c12&&(x2.1==[97,32,45,32,98,32,45,32,99,32,42,32,45,32,50,32,37]))).bind fun c13=>
  (gdO c13 (Ot x1.1) (default:Int)).bind fun x14=>
  (some (c13&&(x14==4))).bind fun c15=>
  (some (c15&&(x3.2.2.2==0))).bind fun c16=>
  (some (c16&&(x4.2==0))).bind fun c17=>
  (some (c17&&(x4.1==[40,32,97,32,60,32,49,32,41,32,61,32,40,32,110,111,116,32,98,32,41]))).bind fun c18=>
  (some (c18&&(x5.2.2.2==14))).bind fun c19=>
  (some (c19&&(x5.2.1==2))).bind fun c20=>
  (some (c20&&(x5.2.2.1==6))).bind fun c21=>
  (some (c21&&(x6.2.2.2==14))).bind fun c22=>
  (some (c22&&(x6.2.1==1))).bind fun c23=>
  (some (c23&&(x6.2.2.1==3))).bind fun c24=>
  (some (c24&&(x7.2.2.2==0))).bind fun c25=>
  (some (c25&&(x8.2==0))).bind fun c26=>
  (some (c26&&(x8.1==[112,114,111,100,117,99,116,32,115,97,118,101,32,101,117,114,32,123,32,98,97,115,105,115,32,97,99,116,51,54,53,32,59,32,112,101,114,105,111,100,32,51,32,59,32,116,105,101,114,115,32,123,32,48,32,58,32,49,46,50,53,32,37,32,59,32,53,48,48,32,58,32,50,32,37,32,59,32,125,32,102,101,101,32,105,102,32,98,97,108,97,110,99,101,32,60,32,49,48,32,116,104,101,110,32,49,32,101,108,115,101,32,48,32,59,32,109,105,110,105,109,117,109,32,53,32,59,32,111,118,101,114,100,114,97,102,116,32,48,32,59,32,110,111,116,105,99,101,32,51,48,32,59,32,125]))).bind fun c27=>
  (gdO c27 (rdO x7.1 0) (default:Af)).bind fun x28=>
  (some (c27&&((x28.Az.length:Int)==2))).bind fun c29=>
  (gdO c29 (rdO x7.1 0) (default:Af)).bind fun x30=>
  (gdO c29 (rdO x30.Az 1) (default:Ah)).bind fun x31=>
  (some (c29&&(x31.J6==[50]))).bind fun c32=>
  (gdO c32 (rdO x7.1 0) (default:Af)).bind fun x33=>
  (some (c32&&(x33.Cw==[51,48]))).bind fun c34=>
  (gdO c34 (rdO x7.1 0) (default:Af)).bind fun x35=>
  (gdO c34 (rdO x7.1 0) (default:Af)).bind fun x36=>
  (gdO c34 (S5 x35 x36) (default:Bool)).bind fun x37=>
  (some (c34&&x37)).bind fun c38=>
  (gdO c38 (Ee [(⟨2,[]⟩:Aa)]) (default:Bool)).bind fun x39=>
  (some (c38&&(!x39))).bind fun c40=>
  (gdO c40 (Ee x1.1) (default:Bool)).bind fun x41=>
  some (c40&&x41)
noncomputable def C6(s1:List UInt8):Option Int:=
 ((A5 (fun(qj2:Int)=>match qj2 with
   |n3=>(
    if (decide (n3<(s1.length:Int)))=true then
     (byO s1 n3).bind fun x4=>
     if (x4==35)=true then
      A5 (fun(qj5:Int)=>match qj5 with
       |n6=>(
        (some (decide (n6<(s1.length:Int)))).bind fun c7=>
        (gdO c7 (byO s1 n6) 0).bind fun x8=>
        if (c7&&(x8 !=10))=true then
         some (.inl (IntKind.wrap .i64 (n6+1)))
        else
         some (.inr (.inl n6)):Option (Int⊕(Int⊕(Int⊕Int))))) n3
     else
      (byO s1 n3).bind fun x9=>
      (some (x9==32)).bind fun c10=>
      (gdO (!c10) (byO s1 n3) 0).bind fun x11=>
      (some (c10||(x11==9))).bind fun c12=>
      (gdO (!c12) (byO s1 n3) 0).bind fun x13=>
      if (c12||(x13==10))=true then
       some (.inl (IntKind.wrap .i64 (n3+1)))
      else
       some (.inr (.inr n3))
    else
     some (.inr (.inl n3)):Option (Int⊕(Int⊕Int)))) 0):Option (Int⊕Int)).bind fun j2=>match j2 with
 | .inr o=>some o
 | .inl n14=>
 some n14
def Dl(b1:Int):Option Bool:=
 (some (decide (b1≥97))).bind fun c2=>
 some (c2&&(decide (b1≤122)))
def B2(b1:Int):Option Bool:=
 (some (decide (b1≥48))).bind fun c2=>
 some (c2&&(decide (b1≤57)))
noncomputable def Gu(s1:List UInt8):Option Ae:=
 ((A5 (fun(qj2:Int)=>match qj2 with
   |n3=>(
    (some (decide (n3<(s1.length:Int)))).bind fun c4=>
    (gdO c4 (byO s1 n3) 0).bind fun x5=>
    (gdO c4 (Dl x5) (default:Bool)).bind fun x6=>
    (gdO (c4&& !x6) (byO s1 n3) 0).bind fun x7=>
    (gdO (c4&& !x6) (B2 x7) (default:Bool)).bind fun x8=>
    (some (x6||x8)).bind fun c9=>
    (gdO (c4&& !c9) (byO s1 n3) 0).bind fun x10=>
    if (c4&&(c9||(x10==95)))=true then
     some (.inl (IntKind.wrap .i64 (n3+1)))
    else
     some (.inr n3):Option (Int⊕Int))) 0):Option Int).bind fun j2=>
 if (decide (j2>32))=true then
  some (⟨0,0,3⟩:Ae)
 else
  some (⟨0,j2,0⟩:Ae)
noncomputable def Cv(s1:List UInt8):Option Int:=
 ((A5 (fun(qj2:Int)=>match qj2 with
   |n3=>(
    (some (decide (n3<(s1.length:Int)))).bind fun c4=>
    (gdO c4 (byO s1 n3) 0).bind fun x5=>
    (gdO c4 (B2 x5) (default:Bool)).bind fun x6=>
    if (c4&&x6)=true then
     some (.inl (IntKind.wrap .i64 (n3+1)))
    else
     some (.inr n3):Option (Int⊕Int))) 0):Option Int).bind fun j2=>
 some j2
noncomputable def E5(s1:List UInt8):Option Ae:=
 (Cv s1).bind fun x2=>
 (some (decide ((IntKind.wrap .i64 (x2+1))<(s1.length:Int)))).bind fun c3=>
 (gdO c3 (byO s1 x2) 0).bind fun x4=>
 (some (c3&&(x4==46))).bind fun c5=>
 (gdO c5 (byO s1 (IntKind.wrap .i64 (x2+1))) 0).bind fun x6=>
 (gdO c5 (B2 x6) (default:Bool)).bind fun x7=>
 ((if (c5&&x7)=true then
   (slO s1 (IntKind.wrap .i64 (x2+1)) (s1.length:Int)).bind fun x9=>
   (Cv x9).bind fun x10=>
   some x10
 else
  some 0):Option Int).bind fun j8=>
 (some (decide (x2>15))).bind fun c12=>
 (some (c12||(decide (j8>9)))).bind fun c13=>
 (some (decide (x2>1))).bind fun c14=>
 (gdO (!c13&&c14) (byO s1 0) 0).bind fun x15=>
 if (c13||(c14&&(x15==48)))=true then
  some (⟨0,0,3⟩:Ae)
 else
  if (decide (j8>0))=true then
   some (⟨1,IntKind.wrap .i64 ((IntKind.wrap .i64 (x2+1))+j8),0⟩:Ae)
  else
   some (⟨1,x2,0⟩:Ae)
noncomputable def E6(s1:List UInt8):Option Ae:=
 ((A5 (fun(qj2:Int)=>match qj2 with
   |n3=>(
    (some (decide (n3<(s1.length:Int)))).bind fun c4=>
    (gdO c4 (byO s1 n3) 0).bind fun x5=>
    if (c4&&(x5 !=34))=true then
     some (.inl (IntKind.wrap .i64 (n3+1)))
    else
     some (.inr n3):Option (Int⊕Int))) 1):Option Int).bind fun j2=>
 if (j2==(s1.length:Int))=true then
  some (⟨0,0,14⟩:Ae)
 else
  ((A5 (fun(qj7:Int)=>match qj7 with
    |i8=>(
     if (decide (i8<j2))=true then
      (byO s1 i8).bind fun x9=>
      (some (decide (x9<32))).bind fun c10=>
      (gdO (!c10) (byO s1 i8) 0).bind fun x11=>
      if (c10||(decide (x11>126)))=true then
       some (.inr (.inr (⟨0,0,3⟩:Ae)))
      else
       some (.inl (IntKind.wrap .i64 (i8+1)))
     else
      some (.inr (.inl ())):Option (Int⊕(Unit⊕Ae)))) 1):Option (Unit⊕Ae)).bind fun j7=>match j7 with
  | .inr o=>some o
  | .inl _=>
  if (decide (j2>33))=true then
   some (⟨0,0,3⟩:Ae)
  else
   some (⟨2,IntKind.wrap .i64 (j2+1),0⟩:Ae)
noncomputable def Gt(s1:List UInt8):Option Ae:=
 (some (decide ((s1.length:Int)>1))).bind fun c2=>
 (gdO c2 (slO s1 0 2) (default:List UInt8)).bind fun x3=>
 (some (x3==[60,61])).bind fun c4=>
 (gdO (c2&& !c4) (slO s1 0 2) (default:List UInt8)).bind fun x5=>
 (some (c4||(x5==[62,61]))).bind fun c6=>
 (gdO (c2&& !c6) (slO s1 0 2) (default:List UInt8)).bind fun x7=>
 if (c2&&(c6||(x7==[46,46])))=true then
  some (⟨3,2,0⟩:Ae)
 else
  ((A5 (fun(qj8:Int)=>match qj8 with
    |i9=>(
     if (decide (i9<([123,125,40,41,91,93,59,58,44,37,61,60,62,43,45,42,47].length:Int)))=true then
      (byO [123,125,40,41,91,93,59,58,44,37,61,60,62,43,45,42,47] i9).bind fun x10=>
      (byO s1 0).bind fun x11=>
      if (x10==x11)=true then
       some (.inr (.inr (⟨3,1,0⟩:Ae)))
      else
       some (.inl (IntKind.wrap .i64 (i9+1)))
     else
      some (.inr (.inl ())):Option (Int⊕(Unit⊕Ae)))) 0):Option (Unit⊕Ae)).bind fun j8=>match j8 with
  | .inr o=>some o
  | .inl _=>
  some (⟨0,0,14⟩:Ae)
noncomputable def Df(s1:List UInt8):Option Ae:=
 (byO s1 0).bind fun x2=>
 (Dl x2).bind fun x3=>
 if x3=true then
  (Gu s1).bind fun x4=>
  some x4
 else
  (byO s1 0).bind fun x5=>
  (B2 x5).bind fun x6=>
  if x6=true then
   (E5 s1).bind fun x7=>
   some x7
  else
   (byO s1 0).bind fun x8=>
   if (x8==34)=true then
    (E6 s1).bind fun x9=>
    some x9
   else
    (Gt s1).bind fun x10=>
    some x10
noncomputable def Ci(s1:List UInt8)(at_2:Int):Option (Int×Int):=
 ((A5 (fun(qj3:Int×Int×Int)=>match qj3 with
   |(line4,col5,i6)=>(
    if (decide (i6<at_2))=true then
     (byO s1 i6).bind fun x7=>
     ((if (x7==10)=true then
       some (IntKind.wrap .i64 (line4+1),1)
     else
      some (line4,IntKind.wrap .i64 (col5+1))):Option (Int×Int)).bind fun(line9,col10)=>
     some (.inl (line9,col10,IntKind.wrap .i64 (i6+1)))
    else
     some (.inr (line4,col5)):Option ((Int×Int×Int)⊕(Int×Int)))) (1,1,0)):Option (Int×Int)).bind fun(line11,col12)=>
 some (line11,col12)
noncomputable def C1(s1:List UInt8):Option ((List Ad)×Int×Int):=
 if (decide ((s1.length:Int)>8000))=true then
  some (([]:List Ad),0,4)
 else
  (C6 s1).bind fun x2=>
  ((A5 (fun(qj3:Int×(List Ad))=>match qj3 with
    |(at_4,row5)=>(
     if (decide (at_4<(s1.length:Int)))=true then
      (slO s1 at_4 (s1.length:Int)).bind fun x6=>
      (Df x6).bind fun x7=>
      if (x7.f_E !=0)=true then
       some (.inr (.inr (([]:List Ad),at_4,x7.f_E)))
      else
       if ((row5.length:Int)==1500)=true then
        some (.inr (.inr (([]:List Ad),at_4,6)))
       else
        (Ci s1 at_4).bind fun x8=>
        (slO s1 at_4 (IntKind.wrap .i64 (at_4+x7.P7))).bind fun x9=>
        (apO 40 row5 [(⟨x7.Ag,x8.1,x8.2,x9⟩:Ad)]).bind fun x10=>
        (slO s1 (IntKind.wrap .i64 (at_4+x7.P7)) (s1.length:Int)).bind fun x11=>
        (C6 x11).bind fun x12=>
        some (.inl (IntKind.wrap .i64 ((IntKind.wrap .i64 (at_4+x7.P7))+x12),x10))
     else
      some (.inr (.inl row5)):Option ((Int×(List Ad))⊕((List Ad)⊕((List Ad)×Int×Int))))) (x2,([]:List Ad))):Option ((List Ad)⊕((List Ad)×Int×Int))).bind fun j3=>match j3 with
  | .inr o=>some o
  | .inl out13=>
  some (out13,0,0)
def A4(l1:List Ad)(at_2:Int)(s3:List UInt8):Option Bool:=
 (some (decide (at_2<(l1.length:Int)))).bind fun c4=>
 (gdO c4 (rdO l1 at_2) (default:Ad)).bind fun x5=>
 (some (c4&&(x5.Ag !=2))).bind fun c6=>
 (gdO c6 (rdO l1 at_2) (default:Ad)).bind fun x7=>
 some (c6&&(x7.Aj==s3))
noncomputable def F6(l1:List (List UInt8))(s2:List UInt8):Option Bool:=
 ((A5 (fun(qj3:Int)=>match qj3 with
   |i4=>(
    if (decide (i4<(l1.length:Int)))=true then
     (rdO l1 i4).bind fun x5=>
     if (x5==s2)=true then
      some (.inr (.inr true))
     else
      some (.inl (IntKind.wrap .i64 (i4+1)))
    else
     some (.inr (.inl ())):Option (Int⊕(Unit⊕Bool)))) 0):Option (Unit⊕Bool)).bind fun j3=>match j3 with
 | .inr o=>some o
 | .inl _=>
 some false
noncomputable def Ds(s1:List UInt8)(product2:Bool):Option Bool:=
 (F6 [[105,102],[116,104,101,110],[101,108,115,101],[97,110,100],[111,114],[110,111,116],[109,105,110],[109,97,120]] s1).bind fun x3=>
 (F6 [[112,114,111,100,117,99,116],[98,97,115,105,115],[112,101,114,105,111,100],[116,105,101,114,115],[102,101,101],[109,105,110,105,109,117,109],[111,118,101,114,100,114,97,102,116],[110,111,116,105,99,101]] s1).bind fun x4=>
 some (x3||(product2&&x4))
def Ek(t1:Ad):Option (Int×Int):=
 if (t1.Ag==2)=true then
  some (0,0)
 else
  if (t1.Aj==[111,114])=true then
   some (13,1)
  else
   if (t1.Aj==[97,110,100])=true then
    some (12,2)
   else
    if (t1.Aj==[60])=true then
     some (7,4)
    else
     if (t1.Aj==[60,61])=true then
      some (8,4)
     else
      if (t1.Aj==[61])=true then
       some (9,4)
      else
       if (t1.Aj==[62])=true then
        some (10,4)
       else
        if (t1.Aj==[62,61])=true then
         some (11,4)
        else
         if (t1.Aj==[43])=true then
          some (3,5)
         else
          if (t1.Aj==[45])=true then
           some (4,5)
          else
           if (t1.Aj==[42])=true then
            some (5,6)
           else
            if (t1.Aj==[47])=true then
             some (6,6)
            else
             some (0,0)
def Bs(kind1:Int)(a2:List Aa)(b3:List Aa)(c4:List Aa):Option (List Aa):=
 (apO 24 [(⟨kind1,[]⟩:Aa)] a2).bind fun x5=>
 (apO 24 x5 b3).bind fun x6=>
 (apO 24 x6 c4).bind fun x7=>
 some x7
mutual
noncomputable def cashbookref15_climb:Nat→(List Ad)→Int→Int→Option ((List Aa)×Int×Bool)
 |0,_,_,_=>none
 |fuel+1,l1,at_2,level3=>
  (cashbookref15_first fuel l1 at_2 level3).bind fun x4=>
  if (decide (x4.2.2<0))=true then
   some (([]:List Aa),x4.2.1,false)
  else
   ((A5 (fun(qj5:(List Aa)×Int×Int)=>match qj5 with
     |(out6,i7,own8)=>(
      if (decide (i7<(l1.length:Int)))=true then
       (rdO l1 i7).bind fun x9=>
       (Ek x9).bind fun x10=>
       ((if (x10.2==4)=true then
         some 5
       else
        some x10.2):Option Int).bind fun j11=>
       (some (x10.2==0)).bind fun c13=>
       (some (c13||(decide (x10.2<level3)))).bind fun c14=>
       if (c14||(decide (own8<j11)))=true then
        some (.inr (.inr (out6,i7,true)))
       else
        (cashbookref15_climb fuel l1 (IntKind.wrap .i64 (i7+1)) (IntKind.wrap .i64 (x10.2+1))).bind fun x15=>
        if (!x15.2.2)=true then
         some (.inr (.inr (([]:List Aa),x15.2.1,false)))
        else
         (Bs x10.1 out6 x15.1 ([]:List Aa)).bind fun x16=>
         some (.inl (x16,x15.2.1,x10.2))
      else
       some (.inr (.inl (out6,i7))):Option (((List Aa)×Int×Int)⊕(((List Aa)×Int)⊕((List Aa)×Int×Bool))))) (x4.1,x4.2.1,x4.2.2)):Option (((List Aa)×Int)⊕((List Aa)×Int×Bool))).bind fun j5=>match j5 with
   | .inr o=>some o
   | .inl (out17,i18)=>
   some (out17,i18,true)
noncomputable def cashbookref15_first:Nat→(List Ad)→Int→Int→Option ((List Aa)×Int×Int)
 |0,_,_,_=>none
 |fuel+1,l1,at_2,level3=>
  (some (level3==0)).bind fun c4=>
  (gdO c4 (A4 l1 at_2 [105,102]) (default:Bool)).bind fun x5=>
  if (c4&&x5)=true then
   (cashbookref15_climb fuel l1 (IntKind.wrap .i64 (at_2+1)) 0).bind fun x6=>
   (some (!x6.2.2)).bind fun c7=>
   (gdO (!c7) (A4 l1 x6.2.1 [116,104,101,110]) (default:Bool)).bind fun x8=>
   if (c7||(!x8))=true then
    some (([]:List Aa),x6.2.1,(-1))
   else
    (cashbookref15_climb fuel l1 (IntKind.wrap .i64 (x6.2.1+1)) 0).bind fun x9=>
    (some (!x9.2.2)).bind fun c10=>
    (gdO (!c10) (A4 l1 x9.2.1 [101,108,115,101]) (default:Bool)).bind fun x11=>
    if (c10||(!x11))=true then
     some (([]:List Aa),x9.2.1,(-1))
    else
     (cashbookref15_climb fuel l1 (IntKind.wrap .i64 (x9.2.1+1)) 0).bind fun x12=>
     if (!x12.2.2)=true then
      some (([]:List Aa),x12.2.1,(-1))
     else
      (Bs 15 x6.1 x9.1 x12.1).bind fun x13=>
      some (x13,x12.2.1,0)
  else
   (some (decide (level3≤3))).bind fun c14=>
   (gdO c14 (A4 l1 at_2 [110,111,116]) (default:Bool)).bind fun x15=>
   if (c14&&x15)=true then
    (cashbookref15_climb fuel l1 (IntKind.wrap .i64 (at_2+1)) 3).bind fun x16=>
    if (!x16.2.2)=true then
     some (([]:List Aa),x16.2.1,(-1))
    else
     (Bs 14 x16.1 ([]:List Aa) ([]:List Aa)).bind fun x17=>
     some (x17,x16.2.1,3)
   else
    (A4 l1 at_2 [45]).bind fun x18=>
    if x18=true then
     (cashbookref15_climb fuel l1 (IntKind.wrap .i64 (at_2+1)) 7).bind fun x19=>
     if (!x19.2.2)=true then
      some (([]:List Aa),x19.2.1,(-1))
     else
      (Bs 2 x19.1 ([]:List Aa) ([]:List Aa)).bind fun x20=>
      some (x20,x19.2.1,7)
    else
     (cashbookref15_primary fuel l1 at_2).bind fun x21=>
     some (x21.1,x21.2.1,x21.2.2)
noncomputable def cashbookref15_primary:Nat→(List Ad)→Int→Option ((List Aa)×Int×Int)
 |0,_,_=>none
 |fuel+1,l1,at_2=>
  if (decide (at_2≥(l1.length:Int)))=true then
   some (([]:List Aa),at_2,(-1))
  else
   (rdO l1 at_2).bind fun x3=>
   (A4 l1 at_2 [40]).bind fun x4=>
   if x4=true then
    (cashbookref15_climb fuel l1 (IntKind.wrap .i64 (at_2+1)) 0).bind fun x5=>
    (some (!x5.2.2)).bind fun c6=>
    (gdO (!c6) (A4 l1 x5.2.1 [41]) (default:Bool)).bind fun x7=>
    if (c6||(!x7))=true then
     some (([]:List Aa),x5.2.1,(-1))
    else
     some (x5.1,IntKind.wrap .i64 (x5.2.1+1),8)
   else
    (A4 l1 at_2 [109,105,110]).bind fun x8=>
    (gdO (!x8) (A4 l1 at_2 [109,97,120]) (default:Bool)).bind fun x9=>
    if (x8||x9)=true then
     (A4 l1 (IntKind.wrap .i64 (at_2+1)) [40]).bind fun x10=>
     if (!x10)=true then
      some (([]:List Aa),IntKind.wrap .i64 (at_2+1),(-1))
     else
      (cashbookref15_climb fuel l1 (IntKind.wrap .i64 (at_2+2)) 0).bind fun x11=>
      (some (!x11.2.2)).bind fun c12=>
      (gdO (!c12) (A4 l1 x11.2.1 [44]) (default:Bool)).bind fun x13=>
      if (c12||(!x13))=true then
       some (([]:List Aa),x11.2.1,(-1))
      else
       (cashbookref15_climb fuel l1 (IntKind.wrap .i64 (x11.2.1+1)) 0).bind fun x14=>
       (some (!x14.2.2)).bind fun c15=>
       (gdO (!c15) (A4 l1 x14.2.1 [41]) (default:Bool)).bind fun x16=>
       if (c15||(!x16))=true then
        some (([]:List Aa),x14.2.1,(-1))
       else
        if (x3.Aj==[109,105,110])=true then
         (Bs 16 x11.1 x14.1 ([]:List Aa)).bind fun x17=>
         some (x17,IntKind.wrap .i64 (x14.2.1+1),8)
        else
         (Bs 17 x11.1 x14.1 ([]:List Aa)).bind fun x18=>
         some (x18,IntKind.wrap .i64 (x14.2.1+1),8)
    else
     (some (x3.Ag==1)).bind fun c19=>
     (gdO c19 (A4 l1 (IntKind.wrap .i64 (at_2+1)) [37]) (default:Bool)).bind fun x20=>
     if (c19&&x20)=true then
      (Bkd x3.Aj [37]).bind fun x21=>
      some ([(⟨0,x21⟩:Aa)],IntKind.wrap .i64 (at_2+2),8)
     else
      (Ds x3.Aj false).bind fun x22=>
      (some (x3.Ag==1)).bind fun c23=>
      (some (x3.Ag==0)).bind fun c24=>
      if (c23||(c24&&(!x22)))=true then
       some ([(⟨IntKind.wrap .i64 (1-x3.Ag),x3.Aj⟩:Aa)],IntKind.wrap .i64 (at_2+1),8)
      else
       some (([]:List Aa),at_2,(-1))
end
noncomputable def Fy(s1:List UInt8)(l2:List Ad)(at_3:Int):Option (Int×Int×Int):=
 if (decide (at_3<(l2.length:Int)))=true then
  (rdO l2 at_3).bind fun x4=>
  (rdO l2 at_3).bind fun x5=>
  some (x4.Sx,x5.Amu,14)
 else
  (Ci s1 (s1.length:Int)).bind fun x6=>
  some (x6.1,x6.2,14)
def E7(kind1:Int):Option Int:=
 (some (decide (kind1<0))).bind fun c2=>
 if (c2||(decide (kind1>17)))=true then
  some (-1)
 else
  if (decide (kind1<2))=true then
   some 0
  else
   (some (kind1==2)).bind fun c3=>
   if (c3||(kind1==14))=true then
    some 1
   else
    if (kind1==15)=true then
     some 3
    else
     some 2
noncomputable def D0(t1:Ad):Option Bool:=
 if (t1.Aj==[])=true then
  some false
 else
  (Df t1.Aj).bind fun x2=>
  (some (x2.f_E==0)).bind fun c3=>
  (some (c3&&(x2.Ag==t1.Ag))).bind fun c4=>
  some (c4&&(x2.P7==(t1.Aj.length:Int)))
noncomputable def E9(s1:List UInt8):Option Bool:=
 (D0 (⟨1,0,0,s1⟩:Ad)).bind fun x2=>
 some x2
noncomputable def Gw(s1:List UInt8)(product2:Bool):Option Bool:=
 (D0 (⟨0,0,0,s1⟩:Ad)).bind fun x3=>
 (Ds s1 product2).bind fun x4=>
 some (x3&&(!x4))
noncomputable def Ej(n1:Aa):Option Bool:=
 if (n1.Ag==0)=true then
  (some (decide ((n1.Aj.length:Int)>0))).bind fun c2=>
  (gdO c2 (byO n1.Aj (IntKind.wrap .i64 ((n1.Aj.length:Int)-1))) 0).bind fun x3=>
  ((if (c2&&(x3==37))=true then
    some (IntKind.wrap .i64 ((n1.Aj.length:Int)-1))
  else
   some (n1.Aj.length:Int)):Option Int).bind fun j4=>
  (slO n1.Aj 0 j4).bind fun x6=>
  (E9 x6).bind fun x7=>
  some x7
 else
  if (n1.Ag==1)=true then
   (Gw n1.Aj false).bind fun x8=>
   some x8
  else
   some (n1.Aj==[])
noncomputable def D1(l1:List Aa):Option Int:=
 if (decide ((l1.length:Int)>200))=true then
  some 0
 else
  ((A5 (fun(qj2:(List Int)×Int)=>match qj2 with
    |(stack3,i4)=>(
     if (decide (i4≥0))=true then
      (rdO l1 i4).bind fun x5=>
      (E7 x5.Ag).bind fun x6=>
      (rdO l1 i4).bind fun x7=>
      (Ej x7).bind fun x8=>
      (some (decide (x6<0))).bind fun c9=>
      (some (c9||(!x8))).bind fun c10=>
      if (c10||(decide (x6>(stack3.length:Int))))=true then
       some (.inr (.inr 0))
      else
       ((A5 (fun(qj11:Int×Int)=>match qj11 with
         |(deep12,k13)=>(
          if (decide (k13<x6))=true then
           (rdO stack3 (IntKind.wrap .i64 ((IntKind.wrap .i64 ((stack3.length:Int)-1))-k13))).bind fun x14=>
           some (.inl ((if x14>deep12 then x14 else deep12),IntKind.wrap .i64 (k13+1)))
          else
           some (.inr deep12):Option ((Int×Int)⊕Int))) (0,0)):Option Int).bind fun j11=>
       (slO stack3 0 (IntKind.wrap .i64 ((stack3.length:Int)-x6))).bind fun x16=>
       (apO 8 ([]:List Int) x16).bind fun x17=>
       (apO 8 x17 [IntKind.wrap .i64 (j11+1)]).bind fun x18=>
       some (.inl (x18,IntKind.wrap .i64 (i4-1)))
     else
      some (.inr (.inl stack3)):Option (((List Int)×Int)⊕((List Int)⊕Int)))) (([]:List Int),IntKind.wrap .i64 ((l1.length:Int)-1))):Option ((List Int)⊕Int)).bind fun j2=>match j2 with
  | .inr o=>some o
  | .inl stack19=>
  (some ((stack19.length:Int)!=1)).bind fun c20=>
  (gdO (!c20) (rdO stack19 0) (default:Int)).bind fun x21=>
  if (c20||(decide (x21>24)))=true then
   some 0
  else
   (rdO stack19 0).bind fun x22=>
   some x22
def Ai(s1:List UInt8)(e2:Ac):Option Ac:=
 (some (!e2.Om)).bind fun c3=>
 (gdO c3 (A4 e2.f_L e2.Sw s1) (default:Bool)).bind fun x4=>
 if (c3&&x4)=true then
  some (⟨e2.f_L,IntKind.wrap .i64 (e2.Sw+1),e2.Om⟩:Ac)
 else
  some (⟨e2.f_L,e2.Sw,true⟩:Ac)
noncomputable def A0(kind1:Int)(e2:Ac):Option ((List UInt8)×Ac):=
 (some e2.Om).bind fun c3=>
 (some (c3||(decide (e2.Sw≥(e2.f_L.length:Int))))).bind fun c4=>
 (gdO (!c4) (rdO e2.f_L e2.Sw) (default:Ad)).bind fun x5=>
 if (c4||(x5.Ag !=kind1))=true then
  some ([],(⟨e2.f_L,e2.Sw,true⟩:Ac))
 else
  (rdO e2.f_L e2.Sw).bind fun x6=>
  (Ds x6.Aj true).bind fun x7=>
  (some (kind1==0)).bind fun c8=>
  if (c8&&x7)=true then
   some ([],(⟨e2.f_L,e2.Sw,true⟩:Ac))
  else
   some (x6.Aj,(⟨e2.f_L,IntKind.wrap .i64 (e2.Sw+1),e2.Om⟩:Ac))
noncomputable def Dj(e1:Ac):Option ((List Ah)×Ac):=
 ((A5 (fun(qj2:Ac×(List Ah))=>match qj2 with
   |(p3,row4)=>(
    if (!p3.Om)=true then
     (A0 1 p3).bind fun x5=>
     (Ai [58] x5.2).bind fun x6=>
     (A0 1 x6).bind fun x7=>
     (Ai [37] x7.2).bind fun x8=>
     (Ai [59] x8).bind fun x9=>
     (apO 32 row4 [(⟨x5.1,x7.1⟩:Ah)]).bind fun x10=>
     (A4 x9.f_L x9.Sw [125]).bind fun x11=>
     if x11=true then
      some (.inr (.inr (x10,x9)))
     else
      some (.inl (x9,x10))
    else
     some (.inr (.inl (row4,p3))):Option ((Ac×(List Ah))⊕(((List Ah)×Ac)⊕((List Ah)×Ac))))) (e1,([]:List Ah))):Option (((List Ah)×Ac)⊕((List Ah)×Ac))).bind fun j2=>match j2 with
 | .inr o=>some o
 | .inl (out12,p13)=>
 some (out12,p13)
noncomputable def B5(e1:Ac):Option (Af×Ac):=
 (Ai [112,114,111,100,117,99,116] e1).bind fun x2=>
 (A0 0 x2).bind fun x3=>
 (A0 0 x3.2).bind fun x4=>
 (Ai [123] x4.2).bind fun x5=>
 (Ai [98,97,115,105,115] x5).bind fun x6=>
 (A0 0 x6).bind fun x7=>
 (Ai [59] x7.2).bind fun x8=>
 (Ai [112,101,114,105,111,100] x8).bind fun x9=>
 (A0 1 x9).bind fun x10=>
 (Ai [59] x10.2).bind fun x11=>
 (Ai [116,105,101,114,115] x11).bind fun x12=>
 (Ai [123] x12).bind fun x13=>
 (Dj x13).bind fun x14=>
 (Ai [125] x14.2).bind fun x15=>
 (Ai [102,101,101] x15).bind fun x16=>
 ((if (!x16.Om)=true then
   (cashbookref15_climb 100000 x16.f_L x16.Sw 0).bind fun x18=>
   some ((⟨x16.f_L,x18.2.1,!x18.2.2⟩:Ac),(⟨x3.1,x4.1,x7.1,x10.1,x14.1,x18.1,[],[],[]⟩:Af))
 else
  some (x16,(⟨x3.1,x4.1,x7.1,x10.1,x14.1,([]:List Aa),[],[],[]⟩:Af))):Option (Ac×Af)).bind fun(p19,d20)=>
 (Ai [59] p19).bind fun x21=>
 (Ai [109,105,110,105,109,117,109] x21).bind fun x22=>
 (A0 1 x22).bind fun x23=>
 (Ai [59] x23.2).bind fun x24=>
 (Ai [111,118,101,114,100,114,97,102,116] x24).bind fun x25=>
 (A0 1 x25).bind fun x26=>
 (Ai [59] x26.2).bind fun x27=>
 (Ai [110,111,116,105,99,101] x27).bind fun x28=>
 (A0 1 x28).bind fun x29=>
 (Ai [59] x29.2).bind fun x30=>
 (Ai [125] x30).bind fun x31=>
 some ((⟨d20.F7,d20.Jf,d20.Dt,d20.Cx,d20.Az,d20.C2,x23.1,x26.1,x29.1⟩:Af),x31)
noncomputable def Hj(s1:List UInt8):Option ((List Af)×Int×Int×Int):=
 (C1 s1).bind fun x2=>
 if (x2.2.2 !=0)=true then
  (Ci s1 x2.2.1).bind fun x3=>
  some (([]:List Af),x3.1,x3.2,x2.2.2)
 else
  ((A5 (fun(qj4:Bool×Ac×(List Af))=>match qj4 with
    |(long5,x6,row7)=>(
     (some (!x6.Om)).bind fun c8=>
     if (c8&&(decide (x6.Sw<(x2.1.length:Int))))=true then
      (B5 x6).bind fun x9=>
      (some (long5||(decide ((x9.1.Az.length:Int)>8)))).bind fun c10=>
      (gdO (!c10) (D1 x9.1.C2) (default:Int)).bind fun x11=>
      (apO 160 row7 [x9.1]).bind fun x12=>
      some (.inl ((c10||(x11==0)),x9.2,x12))
     else
      some (.inr (row7,long5,x6)):Option ((Bool×Ac×(List Af))⊕((List Af)×Bool×Ac)))) (false,(⟨x2.1,0,false⟩:Ac),([]:List Af))):Option ((List Af)×Bool×Ac)).bind fun(out13,long14,x15)=>
  if x15.Om=true then
   (Fy s1 x2.1 x15.Sw).bind fun x16=>
   some (([]:List Af),x16.1,x16.2.1,x16.2.2)
  else
   if (long14||(decide ((out13.length:Int)>16)))=true then
    some (([]:List Af),1,1,4)
   else
    some (out13,0,0,0)
noncomputable def Gv(a1:Af)(b2:Af):Option Bool:=
 (D2 a1.C2 b2.C2).bind fun x3=>
 (some (!x3)).bind fun c4=>
 if (c4||((a1.Az.length:Int)!=(b2.Az.length:Int)))=true then
  some false
 else
  ((A5 (fun(qj5:Int)=>match qj5 with
    |i6=>(
     if (decide (i6<(a1.Az.length:Int)))=true then
      (rdO a1.Az i6).bind fun x7=>
      (rdO b2.Az i6).bind fun x8=>
      if (!(Ah.same x7 x8))=true then
       some (.inr (.inr false))
      else
       some (.inl (IntKind.wrap .i64 (i6+1)))
     else
      some (.inr (.inl ())):Option (Int⊕(Unit⊕Bool)))) 0):Option (Unit⊕Bool)).bind fun j5=>match j5 with
  | .inr o=>some o
  | .inl _=>
  (some (a1.F7==b2.F7)).bind fun c9=>
  (some (c9&&(a1.Jf==b2.Jf))).bind fun c10=>
  (some (c10&&(a1.Dt==b2.Dt))).bind fun c11=>
  (some (c11&&(a1.Cx==b2.Cx))).bind fun c12=>
  (some (c12&&(a1.Cq==b2.Cq))).bind fun c13=>
  (some (c13&&(a1.Bu==b2.Bu))).bind fun c14=>
  some (c14&&(a1.Cw==b2.Cw))
noncomputable def Fw(a1:List Af)(b2:List Af):Option Bool:=
 if ((a1.length:Int)!=(b2.length:Int))=true then
  some false
 else
  ((A5 (fun(qj3:Int)=>match qj3 with
    |i4=>(
     if (decide (i4<(a1.length:Int)))=true then
      (rdO a1 i4).bind fun x5=>
      (rdO b2 i4).bind fun x6=>
      (Gv x5 x6).bind fun x7=>
      if (!x7)=true then
       some (.inr (.inr false))
      else
       some (.inl (IntKind.wrap .i64 (i4+1)))
     else
      some (.inr (.inl ())):Option (Int⊕(Unit⊕Bool)))) 0):Option (Unit⊕Bool)).bind fun j3=>match j3 with
  | .inr o=>some o
  | .inl _=>
  some true
noncomputable def Cz(s1:List UInt8):Option Bool:=
 if (decide ((s1.length:Int)>9000))=true then
  (C5).bind fun x2=>
  some x2
 else
  (Sl s1).bind fun x3=>
  (Hj s1).bind fun x4=>
  (Fw x3.1 x4.1).bind fun x5=>
  (C5).bind fun x6=>
  (some (x6&&x5)).bind fun c7=>
  (some (c7&&(x3.2.1==x4.2.1))).bind fun c8=>
  (some (c8&&(x3.2.2.1==x4.2.2.1))).bind fun c9=>
  some (c9&&(x3.2.2.2==x4.2.2.2))
end Go.Av.G
end
section
set_option maxHeartbeats 8000000
set_option maxRecDepth 100000
namespace Go.Av.G
open Go Go.Av Go.Proofs
def Uh:Ent:=⟨[.ty .str,.ty .str],[],[.str,.str],⟨(.ty .str),[],[],[.str],[],[]⟩,none,fun p=>B1 p.1 p.2⟩
theorem Amh:Uh.ok Tryz.prog 108:=fun p r h=>Asc (show B1 _ _=some _ from h)
def Qy:Ent:=⟨[.ty .str,.ty .str],[],[.str,.str],⟨(.ty .bool),[],[],[.bool],[],[]⟩,none,fun p=>strings_HasPrefix p.1 p.2⟩
theorem Aiv:Qy.ok Tryz.prog 109:=fun p r h=>Ap0 (show strings_HasPrefix _ _=some _ from h)
def As7:Ent:=⟨[.ty .str,.ty .str],[],[.str,.str],⟨(.tup [(.ty .str),(.ty .str),(.ty .bool)]),[],[],[.str,.str,.bool],[],[]⟩,none,fun p=>strings_Cut p.1 p.2⟩
theorem Ayl:As7.ok Tryz.prog 110:=fun p r h=>A5s (show strings_Cut _ _=some _ from h)
def Bhv:List TOp:=[oo 2 (.mov (.cst (.int .i64 0)))]
def Bhw:List TOp:=[oo 7 (.mov (.tmp 0)),oo 3 (.mov (.tmp 7))]
def Bhx:List TOp:=[oo 8 (.mov (.tmp 3)),oo 9 (.call 0 0 (.cst (.fn 108)) [(.tmp 8),(.cst (.str [32,9,10]))] [] []),oo 3 (.mov (.tmp 9))]
def Bhy:List TOp:=[oo 10 (.mov (.tmp 3)),oo 11 (.call 0 0 (.cst (.fn 109)) [(.tmp 10),(.cst (.str [35]))] [] []),oo 12 (.un .not (.tmp 11))]
def Bhz:List TOp:=[oo 13 (.mov (.tmp 0)),oo 14 (.len true (.tmp 13)),oo 15 (.mov (.tmp 3)),oo 16 (.len true (.tmp 15)),oo 17 (.bin false .sub (.tmp 14) (.tmp 16)),oo 2 (.mov (.tmp 17))]
def Azd:Kp:=⟨[],[(2,false)],[],[],[]⟩
def Bh0:List TOp:=[oo 19 (.mov (.tmp 3)),oo 20 (.call 0 0 (.cst (.fn 110)) [(.tmp 19),(.cst (.str [10]))] [] []),oo 18 (.mov (.tmp 20)),oo 21 (.ext 0 (.tmp 18)),oo 22 (.ext 1 (.tmp 18)),oo 23 (.ext 2 (.tmp 18)),oo 4 (.mov (.tmp 21)),oo 5 (.mov (.tmp 22)),oo 6 (.mov (.tmp 23))]
def Bh1:List TOp:=[oo 24 (.mov (.tmp 6)),oo 25 (.un .not (.tmp 24))]
def Bh2:List TOp:=[oo 26 (.mov (.tmp 0)),oo 27 (.len true (.tmp 26)),oo 2 (.mov (.tmp 27))]
def Bh3:List TOp:=[oo 28 (.mov (.tmp 5)),oo 3 (.mov (.tmp 28))]
def Bdd:DC:=(.pass 1 (.seq (.ops Bhx) (.seq (.seq (.ops Bhy) (.cond (.tmp 12) (.free (.seq (.ops Bhz) (.keep Azd .ret))) .skip)) (.seq (.ops Bh0) (.seq (.seq (.ops Bh1) (.cond (.tmp 25) (.free (.seq (.ops Bh2) (.keep Azd .ret))) .skip)) (.ops Bh3))))))
def Bdc:Kp:=⟨[],[(0,false),(3,false)],[],[],[]⟩
def Bde:Sig:=⟨[(0,none),(3,some (.ty .str))],[],[.str],[],[]⟩
def Bp6:TFd:=⟨1,[(.tmp 2,.bool)],[],(.seq (.ops Bhv) (.seq (.ops Bhw) (.pass 0 (.loop [0,3] [] Bdc Bde Bdd))))⟩
noncomputable def A2i:Ent:=⟨[.ty .str],[],[.str],⟨(.ty (.int .i64)),[],[],[(.int .i64)],[],[]⟩,none,fun p=>Zc p⟩
theorem Bgf:A2i.ok Tryz.prog 88:=Au hm Tryz.func88 (fd:=Bp6) (by kernel_rfl) (Ak (l:=[(108,Uh),(109,Qy),(110,As7)]) (y:=[]) ⟨Amh,Aiv,Ayl,trivial⟩ trivial) (by kernel_rfl) (fun p=>by kernel_rfl)
def Bcl:List TOp:=[oo 0 (.alloc [.pv .nilFn,.pv .nilFn,.pv .nilFn,.pv .nilFn,.pv .nilFn,.pv .nilFn,.pv .nilFn,.pv .nilFn])]
def Bcm:List TOp:=[ot 1 (.st 0) (.build [.pv .nilFn,.pv .nilFn] [(0,1,(.cst (.fn 127))),(1,1,(.cst (.fn 128)))]),ot 2 (.st 0) (.build [.pv .nilFn,.pv .nilFn] [(0,1,(.cst (.fn 129))),(1,1,(.cst (.fn 130)))]),ot 3 (.st 0) (.build [.pv .nilFn,.pv .nilFn] [(0,1,(.cst (.fn 131))),(1,1,(.cst (.fn 132)))]),ot 4 (.st 0) (.build [.pv .nilFn,.pv .nilFn] [(0,1,(.cst (.fn 133))),(1,1,(.cst (.fn 134)))]),ot 5 (.st 1) (.build [.pv .nilFn,.pv .nilFn,.pv .nilFn,.pv .nilFn,.pv .nilFn,.pv .nilFn,.pv .nilFn,.pv .nilFn] [(0,2,(.tmp 1)),(2,2,(.tmp 2)),(4,2,(.tmp 3)),(6,2,(.tmp 4))]),on (.store 8 (.tmp 0) (.tmp 5))]
def Bck:Kp:=⟨[],[(0,false)],[(.loc 0 0,false)],[],[]⟩
def Blv:TFd:=⟨0,[(.cell 0 true 8,(.st 1))],[],(.seq (.ops Bcl) (.seq (.ops Bcm) (.keep Bck .ret)))⟩
def Ay6:Ent:=⟨[],[],[],⟨(.ty (.st 1)),[],[],[(.st 1)],[],[]⟩,none,fun p=>Axt⟩
theorem Bbl:Ay6.ok Tryz.prog 111:=Au hm Tryz.func111 (fd:=Blv) (by kernel_rfl) (Ak (l:=[]) (y:=[]) trivial trivial) (by kernel_rfl) (fun p=>by kernel_rfl)
def Azp:List TOp:=[oo 2 (.mov (.cst (.bool false)))]
def Azq:List TOp:=[oo 3 (.mov (.tmp 0)),oo 4 (.bin false .geq (.tmp 3) (.cst (.int .u8 97))),oo 5 (.mov (.tmp 4)),og 6 5 true .bool (.mov (.tmp 0)),og 7 5 true .bool (.bin false .leq (.tmp 6) (.cst (.int .u8 122))),oo 8 (.pick (.tmp 5) (.tmp 7) (.cst (.bool false))),oo 2 (.mov (.tmp 8))]
def Azo:Kp:=⟨[],[(2,false)],[],[],[]⟩
def A6q:TFd:=⟨1,[(.tmp 2,.bool)],[],(.seq (.ops Azp) (.seq (.ops Azq) (.keep Azo .ret)))⟩
def Am7:Ent:=⟨[.ty (.int .u8)],[],[(.int .u8)],⟨(.ty .bool),[],[],[.bool],[],[]⟩,none,fun p=>Ia p⟩
theorem Aiz:Am7.ok Tryz.prog 127:=Au hm Tryz.func127 (fd:=A6q) (by kernel_rfl) (Ak (l:=[]) (y:=[]) trivial trivial) (by kernel_rfl) (fun p=>by kernel_rfl)
def A25:List TOp:=[oo 2 (.mov (.cst (.bool false)))]
def A26:List TOp:=[oo 3 (.mov (.tmp 0)),oo 4 (.bin false .geq (.tmp 3) (.cst (.int .u8 48))),oo 5 (.mov (.tmp 4)),og 6 5 true .bool (.mov (.tmp 0)),og 7 5 true .bool (.bin false .leq (.tmp 6) (.cst (.int .u8 57))),oo 8 (.pick (.tmp 5) (.tmp 7) (.cst (.bool false))),oo 2 (.mov (.tmp 8))]
def A24:Kp:=⟨[],[(2,false)],[],[],[]⟩
def Bch:TFd:=⟨1,[(.tmp 2,.bool)],[],(.seq (.ops A25) (.seq (.ops A26) (.keep A24 .ret)))⟩
def Wl:Ent:=⟨[.ty (.int .u8)],[],[(.int .u8)],⟨(.ty .bool),[],[],[.bool],[],[]⟩,none,fun p=>Hx p⟩
theorem S1:Wl.ok Tryz.prog 129:=Au hm Tryz.func129 (fd:=Bch) (by kernel_rfl) (Ak (l:=[]) (y:=[]) trivial trivial) (by kernel_rfl) (fun p=>by kernel_rfl)
def A28:List TOp:=[oo 2 (.mov (.cst (.bool false)))]
def A29:List TOp:=[oo 3 (.mov (.tmp 0)),oo 4 (.bin false .eql (.tmp 3) (.cst (.int .u8 34))),oo 2 (.mov (.tmp 4))]
def A27:Kp:=⟨[],[(2,false)],[],[],[]⟩
def Bci:TFd:=⟨1,[(.tmp 2,.bool)],[],(.seq (.ops A28) (.seq (.ops A29) (.keep A27 .ret)))⟩
def A6f:Ent:=⟨[.ty (.int .u8)],[],[(.int .u8)],⟨(.ty .bool),[],[],[.bool],[],[]⟩,none,fun p=>Oq p⟩
theorem A2e:A6f.ok Tryz.prog 131:=Au hm Tryz.func131 (fd:=Bci) (by kernel_rfl) (Ak (l:=[]) (y:=[]) trivial trivial) (by kernel_rfl) (fun p=>by kernel_rfl)
def A3b:List TOp:=[oo 2 (.mov (.cst (.bool false)))]
def A3c:List TOp:=[oo 2 (.mov (.cst (.bool true)))]
def A3a:Kp:=⟨[],[(2,false)],[],[],[]⟩
def Bcj:TFd:=⟨1,[(.tmp 2,.bool)],[],(.seq (.ops A3b) (.seq (.ops A3c) (.keep A3a .ret)))⟩
def A6g:Ent:=⟨[.ty (.int .u8)],[],[(.int .u8)],⟨(.ty .bool),[],[],[.bool],[],[]⟩,none,fun p=>V7 p⟩
theorem A2f:A6g.ok Tryz.prog 133:=Au hm Tryz.func133 (fd:=Bcj) (by kernel_rfl) (Ak (l:=[]) (y:=[]) trivial trivial) (by kernel_rfl) (fun p=>by kernel_rfl)
def Asp:Dyn:=⟨[.ty (.int .u8)],[(.int .u8)],⟨(.ty .bool),[],[],[.bool],[],[]⟩,fun f p=>Gi f p⟩
theorem Axr(g:Nat):(Asp.ent g).ok Tryz.prog g:=by
 intro p r h
 have h:Gi g p=some r:=h
 unfold Gi at h
 split at h
 ·rename_i e;subst e;exact Aiz p r h
 split at h
 ·rename_i e;subst e;exact S1 p r h
 split at h
 ·rename_i e;subst e;exact A2e p r h
 split at h
 ·rename_i e;subst e;exact A2f p r h
 cases h
def Azs:List TOp:=[oo 2 (.mov (.cst (.bool false)))]
def Azt:List TOp:=[oo 3 (.mov (.tmp 0)),oo 4 (.call 0 0 (.cst (.fn 127)) [(.tmp 3)] [] []),oo 5 (.mov (.tmp 4)),og 6 5 false .bool (.mov (.tmp 0)),og 7 5 false .bool (.call 0 0 (.cst (.fn 129)) [(.tmp 6)] [] []),oo 8 (.pick (.tmp 5) (.cst (.bool true)) (.tmp 7)),oo 9 (.mov (.tmp 8)),og 10 9 false .bool (.mov (.tmp 0)),og 11 9 false .bool (.bin false .eql (.tmp 10) (.cst (.int .u8 95))),oo 12 (.pick (.tmp 9) (.cst (.bool true)) (.tmp 11)),oo 2 (.mov (.tmp 12))]
def Azr:Kp:=⟨[],[(2,false)],[],[],[]⟩
def A6r:TFd:=⟨1,[(.tmp 2,.bool)],[],(.seq (.ops Azs) (.seq (.ops Azt) (.keep Azr .ret)))⟩
def Am8:Ent:=⟨[.ty (.int .u8)],[],[(.int .u8)],⟨(.ty .bool),[],[],[.bool],[],[]⟩,none,fun p=>Q4 p⟩
theorem Azm:Am8.ok Tryz.prog 146:=Au hm Tryz.func146 (fd:=A6r) (by kernel_rfl) (Ak (l:=[(127,Am7),(129,Wl)]) (y:=[]) ⟨Aiz,S1,trivial⟩ trivial) (by kernel_rfl) (fun p=>by kernel_rfl)
def Bcy:List TOp:=[oo 3 (.mov (.cst (.bool false)))]
def Bcz:List TOp:=[oo 4 (.mov (.tmp 0)),oo 5 (.bin false .gtr (.tmp 4) (.cst (.int .i32 127))),oo 6 (.mov (.tmp 5)),og 7 6 false .bool (.load false 1 (.tmp 1)),og 8 6 false .bool (.mov (.tmp 0)),og 9 6 false .bool (.conv .u8 (.tmp 8)),og 10 6 false .bool (.call 0 0 (.tmp 7) [(.tmp 9)] [] []),og 11 6 false .bool (.un .not (.tmp 10)),oo 12 (.pick (.tmp 6) (.cst (.bool true)) (.tmp 11)),oo 3 (.mov (.tmp 12))]
def Bcx:Kp:=⟨[],[(3,false)],[],[],[]⟩
def Blx:TFd:=⟨2,[(.tmp 3,.bool)],[],(.seq (.ops Bcy) (.seq (.ops Bcz) (.keep Bcx .ret)))⟩
def Bgd:Ent:=⟨[.ty (.int .i32),.ic [.fnc 146] 0],[],[(.int .i32)],⟨(.ty .bool),[],[],[.bool],[],[]⟩,none,fun p=>Sg p⟩
theorem Bbo:Bgd.ok Tryz.prog 157:=Au hm Tryz.func157 (fd:=Blx) (by kernel_rfl) (Ak (l:=[(146,Am8)]) (y:=[]) ⟨Azm,trivial⟩ trivial) (by kernel_rfl) (fun p=>by kernel_rfl)
noncomputable def Gq:Ent:=⟨[.ty .str,.fn 157 [.ic [.fnc 146] 0]],[],[.str],⟨(.ty (.int .i64)),[],[],[(.int .i64)],[],[]⟩,none,fun p=>strings_IndexFunc Sg p⟩
theorem K8:Gq.ok Tryz.prog 156:=fun p r h=>H5 (f:=Sg) (fun x r h=>Bbo x r h) (show strings_IndexFunc Sg _=some _ from h) Bbk
def Bl1:List TOp:=[oo 3 (.box (.tmp 1)),oo 4 (.mov (.cst (.int .i64 0)))]
def Bl2:List TOp:=[oo 6 (.mov (.tmp 0)),oo 7 (.mkfn 157 [(.tmp 3)]),oo 8 (.call 0 0 (.cst (.fn 156)) [(.tmp 6),(.tmp 7)] [] []),oo 5 (.mov (.tmp 8))]
def Bl0:Kp:=⟨[.loc 3 0],[(0,false),(3,false)],[],[],[]⟩
def Bl3:List TOp:=[oo 9 (.mov (.tmp 5)),oo 10 (.bin false .lss (.tmp 9) (.cst (.int .i64 0)))]
def Bl4:List TOp:=[oo 11 (.mov (.tmp 0)),oo 12 (.len true (.tmp 11)),oo 4 (.mov (.tmp 12))]
def A3m:Kp:=⟨[],[(4,false)],[],[],[]⟩
def Bl5:List TOp:=[oo 13 (.mov (.tmp 5)),oo 4 (.mov (.tmp 13))]
def Bto:TFd:=⟨2,[(.tmp 4,.bool)],[],(.seq (.ops Bl1) (.seq (.keep Bl0 (.ops Bl2)) (.seq (.seq (.ops Bl3) (.cond (.tmp 10) (.free (.seq (.ops Bl4) (.keep A3m .ret))) .skip)) (.seq (.ops Bl5) (.keep A3m .ret)))))⟩
noncomputable def A9m:Ent:=⟨[.ty .str,.fnc 146],[],[.str],⟨(.ty (.int .i64)),[],[],[(.int .i64)],[],[]⟩,none,fun p=>A1d p⟩
theorem Bk2:A9m.ok Tryz.prog 145:=Au hm Tryz.func145 (fd:=Bto) (by kernel_rfl) (Ak (l:=[(156,Gq)]) (y:=[]) ⟨K8,trivial⟩ trivial) (by kernel_rfl) (fun p=>by kernel_rfl)
def Bh4:List TOp:=[oo 2 (.mov (.cst (.int .i64 0))),oo 3 (.mov (.cst (.int .i64 0)))]
def Bh5:List TOp:=[oo 5 (.mov (.tmp 0)),oo 6 (.call 0 0 (.cst (.fn 145)) [(.tmp 5),(.cst (.fn 146))] [] []),oo 4 (.mov (.tmp 6))]
def Bh6:List TOp:=[oo 7 (.mov (.tmp 4)),oo 8 (.bin false .gtr (.tmp 7) (.cst (.int .i64 32)))]
def Bh7:List TOp:=[oo 2 (.mov (.cst (.int .i64 0))),oo 3 (.mov (.cst (.int .i64 3)))]
def Aze:Kp:=⟨[],[(2,false),(3,false)],[],[],[]⟩
def Bh8:List TOp:=[oo 9 (.mov (.tmp 4)),oo 2 (.mov (.tmp 9)),oo 3 (.mov (.cst (.int .i64 0)))]
def Bp7:TFd:=⟨1,[(.tmp 2,.bool),(.tmp 3,.bool)],[],(.seq (.ops Bh4) (.seq (.ops Bh5) (.seq (.seq (.ops Bh6) (.cond (.tmp 8) (.free (.seq (.ops Bh7) (.keep Aze .ret))) .skip)) (.seq (.ops Bh8) (.keep Aze .ret)))))⟩
noncomputable def Bk4:Ent:=⟨[.ty .str],[],[.str],⟨(.tup [(.ty (.int .i64)),(.ty (.int .i64))]),[],[],[(.int .i64),(.int .i64)],[],[]⟩,none,fun p=>Anc p⟩
theorem Bgg:Bk4.ok Tryz.prog 128:=Au hm Tryz.func128 (fd:=Bp7) (by kernel_rfl) (Ak (l:=[(145,A9m)]) (y:=[]) ⟨Bk2,trivial⟩ trivial) (by kernel_rfl) (fun p=>by kernel_rfl)
def A3h:List TOp:=[oo 3 (.mov (.cst (.bool false)))]
def A3i:List TOp:=[oo 4 (.mov (.tmp 0)),oo 5 (.bin false .gtr (.tmp 4) (.cst (.int .i32 127))),oo 6 (.mov (.tmp 5)),og 7 6 false .bool (.load false 1 (.tmp 1)),og 8 6 false .bool (.mov (.tmp 0)),og 9 6 false .bool (.conv .u8 (.tmp 8)),og 10 6 false .bool (.call 0 0 (.tmp 7) [(.tmp 9)] [] []),og 11 6 false .bool (.un .not (.tmp 10)),oo 12 (.pick (.tmp 6) (.cst (.bool true)) (.tmp 11)),oo 3 (.mov (.tmp 12))]
def A3g:Kp:=⟨[],[(3,false)],[],[],[]⟩
def Bcv:TFd:=⟨2,[(.tmp 3,.bool)],[],(.seq (.ops A3h) (.seq (.ops A3i) (.keep A3g .ret)))⟩
def A6j:Ent:=⟨[.ty (.int .i32),.ic [.fnc 129] 0],[],[(.int .i32)],⟨(.ty .bool),[],[],[.bool],[],[]⟩,none,fun p=>Jj p⟩
theorem A2g:A6j.ok Tryz.prog 157:=Au hm Tryz.func157 (fd:=Bcv) (by kernel_rfl) (Ak (l:=[(129,Wl)]) (y:=[]) ⟨S1,trivial⟩ trivial) (by kernel_rfl) (fun p=>by kernel_rfl)
noncomputable def Ft:Ent:=⟨[.ty .str,.fn 157 [.ic [.fnc 129] 0]],[],[.str],⟨(.ty (.int .i64)),[],[],[(.int .i64)],[],[]⟩,none,fun p=>strings_IndexFunc Jj p⟩
theorem Ja:Ft.ok Tryz.prog 156:=fun p r h=>H5 (f:=Jj) (fun x r h=>A2g x r h) (show strings_IndexFunc Jj _=some _ from h) Bbk
def Bc1:List TOp:=[oo 3 (.box (.tmp 1)),oo 4 (.mov (.cst (.int .i64 0)))]
def Bc2:List TOp:=[oo 6 (.mov (.tmp 0)),oo 7 (.mkfn 157 [(.tmp 3)]),oo 8 (.call 0 0 (.cst (.fn 156)) [(.tmp 6),(.tmp 7)] [] []),oo 5 (.mov (.tmp 8))]
def Bc0:Kp:=⟨[.loc 3 0],[(0,false),(3,false)],[],[],[]⟩
def Bc3:List TOp:=[oo 9 (.mov (.tmp 5)),oo 10 (.bin false .lss (.tmp 9) (.cst (.int .i64 0)))]
def Bc4:List TOp:=[oo 11 (.mov (.tmp 0)),oo 12 (.len true (.tmp 11)),oo 4 (.mov (.tmp 12))]
def Awe:Kp:=⟨[],[(4,false)],[],[],[]⟩
def Bc5:List TOp:=[oo 13 (.mov (.tmp 5)),oo 4 (.mov (.tmp 13))]
def Bly:TFd:=⟨2,[(.tmp 4,.bool)],[],(.seq (.ops Bc1) (.seq (.keep Bc0 (.ops Bc2)) (.seq (.seq (.ops Bc3) (.cond (.tmp 10) (.free (.seq (.ops Bc4) (.keep Awe .ret))) .skip)) (.seq (.ops Bc5) (.keep Awe .ret)))))⟩
noncomputable def Ay8:Ent:=⟨[.ty .str,.fnc 129],[],[.str],⟨(.ty (.int .i64)),[],[],[(.int .i64)],[],[]⟩,none,fun p=>Sh p⟩
theorem Bbp:Ay8.ok Tryz.prog 145:=Au hm Tryz.func145 (fd:=Bly) (by kernel_rfl) (Ak (l:=[(156,Ft)]) (y:=[]) ⟨Ja,trivial⟩ trivial) (by kernel_rfl) (fun p=>by kernel_rfl)
def A6t:List TOp:=[oo 2 (.mov (.cst (.int .i64 0))),oo 3 (.mov (.cst (.int .i64 0)))]
def A6u:List TOp:=[oo 7 (.mov (.tmp 0)),oo 8 (.call 0 0 (.cst (.fn 145)) [(.tmp 7),(.cst (.fn 129))] [] []),oo 4 (.mov (.tmp 8))]
def A6v:List TOp:=[oo 5 (.mov (.cst (.int .i64 0)))]
def A6w:List TOp:=[oo 9 (.mov (.tmp 0)),oo 10 (.mov (.tmp 4)),oo 11 (.slc true 0 (.tmp 9) (some (.tmp 10)) none),oo 6 (.mov (.tmp 11))]
def A6x:List TOp:=[oo 12 (.mov (.tmp 6)),oo 13 (.len true (.tmp 12)),oo 14 (.bin false .gtr (.tmp 13) (.cst (.int .i64 1))),oo 15 (.mov (.tmp 14)),og 16 15 true .bool (.mov (.tmp 6)),og 17 15 true .bool (.sidx (.tmp 16) (.cst (.int .i64 0))),og 18 15 true .bool (.bin false .eql (.tmp 17) (.cst (.int .u8 46))),oo 19 (.pick (.tmp 15) (.tmp 18) (.cst (.bool false)))]
def A6y:List TOp:=[oo 20 (.mov (.tmp 6)),oo 21 (.slc true 0 (.tmp 20) (some (.cst (.int .i64 1))) none),oo 22 (.call 0 0 (.cst (.fn 145)) [(.tmp 21),(.cst (.fn 129))] [] []),oo 5 (.mov (.tmp 22))]
def A6s:Kp:=⟨[],[(0,false),(4,false),(5,false)],[],[],[]⟩
def A61:Sig:=⟨[(0,none),(4,none),(5,some (.ty (.int .i64)))],[],[(.int .i64)],[],[]⟩
def A6z:List TOp:=[oo 24 (.mov (.tmp 4)),oo 25 (.bin false .gtr (.tmp 24) (.cst (.int .i64 15))),oo 26 (.mov (.tmp 25)),og 27 26 false .bool (.mov (.tmp 5)),og 28 26 false .bool (.bin false .gtr (.tmp 27) (.cst (.int .i64 9))),oo 29 (.pick (.tmp 26) (.cst (.bool true)) (.tmp 28)),oo 30 (.mov (.tmp 29)),og 31 30 false .bool (.mov (.tmp 4)),og 32 30 false .bool (.bin false .gtr (.tmp 31) (.cst (.int .i64 1))),og 33 30 false .bool (.mov (.tmp 32)),og 34 33 true .bool (.mov (.tmp 0)),og 35 33 true .bool (.sidx (.tmp 34) (.cst (.int .i64 0))),og 36 33 true .bool (.bin false .eql (.tmp 35) (.cst (.int .u8 48))),og 37 30 false .bool (.pick (.tmp 33) (.tmp 36) (.cst (.bool false))),oo 38 (.pick (.tmp 30) (.cst (.bool true)) (.tmp 37)),oo 23 (.mov (.tmp 38))]
def A60:List TOp:=[oo 2 (.mov (.cst (.int .i64 0))),oo 3 (.mov (.cst (.int .i64 3)))]
def Tj:Kp:=⟨[],[(2,false),(3,false)],[],[],[]⟩
def A3d:List TOp:=[oo 40 (.mov (.tmp 5)),oo 41 (.bin false .gtr (.tmp 40) (.cst (.int .i64 0))),oo 39 (.mov (.tmp 41))]
def A3e:List TOp:=[oo 42 (.mov (.tmp 4)),oo 43 (.bin false .add (.tmp 42) (.cst (.int .i64 1))),oo 44 (.mov (.tmp 5)),oo 45 (.bin false .add (.tmp 43) (.tmp 44)),oo 2 (.mov (.tmp 45)),oo 3 (.mov (.cst (.int .i64 0)))]
def A3f:List TOp:=[oo 46 (.mov (.tmp 4)),oo 2 (.mov (.tmp 46)),oo 3 (.mov (.cst (.int .i64 0)))]
def Bhn:TFd:=⟨1,[(.tmp 2,.bool),(.tmp 3,.bool)],[],(.seq (.ops A6t) (.seq (.ops A6u) (.seq (.ops A6v) (.seq (.seq (.ops A6w) (.seq (.ops A6x) (.join A6s A61 (.cond (.tmp 19) (.ops A6y) .skip)))) (.seq (.pass 0 (.seq (.ops A6z) (.cond (.tmp 23) (.free (.seq (.ops A60) (.keep Tj .ret))) (.seq (.ops A3d) (.cond (.tmp 39) (.free (.seq (.ops A3e) (.keep Tj .ret))) .skip))))) (.seq (.ops A3f) (.keep Tj .ret)))))))⟩
noncomputable def Bbm:Ent:=⟨[.ty .str],[],[.str],⟨(.tup [(.ty (.int .i64)),(.ty (.int .i64))]),[],[],[(.int .i64),(.int .i64)],[],[]⟩,none,fun p=>S2 p⟩
theorem A6h:Bbm.ok Tryz.prog 130:=Au hm Tryz.func130 (fd:=Bhn) (by kernel_rfl) (Ak (l:=[(145,Ay8)]) (y:=[]) ⟨Bbp,trivial⟩ trivial) (by kernel_rfl) (fun p=>by kernel_rfl)
def Im:Ent:=⟨[.ty .str,.ty (.int .u8)],[],[.str,(.int .u8)],⟨(.ty (.int .i64)),[],[],[(.int .i64)],[],[]⟩,none,fun p=>strings_IndexByte p.1 p.2⟩
theorem K7:Im.ok Tryz.prog 147:=fun p r h=>Ap1 (show strings_IndexByte _ _=some _ from h)
def Azv:List TOp:=[oo 2 (.mov (.cst (.bool false)))]
def Azw:List TOp:=[oo 3 (.mov (.tmp 0)),oo 4 (.bin false .geq (.tmp 3) (.cst (.int .u8 32))),oo 5 (.mov (.tmp 4)),og 6 5 true .bool (.mov (.tmp 0)),og 7 5 true .bool (.bin false .leq (.tmp 6) (.cst (.int .u8 126))),oo 8 (.pick (.tmp 5) (.tmp 7) (.cst (.bool false))),oo 2 (.mov (.tmp 8))]
def Azu:Kp:=⟨[],[(2,false)],[],[],[]⟩
def A62:TFd:=⟨1,[(.tmp 2,.bool)],[],(.seq (.ops Azv) (.seq (.ops Azw) (.keep Azu .ret)))⟩
def Ana:Ent:=⟨[.ty (.int .u8)],[],[(.int .u8)],⟨(.ty .bool),[],[],[.bool],[],[]⟩,none,fun p=>Q5 p⟩
theorem Azn:Ana.ok Tryz.prog 148:=Au hm Tryz.func148 (fd:=A62) (by kernel_rfl) (Ak (l:=[]) (y:=[]) trivial trivial) (by kernel_rfl) (fun p=>by kernel_rfl)
def A3k:List TOp:=[oo 3 (.mov (.cst (.bool false)))]
def A3l:List TOp:=[oo 4 (.mov (.tmp 0)),oo 5 (.bin false .gtr (.tmp 4) (.cst (.int .i32 127))),oo 6 (.mov (.tmp 5)),og 7 6 false .bool (.load false 1 (.tmp 1)),og 8 6 false .bool (.mov (.tmp 0)),og 9 6 false .bool (.conv .u8 (.tmp 8)),og 10 6 false .bool (.call 0 0 (.tmp 7) [(.tmp 9)] [] []),og 11 6 false .bool (.un .not (.tmp 10)),oo 12 (.pick (.tmp 6) (.cst (.bool true)) (.tmp 11)),oo 3 (.mov (.tmp 12))]
def A3j:Kp:=⟨[],[(3,false)],[],[],[]⟩
def Bcw:TFd:=⟨2,[(.tmp 3,.bool)],[],(.seq (.ops A3k) (.seq (.ops A3l) (.keep A3j .ret)))⟩
def A6k:Ent:=⟨[.ty (.int .i32),.ic [.fnc 148] 0],[],[(.int .i32)],⟨(.ty .bool),[],[],[.bool],[],[]⟩,none,fun p=>Jk p⟩
theorem A2h:A6k.ok Tryz.prog 157:=Au hm Tryz.func157 (fd:=Bcw) (by kernel_rfl) (Ak (l:=[(148,Ana)]) (y:=[]) ⟨Azn,trivial⟩ trivial) (by kernel_rfl) (fun p=>by kernel_rfl)
noncomputable def Fu:Ent:=⟨[.ty .str,.fn 157 [.ic [.fnc 148] 0]],[],[.str],⟨(.ty (.int .i64)),[],[],[(.int .i64)],[],[]⟩,none,fun p=>strings_IndexFunc Jk p⟩
theorem Jb:Fu.ok Tryz.prog 156:=fun p r h=>H5 (f:=Jk) (fun x r h=>A2h x r h) (show strings_IndexFunc Jk _=some _ from h) Bbk
def Bc7:List TOp:=[oo 3 (.box (.tmp 1)),oo 4 (.mov (.cst (.int .i64 0)))]
def Bc8:List TOp:=[oo 6 (.mov (.tmp 0)),oo 7 (.mkfn 157 [(.tmp 3)]),oo 8 (.call 0 0 (.cst (.fn 156)) [(.tmp 6),(.tmp 7)] [] []),oo 5 (.mov (.tmp 8))]
def Bc6:Kp:=⟨[.loc 3 0],[(0,false),(3,false)],[],[],[]⟩
def Bc9:List TOp:=[oo 9 (.mov (.tmp 5)),oo 10 (.bin false .lss (.tmp 9) (.cst (.int .i64 0)))]
def Bda:List TOp:=[oo 11 (.mov (.tmp 0)),oo 12 (.len true (.tmp 11)),oo 4 (.mov (.tmp 12))]
def Awf:Kp:=⟨[],[(4,false)],[],[],[]⟩
def Bdb:List TOp:=[oo 13 (.mov (.tmp 5)),oo 4 (.mov (.tmp 13))]
def Blz:TFd:=⟨2,[(.tmp 4,.bool)],[],(.seq (.ops Bc7) (.seq (.keep Bc6 (.ops Bc8)) (.seq (.seq (.ops Bc9) (.cond (.tmp 10) (.free (.seq (.ops Bda) (.keep Awf .ret))) .skip)) (.seq (.ops Bdb) (.keep Awf .ret)))))⟩
noncomputable def Ay9:Ent:=⟨[.ty .str,.fnc 148],[],[.str],⟨(.ty (.int .i64)),[],[],[(.int .i64)],[],[]⟩,none,fun p=>Aqj p⟩
theorem Bbq:Ay9.ok Tryz.prog 145:=Au hm Tryz.func145 (fd:=Blz) (by kernel_rfl) (Ak (l:=[(156,Fu)]) (y:=[]) ⟨Jb,trivial⟩ trivial) (by kernel_rfl) (fun p=>by kernel_rfl)
def A63:List TOp:=[oo 2 (.mov (.cst (.int .i64 0))),oo 3 (.mov (.cst (.int .i64 0)))]
def A64:List TOp:=[oo 5 (.mov (.tmp 0)),oo 6 (.slc true 0 (.tmp 5) (some (.cst (.int .i64 1))) none),oo 7 (.call 0 0 (.cst (.fn 147)) [(.tmp 6),(.cst (.int .u8 34))] [] []),oo 4 (.mov (.tmp 7))]
def A65:List TOp:=[oo 8 (.mov (.tmp 4)),oo 9 (.bin false .lss (.tmp 8) (.cst (.int .i64 0)))]
def A66:List TOp:=[oo 2 (.mov (.cst (.int .i64 0))),oo 3 (.mov (.cst (.int .i64 14)))]
def Xj:Kp:=⟨[],[(2,false),(3,false)],[],[],[]⟩
def A67:List TOp:=[oo 10 (.mov (.tmp 4)),oo 11 (.bin false .gtr (.tmp 10) (.cst (.int .i64 32))),oo 12 (.mov (.tmp 11)),og 13 12 false .bool (.mov (.tmp 0)),og 14 12 false .bool (.mov (.tmp 4)),og 15 12 false .bool (.bin false .add (.cst (.int .i64 1)) (.tmp 14)),og 16 12 false .bool (.slc true 0 (.tmp 13) (some (.cst (.int .i64 1))) (some (.tmp 15))),og 17 12 false .bool (.call 0 0 (.cst (.fn 145)) [(.tmp 16),(.cst (.fn 148))] [] []),og 18 12 false .bool (.mov (.tmp 4)),og 19 12 false .bool (.bin false .lss (.tmp 17) (.tmp 18)),oo 20 (.pick (.tmp 12) (.cst (.bool true)) (.tmp 19))]
def A68:List TOp:=[oo 2 (.mov (.cst (.int .i64 0))),oo 3 (.mov (.cst (.int .i64 3)))]
def A69:List TOp:=[oo 21 (.mov (.tmp 4)),oo 22 (.bin false .add (.tmp 21) (.cst (.int .i64 2))),oo 2 (.mov (.tmp 22)),oo 3 (.mov (.cst (.int .i64 0)))]
def Bho:TFd:=⟨1,[(.tmp 2,.bool),(.tmp 3,.bool)],[],(.seq (.ops A63) (.seq (.ops A64) (.seq (.seq (.ops A65) (.cond (.tmp 9) (.free (.seq (.ops A66) (.keep Xj .ret))) .skip)) (.seq (.seq (.ops A67) (.cond (.tmp 20) (.free (.seq (.ops A68) (.keep Xj .ret))) .skip)) (.seq (.ops A69) (.keep Xj .ret))))))⟩
noncomputable def Bbn:Ent:=⟨[.ty .str],[],[.str],⟨(.tup [(.ty (.int .i64)),(.ty (.int .i64))]),[],[],[(.int .i64),(.int .i64)],[],[]⟩,none,fun p=>S3 p⟩
theorem A6i:Bbn.ok Tryz.prog 132:=Au hm Tryz.func132 (fd:=Bho) (by kernel_rfl) (Ak (l:=[(147,Im),(145,Ay9)]) (y:=[]) ⟨K7,Bbq,trivial⟩ trivial) (by kernel_rfl) (fun p=>by kernel_rfl)
def Ue:Ent:=⟨[.ty .str,.ty .str],[],[.str,.str],⟨(.ty .bool),[],[],[.bool],[],[]⟩,none,fun p=>strings_Contains p.1 p.2⟩
theorem Amg:Ue.ok Tryz.prog 149:=fun p r h=>Asb (show strings_Contains _ _=some _ from h)
def Bhp:List TOp:=[oo 2 (.mov (.cst (.int .i64 0))),oo 3 (.mov (.cst (.int .i64 0)))]
def Bhq:List TOp:=[oo 5 (.mov (.tmp 0)),oo 6 (.len true (.tmp 5)),oo 7 (.bin false .gtr (.tmp 6) (.cst (.int .i64 1))),oo 8 (.mov (.tmp 7)),og 9 8 true .bool (.mov (.tmp 0)),og 10 8 true .bool (.slc true 0 (.tmp 9) none (some (.cst (.int .i64 2)))),og 11 8 true .bool (.call 0 0 (.cst (.fn 149)) [(.cst (.str [60,61,32,62,61,32,46,46])),(.tmp 10)] [] []),oo 12 (.pick (.tmp 8) (.tmp 11) (.cst (.bool false))),oo 13 (.mov (.tmp 12)),og 14 13 true .bool (.mov (.tmp 0)),og 15 13 true .bool (.slc true 0 (.tmp 14) none (some (.cst (.int .i64 2)))),og 16 13 true .bool (.call 0 0 (.cst (.fn 149)) [(.tmp 15),(.cst (.str [32]))] [] []),og 17 13 true .bool (.un .not (.tmp 16)),oo 18 (.pick (.tmp 13) (.tmp 17) (.cst (.bool false))),oo 4 (.mov (.tmp 18))]
def Bhr:List TOp:=[oo 2 (.mov (.cst (.int .i64 2))),oo 3 (.mov (.cst (.int .i64 0)))]
def Ao6:Kp:=⟨[],[(2,false),(3,false)],[],[],[]⟩
def Bhs:List TOp:=[oo 20 (.mov (.tmp 0)),oo 21 (.sidx (.tmp 20) (.cst (.int .i64 0))),oo 22 (.call 0 0 (.cst (.fn 147)) [(.cst (.str [123,125,40,41,91,93,59,58,44,37,61,60,62,43,45,42,47])),(.tmp 21)] [] []),oo 23 (.bin false .geq (.tmp 22) (.cst (.int .i64 0))),oo 19 (.mov (.tmp 23))]
def Bht:List TOp:=[oo 2 (.mov (.cst (.int .i64 1))),oo 3 (.mov (.cst (.int .i64 0)))]
def Bhu:List TOp:=[oo 2 (.mov (.cst (.int .i64 0))),oo 3 (.mov (.cst (.int .i64 14)))]
def Bp5:TFd:=⟨1,[(.tmp 2,.bool),(.tmp 3,.bool)],[],(.seq (.ops Bhp) (.seq (.pass 0 (.seq (.ops Bhq) (.cond (.tmp 4) (.free (.seq (.ops Bhr) (.keep Ao6 .ret))) (.seq (.ops Bhs) (.cond (.tmp 19) (.free (.seq (.ops Bht) (.keep Ao6 .ret))) .skip))))) (.seq (.ops Bhu) (.keep Ao6 .ret))))⟩
def Bk3:Ent:=⟨[.ty .str],[],[.str],⟨(.tup [(.ty (.int .i64)),(.ty (.int .i64))]),[],[],[(.int .i64),(.int .i64)],[],[]⟩,none,fun p=>Anb p⟩
theorem Bge:Bk3.ok Tryz.prog 134:=Au hm Tryz.func134 (fd:=Bp5) (by kernel_rfl) (Ak (l:=[(149,Ue),(147,Im)]) (y:=[]) ⟨Amg,K7,trivial⟩ trivial) (by kernel_rfl) (fun p=>by kernel_rfl)
noncomputable def Asq:Dyn:=⟨[.ty .str],[.str],⟨(.tup [(.ty (.int .i64)),(.ty (.int .i64))]),[],[],[(.int .i64),(.int .i64)],[],[]⟩,fun f p=>Gj f p⟩
theorem Axs(g:Nat):(Asq.ent g).ok Tryz.prog g:=by
 intro p r h
 have h:Gj g p=some r:=h
 unfold Gj at h
 split at h
 ·rename_i e;subst e;exact Bgg p r h
 split at h
 ·rename_i e;subst e;exact A6h p r h
 split at h
 ·rename_i e;subst e;exact A6i p r h
 split at h
 ·rename_i e;subst e;exact Bge p r h
 cases h
def Bhf:List TOp:=[oo 2 (.mov (.cst (.int .i64 0))),oo 3 (.mov (.cst (.int .i64 0))),oo 4 (.mov (.cst (.int .i64 0)))]
def Bhg:List TOp:=[oo 9 (.call 0 0 (.cst (.fn 111)) [] [] []),oo 10 (.mov (.cst (.int .i64 0)))]
def Bhh:List TOp:=[oo 11 (.bin false .lss (.tmp 10) (.cst (.int .i64 4)))]
def Bhi:List TOp:=[oo 12 (.mov (.tmp 10)),ot 13 (.st 0) (.aidx 4 2 (.tmp 9) (.tmp 10)),oo 6 (.alloc [.pv .nilFn,.pv .nilFn]),oo 5 (.mov (.tmp 12)),on (.store 2 (.tmp 6) (.tmp 13))]
def Bhj:List TOp:=[oo 14 (.fld 0 (.tmp 6)),oo 15 (.load false 1 (.tmp 14)),oo 16 (.mov (.tmp 0)),oo 17 (.sidx (.tmp 16) (.cst (.int .i64 0))),oo 18 (.call 0 0 (.tmp 15) [(.tmp 17)] [] [])]
def Bhk:List TOp:=[oo 20 (.fld 1 (.tmp 6)),oo 21 (.load false 1 (.tmp 20)),oo 22 (.mov (.tmp 0)),oo 23 (.call 0 0 (.tmp 21) [(.tmp 22)] [] []),oo 19 (.mov (.tmp 23)),oo 24 (.ext 0 (.tmp 19)),oo 25 (.ext 1 (.tmp 19)),oo 7 (.mov (.tmp 24)),oo 8 (.mov (.tmp 25))]
def Bhl:List TOp:=[oo 26 (.mov (.tmp 5)),oo 27 (.mov (.tmp 7)),oo 28 (.mov (.tmp 8)),oo 2 (.mov (.tmp 26)),oo 3 (.mov (.tmp 27)),oo 4 (.mov (.tmp 28))]
def Azc:Kp:=⟨[],[(2,false),(3,false),(4,false)],[],[],[]⟩
def Bhm:List TOp:=[oo 29 (.bin false .add (.tmp 10) (.cst (.int .i64 1))),oo 10 (.mov (.tmp 29))]
def Bhe:DC:=(.seq (.ops Bhh) (.seq (.cond (.tmp 11) .skip (.exit 0)) (.seq (.pass 1 (.seq (.ops Bhi) (.seq (.draw [] Bhj) (.cond (.tmp 18) (.free (.seq (.ops Bhk) (.seq (.ops Bhl) (.keep Azc .ret)))) .skip)))) (.ops Bhm))))
def Bcn:Kp:=⟨[],[(0,false),(9,false),(10,false)],[],[.loc 6 0],[]⟩
def Bcq:Sig:=⟨[(0,none),(9,none),(10,some (.ty (.int .i64)))],[],[(.int .i64)],[],[]⟩
def Bco:Kp:=⟨[],[],[],[],[]⟩
def Bcr:Sig:=⟨[],[],[],[],[]⟩
def Bcp:List TOp:=[oo 2 (.mov (.cst (.int .i64 0))),oo 3 (.mov (.cst (.int .i64 0))),oo 4 (.mov (.cst (.int .i64 14)))]
def Bp4:TFd:=⟨1,[(.tmp 2,.bool),(.tmp 3,.bool),(.tmp 4,.bool)],[],(.seq (.ops Bhf) (.seq (.seq (.ops Bhg) (.joinO Bco Bcr (.block 0 (.loop [0,9,10] [] Bcn Bcq Bhe)))) (.seq (.ops Bcp) (.keep Azc .ret))))⟩
noncomputable def Ats:Ent:=⟨[.ty .str],[],[.str],⟨(.tup [(.ty (.int .i64)),(.ty (.int .i64)),(.ty (.int .i64))]),[],[],[(.int .i64),(.int .i64),(.int .i64)],[],[]⟩,none,fun p=>Zb p⟩
theorem Ay7:Ats.ok Tryz.prog 89:=Au hm Tryz.func89 (fd:=Bp4) (by kernel_rfl) (Ak (l:=[(111,Ay6)]) (y:=[Asp,Asq]) ⟨Bbl,trivial⟩ ⟨Axr,Axs,trivial⟩) (by kernel_rfl) (fun p=>by kernel_rfl)
def Ai2:Ent:=⟨[.ty .str,.ty .str],[],[.str,.str],⟨(.ty (.int .i64)),[],[],[(.int .i64)],[],[]⟩,none,fun p=>strings_Count p.1 p.2⟩
theorem Au3:Ai2.ok Tryz.prog 112:=fun p r h=>Ayk (show strings_Count _ _=some _ from h)
def Jt:Ent:=⟨[.ty .str,.ty (.int .u8)],[],[.str,(.int .u8)],⟨(.ty (.int .i64)),[],[],[(.int .i64)],[],[]⟩,none,fun p=>strings_LastIndexByte p.1 p.2⟩
theorem Ug:Jt.ok Tryz.prog 113:=fun p r h=>Yv (show strings_LastIndexByte _ _=some _ from h)
def Bct:List TOp:=[oo 2 (.mov (.cst (.int .i64 0))),oo 3 (.mov (.cst (.int .i64 0)))]
def Bcu:List TOp:=[oo 4 (.mov (.tmp 0)),oo 5 (.call 0 0 (.cst (.fn 112)) [(.tmp 4),(.cst (.str [10]))] [] []),oo 6 (.bin false .add (.tmp 5) (.cst (.int .i64 1))),oo 7 (.mov (.tmp 0)),oo 8 (.len true (.tmp 7)),oo 9 (.mov (.tmp 0)),oo 10 (.call 0 0 (.cst (.fn 113)) [(.tmp 9),(.cst (.int .u8 10))] [] []),oo 11 (.bin false .sub (.tmp 8) (.tmp 10)),oo 2 (.mov (.tmp 6)),oo 3 (.mov (.tmp 11))]
def Bcs:Kp:=⟨[],[(2,false),(3,false)],[],[],[]⟩
def Blw:TFd:=⟨1,[(.tmp 2,.bool),(.tmp 3,.bool)],[],(.seq (.ops Bct) (.seq (.ops Bcu) (.keep Bcs .ret)))⟩
def Am9:Ent:=⟨[.ty .str],[],[.str],⟨(.tup [(.ty (.int .i64)),(.ty (.int .i64))]),[],[],[(.int .i64),(.int .i64)],[],[]⟩,none,fun p=>Sf p⟩
theorem Avv:Am9.ok Tryz.prog 90:=Au hm Tryz.func90 (fd:=Blw) (by kernel_rfl) (Ak (l:=[(112,Ai2),(113,Jt)]) (y:=[]) ⟨Au3,Ug,trivial⟩ trivial) (by kernel_rfl) (fun p=>by kernel_rfl)
def Blj:List TOp:=[oo 2 (.mov .nils),oo 3 (.mov (.cst (.int .i64 0))),oo 4 (.mov (.cst (.int .i64 0)))]
def Bll:List TOp:=[oo 12 (.mov (.tmp 0)),oo 13 (.len true (.tmp 12)),oo 14 (.bin false .gtr (.tmp 13) (.cst (.int .i64 8000)))]
def Blm:List TOp:=[oo 2 (.mov .nils),oo 3 (.mov (.cst (.int .i64 0))),oo 4 (.mov (.cst (.int .i64 4)))]
def Ahx:Kp:=⟨[],[(2,true),(3,false),(4,false)],[],[],[]⟩
def Bln:List TOp:=[oo 5 (.mov .nils)]
def Blo:List TOp:=[oo 15 (.mov (.tmp 0)),oo 16 (.call 0 0 (.cst (.fn 88)) [(.tmp 15)] [] []),oo 6 (.mov (.tmp 16))]
def Blp:List TOp:=[oo 17 (.mov (.tmp 6)),oo 18 (.mov (.tmp 0)),oo 19 (.len true (.tmp 18)),oo 20 (.bin false .lss (.tmp 17) (.tmp 19))]
def Blq:List TOp:=[oo 22 (.mov (.tmp 0)),oo 23 (.mov (.tmp 6)),oo 24 (.slc true 0 (.tmp 22) (some (.tmp 23)) none),oo 25 (.call 0 0 (.cst (.fn 89)) [(.tmp 24)] [] []),oo 21 (.mov (.tmp 25)),oo 26 (.ext 0 (.tmp 21)),oo 27 (.ext 1 (.tmp 21)),oo 28 (.ext 2 (.tmp 21)),oo 7 (.mov (.tmp 26)),oo 8 (.mov (.tmp 27)),oo 9 (.mov (.tmp 28))]
def Blr:List TOp:=[oo 30 (.mov (.tmp 9)),oo 31 (.bin false .neq (.tmp 30) (.cst (.int .i64 0))),oo 29 (.mov (.tmp 31))]
def Bls:List TOp:=[oo 32 (.mov (.tmp 6)),oo 33 (.mov (.tmp 9)),oo 2 (.mov .nils),oo 3 (.mov (.tmp 32)),oo 4 (.mov (.tmp 33))]
def Bg5:List TOp:=[oo 35 (.mov (.tmp 5)),oo 36 (.len false (.tmp 35)),oo 37 (.bin false .eql (.tmp 36) (.cst (.int .i64 1500))),oo 34 (.mov (.tmp 37))]
def Bg6:List TOp:=[oo 38 (.mov (.tmp 6)),oo 2 (.mov .nils),oo 3 (.mov (.tmp 38)),oo 4 (.mov (.cst (.int .i64 6)))]
def Bg7:List TOp:=[oo 40 (.mov (.tmp 0)),oo 41 (.mov (.tmp 6)),oo 42 (.slc true 0 (.tmp 40) none (some (.tmp 41))),oo 43 (.call 0 0 (.cst (.fn 90)) [(.tmp 42)] [] []),oo 39 (.mov (.tmp 43)),oo 44 (.ext 0 (.tmp 39)),oo 45 (.ext 1 (.tmp 39)),oo 10 (.mov (.tmp 44)),oo 11 (.mov (.tmp 45))]
def Bg8:List TOp:=[oo 46 (.mov (.tmp 5)),oo 47 (.mov (.tmp 7)),oo 48 (.mov (.tmp 10)),oo 49 (.mov (.tmp 11)),oo 50 (.mov (.tmp 0)),oo 51 (.mov (.tmp 6)),oo 52 (.mov (.tmp 6)),oo 53 (.mov (.tmp 8)),oo 54 (.bin false .add (.tmp 52) (.tmp 53)),oo 55 (.slc true 0 (.tmp 50) (some (.tmp 51)) (some (.tmp 54))),ot 56 (.st 2) (.build [.pv (.int .i64 0),.pv (.int .i64 0),.pv (.int .i64 0),.pv (.str [])] [(0,1,(.tmp 47)),(1,1,(.tmp 48)),(2,1,(.tmp 49)),(3,1,(.tmp 55))]),ot 57 (.st 2) (.lit false 4 [(.tmp 56)]),ot 58 (.st 2) (.append 5 4 40 (.tmp 46) (.tmp 57)),oo 5 (.mov (.tmp 58))]
def Bg9:List TOp:=[oo 59 (.mov (.tmp 6)),oo 60 (.mov (.tmp 8)),oo 61 (.bin false .add (.tmp 59) (.tmp 60)),oo 6 (.mov (.tmp 61))]
def Bha:List TOp:=[oo 62 (.mov (.tmp 6)),oo 63 (.mov (.tmp 0)),oo 64 (.mov (.tmp 6)),oo 65 (.slc true 0 (.tmp 63) (some (.tmp 64)) none),oo 66 (.call 0 0 (.cst (.fn 88)) [(.tmp 65)] [] []),oo 67 (.bin false .add (.tmp 62) (.tmp 66)),oo 6 (.mov (.tmp 67))]
def Bg4:DC:=(.seq (.seq (.ops Blp) (.cond (.tmp 20) .skip (.exit 0))) (.pass 1 (.seq (.ops Blq) (.seq (.pass 2 (.seq (.ops Blr) (.cond (.tmp 29) (.free (.seq (.ops Bls) (.keep Ahx .ret))) (.seq (.ops Bg5) (.cond (.tmp 34) (.free (.seq (.ops Bg6) (.keep Ahx .ret))) .skip))))) (.seq (.ops Bg7) (.seq (.ops Bg8) (.seq (.ops Bg9) (.ops Bha))))))))
def Bg2:Kp:=⟨[],[(0,false),(5,false),(6,false)],[(.loc 5 0,false)],[],[((.slot 5 (.loc 5 0) 4),(.st 2))]⟩
def Bhc:Sig:=⟨[(0,none),(5,some (.own (.loc 5 0))),(6,some (.ty (.int .i64)))],[(.loc 5 0,(.row (.st 2)))],[(.int .i64),(.sl (.st 2))],[],[]⟩
def Bg3:Kp:=⟨[.loc 5 0],[(5,true)],[],[],[]⟩
def Bhd:Sig:=⟨[(5,some (.ty (.sl (.st 2))))],[],[(.sl (.st 2))],[],[]⟩
def Bhb:List TOp:=[oo 68 (.mov (.tmp 5)),oo 2 (.mov (.tmp 68)),oo 3 (.mov (.cst (.int .i64 0))),oo 4 (.mov (.cst (.int .i64 0)))]
def Btn:TFd:=⟨1,[(.tmp 2,.bool),(.tmp 3,.bool),(.tmp 4,.bool)],[],(.seq (.ops Blj) (.seq (.seq (.ops Bll) (.cond (.tmp 14) (.free (.seq (.ops Blm) (.keep Ahx .ret))) .skip)) (.seq (.ops Bln) (.seq (.seq (.ops Blo) (.joinO Bg3 Bhd (.block 0 (.loop [0,5,6] [] Bg2 Bhc Bg4)))) (.seq (.ops Bhb) (.keep Ahx .ret))))))⟩
noncomputable def A9l:Ent:=⟨[.ty .str],[],[.str],⟨(.tup [(.ty (.sl (.st 2))),(.ty (.int .i64)),(.ty (.int .i64))]),[],[],[(.sl (.st 2)),(.int .i64),(.int .i64)],[],[]⟩,none,fun p=>Ad9 p⟩
theorem Bk1:A9l.ok Tryz.prog 52:=Au hm Tryz.func52 (fd:=Btn) (by kernel_rfl) (Ak (l:=[(88,A2i),(89,Ats),(90,Am9)]) (y:=[]) ⟨Bgf,Ay7,Avv,trivial⟩ trivial) (by kernel_rfl) (fun p=>by kernel_rfl)
def Bb7:List TOp:=[oo 4 (.mov (.cst (.int .i64 0))),oo 5 (.mov (.cst (.int .i64 0))),oo 6 (.mov (.cst (.int .i64 0)))]
def Bb8:List TOp:=[oo 9 (.mov (.tmp 1)),oo 10 (.bin false .lss (.tmp 9) (.cst (.int .i64 0))),oo 11 (.mov (.tmp 10)),og 12 11 false .bool (.mov (.tmp 1)),og 13 11 false .bool (.mov (.tmp 0)),og 14 11 false .bool (.len true (.tmp 13)),og 15 11 false .bool (.bin false .gtr (.tmp 12) (.tmp 14)),oo 16 (.pick (.tmp 11) (.cst (.bool true)) (.tmp 15))]
def Bb9:List TOp:=[oo 4 (.mov (.cst (.int .i64 0))),oo 5 (.mov (.cst (.int .i64 0))),oo 6 (.mov (.cst (.int .i64 1)))]
def Awc:Kp:=⟨[],[(4,false),(5,false),(6,false)],[],[],[]⟩
def Bca:List TOp:=[oo 18 (.mov (.tmp 0)),oo 19 (.mov (.tmp 1)),oo 20 (.slc true 0 (.tmp 18) none (some (.tmp 19))),oo 21 (.call 0 0 (.cst (.fn 90)) [(.tmp 20)] [] []),oo 17 (.mov (.tmp 21)),oo 22 (.ext 0 (.tmp 17)),oo 23 (.ext 1 (.tmp 17)),oo 7 (.mov (.tmp 22)),oo 8 (.mov (.tmp 23))]
def Bcb:List TOp:=[oo 24 (.mov (.tmp 7)),oo 25 (.mov (.tmp 8)),oo 4 (.mov (.tmp 24)),oo 5 (.mov (.tmp 25)),oo 6 (.mov (.cst (.int .i64 0)))]
def Blt:TFd:=⟨2,[(.tmp 4,.bool),(.tmp 5,.bool),(.tmp 6,.bool)],[],(.seq (.ops Bb7) (.seq (.seq (.ops Bb8) (.cond (.tmp 16) (.free (.seq (.ops Bb9) (.keep Awc .ret))) .skip)) (.seq (.ops Bca) (.seq (.ops Bcb) (.keep Awc .ret)))))⟩
def Am5:Ent:=⟨[.ty .str,.ty (.int .i64)],[],[.str,(.int .i64)],⟨(.tup [(.ty (.int .i64)),(.ty (.int .i64)),(.ty (.int .i64))]),[],[],[(.int .i64),(.int .i64),(.int .i64)],[],[]⟩,none,fun p=>Y9 p.1 p.2⟩
theorem Avt:Am5.ok Tryz.prog 53:=Au hm Tryz.func53 (fd:=Blt) (by kernel_rfl) (Ak (l:=[(90,Am9)]) (y:=[]) ⟨Avv,trivial⟩ trivial) (by kernel_rfl) (fun p=>by kernel_rfl)
def A34:List TOp:=[oo 2 (.mov .junk),oo 3 (.mov (.cst (.int .i64 0))),oo 4 (.mov (.cst (.int .i64 0))),oo 5 (.mov (.cst (.int .i64 0)))]
def A35:List TOp:=[oo 13 (.mov (.tmp 0)),oo 14 (.call 0 0 (.cst (.fn 52)) [(.tmp 13)] [] []),oo 12 (.mov (.tmp 14)),oo 15 (.ext 0 (.tmp 12)),oo 16 (.ext 1 (.tmp 12)),oo 17 (.ext 2 (.tmp 12)),oo 6 (.mov (.tmp 15)),oo 7 (.mov (.tmp 16)),oo 8 (.mov (.tmp 17))]
def A36:List TOp:=[oo 18 (.mov (.tmp 8)),oo 19 (.bin false .eql (.tmp 18) (.cst (.int .i64 0)))]
def A37:List TOp:=[oo 20 (.mov (.tmp 6)),ot 21 (.st 3) (.build [.nils,.pv (.int .i64 0),.pv (.bool false)] [(0,1,(.tmp 20))]),oo 22 (.box (.tmp 21)),oo 2 (.mov (.tmp 22)),oo 3 (.mov (.cst (.int .i64 0))),oo 4 (.mov (.cst (.int .i64 0))),oo 5 (.mov (.cst (.int .i64 0)))]
def A32:Kp:=⟨[],[(2,false),(3,false),(4,false),(5,false)],[(.loc 22 0,false)],[],[]⟩
def A38:List TOp:=[oo 24 (.mov (.tmp 0)),oo 25 (.mov (.tmp 7)),oo 26 (.call 0 0 (.cst (.fn 53)) [(.tmp 24),(.tmp 25)] [] []),oo 23 (.mov (.tmp 26)),oo 27 (.ext 0 (.tmp 23)),oo 28 (.ext 1 (.tmp 23)),oo 29 (.ext 2 (.tmp 23)),oo 9 (.mov (.tmp 27)),oo 10 (.mov (.tmp 28)),oo 11 (.mov (.tmp 29))]
def A39:List TOp:=[oo 30 (.mov (.tmp 9)),oo 31 (.mov (.tmp 10)),oo 32 (.mov (.tmp 8)),oo 2 (.mov .junk),oo 3 (.mov (.tmp 30)),oo 4 (.mov (.tmp 31)),oo 5 (.mov (.tmp 32))]
def A33:Kp:=⟨[],[(3,false),(4,false),(5,false)],[],[],[]⟩
def Bdr:TFd:=⟨1,[(.tmp 2,.bool),(.tmp 3,.bool),(.tmp 4,.bool),(.tmp 5,.bool)],[.loc 22 0],(.seq (.ops A34) (.seq (.ops A35) (.seq (.seq (.ops A36) (.cond (.tmp 19) (.free (.seq (.ops A37) (.keep A32 .ret))) .skip)) (.seq (.ops A38) (.seq (.ops A39) (.keep A33 .ret))))))⟩
noncomputable def Wo:Ent:=⟨[.ty .str],[],[.str],⟨(.tup [(.ptr (.res 0) 0),(.ty (.int .i64)),(.ty (.int .i64)),(.ty (.int .i64))]),[some (.st 3)],[],[(.int .i64),(.int .i64),(.int .i64),(.st 3)],[],[]⟩,(some ⟨(.tup [.dead,(.ty (.int .i64)),(.ty (.int .i64)),(.ty (.int .i64))]),[none],[],[(.int .i64),(.int .i64),(.int .i64)],[],[]⟩),fun p=>Ov p⟩
theorem Ano:Wo.ok Tryz.prog 29:=Au hm Tryz.func29 (fd:=Bdr) (by kernel_rfl) (Ak (l:=[(52,A9l),(53,Am5)]) (y:=[]) ⟨Bk1,Avt,trivial⟩ trivial) (by kernel_rfl) (fun p=>by kernel_rfl)
def Aus:List TOp:=[oo 4 (.mov (.cst (.bool false)))]
def Aut:List TOp:=[oo 5 (.mov (.tmp 0)),oo 6 (.nchk (.tmp 5)),oo 7 (.fld 2 (.tmp 6)),oo 8 (.load false 1 (.tmp 7)),oo 9 (.un .not (.tmp 8)),oo 10 (.mov (.tmp 9)),og 11 10 true .bool (.mov (.tmp 0)),og 12 10 true .bool (.nchk (.tmp 11)),og 13 10 true .bool (.fld 1 (.tmp 12)),og 14 10 true .bool (.load false 1 (.tmp 13)),og 15 10 true .bool (.mov (.tmp 0)),og 16 10 true .bool (.nchk (.tmp 15)),og 17 10 true .bool (.fld 0 (.tmp 16)),og 18 10 true .bool (.load false 1 (.tmp 17)),og 19 10 true .bool (.len false (.tmp 18)),og 20 10 true .bool (.bin false .lss (.tmp 14) (.tmp 19)),oo 21 (.pick (.tmp 10) (.tmp 20) (.cst (.bool false))),oo 22 (.mov (.tmp 21)),og 23 22 true .bool (.mov (.tmp 0)),og 24 22 true .bool (.nchk (.tmp 23)),og 25 22 true .bool (.fld 0 (.tmp 24)),og 26 22 true .bool (.load false 1 (.tmp 25)),og 27 22 true .bool (.mov (.tmp 0)),og 28 22 true .bool (.nchk (.tmp 27)),og 29 22 true .bool (.fld 1 (.tmp 28)),og 30 22 true .bool (.load false 1 (.tmp 29)),og 31 22 true .bool (.idx 4 (.tmp 26) (.tmp 30)),og 32 22 true .bool (.fld 0 (.tmp 31)),og 33 22 true .bool (.load false 1 (.tmp 32)),og 34 22 true .bool (.bin false .neq (.tmp 33) (.cst (.int .i64 2))),oo 35 (.pick (.tmp 22) (.tmp 34) (.cst (.bool false))),oo 36 (.mov (.tmp 35)),og 37 36 true .bool (.mov (.tmp 0)),og 38 36 true .bool (.nchk (.tmp 37)),og 39 36 true .bool (.fld 0 (.tmp 38)),og 40 36 true .bool (.load false 1 (.tmp 39)),og 41 36 true .bool (.mov (.tmp 0)),og 42 36 true .bool (.nchk (.tmp 41)),og 43 36 true .bool (.fld 1 (.tmp 42)),og 44 36 true .bool (.load false 1 (.tmp 43)),og 45 36 true .bool (.idx 4 (.tmp 40) (.tmp 44)),og 46 36 true .bool (.fld 3 (.tmp 45)),og 47 36 true .bool (.load false 1 (.tmp 46)),og 48 36 true .bool (.mov (.tmp 1)),og 49 36 true .bool (.bin false .eql (.tmp 47) (.tmp 48)),oo 50 (.pick (.tmp 36) (.tmp 49) (.cst (.bool false))),oo 4 (.mov (.tmp 50))]
def Aur:Kp:=⟨[],[(4,false)],[(.ext 0,false)],[],[]⟩
def Ax4:TFd:=⟨2,[(.tmp 4,.bool)],[],(.seq (.ops Aus) (.seq (.draw [] Aut) (.keep Aur .ret)))⟩
def Hl:Ent:=⟨[.ptr (.ext 0) 0,.ty .str],[.st 3],[.str,(.st 3)],⟨(.ty .bool),[],[some .same],[.bool],[],[]⟩,none,fun p=>Bw p.1 p.2⟩
theorem I5:Hl.ok Tryz.prog 63:=Au hm Tryz.func63 (fd:=Ax4) (by kernel_rfl) (Ak (l:=[]) (y:=[]) trivial trivial) (by kernel_rfl) (fun p=>by kernel_rfl)
def Apo:List TOp:=[oo 4 (.mov (.cst (.bool false)))]
def App:List TOp:=[oo 5 (.mov (.tmp 0)),oo 6 (.mov (.tmp 1)),oo 7 (.call 0 2 (.cst (.fn 63)) [(.tmp 5),(.tmp 6)] [] [.ext 0]),oo 8 (.un .not (.tmp 7))]
def Apq:List TOp:=[oo 4 (.mov (.cst (.bool false)))]
def O9:Kp:=⟨[],[(4,false)],[(.ext 0,false)],[],[]⟩
def Apr:List TOp:=[oo 9 (.mov (.tmp 0)),oo 10 (.nchk (.tmp 9)),oo 11 (.fld 1 (.tmp 10)),oo 12 (.load false 1 (.tmp 11)),oo 13 (.bin false .add (.tmp 12) (.cst (.int .i64 1))),oo 14 (.nchk (.tmp 9)),oo 15 (.fld 1 (.tmp 14)),on (.store 1 (.tmp 15) (.tmp 13))]
def Aps:List TOp:=[oo 4 (.mov (.cst (.bool true)))]
def Auw:TFd:=⟨2,[(.tmp 4,.bool)],[],(.seq (.ops Apo) (.seq (.seq (.ops App) (.cond (.tmp 8) (.free (.seq (.ops Apq) (.keep O9 .ret))) .skip)) (.seq (.ops Apr) (.seq (.ops Aps) (.keep O9 .ret)))))⟩
def D4:Ent:=⟨[.ptr (.ext 0) 0,.ty .str],[.st 3],[.str,(.st 3)],⟨(.ty .bool),[],[some (.st 3)],[.bool,(.st 3)],[],[]⟩,none,fun p=>Bf p.1 p.2⟩
theorem Fc:D4.ok Tryz.prog 54:=Au hm Tryz.func54 (fd:=Auw) (by kernel_rfl) (Ak (l:=[(63,Hl)]) (y:=[]) ⟨I5,trivial⟩ trivial) (by kernel_rfl) (fun p=>by kernel_rfl)
def Apb:List TOp:=[oo 6 (.mov (.tmp 1)),oo 7 (.len false (.tmp 6)),oo 8 (.mov (.cst (.int .i64 0)))]
def Apc:List TOp:=[oo 9 (.bin false .lss (.tmp 8) (.tmp 7))]
def O7:Kp:=⟨[],[],[(.ext 0,false)],[],[]⟩
def Apd:List TOp:=[oo 10 (.idx 1 (.tmp 6) (.tmp 8)),oo 11 (.load false 1 (.tmp 10)),oo 5 (.mov (.tmp 11))]
def Ape:List TOp:=[oo 12 (.mov (.tmp 0)),oo 13 (.mov (.tmp 5)),oo 14 (.call 0 2 (.cst (.fn 54)) [(.tmp 12),(.tmp 13)] [] [.ext 0]),oo 15 (.un .not (.tmp 14))]
def Apf:List TOp:=[oo 16 (.mov (.tmp 0)),oo 17 (.nchk (.tmp 16)),oo 18 (.fld 2 (.tmp 17)),on (.store 1 (.tmp 18) (.cst (.bool true)))]
def Apg:List TOp:=[oo 19 (.bin false .add (.tmp 8) (.cst (.int .i64 1))),oo 8 (.mov (.tmp 19))]
def Apa:DC:=(.seq (.ops Apc) (.seq (.cond (.tmp 9) .skip (.keep O7 (.exit 0))) (.seq (.pass 1 (.seq (.ops Apd) (.seq (.ops Ape) (.cond (.tmp 15) (.free (.seq (.ops Apf) (.keep O7 .ret))) .skip)))) (.ops Apg))))
def Ao9:Kp:=⟨[],[(0,false),(6,false),(7,false),(8,false)],[(.ext 0,false)],[],[]⟩
def Aph:Sig:=⟨[(0,some (.ptr (.ext 0) 0)),(6,none),(7,none),(8,some (.ty (.int .i64)))],[(.ext 0,(.st 3))],[(.int .i64),(.st 3)],[],[]⟩
def Auu:TFd:=⟨2,[],[],(.seq (.ops Apb) (.block 0 (.loop [0,6,7,8] [] Ao9 Aph Apa)))⟩
noncomputable def D3:Ent:=⟨[.ptr (.ext 0) 0,.ty (.sl .str)],[.st 3],[(.sl .str),(.st 3)],⟨(.tup []),[],[some (.st 3)],[(.st 3)],[],[]⟩,none,fun p=>Aq p.1 p.2⟩
theorem Fb:D3.ok Tryz.prog 56:=Au hm Tryz.func56 (fd:=Auu) (by kernel_rfl) (Ak (l:=[(54,D4)]) (y:=[]) ⟨Fc,trivial⟩ trivial) (by kernel_rfl) (fun p=>by kernel_rfl)
def Pv:List TOp:=[oo 4 (.mov (.cst (.int .i64 0)))]
def Pw:List TOp:=[oo 6 (.mov (.tmp 0)),oo 7 (.len false (.tmp 6)),oo 8 (.mov (.cst (.int .i64 0)))]
def Px:List TOp:=[oo 9 (.bin false .lss (.tmp 8) (.tmp 7))]
def Py:List TOp:=[oo 10 (.mov (.tmp 8)),oo 5 (.mov (.tmp 10))]
def Pz:List TOp:=[oo 11 (.mov (.tmp 1)),oo 12 (.mov (.tmp 0)),oo 13 (.mov (.tmp 5)),oo 14 (.idx 1 (.tmp 12) (.tmp 13)),oo 15 (.load false 1 (.tmp 14)),oo 16 (.bin false .eql (.tmp 11) (.tmp 15))]
def P0:List TOp:=[oo 17 (.mov (.tmp 5)),oo 4 (.mov (.tmp 17))]
def Gp:Kp:=⟨[],[(4,false)],[],[],[]⟩
def P1:List TOp:=[oo 18 (.bin false .add (.tmp 8) (.cst (.int .i64 1))),oo 8 (.mov (.tmp 18))]
def Pu:DC:=(.seq (.ops Px) (.seq (.cond (.tmp 9) .skip (.exit 0)) (.seq (.pass 1 (.seq (.ops Py) (.seq (.ops Pz) (.cond (.tmp 16) (.free (.seq (.ops P0) (.keep Gp .ret))) .skip)))) (.ops P1))))
def Pt:Kp:=⟨[],[(0,false),(1,false),(7,false),(8,false)],[],[],[]⟩
def Nx:Sig:=⟨[(0,none),(1,none),(7,none),(8,some (.ty (.int .i64)))],[],[(.int .i64)],[],[]⟩
def Nv:Kp:=⟨[],[],[],[],[]⟩
def Ny:Sig:=⟨[],[],[],[],[]⟩
def Nw:List TOp:=[oo 4 (.mov (.cst (.int .i64 (-1))))]
def R5:TFd:=⟨2,[(.tmp 4,.bool)],[],(.seq (.ops Pv) (.seq (.seq (.ops Pw) (.joinO Nv Ny (.block 0 (.loop [0,1,7,8] [] Pt Nx Pu)))) (.seq (.ops Nw) (.keep Gp .ret))))⟩
noncomputable def G6:Ent:=⟨[.ty (.sl .str),.ty .str],[],[(.sl .str),.str],⟨(.ty (.int .i64)),[],[],[(.int .i64)],[],[]⟩,none,fun p=>Er p.1 p.2⟩
theorem P4:G6.ok Tryz.prog 139:=Au hm Tryz.func139 (fd:=R5) (by kernel_rfl) (Ak (l:=[]) (y:=[]) trivial trivial) (by kernel_rfl) (fun p=>by kernel_rfl)
def Kz:List TOp:=[oo 4 (.mov (.cst (.bool false)))]
def K0:List TOp:=[oo 5 (.mov (.tmp 0)),oo 6 (.mov (.tmp 1)),oo 7 (.call 0 0 (.cst (.fn 139)) [(.tmp 5),(.tmp 6)] [] []),oo 8 (.bin false .geq (.tmp 7) (.cst (.int .i64 0))),oo 4 (.mov (.tmp 8))]
def Ky:Kp:=⟨[],[(4,false)],[],[],[]⟩
def Nl:TFd:=⟨2,[(.tmp 4,.bool)],[],(.seq (.ops Kz) (.seq (.ops K0) (.keep Ky .ret)))⟩
noncomputable def Fs:Ent:=⟨[.ty (.sl .str),.ty .str],[],[(.sl .str),.str],⟨(.ty .bool),[],[],[.bool],[],[]⟩,none,fun p=>Cn p.1 p.2⟩
theorem K6:Fs.ok Tryz.prog 115:=Au hm Tryz.func115 (fd:=Nl) (by kernel_rfl) (Ak (l:=[(139,G6)]) (y:=[]) ⟨P4,trivial⟩ trivial) (by kernel_rfl) (fun p=>by kernel_rfl)
def Bed:List TOp:=[oo 4 (.mov (.cst (.bool false)))]
def Bee:List TOp:=[ot 6 .str (.lit true 1 [(.cst (.str [105,102])),(.cst (.str [116,104,101,110])),(.cst (.str [101,108,115,101])),(.cst (.str [97,110,100])),(.cst (.str [111,114])),(.cst (.str [110,111,116])),(.cst (.str [109,105,110])),(.cst (.str [109,97,120]))]),oo 5 (.mov (.tmp 6))]
def Bef:List TOp:=[oo 7 (.mov (.tmp 1))]
def Beg:List TOp:=[oo 8 (.mov (.tmp 5)),ot 9 .str (.lit false 1 [(.cst (.str [112,114,111,100,117,99,116])),(.cst (.str [98,97,115,105,115])),(.cst (.str [112,101,114,105,111,100])),(.cst (.str [116,105,101,114,115])),(.cst (.str [102,101,101])),(.cst (.str [109,105,110,105,109,117,109])),(.cst (.str [111,118,101,114,100,114,97,102,116])),(.cst (.str [110,111,116,105,99,101]))]),ot 10 .str (.append 5 1 16 (.tmp 8) (.tmp 9)),oo 5 (.mov (.tmp 10))]
def Beb:Kp:=⟨[.loc 5 0,.loc 6 0],[(0,false),(5,true)],[],[],[]⟩
def Bei:Sig:=⟨[(0,none),(5,some (.ty (.sl .str)))],[],[(.sl .str)],[],[]⟩
def Beh:List TOp:=[oo 11 (.mov (.tmp 5)),oo 12 (.mov (.tmp 0)),oo 13 (.call 0 0 (.cst (.fn 115)) [(.tmp 11),(.tmp 12)] [] []),oo 4 (.mov (.tmp 13))]
def Bec:Kp:=⟨[],[(4,false)],[],[],[]⟩
def Bl9:TFd:=⟨2,[(.tmp 4,.bool)],[],(.seq (.ops Bed) (.seq (.ops Bee) (.seq (.seq (.ops Bef) (.join Beb Bei (.cond (.tmp 7) (.ops Beg) .skip))) (.seq (.ops Beh) (.keep Bec .ret)))))⟩
noncomputable def Anq:Ent:=⟨[.ty .str,.ty .bool],[],[.str,.bool],⟨(.ty .bool),[],[],[.bool],[],[]⟩,none,fun p=>Zh p.1 p.2⟩
theorem Av9:Anq.ok Tryz.prog 96:=Au hm Tryz.func96 (fd:=Bl9) (by kernel_rfl) (Ak (l:=[(115,Fs)]) (y:=[]) ⟨K6,trivial⟩ trivial) (by kernel_rfl) (fun p=>by kernel_rfl)
def Api:List TOp:=[oo 6 (.mov (.cst (.str [])))]
def Apj:List TOp:=[oo 7 (.mov (.tmp 0)),oo 8 (.nchk (.tmp 7)),oo 9 (.fld 2 (.tmp 8)),oo 10 (.load false 1 (.tmp 9)),oo 11 (.mov (.tmp 10)),og 12 11 false .bool (.mov (.tmp 0)),og 13 11 false .bool (.nchk (.tmp 12)),og 14 11 false .bool (.fld 1 (.tmp 13)),og 15 11 false .bool (.load false 1 (.tmp 14)),og 16 11 false .bool (.mov (.tmp 0)),og 17 11 false .bool (.nchk (.tmp 16)),og 18 11 false .bool (.fld 0 (.tmp 17)),og 19 11 false .bool (.load false 1 (.tmp 18)),og 20 11 false .bool (.len false (.tmp 19)),og 21 11 false .bool (.bin false .geq (.tmp 15) (.tmp 20)),oo 22 (.pick (.tmp 11) (.cst (.bool true)) (.tmp 21)),oo 23 (.mov (.tmp 22)),og 24 23 false .bool (.mov (.tmp 0)),og 25 23 false .bool (.nchk (.tmp 24)),og 26 23 false .bool (.fld 0 (.tmp 25)),og 27 23 false .bool (.load false 1 (.tmp 26)),og 28 23 false .bool (.mov (.tmp 0)),og 29 23 false .bool (.nchk (.tmp 28)),og 30 23 false .bool (.fld 1 (.tmp 29)),og 31 23 false .bool (.load false 1 (.tmp 30)),og 32 23 false .bool (.idx 4 (.tmp 27) (.tmp 31)),og 33 23 false .bool (.fld 0 (.tmp 32)),og 34 23 false .bool (.load false 1 (.tmp 33)),og 35 23 false .bool (.mov (.tmp 1)),og 36 23 false .bool (.bin false .neq (.tmp 34) (.tmp 35)),oo 37 (.pick (.tmp 23) (.cst (.bool true)) (.tmp 36)),oo 38 (.mov (.tmp 37)),og 39 38 false .bool (.mov (.tmp 1)),og 40 38 false .bool (.bin false .eql (.tmp 39) (.cst (.int .i64 0))),og 41 38 false .bool (.mov (.tmp 40)),og 42 41 true .bool (.mov (.tmp 0)),og 43 41 true .bool (.nchk (.tmp 42)),og 44 41 true .bool (.fld 0 (.tmp 43)),og 45 41 true .bool (.load false 1 (.tmp 44)),og 46 41 true .bool (.mov (.tmp 0)),og 47 41 true .bool (.nchk (.tmp 46)),og 48 41 true .bool (.fld 1 (.tmp 47)),og 49 41 true .bool (.load false 1 (.tmp 48)),og 50 41 true .bool (.idx 4 (.tmp 45) (.tmp 49)),og 51 41 true .bool (.fld 3 (.tmp 50)),og 52 41 true .bool (.load false 1 (.tmp 51)),og 53 41 true .bool (.mov (.tmp 2)),og 54 41 true .bool (.call 0 0 (.cst (.fn 96)) [(.tmp 52),(.tmp 53)] [] []),og 55 38 false .bool (.pick (.tmp 41) (.tmp 54) (.cst (.bool false))),oo 56 (.pick (.tmp 38) (.cst (.bool true)) (.tmp 55))]
def Apk:List TOp:=[oo 57 (.mov (.tmp 0)),oo 58 (.nchk (.tmp 57)),oo 59 (.fld 2 (.tmp 58)),on (.store 1 (.tmp 59) (.cst (.bool true)))]
def Apl:List TOp:=[oo 6 (.mov (.cst (.str [])))]
def O8:Kp:=⟨[],[(6,false)],[(.ext 0,false)],[],[]⟩
def Apm:List TOp:=[oo 60 (.mov (.tmp 0)),oo 61 (.nchk (.tmp 60)),oo 62 (.fld 1 (.tmp 61)),oo 63 (.load false 1 (.tmp 62)),oo 64 (.bin false .add (.tmp 63) (.cst (.int .i64 1))),oo 65 (.nchk (.tmp 60)),oo 66 (.fld 1 (.tmp 65)),on (.store 1 (.tmp 66) (.tmp 64))]
def Apn:List TOp:=[oo 67 (.mov (.tmp 0)),oo 68 (.nchk (.tmp 67)),oo 69 (.fld 0 (.tmp 68)),oo 70 (.load false 1 (.tmp 69)),oo 71 (.mov (.tmp 0)),oo 72 (.nchk (.tmp 71)),oo 73 (.fld 1 (.tmp 72)),oo 74 (.load false 1 (.tmp 73)),oo 75 (.bin false .sub (.tmp 74) (.cst (.int .i64 1))),oo 76 (.idx 4 (.tmp 70) (.tmp 75)),oo 77 (.fld 3 (.tmp 76)),oo 78 (.load false 1 (.tmp 77)),oo 6 (.mov (.tmp 78))]
def Auv:TFd:=⟨3,[(.tmp 6,.bool)],[],(.seq (.ops Api) (.seq (.seq (.draw [] Apj) (.cond (.tmp 56) (.free (.seq (.ops Apk) (.seq (.ops Apl) (.keep O8 .ret)))) .skip)) (.seq (.ops Apm) (.seq (.draw [] Apn) (.keep O8 .ret)))))⟩
noncomputable def F2:Ent:=⟨[.ptr (.ext 0) 0,.ty (.int .i64),.ty .bool],[.st 3],[(.int .i64),.bool,(.st 3)],⟨(.ty .str),[],[some (.st 3)],[.str,(.st 3)],[],[]⟩,none,fun p=>Ba p.1 p.2.1 p.2.2⟩
theorem H1:F2.ok Tryz.prog 61:=Au hm Tryz.func61 (fd:=Auv) (by kernel_rfl) (Ak (l:=[(96,Anq)]) (y:=[]) ⟨Av9,trivial⟩ trivial) (by kernel_rfl) (fun p=>by kernel_rfl)
def Adj:Ent:=⟨[.nils,.ty (.int .i64)],[],[(.int .i64)],⟨(.own (.res 0)),[some (.row (.st 4))],[],[(.sl (.st 4))],[],[]⟩,none,fun p=>C9 Aa 24 p⟩
theorem Asa:Adj.ok Tryz.prog 114:=fun p r h=>by
 obtain⟨e1,e2⟩:=Adk (show C9 Aa 24 p=some r from h)
 subst e1
 exact Aw1 e2
def Tm:List TOp:=[oo 2 (.mov .nils)]
def Tn:List TOp:=[oo 3 (.mov (.cst (.int .i64 0)))]
def To:List TOp:=[oo 9 (.mov (.tmp 0)),oo 10 (.len false (.tmp 9)),oo 11 (.mov (.cst (.int .i64 0)))]
def Tp:List TOp:=[oo 12 (.bin false .lss (.tmp 11) (.tmp 10))]
def Tq:List TOp:=[oo 13 (.idx 1 (.tmp 9) (.tmp 11)),oo 14 (.load false 1 (.tmp 13)),oo 5 (.mov (.tmp 14))]
def Tr:List TOp:=[oo 15 (.mov (.tmp 3)),oo 16 (.mov (.tmp 5)),oo 17 (.len false (.tmp 16)),oo 18 (.bin false .add (.tmp 15) (.tmp 17)),oo 3 (.mov (.tmp 18))]
def Ts:List TOp:=[oo 19 (.mov (.tmp 3)),oo 20 (.bin false .lss (.tmp 19) (.cst (.int .i64 0)))]
def H2:Kp:=⟨[],[(0,false),(3,false),(9,false),(10,false),(11,false)],[],[],[]⟩
def Tu:Sig:=⟨[(0,none),(3,none),(9,none),(10,none),(11,none)],[],[],[],[]⟩
def Tt:List TOp:=[oo 22 (.bin false .add (.tmp 11) (.cst (.int .i64 1))),oo 11 (.mov (.tmp 22))]
def Rp:DC:=(.seq (.ops Tp) (.seq (.cond (.tmp 12) .skip (.exit 0)) (.seq (.pass 1 (.seq (.ops Tq) (.seq (.ops Tr) (.seq (.ops Ts) (.join H2 Tu (.cond (.tmp 20) .stuck .skip)))))) (.ops Tt))))
def Rz:Sig:=⟨[(0,none),(3,some (.ty (.int .i64))),(9,none),(10,none),(11,some (.ty (.int .i64)))],[],[(.int .i64),(.int .i64)],[],[]⟩
def Rl:Kp:=⟨[],[(0,false),(3,false)],[],[],[]⟩
def R0:Sig:=⟨[(0,none),(3,some (.ty (.int .i64)))],[],[(.int .i64)],[],[]⟩
def Rr:List TOp:=[oo 23 (.mov (.tmp 3)),oo 24 (.call 1 3 (.cst (.fn 114)) [.nils,(.tmp 23)] [] []),oo 6 (.mov (.tmp 24))]
def Rt:List TOp:=[oo 25 (.mov (.tmp 0)),oo 26 (.len false (.tmp 25)),oo 27 (.mov (.cst (.int .i64 0)))]
def Ru:List TOp:=[oo 28 (.bin false .lss (.tmp 27) (.tmp 26))]
def Rv:List TOp:=[oo 29 (.idx 1 (.tmp 25) (.tmp 27)),oo 30 (.load false 1 (.tmp 29)),oo 8 (.mov (.tmp 30))]
def Rw:List TOp:=[oo 31 (.mov (.tmp 6)),oo 32 (.mov (.tmp 8)),ot 33 (.st 4) (.append 24 2 24 (.tmp 31) (.tmp 32)),oo 6 (.mov (.tmp 33))]
def Rx:List TOp:=[oo 34 (.bin false .add (.tmp 27) (.cst (.int .i64 1))),oo 27 (.mov (.tmp 34))]
def Rq:DC:=(.seq (.ops Ru) (.seq (.cond (.tmp 28) .skip (.exit 2)) (.seq (.pass 3 (.seq (.ops Rv) (.ops Rw))) (.ops Rx))))
def Rm:Kp:=⟨[],[(6,false),(25,false),(26,false),(27,false)],[(.loc 24 0,false)],[],[]⟩
def R1:Sig:=⟨[(6,some (.own (.loc 24 0))),(25,none),(26,none),(27,some (.ty (.int .i64)))],[(.loc 24 0,(.row (.st 4)))],[(.int .i64),(.sl (.st 4))],[],[]⟩
def Rn:Kp:=⟨[.loc 24 0],[(6,true)],[],[],[]⟩
def R2:Sig:=⟨[(6,some (.ty (.sl (.st 4))))],[],[(.sl (.st 4))],[],[]⟩
def Ry:List TOp:=[oo 35 (.mov (.tmp 6)),oo 2 (.mov (.tmp 35))]
def Ro:Kp:=⟨[],[(2,false)],[],[],[]⟩
def Yn:TFd:=⟨1,[(.tmp 2,.bool)],[],(.seq (.ops Tm) (.seq (.ops Tn) (.seq (.seq (.ops To) (.join Rl R0 (.block 0 (.loop [0,3,9,10,11] [] H2 Rz Rp)))) (.seq (.ops Rr) (.seq (.seq (.ops Rt) (.join Rn R2 (.block 2 (.loop [6,25,26,27] [] Rm R1 Rq)))) (.seq (.ops Ry) (.keep Ro .ret)))))))⟩
noncomputable def Ie:Ent:=⟨[.ty (.sl (.sl (.st 4)))],[],[(.sl (.sl (.st 4)))],⟨(.ty (.sl (.st 4))),[],[],[(.sl (.st 4))],[],[]⟩,none,fun p=>Dx p⟩
theorem Uc:Ie.ok Tryz.prog 93:=Au hm Tryz.func93 (fd:=Yn) (by kernel_rfl) (Ak (l:=[(114,Adj)]) (y:=[]) ⟨Asa,trivial⟩ trivial) (by kernel_rfl) (fun p=>by kernel_rfl)
def A8h:List TOp:=[oo 4 (.mov .nils)]
def A8i:List TOp:=[oo 5 (.mov (.tmp 0)),ot 6 (.st 4) (.build [.pv (.int .i64 0),.pv (.str [])] [(0,1,(.tmp 5))]),ot 7 (.st 4) (.lit true 2 [(.tmp 6)]),oo 8 (.mov (.tmp 1)),oo 9 (.call 0 0 (.cst (.fn 93)) [(.tmp 8)] [] []),ot 10 (.st 4) (.append 7 2 24 (.tmp 7) (.tmp 9)),oo 4 (.mov (.tmp 10))]
def A8g:Kp:=⟨[.loc 7 0],[(4,true)],[],[],[]⟩
def Bic:TFd:=⟨2,[(.tmp 4,.bool)],[],(.seq (.ops A8h) (.seq (.ops A8i) (.keep A8g .ret)))⟩
noncomputable def Q7:Ent:=⟨[.ty (.int .i64),.ty (.sl (.sl (.st 4)))],[],[(.int .i64),(.sl (.sl (.st 4)))],⟨(.ty (.sl (.st 4))),[],[],[(.sl (.st 4))],[],[]⟩,none,fun p=>Cj p.1 p.2⟩
theorem Wp:Q7.ok Tryz.prog 57:=Au hm Tryz.func57 (fd:=Bic) (by kernel_rfl) (Ak (l:=[(93,Ie)]) (y:=[]) ⟨Uc,trivial⟩ trivial) (by kernel_rfl) (fun p=>by kernel_rfl)
def A4e:List TOp:=[oo 0 (.mov .junk)]
def A4f:List TOp:=[om 1 .str (.st 5) (.mkmap .s),ot 2 (.st 5) (.build [.pv (.int .i64 0),.pv (.int .i64 0)] [(0,1,(.cst (.int .i64 13))),(1,1,(.cst (.int .i64 1)))]),on (.mset .s (.tmp 1) (.cst (.str [111,114])) (.tmp 2)),ot 3 (.st 5) (.build [.pv (.int .i64 0),.pv (.int .i64 0)] [(0,1,(.cst (.int .i64 12))),(1,1,(.cst (.int .i64 2)))]),on (.mset .s (.tmp 1) (.cst (.str [97,110,100])) (.tmp 3)),ot 4 (.st 5) (.build [.pv (.int .i64 0),.pv (.int .i64 0)] [(0,1,(.cst (.int .i64 7))),(1,1,(.cst (.int .i64 4)))]),on (.mset .s (.tmp 1) (.cst (.str [60])) (.tmp 4)),ot 5 (.st 5) (.build [.pv (.int .i64 0),.pv (.int .i64 0)] [(0,1,(.cst (.int .i64 8))),(1,1,(.cst (.int .i64 4)))]),on (.mset .s (.tmp 1) (.cst (.str [60,61])) (.tmp 5)),ot 6 (.st 5) (.build [.pv (.int .i64 0),.pv (.int .i64 0)] [(0,1,(.cst (.int .i64 9))),(1,1,(.cst (.int .i64 4)))]),on (.mset .s (.tmp 1) (.cst (.str [61])) (.tmp 6)),ot 7 (.st 5) (.build [.pv (.int .i64 0),.pv (.int .i64 0)] [(0,1,(.cst (.int .i64 10))),(1,1,(.cst (.int .i64 4)))]),on (.mset .s (.tmp 1) (.cst (.str [62])) (.tmp 7)),ot 8 (.st 5) (.build [.pv (.int .i64 0),.pv (.int .i64 0)] [(0,1,(.cst (.int .i64 11))),(1,1,(.cst (.int .i64 4)))]),on (.mset .s (.tmp 1) (.cst (.str [62,61])) (.tmp 8)),ot 9 (.st 5) (.build [.pv (.int .i64 0),.pv (.int .i64 0)] [(0,1,(.cst (.int .i64 3))),(1,1,(.cst (.int .i64 5)))]),on (.mset .s (.tmp 1) (.cst (.str [43])) (.tmp 9)),ot 10 (.st 5) (.build [.pv (.int .i64 0),.pv (.int .i64 0)] [(0,1,(.cst (.int .i64 4))),(1,1,(.cst (.int .i64 5)))]),on (.mset .s (.tmp 1) (.cst (.str [45])) (.tmp 10)),ot 11 (.st 5) (.build [.pv (.int .i64 0),.pv (.int .i64 0)] [(0,1,(.cst (.int .i64 5))),(1,1,(.cst (.int .i64 6)))]),on (.mset .s (.tmp 1) (.cst (.str [42])) (.tmp 11)),ot 12 (.st 5) (.build [.pv (.int .i64 0),.pv (.int .i64 0)] [(0,1,(.cst (.int .i64 6))),(1,1,(.cst (.int .i64 6)))]),on (.mset .s (.tmp 1) (.cst (.str [47])) (.tmp 12)),oo 13 (.mov (.tmp 1)),oo 0 (.mov (.tmp 13))]
def A4d:Kp:=⟨[],[(0,false)],[(.loc 1 0,false)],[],[]⟩
def Bej:TFd:=⟨0,[(.tmp 0,.bool)],[.loc 1 0],(.seq (.ops A4e) (.seq (.ops A4f) (.keep A4d .ret)))⟩
def Asw:Ent:=⟨[],[],[],⟨(.mp (.res 0)),[some (.map .str (.st 5))],[],[(.mp .str (.st 5))],[],[]⟩,none,fun p=>Ans⟩
theorem Ant:Asw.ok Tryz.prog 98:=Au hm Tryz.func98 (fd:=Bej) (by kernel_rfl) (Ak (l:=[]) (y:=[]) trivial trivial) (by kernel_rfl) (fun p=>by kernel_rfl)
def Acn:List TOp:=[oo 4 (.mov (.cst (.int .i64 0))),oo 5 (.mov (.cst (.bool false)))]
def Aco:List TOp:=[oo 8 (.mov (.tmp 0)),oo 9 (.nchk (.tmp 8)),oo 10 (.fld 2 (.tmp 9)),oo 11 (.load false 1 (.tmp 10)),oo 12 (.mov (.tmp 11)),og 13 12 false .bool (.mov (.tmp 0)),og 14 12 false .bool (.nchk (.tmp 13)),og 15 12 false .bool (.fld 1 (.tmp 14)),og 16 12 false .bool (.load false 1 (.tmp 15)),og 17 12 false .bool (.mov (.tmp 0)),og 18 12 false .bool (.nchk (.tmp 17)),og 19 12 false .bool (.fld 0 (.tmp 18)),og 20 12 false .bool (.load false 1 (.tmp 19)),og 21 12 false .bool (.len false (.tmp 20)),og 22 12 false .bool (.bin false .geq (.tmp 16) (.tmp 21)),oo 23 (.pick (.tmp 12) (.cst (.bool true)) (.tmp 22)),oo 24 (.mov (.tmp 23)),og 25 24 false .bool (.mov (.tmp 0)),og 26 24 false .bool (.nchk (.tmp 25)),og 27 24 false .bool (.fld 0 (.tmp 26)),og 28 24 false .bool (.load false 1 (.tmp 27)),og 29 24 false .bool (.mov (.tmp 0)),og 30 24 false .bool (.nchk (.tmp 29)),og 31 24 false .bool (.fld 1 (.tmp 30)),og 32 24 false .bool (.load false 1 (.tmp 31)),og 33 24 false .bool (.idx 4 (.tmp 28) (.tmp 32)),og 34 24 false .bool (.fld 0 (.tmp 33)),og 35 24 false .bool (.load false 1 (.tmp 34)),og 36 24 false .bool (.bin false .eql (.tmp 35) (.cst (.int .i64 2))),oo 37 (.pick (.tmp 24) (.cst (.bool true)) (.tmp 36))]
def Acp:List TOp:=[oo 4 (.mov (.cst (.int .i64 0))),oo 5 (.mov (.cst (.bool false)))]
def Jq:Kp:=⟨[],[(4,false),(5,false)],[(.ext 0,false)],[],[]⟩
def Acq:List TOp:=[oo 39 (.call 1 0 (.cst (.fn 98)) [] [] []),oo 40 (.mov (.tmp 0)),oo 41 (.nchk (.tmp 40)),oo 42 (.fld 0 (.tmp 41)),oo 43 (.load false 1 (.tmp 42)),oo 44 (.mov (.tmp 0)),oo 45 (.nchk (.tmp 44)),oo 46 (.fld 1 (.tmp 45)),oo 47 (.load false 1 (.tmp 46)),oo 48 (.idx 4 (.tmp 43) (.tmp 47)),oo 49 (.fld 3 (.tmp 48)),oo 50 (.load false 1 (.tmp 49)),oo 51 (.mlook .s true (.agg [(.int .i64 0),(.int .i64 0)]) (.tmp 39) (.tmp 50)),oo 38 (.mov (.tmp 51)),oo 52 (.ext 0 (.tmp 38)),oo 53 (.ext 1 (.tmp 38)),oo 6 (.alloc [.pv (.int .i64 0),.pv (.int .i64 0)]),on (.store 2 (.tmp 6) (.tmp 52)),oo 7 (.mov (.tmp 53))]
def Acr:List TOp:=[oo 54 (.fld 0 (.tmp 6)),oo 55 (.load false 1 (.tmp 54)),oo 56 (.mov (.tmp 7)),oo 57 (.mov (.tmp 56)),og 58 57 true .bool (.fld 1 (.tmp 6)),og 59 57 true .bool (.load false 1 (.tmp 58)),og 60 57 true .bool (.mov (.tmp 1)),og 61 57 true .bool (.bin false .eql (.tmp 59) (.tmp 60)),oo 62 (.pick (.tmp 57) (.tmp 61) (.cst (.bool false))),oo 4 (.mov (.tmp 55)),oo 5 (.mov (.tmp 62))]
def Al0:TFd:=⟨2,[(.tmp 4,.bool),(.tmp 5,.bool)],[],(.seq (.ops Acn) (.seq (.seq (.draw [] Aco) (.cond (.tmp 37) (.free (.seq (.ops Acp) (.keep Jq .ret))) .skip)) (.seq (.draw [.loc 39 0,.loc 6 0] Acq) (.seq (.draw [] Acr) (.keep Jq .ret)))))⟩
def Kh:Ent:=⟨[.ptr (.ext 0) 0,.ty (.int .i64)],[.st 3],[(.int .i64),(.st 3)],⟨(.tup [(.ty (.int .i64)),(.ty .bool)]),[],[some .same],[(.int .i64),.bool],[],[]⟩,none,fun p=>B6 p.1 p.2⟩
theorem Zi:Kh.ok Tryz.prog 92:=Au hm Tryz.func92 (fd:=Al0) (by kernel_rfl) (Ak (l:=[(98,Asw)]) (y:=[]) ⟨Ant,trivial⟩ trivial) (by kernel_rfl) (fun p=>by kernel_rfl)
def Arq:List TOp:=[oo 2 (.mov .nils)]
def Arr:List TOp:=[oo 5 (.mov (.tmp 0)),oo 6 (.call 0 2 (.cst (.fn 54)) [(.tmp 5),(.cst (.str [105,102]))] [] [.ext 0]),oo 7 (.un .not (.tmp 6))]
def Ars:List TOp:=[oo 8 (.mov (.tmp 0)),oo 9 (.call 0 2 (.cst (.fn 55)) [(.tmp 8),(.cst (.int .i64 1))] [] [.ext 0]),oo 2 (.mov (.tmp 9))]
def Qw:Kp:=⟨[],[(2,false)],[(.ext 0,false)],[],[]⟩
def Art:List TOp:=[oo 10 (.mov (.tmp 0)),oo 11 (.call 0 2 (.cst (.fn 30)) [(.tmp 10)] [] [.ext 0]),oo 3 (.mov (.tmp 11))]
def Aru:List TOp:=[oo 12 (.mov (.tmp 0)),ot 13 .str (.lit false 1 [(.cst (.str [116,104,101,110]))]),oo 14 (.call 0 2 (.cst (.fn 56)) [(.tmp 12),(.tmp 13)] [] [.ext 0])]
def Arv:List TOp:=[oo 15 (.mov (.tmp 0)),oo 16 (.call 0 2 (.cst (.fn 30)) [(.tmp 15)] [] [.ext 0]),oo 4 (.mov (.tmp 16))]
def Arw:List TOp:=[oo 17 (.mov (.tmp 0)),ot 18 .str (.lit false 1 [(.cst (.str [101,108,115,101]))]),oo 19 (.call 0 2 (.cst (.fn 56)) [(.tmp 17),(.tmp 18)] [] [.ext 0])]
def Arx:List TOp:=[oo 20 (.mov (.tmp 3)),oo 21 (.mov (.tmp 4)),oo 22 (.mov (.tmp 0)),oo 23 (.call 0 2 (.cst (.fn 30)) [(.tmp 22)] [] [.ext 0]),ot 24 (.sl (.st 4)) (.lit false 1 [(.tmp 20),(.tmp 21),(.tmp 23)]),oo 25 (.call 0 0 (.cst (.fn 57)) [(.cst (.int .i64 15)),(.tmp 24)] [] []),oo 2 (.mov (.tmp 25))]
def Awq:TFd:=⟨1,[(.tmp 2,.bool)],[],(.seq (.ops Arq) (.seq (.seq (.ops Arr) (.cond (.tmp 7) (.free (.seq (.ops Ars) (.keep Qw .ret))) .skip)) (.seq (.ops Art) (.seq (.ops Aru) (.seq (.ops Arv) (.seq (.ops Arw) (.seq (.ops Arx) (.keep Qw .ret))))))))⟩
noncomputable def Dg(fuel:Nat):Ent:=⟨[.ptr (.ext 0) 0],[.st 3],[(.st 3)],⟨(.ty (.sl (.st 4))),[],[some (.st 3)],[(.sl (.st 4)),(.st 3)],[],[]⟩,none,fun p=>parse_reader_any fuel p⟩
def Al1:List TOp:=[oo 4 (.mov .nils)]
def Al2:List TOp:=[oo 8 (.mov (.tmp 0)),oo 9 (.nchk (.tmp 8)),oo 10 (.fld 2 (.tmp 9)),oo 11 (.load false 1 (.tmp 10))]
def Al3:List TOp:=[oo 4 (.mov .nils)]
def Cr:Kp:=⟨[],[(4,true)],[(.ext 0,false)],[],[]⟩
def Al4:List TOp:=[oo 12 (.mov (.tmp 1))]
def Al5:List TOp:=[oo 14 (.bin false .eql (.tmp 12) (.cst (.int .i64 3))),oo 13 (.mov (.tmp 14))]
def Al6:List TOp:=[oo 15 (.mov (.tmp 0)),oo 16 (.call 0 2 (.cst (.fn 54)) [(.tmp 15),(.cst (.str [110,111,116]))] [] [.ext 0])]
def Al7:List TOp:=[oo 17 (.mov (.tmp 0)),oo 18 (.call 0 2 (.cst (.fn 55)) [(.tmp 17),(.cst (.int .i64 3))] [] [.ext 0]),ot 19 (.sl (.st 4)) (.lit false 1 [(.tmp 18)]),oo 20 (.call 0 0 (.cst (.fn 57)) [(.cst (.int .i64 14)),(.tmp 19)] [] []),oo 4 (.mov (.tmp 20))]
def Al8:List TOp:=[oo 21 (.mov (.tmp 0)),oo 22 (.call 0 2 (.cst (.fn 55)) [(.tmp 21),(.cst (.int .i64 4))] [] [.ext 0]),oo 4 (.mov (.tmp 22))]
def Al9:List TOp:=[oo 24 (.bin false .eql (.tmp 12) (.cst (.int .i64 7))),oo 23 (.mov (.tmp 24))]
def Ah9:List TOp:=[oo 25 (.mov (.tmp 0)),oo 26 (.call 0 2 (.cst (.fn 54)) [(.tmp 25),(.cst (.str [45]))] [] [.ext 0])]
def Aia:List TOp:=[oo 27 (.mov (.tmp 0)),oo 28 (.call 0 2 (.cst (.fn 55)) [(.tmp 27),(.cst (.int .i64 7))] [] [.ext 0]),ot 29 (.sl (.st 4)) (.lit false 1 [(.tmp 28)]),oo 30 (.call 0 0 (.cst (.fn 57)) [(.cst (.int .i64 2)),(.tmp 29)] [] []),oo 4 (.mov (.tmp 30))]
def Aib:List TOp:=[oo 31 (.mov (.tmp 0)),oo 32 (.call 0 2 (.cst (.fn 91)) [(.tmp 31)] [] [.ext 0]),oo 4 (.mov (.tmp 32))]
def Aic:List TOp:=[oo 33 (.mov (.tmp 0)),oo 34 (.mov (.tmp 1)),oo 35 (.bin false .add (.tmp 34) (.cst (.int .i64 1))),oo 36 (.call 0 2 (.cst (.fn 55)) [(.tmp 33),(.tmp 35)] [] [.ext 0]),oo 5 (.mov (.tmp 36))]
def Aid:List TOp:=[oo 38 (.mov (.tmp 0)),oo 39 (.mov (.tmp 1)),oo 40 (.call 0 2 (.cst (.fn 92)) [(.tmp 38),(.tmp 39)] [] [.ext 0]),oo 37 (.mov (.tmp 40)),oo 41 (.ext 0 (.tmp 37)),oo 42 (.ext 1 (.tmp 37)),oo 6 (.mov (.tmp 41)),oo 7 (.mov (.tmp 42))]
def Aie:List TOp:=[oo 43 (.mov (.tmp 7))]
def Aif:List TOp:=[oo 50 (.mov (.tmp 0)),oo 51 (.nchk (.tmp 50)),oo 52 (.fld 1 (.tmp 51)),oo 53 (.load false 1 (.tmp 52)),oo 54 (.bin false .add (.tmp 53) (.cst (.int .i64 1))),oo 55 (.nchk (.tmp 50)),oo 56 (.fld 1 (.tmp 55)),on (.store 1 (.tmp 56) (.tmp 54))]
def Aig:List TOp:=[oo 57 (.mov (.tmp 6)),oo 58 (.mov (.tmp 5)),oo 59 (.mov (.tmp 0)),oo 60 (.mov (.tmp 1)),oo 61 (.bin false .add (.tmp 60) (.cst (.int .i64 1))),oo 62 (.call 0 2 (.cst (.fn 55)) [(.tmp 59),(.tmp 61)] [] [.ext 0]),ot 63 (.sl (.st 4)) (.lit false 1 [(.tmp 58),(.tmp 62)]),oo 64 (.call 0 0 (.cst (.fn 57)) [(.tmp 57),(.tmp 63)] [] []),oo 5 (.mov (.tmp 64))]
def Aih:List TOp:=[oo 65 (.mov (.tmp 1)),oo 66 (.bin false .eql (.tmp 65) (.cst (.int .i64 4)))]
def Aii:List TOp:=[oo 45 (.mov (.tmp 0)),oo 46 (.mov (.tmp 1)),oo 47 (.call 0 2 (.cst (.fn 92)) [(.tmp 45),(.tmp 46)] [] [.ext 0]),oo 44 (.mov (.tmp 47)),oo 48 (.ext 0 (.tmp 44)),oo 49 (.ext 1 (.tmp 44)),oo 6 (.mov (.tmp 48)),oo 7 (.mov (.tmp 49))]
def Ah8:DC:=(.seq (.seq (.ops Aie) (.cond (.tmp 43) .skip (.exit 1))) (.seq (.pass 2 (.seq (.ops Aif) (.seq (.ops Aig) (.seq (.ops Aih) (.cond (.tmp 66) (.exit 1) .skip))))) (.ops Aii)))
def Ah6:Kp:=⟨[],[(0,false),(1,false),(5,false),(6,false),(7,false)],[(.ext 0,false)],[],[]⟩
def Aik:Sig:=⟨[(0,some (.ptr (.ext 0) 0)),(1,none),(5,some (.ty (.sl (.st 4)))),(6,some (.ty (.int .i64))),(7,some (.ty .bool))],[(.ext 0,(.st 3))],[(.sl (.st 4)),(.int .i64),.bool,(.st 3)],[],[]⟩
def Ah7:Kp:=⟨[],[(5,false)],[(.ext 0,false)],[],[]⟩
def Ail:Sig:=⟨[(5,some (.ty (.sl (.st 4))))],[(.ext 0,(.st 3))],[(.sl (.st 4)),(.st 3)],[],[]⟩
def Aij:List TOp:=[oo 67 (.mov (.tmp 5)),oo 4 (.mov (.tmp 67))]
def Ar7:TFd:=⟨2,[(.tmp 4,.bool)],[],(.seq (.ops Al1) (.seq (.seq (.ops Al2) (.cond (.tmp 11) (.free (.seq (.ops Al3) (.keep Cr .ret))) .skip)) (.seq (.seq (.ops Al4) (.pass 0 (.seq (.ops Al5) (.cond (.tmp 13) (.free (.seq (.seq (.ops Al6) (.cond (.tmp 16) (.free (.seq (.ops Al7) (.keep Cr .ret))) .skip)) (.seq (.ops Al8) (.keep Cr .ret)))) (.seq (.ops Al9) (.cond (.tmp 23) (.free (.seq (.seq (.ops Ah9) (.cond (.tmp 26) (.free (.seq (.ops Aia) (.keep Cr .ret))) .skip)) (.seq (.ops Aib) (.keep Cr .ret)))) .skip)))))) (.seq (.ops Aic) (.seq (.seq (.ops Aid) (.join Ah7 Ail (.block 1 (.loop [0,1,5,6,7] [] Ah6 Aik Ah8)))) (.seq (.ops Aij) (.keep Cr .ret)))))))⟩
noncomputable def H0(fuel:Nat):Ent:=⟨[.ptr (.ext 0) 0,.ty (.int .i64)],[.st 3],[(.int .i64),(.st 3)],⟨(.ty (.sl (.st 4))),[],[some (.st 3)],[(.sl (.st 4)),(.st 3)],[],[]⟩,none,fun p=>parse_reader_level fuel p.1 p.2⟩
def Acs:List TOp:=[oo 2 (.mov .nils)]
def Acu:List TOp:=[oo 9 (.mov (.tmp 0)),oo 10 (.call 0 2 (.cst (.fn 54)) [(.tmp 9),(.cst (.str [40]))] [] [.ext 0]),oo 8 (.mov (.tmp 10))]
def Acv:List TOp:=[oo 11 (.mov (.tmp 0)),oo 12 (.call 0 2 (.cst (.fn 30)) [(.tmp 11)] [] [.ext 0]),oo 3 (.mov (.tmp 12))]
def Acw:List TOp:=[oo 13 (.mov (.tmp 0)),ot 14 .str (.lit false 1 [(.cst (.str [41]))]),oo 15 (.call 0 2 (.cst (.fn 56)) [(.tmp 13),(.tmp 14)] [] [.ext 0])]
def Acx:List TOp:=[oo 16 (.mov (.tmp 3)),oo 2 (.mov (.tmp 16))]
def Dv:Kp:=⟨[],[(2,false)],[(.ext 0,false)],[],[]⟩
def Acy:List TOp:=[oo 18 (.mov (.tmp 0)),oo 19 (.call 0 2 (.cst (.fn 63)) [(.tmp 18),(.cst (.str [109,105,110]))] [] [.ext 0]),oo 20 (.mov (.tmp 19)),og 21 20 false .bool (.mov (.tmp 0)),og 22 20 false .bool (.call 0 2 (.cst (.fn 63)) [(.tmp 21),(.cst (.str [109,97,120]))] [] [.ext 0]),oo 23 (.pick (.tmp 20) (.cst (.bool true)) (.tmp 22)),oo 17 (.mov (.tmp 23))]
def Acz:List TOp:=[oo 4 (.mov (.cst (.int .i64 16)))]
def Ac0:List TOp:=[oo 24 (.mov (.tmp 0)),oo 25 (.call 0 2 (.cst (.fn 63)) [(.tmp 24),(.cst (.str [109,97,120]))] [] [.ext 0])]
def Ac1:List TOp:=[oo 4 (.mov (.cst (.int .i64 17)))]
def Xm:Kp:=⟨[],[(0,false),(4,false)],[(.ext 0,false)],[],[]⟩
def X1:Sig:=⟨[(0,some (.ptr (.ext 0) 0)),(4,some (.ty (.int .i64)))],[(.ext 0,(.box [none,none,none]))],[(.int .i64)],[],[]⟩
def Xo:List TOp:=[oo 26 (.mov (.tmp 0)),oo 27 (.nchk (.tmp 26)),oo 28 (.fld 1 (.tmp 27)),oo 29 (.load false 1 (.tmp 28)),oo 30 (.bin false .add (.tmp 29) (.cst (.int .i64 1))),oo 31 (.nchk (.tmp 26)),oo 32 (.fld 1 (.tmp 31)),on (.store 1 (.tmp 32) (.tmp 30))]
def Xp:List TOp:=[oo 33 (.mov (.tmp 0)),ot 34 .str (.lit false 1 [(.cst (.str [40]))]),oo 35 (.call 0 2 (.cst (.fn 56)) [(.tmp 33),(.tmp 34)] [] [.ext 0])]
def Xq:List TOp:=[oo 36 (.mov (.tmp 0)),oo 37 (.call 0 2 (.cst (.fn 30)) [(.tmp 36)] [] [.ext 0]),oo 5 (.mov (.tmp 37))]
def Xr:List TOp:=[oo 38 (.mov (.tmp 0)),ot 39 .str (.lit false 1 [(.cst (.str [44]))]),oo 40 (.call 0 2 (.cst (.fn 56)) [(.tmp 38),(.tmp 39)] [] [.ext 0])]
def Xs:List TOp:=[oo 41 (.mov (.tmp 0)),oo 42 (.call 0 2 (.cst (.fn 30)) [(.tmp 41)] [] [.ext 0]),oo 6 (.mov (.tmp 42))]
def Xt:List TOp:=[oo 43 (.mov (.tmp 0)),ot 44 .str (.lit false 1 [(.cst (.str [41]))]),oo 45 (.call 0 2 (.cst (.fn 56)) [(.tmp 43),(.tmp 44)] [] [.ext 0])]
def Xu:List TOp:=[oo 46 (.mov (.tmp 4)),oo 47 (.mov (.tmp 5)),oo 48 (.mov (.tmp 6)),ot 49 (.sl (.st 4)) (.lit false 1 [(.tmp 47),(.tmp 48)]),oo 50 (.call 0 0 (.cst (.fn 57)) [(.tmp 46),(.tmp 49)] [] []),oo 2 (.mov (.tmp 50))]
def Xv:List TOp:=[oo 52 (.mov (.tmp 0)),oo 53 (.nchk (.tmp 52)),oo 54 (.fld 1 (.tmp 53)),oo 55 (.load false 1 (.tmp 54)),oo 56 (.mov (.tmp 0)),oo 57 (.nchk (.tmp 56)),oo 58 (.fld 0 (.tmp 57)),oo 59 (.load false 1 (.tmp 58)),oo 60 (.len false (.tmp 59)),oo 61 (.bin false .lss (.tmp 55) (.tmp 60)),oo 62 (.mov (.tmp 61)),og 63 62 true .bool (.mov (.tmp 0)),og 64 62 true .bool (.nchk (.tmp 63)),og 65 62 true .bool (.fld 0 (.tmp 64)),og 66 62 true .bool (.load false 1 (.tmp 65)),og 67 62 true .bool (.mov (.tmp 0)),og 68 62 true .bool (.nchk (.tmp 67)),og 69 62 true .bool (.fld 1 (.tmp 68)),og 70 62 true .bool (.load false 1 (.tmp 69)),og 71 62 true .bool (.idx 4 (.tmp 66) (.tmp 70)),og 72 62 true .bool (.fld 0 (.tmp 71)),og 73 62 true .bool (.load false 1 (.tmp 72)),og 74 62 true .bool (.bin false .eql (.tmp 73) (.cst (.int .i64 1))),oo 75 (.pick (.tmp 62) (.tmp 74) (.cst (.bool false))),oo 51 (.mov (.tmp 75))]
def Xw:List TOp:=[oo 76 (.mov (.tmp 0)),oo 77 (.call 0 2 (.cst (.fn 61)) [(.tmp 76),(.cst (.int .i64 1)),(.cst (.bool false))] [] [.ext 0]),oo 7 (.mov (.tmp 77))]
def Xx:List TOp:=[oo 78 (.mov (.tmp 0)),oo 79 (.call 0 2 (.cst (.fn 54)) [(.tmp 78),(.cst (.str [37]))] [] [.ext 0])]
def Xy:List TOp:=[oo 80 (.mov (.tmp 7)),oo 81 (.bin false .add (.tmp 80) (.cst (.str [37]))),oo 7 (.mov (.tmp 81))]
def Xn:Kp:=⟨[],[(7,false)],[(.ext 0,false)],[],[]⟩
def X2:Sig:=⟨[(7,some (.ty .str))],[(.ext 0,(.box [none,none,none]))],[.str],[],[]⟩
def Xz:List TOp:=[oo 82 (.mov (.tmp 7)),ot 83 (.st 4) (.build [.pv (.int .i64 0),.pv (.str [])] [(0,1,(.cst (.int .i64 0))),(1,1,(.tmp 82))]),ot 84 (.st 4) (.lit false 2 [(.tmp 83)]),oo 2 (.mov (.tmp 84))]
def X0:List TOp:=[oo 85 (.mov (.tmp 0)),oo 86 (.call 0 2 (.cst (.fn 61)) [(.tmp 85),(.cst (.int .i64 0)),(.cst (.bool false))] [] [.ext 0]),ot 87 (.st 4) (.build [.pv (.int .i64 0),.pv (.str [])] [(0,1,(.cst (.int .i64 1))),(1,1,(.tmp 86))]),ot 88 (.st 4) (.lit false 2 [(.tmp 87)]),oo 2 (.mov (.tmp 88))]
def Ama:TFd:=⟨1,[(.tmp 2,.bool)],[],(.seq (.ops Acs) (.seq (.pass 0 (.seq (.ops Acu) (.cond (.tmp 8) (.free (.seq (.ops Acv) (.seq (.ops Acw) (.seq (.ops Acx) (.keep Dv .ret))))) (.seq (.ops Acy) (.cond (.tmp 17) (.free (.seq (.ops Acz) (.seq (.seq (.ops Ac0) (.join Xm X1 (.cond (.tmp 25) (.ops Ac1) .skip))) (.seq (.ops Xo) (.seq (.ops Xp) (.seq (.ops Xq) (.seq (.ops Xr) (.seq (.ops Xs) (.seq (.ops Xt) (.seq (.ops Xu) (.keep Dv .ret))))))))))) (.seq (.draw [] Xv) (.cond (.tmp 51) (.free (.seq (.ops Xw) (.seq (.seq (.ops Xx) (.join Xn X2 (.cond (.tmp 79) (.ops Xy) .skip))) (.seq (.ops Xz) (.keep Dv .ret))))) .skip))))))) (.seq (.ops X0) (.keep Dv .ret))))⟩
noncomputable def Ki(fuel:Nat):Ent:=⟨[.ptr (.ext 0) 0],[.st 3],[(.st 3)],⟨(.ty (.sl (.st 4))),[],[some (.st 3)],[(.sl (.st 4)),(.st 3)],[],[]⟩,none,fun p=>parse_reader_primary fuel p⟩
theorem Bx: ∀fuel:Nat,(Dg fuel).ok Tryz.prog 30∧(H0 fuel).ok Tryz.prog 55∧(Ki fuel).ok Tryz.prog 91
 |0=>⟨(fun p r h=>(by have h:none=some r:=h;cases h)),(fun p r h=>(by have h:none=some r:=h;cases h)),(fun p r h=>(by have h:none=some r:=h;cases h))⟩
 |fuel+1=>⟨
  Au hm Tryz.func30 (fd:=Awq) (by kernel_rfl) (Ak (l:=[(54,D4),(55,(H0 fuel)),(30,(Dg fuel)),(56,D3),(57,Q7)]) (y:=[]) ⟨Fc,(Bx fuel).2.1,(Bx fuel).1,Fb,Wp,trivial⟩ trivial) (by kernel_rfl) (fun p=>by kernel_rfl),
  Au hm Tryz.func55 (fd:=Ar7) (by kernel_rfl) (Ak (l:=[(54,D4),(55,(H0 fuel)),(57,Q7),(91,(Ki fuel)),(92,Kh)]) (y:=[]) ⟨Fc,(Bx fuel).2.1,Wp,(Bx fuel).2.2,Zi,trivial⟩ trivial) (by kernel_rfl) (fun p=>by kernel_rfl),
  Au hm Tryz.func91 (fd:=Ama) (by kernel_rfl) (Ak (l:=[(54,D4),(30,(Dg fuel)),(56,D3),(63,Hl),(57,Q7),(61,F2)]) (y:=[]) ⟨Fc,(Bx fuel).1,Fb,I5,Wp,H1,trivial⟩ trivial) (by kernel_rfl) (fun p=>by kernel_rfl)⟩
theorem Qt(fuel:Nat):(Dg fuel).ok Tryz.prog 30:=(Bx fuel).1
def Bds:List TOp:=[oo 2 (.mov (.cst (.int .i64 0)))]
def Bdt:List TOp:=[oo 4 (.mov (.tmp 0)),oo 5 (.bin false .lss (.tmp 4) (.cst (.int .i64 0))),oo 6 (.mov (.tmp 5)),og 7 6 false .bool (.mov (.tmp 0)),og 8 6 false .bool (.bin false .gtr (.tmp 7) (.cst (.int .i64 17))),oo 9 (.pick (.tmp 6) (.cst (.bool true)) (.tmp 8)),oo 3 (.mov (.tmp 9))]
def Bdu:List TOp:=[oo 2 (.mov (.cst (.int .i64 (-1))))]
def Kr:Kp:=⟨[],[(2,false)],[],[],[]⟩
def Bdv:List TOp:=[oo 11 (.mov (.tmp 0)),oo 12 (.bin false .leq (.tmp 11) (.cst (.int .i64 1))),oo 10 (.mov (.tmp 12))]
def Bdw:List TOp:=[oo 2 (.mov (.cst (.int .i64 0)))]
def Bdx:List TOp:=[oo 14 (.mov (.tmp 0)),oo 15 (.bin false .eql (.tmp 14) (.cst (.int .i64 2))),oo 16 (.mov (.tmp 15)),og 17 16 false .bool (.mov (.tmp 0)),og 18 16 false .bool (.bin false .eql (.tmp 17) (.cst (.int .i64 14))),oo 19 (.pick (.tmp 16) (.cst (.bool true)) (.tmp 18)),oo 13 (.mov (.tmp 19))]
def Bdy:List TOp:=[oo 2 (.mov (.cst (.int .i64 1)))]
def Bdz:List TOp:=[oo 21 (.mov (.tmp 0)),oo 22 (.bin false .eql (.tmp 21) (.cst (.int .i64 15))),oo 20 (.mov (.tmp 22))]
def Bd0:List TOp:=[oo 2 (.mov (.cst (.int .i64 3)))]
def A7w:List TOp:=[oo 2 (.mov (.cst (.int .i64 2)))]
def Bl7:TFd:=⟨1,[(.tmp 2,.bool)],[],(.seq (.ops Bds) (.seq (.pass 0 (.seq (.ops Bdt) (.cond (.tmp 3) (.free (.seq (.ops Bdu) (.keep Kr .ret))) (.seq (.ops Bdv) (.cond (.tmp 10) (.free (.seq (.ops Bdw) (.keep Kr .ret))) (.seq (.ops Bdx) (.cond (.tmp 13) (.free (.seq (.ops Bdy) (.keep Kr .ret))) (.seq (.ops Bdz) (.cond (.tmp 20) (.free (.seq (.ops Bd0) (.keep Kr .ret))) .skip))))))))) (.seq (.ops A7w) (.keep Kr .ret))))⟩
def Anp:Ent:=⟨[.ty (.int .i64)],[],[(.int .i64)],⟨(.ty (.int .i64)),[],[],[(.int .i64)],[],[]⟩,none,fun p=>L8 p⟩
theorem Av7:Anp.ok Tryz.prog 68:=Au hm Tryz.func68 (fd:=Bl7) (by kernel_rfl) (Ak (l:=[]) (y:=[]) trivial trivial) (by kernel_rfl) (fun p=>by kernel_rfl)
def Yt:List TOp:=[oo 4 (.mov (.cst (.bool false)))]
def Yu:List TOp:=[oo 5 (.mov (.tmp 0)),oo 6 (.len true (.tmp 5)),oo 7 (.mov (.tmp 1)),oo 8 (.len true (.tmp 7)),oo 9 (.bin false .geq (.tmp 6) (.tmp 8)),oo 10 (.mov (.tmp 9)),og 11 10 true .bool (.mov (.tmp 0)),og 12 10 true .bool (.mov (.tmp 0)),og 13 10 true .bool (.len true (.tmp 12)),og 14 10 true .bool (.mov (.tmp 1)),og 15 10 true .bool (.len true (.tmp 14)),og 16 10 true .bool (.bin false .sub (.tmp 13) (.tmp 15)),og 17 10 true .bool (.slc true 0 (.tmp 11) (some (.tmp 16)) none),og 18 10 true .bool (.mov (.tmp 1)),og 19 10 true .bool (.bin false .eql (.tmp 17) (.tmp 18)),oo 20 (.pick (.tmp 10) (.tmp 19) (.cst (.bool false))),oo 4 (.mov (.tmp 20))]
def Ys:Kp:=⟨[],[(4,false)],[],[],[]⟩
def Aio:TFd:=⟨2,[(.tmp 4,.bool)],[],(.seq (.ops Yt) (.seq (.ops Yu) (.keep Ys .ret)))⟩
def Ge:Ent:=⟨[.ty .str,.ty .str],[],[.str,.str],⟨(.ty .bool),[],[],[.bool],[],[]⟩,none,fun p=>stringslite_HasSuffix p.1 p.2⟩
theorem Ix:Ge.ok Tryz.prog 140:=Au hm Tryz.func140 (fd:=Aio) (by kernel_rfl) (Ak (l:=[]) (y:=[]) trivial trivial) (by kernel_rfl) (fun p=>by kernel_rfl)
def Vo:List TOp:=[oo 4 (.mov (.cst (.str [])))]
def Vp:List TOp:=[oo 5 (.mov (.tmp 0)),oo 6 (.mov (.tmp 1)),oo 7 (.call 0 0 (.cst (.fn 140)) [(.tmp 5),(.tmp 6)] [] [])]
def Vq:List TOp:=[oo 8 (.mov (.tmp 0)),oo 9 (.mov (.tmp 0)),oo 10 (.len true (.tmp 9)),oo 11 (.mov (.tmp 1)),oo 12 (.len true (.tmp 11)),oo 13 (.bin false .sub (.tmp 10) (.tmp 12)),oo 14 (.slc true 0 (.tmp 8) none (some (.tmp 13))),oo 4 (.mov (.tmp 14))]
def Ic:Kp:=⟨[],[(4,false)],[],[],[]⟩
def Vr:List TOp:=[oo 15 (.mov (.tmp 0)),oo 4 (.mov (.tmp 15))]
def Adg:TFd:=⟨2,[(.tmp 4,.bool)],[],(.seq (.ops Vo) (.seq (.seq (.ops Vp) (.cond (.tmp 7) (.free (.seq (.ops Vq) (.keep Ic .ret))) .skip)) (.seq (.ops Vr) (.keep Ic .ret))))⟩
def Iy:Ent:=⟨[.ty .str,.ty .str],[],[.str,.str],⟨(.ty .str),[],[],[.str],[],[]⟩,none,fun p=>stringslite_TrimSuffix p.1 p.2⟩
theorem Vu:Iy.ok Tryz.prog 120:=Au hm Tryz.func120 (fd:=Adg) (by kernel_rfl) (Ak (l:=[(140,Ge)]) (y:=[]) ⟨Ix,trivial⟩ trivial) (by kernel_rfl) (fun p=>by kernel_rfl)
def Amd:List TOp:=[oo 4 (.mov (.cst (.str [])))]
def Ame:List TOp:=[oo 5 (.mov (.tmp 0)),oo 6 (.mov (.tmp 1)),oo 7 (.call 0 0 (.cst (.fn 120)) [(.tmp 5),(.tmp 6)] [] []),oo 4 (.mov (.tmp 7))]
def Amc:Kp:=⟨[],[(4,false)],[],[],[]⟩
def Ar8:TFd:=⟨2,[(.tmp 4,.bool)],[],(.seq (.ops Amd) (.seq (.ops Ame) (.keep Amc .ret)))⟩
def P5:Ent:=⟨[.ty .str,.ty .str],[],[.str,.str],⟨(.ty .str),[],[],[.str],[],[]⟩,none,fun p=>strings_TrimSuffix p.1 p.2⟩
theorem Ami:P5.ok Tryz.prog 106:=Au hm Tryz.func106 (fd:=Ar8) (by kernel_rfl) (Ak (l:=[(120,Iy)]) (y:=[]) ⟨Vu,trivial⟩ trivial) (by kernel_rfl) (fun p=>by kernel_rfl)
def Bcc:List TOp:=[oo 1 (.box (.tmp 0)),oo 2 (.mov (.cst (.bool false)))]
def Bcd:List TOp:=[oo 6 (.fld 3 (.tmp 1)),oo 7 (.load false 1 (.tmp 6)),oo 8 (.bin false .eql (.tmp 7) (.cst (.str [])))]
def Bce:List TOp:=[oo 2 (.mov (.cst (.bool false)))]
def Awd:Kp:=⟨[],[(2,false)],[],[],[]⟩
def Bcf:List TOp:=[oo 10 (.fld 3 (.tmp 1)),oo 11 (.load false 1 (.tmp 10)),oo 12 (.call 0 0 (.cst (.fn 89)) [(.tmp 11)] [] []),oo 9 (.mov (.tmp 12)),oo 13 (.ext 0 (.tmp 9)),oo 14 (.ext 1 (.tmp 9)),oo 15 (.ext 2 (.tmp 9)),oo 3 (.mov (.tmp 13)),oo 4 (.mov (.tmp 14)),oo 5 (.mov (.tmp 15))]
def Bcg:List TOp:=[oo 16 (.mov (.tmp 5)),oo 17 (.bin false .eql (.tmp 16) (.cst (.int .i64 0))),oo 18 (.mov (.tmp 17)),og 19 18 true .bool (.mov (.tmp 3)),og 20 18 true .bool (.fld 0 (.tmp 1)),og 21 18 true .bool (.load false 1 (.tmp 20)),og 22 18 true .bool (.bin false .eql (.tmp 19) (.tmp 21)),oo 23 (.pick (.tmp 18) (.tmp 22) (.cst (.bool false))),oo 24 (.mov (.tmp 23)),og 25 24 true .bool (.mov (.tmp 4)),og 26 24 true .bool (.fld 3 (.tmp 1)),og 27 24 true .bool (.load false 1 (.tmp 26)),og 28 24 true .bool (.len true (.tmp 27)),og 29 24 true .bool (.bin false .eql (.tmp 25) (.tmp 28)),oo 30 (.pick (.tmp 24) (.tmp 29) (.cst (.bool false))),oo 2 (.mov (.tmp 30))]
def Blu:TFd:=⟨1,[(.tmp 2,.bool)],[],(.seq (.ops Bcc) (.seq (.seq (.ops Bcd) (.cond (.tmp 8) (.free (.seq (.ops Bce) (.keep Awd .ret))) .skip)) (.seq (.ops Bcf) (.seq (.ops Bcg) (.keep Awd .ret)))))⟩
noncomputable def Am6:Ent:=⟨[.ty (.st 2)],[],[(.st 2)],⟨(.ty .bool),[],[],[.bool],[],[]⟩,none,fun p=>Za p⟩
theorem Avu:Am6.ok Tryz.prog 103:=Au hm Tryz.func103 (fd:=Blu) (by kernel_rfl) (Ak (l:=[(89,Ats)]) (y:=[]) ⟨Ay7,trivial⟩ trivial) (by kernel_rfl) (fun p=>by kernel_rfl)
def Azz:List TOp:=[oo 2 (.mov (.cst (.bool false)))]
def Az0:List TOp:=[oo 3 (.mov (.tmp 0)),ot 4 (.st 2) (.build [.pv (.int .i64 0),.pv (.int .i64 0),.pv (.int .i64 0),.pv (.str [])] [(0,1,(.cst (.int .i64 1))),(3,1,(.tmp 3))]),oo 5 (.call 0 0 (.cst (.fn 103)) [(.tmp 4)] [] []),oo 2 (.mov (.tmp 5))]
def Azy:Kp:=⟨[],[(2,false)],[],[],[]⟩
def A8j:TFd:=⟨1,[(.tmp 2,.bool)],[],(.seq (.ops Azz) (.seq (.ops Az0) (.keep Azy .ret)))⟩
noncomputable def Kg:Ent:=⟨[.ty .str],[],[.str],⟨(.ty .bool),[],[],[.bool],[],[]⟩,none,fun p=>Fa p⟩
theorem Qc:Kg.ok Tryz.prog 75:=Au hm Tryz.func75 (fd:=A8j) (by kernel_rfl) (Ak (l:=[(103,Am6)]) (y:=[]) ⟨Avu,trivial⟩ trivial) (by kernel_rfl) (fun p=>by kernel_rfl)
def A8u:List TOp:=[oo 4 (.mov (.cst (.bool false)))]
def A8v:List TOp:=[oo 5 (.mov (.tmp 0)),ot 6 (.st 2) (.build [.pv (.int .i64 0),.pv (.int .i64 0),.pv (.int .i64 0),.pv (.str [])] [(0,1,(.cst (.int .i64 0))),(3,1,(.tmp 5))]),oo 7 (.call 0 0 (.cst (.fn 103)) [(.tmp 6)] [] []),oo 8 (.mov (.tmp 7)),og 9 8 true .bool (.mov (.tmp 0)),og 10 8 true .bool (.mov (.tmp 1)),og 11 8 true .bool (.call 0 0 (.cst (.fn 96)) [(.tmp 9),(.tmp 10)] [] []),og 12 8 true .bool (.un .not (.tmp 11)),oo 13 (.pick (.tmp 8) (.tmp 12) (.cst (.bool false))),oo 4 (.mov (.tmp 13))]
def A8t:Kp:=⟨[],[(4,false)],[],[],[]⟩
def Bie:TFd:=⟨2,[(.tmp 4,.bool)],[],(.seq (.ops A8u) (.seq (.ops A8v) (.keep A8t .ret)))⟩
noncomputable def Ael:Ent:=⟨[.ty .str,.ty .bool],[],[.str,.bool],⟨(.ty .bool),[],[],[.bool],[],[]⟩,none,fun p=>L9 p.1 p.2⟩
theorem Asy:Ael.ok Tryz.prog 74:=Au hm Tryz.func74 (fd:=Bie) (by kernel_rfl) (Ak (l:=[(103,Am6),(96,Anq)]) (y:=[]) ⟨Avu,Av9,trivial⟩ trivial) (by kernel_rfl) (fun p=>by kernel_rfl)
def A7x:List TOp:=[oo 1 (.box (.tmp 0)),oo 2 (.mov (.cst (.bool false)))]
def A7y:List TOp:=[oo 3 (.fld 0 (.tmp 1)),oo 4 (.load false 1 (.tmp 3))]
def A7z:List TOp:=[oo 6 (.bin false .eql (.tmp 4) (.cst (.int .i64 0))),oo 5 (.mov (.tmp 6))]
def A70:List TOp:=[oo 7 (.fld 1 (.tmp 1)),oo 8 (.load false 1 (.tmp 7)),oo 9 (.call 0 0 (.cst (.fn 106)) [(.tmp 8),(.cst (.str [37]))] [] []),oo 10 (.call 0 0 (.cst (.fn 75)) [(.tmp 9)] [] []),oo 2 (.mov (.tmp 10))]
def Xl:Kp:=⟨[],[(2,false)],[],[],[]⟩
def A71:List TOp:=[oo 12 (.bin false .eql (.tmp 4) (.cst (.int .i64 1))),oo 11 (.mov (.tmp 12))]
def A72:List TOp:=[oo 13 (.fld 1 (.tmp 1)),oo 14 (.load false 1 (.tmp 13)),oo 15 (.call 0 0 (.cst (.fn 74)) [(.tmp 14),(.cst (.bool false))] [] []),oo 2 (.mov (.tmp 15))]
def A73:List TOp:=[oo 16 (.fld 1 (.tmp 1)),oo 17 (.load false 1 (.tmp 16)),oo 18 (.bin false .eql (.tmp 17) (.cst (.str []))),oo 2 (.mov (.tmp 18))]
def Bib:TFd:=⟨1,[(.tmp 2,.bool)],[],(.seq (.ops A7x) (.seq (.seq (.ops A7y) (.pass 0 (.seq (.ops A7z) (.cond (.tmp 5) (.free (.seq (.ops A70) (.keep Xl .ret))) (.seq (.ops A71) (.cond (.tmp 11) (.free (.seq (.ops A72) (.keep Xl .ret))) .skip)))))) (.seq (.ops A73) (.keep Xl .ret))))⟩
noncomputable def Av8:Ent:=⟨[.ty (.st 4)],[],[(.st 4)],⟨(.ty .bool),[],[],[.bool],[],[]⟩,none,fun p=>Aei p⟩
theorem A6p:Av8.ok Tryz.prog 81:=Au hm Tryz.func81 (fd:=Bib) (by kernel_rfl) (Ak (l:=[(106,P5),(75,Kg),(74,Ael)]) (y:=[]) ⟨Ami,Qc,Asy,trivial⟩ trivial) (by kernel_rfl) (fun p=>by kernel_rfl)
def A8k:List TOp:=[oo 2 (.mov .nils),oo 3 (.mov (.cst (.int .i64 0)))]
def A8l:List TOp:=[oo 8 (.mov (.tmp 0)),oo 9 (.len false (.tmp 8)),oo 10 (.bin false .eql (.tmp 9) (.cst (.int .i64 0))),oo 11 (.mov (.tmp 10)),og 12 11 false .bool (.mov (.tmp 0)),og 13 11 false .bool (.idx 2 (.tmp 12) (.cst (.int .i64 0))),og 14 11 false .bool (.fld 0 (.tmp 13)),og 15 11 false .bool (.load false 1 (.tmp 14)),og 16 11 false .bool (.call 0 0 (.cst (.fn 68)) [(.tmp 15)] [] []),og 17 11 false .bool (.bin false .lss (.tmp 16) (.cst (.int .i64 0))),oo 18 (.pick (.tmp 11) (.cst (.bool true)) (.tmp 17)),oo 19 (.mov (.tmp 18)),og 20 19 false .bool (.mov (.tmp 0)),og 21 19 false .bool (.idx 2 (.tmp 20) (.cst (.int .i64 0))),og 22 19 false (.st 4) (.load true 2 (.tmp 21)),og 23 19 false .bool (.call 0 0 (.cst (.fn 81)) [(.tmp 22)] [] []),og 24 19 false .bool (.un .not (.tmp 23)),oo 25 (.pick (.tmp 19) (.cst (.bool true)) (.tmp 24))]
def A8m:List TOp:=[oo 2 (.mov .nils),oo 3 (.mov (.cst (.int .i64 0)))]
def Ym:Kp:=⟨[],[(2,true),(3,false)],[],[],[]⟩
def A8n:List TOp:=[oo 26 (.mov (.tmp 0)),ot 27 (.st 4) (.slc false 2 (.tmp 26) (some (.cst (.int .i64 1))) none),oo 4 (.mov (.tmp 27)),oo 5 (.mov (.cst (.int .i64 0)))]
def A8o:List TOp:=[oo 28 (.mov (.tmp 0)),oo 29 (.idx 2 (.tmp 28) (.cst (.int .i64 0))),oo 30 (.fld 0 (.tmp 29)),oo 31 (.load false 1 (.tmp 30)),oo 32 (.call 0 0 (.cst (.fn 68)) [(.tmp 31)] [] []),oo 33 (.mov (.cst (.int .i64 0)))]
def A8p:List TOp:=[oo 34 (.bin false .lss (.tmp 33) (.tmp 32))]
def A8q:List TOp:=[oo 36 (.mov (.tmp 4)),oo 37 (.call 0 0 (.cst (.fn 46)) [(.tmp 36)] [] []),oo 35 (.mov (.tmp 37)),oo 38 (.ext 0 (.tmp 35)),oo 39 (.ext 1 (.tmp 35)),oo 6 (.mov (.tmp 38)),oo 7 (.mov (.tmp 39))]
def A8r:List TOp:=[oo 40 (.mov (.tmp 7)),oo 41 (.bin false .eql (.tmp 40) (.cst (.int .i64 0)))]
def A8s:List TOp:=[oo 2 (.mov .nils),oo 3 (.mov (.cst (.int .i64 0)))]
def A4t:List TOp:=[oo 42 (.mov (.tmp 6)),oo 43 (.mov (.tmp 5)),oo 44 (.mov (.tmp 7)),oo 45 (.mm true (.tmp 43) [(.tmp 44)]),oo 4 (.mov (.tmp 42)),oo 5 (.mov (.tmp 45))]
def A4u:List TOp:=[oo 46 (.bin false .add (.tmp 33) (.cst (.int .i64 1))),oo 33 (.mov (.tmp 46))]
def A4s:DC:=(.seq (.ops A8p) (.seq (.cond (.tmp 34) .skip (.exit 0)) (.seq (.pass 1 (.seq (.ops A8q) (.seq (.seq (.ops A8r) (.cond (.tmp 41) (.free (.seq (.ops A8s) (.keep Ym .ret))) .skip)) (.ops A4t)))) (.ops A4u))))
def A4q:Kp:=⟨[],[(4,false),(5,false),(32,false),(33,false)],[],[],[]⟩
def A4w:Sig:=⟨[(4,some (.ty (.sl (.st 4)))),(5,some (.ty (.int .i64))),(32,none),(33,some (.ty (.int .i64)))],[],[(.sl (.st 4)),(.int .i64),(.int .i64)],[],[]⟩
def A4r:Kp:=⟨[],[(4,false),(5,false)],[],[],[]⟩
def A4x:Sig:=⟨[(4,some (.ty (.sl (.st 4)))),(5,some (.ty (.int .i64)))],[],[(.sl (.st 4)),(.int .i64)],[],[]⟩
def A4v:List TOp:=[oo 47 (.mov (.tmp 4)),oo 48 (.mov (.tmp 5)),oo 49 (.bin false .add (.tmp 48) (.cst (.int .i64 1))),oo 2 (.mov (.tmp 47)),oo 3 (.mov (.tmp 49))]
def Bid:TFd:=⟨1,[(.tmp 2,.bool),(.tmp 3,.bool)],[],(.seq (.ops A8k) (.seq (.seq (.ops A8l) (.cond (.tmp 25) (.free (.seq (.ops A8m) (.keep Ym .ret))) .skip)) (.seq (.ops A8n) (.seq (.seq (.ops A8o) (.joinO A4r A4x (.block 0 (.loop [4,5,32,33] [] A4q A4w A4s)))) (.seq (.ops A4v) (.keep Ym .ret))))))⟩
noncomputable def Aek(fuel:Nat):Ent:=⟨[.ty (.sl (.st 4))],[],[(.sl (.st 4))],⟨(.tup [(.ty (.sl (.st 4))),(.ty (.int .i64))]),[],[],[(.sl (.st 4)),(.int .i64)],[],[]⟩,none,fun p=>I6 fuel p⟩
theorem Asx: ∀fuel:Nat,(Aek fuel).ok Tryz.prog 46
 |0=>fun p r h=>by have h:none=some r:=h;cases h
 |fuel+1=>Au hm Tryz.func46 (fd:=Bid) (by kernel_rfl) (Ak (l:=[(68,Anp),(81,Av8),(46,(Aek fuel))]) (y:=[]) ⟨Av7,A6p,(Asx fuel),trivial⟩ trivial) (by kernel_rfl) (fun p=>by kernel_rfl)
def A3n:List TOp:=[oo 2 (.mov (.cst (.int .i64 0)))]
def A3o:List TOp:=[oo 5 (.mov (.tmp 0)),oo 6 (.len false (.tmp 5)),oo 7 (.bin false .gtr (.tmp 6) (.cst (.int .i64 200)))]
def A3p:List TOp:=[oo 2 (.mov (.cst (.int .i64 0)))]
def Tl:Kp:=⟨[],[(2,false)],[],[],[]⟩
def A3q:List TOp:=[oo 9 (.mov (.tmp 0)),oo 10 (.call 0 0 (.cst (.fn 46)) [(.tmp 9)] [] []),oo 8 (.mov (.tmp 10)),oo 11 (.ext 0 (.tmp 8)),oo 12 (.ext 1 (.tmp 8)),oo 3 (.mov (.tmp 11)),oo 4 (.mov (.tmp 12))]
def A3r:List TOp:=[oo 13 (.mov (.tmp 3)),oo 14 (.len false (.tmp 13)),oo 15 (.bin false .gtr (.tmp 14) (.cst (.int .i64 0))),oo 16 (.mov (.tmp 15)),og 17 16 false .bool (.mov (.tmp 4)),og 18 16 false .bool (.bin false .gtr (.tmp 17) (.cst (.int .i64 24))),oo 19 (.pick (.tmp 16) (.cst (.bool true)) (.tmp 18))]
def A3s:List TOp:=[oo 2 (.mov (.cst (.int .i64 0)))]
def A3t:List TOp:=[oo 20 (.mov (.tmp 4)),oo 2 (.mov (.tmp 20))]
def Bdo:TFd:=⟨1,[(.tmp 2,.bool)],[],(.seq (.ops A3n) (.seq (.seq (.ops A3o) (.cond (.tmp 7) (.free (.seq (.ops A3p) (.keep Tl .ret))) .skip)) (.seq (.ops A3q) (.seq (.seq (.ops A3r) (.cond (.tmp 19) (.free (.seq (.ops A3s) (.keep Tl .ret))) .skip)) (.seq (.ops A3t) (.keep Tl .ret))))))⟩
noncomputable def Wn:Ent:=⟨[.ty (.sl (.st 4))],[],[(.sl (.st 4))],⟨(.ty (.int .i64)),[],[],[(.int .i64)],[],[]⟩,none,fun p=>Ot p⟩
theorem Ann:Wn.ok Tryz.prog 21:=Au hm Tryz.func21 (fd:=Bdo) (by kernel_rfl) (Ak (l:=[(46,(Aek 100000))]) (y:=[]) ⟨(Asx 100000),trivial⟩ trivial) (by kernel_rfl) (fun p=>by kernel_rfl)
def A30:List TOp:=[oo 2 (.mov (.cst (.bool false)))]
def A31:List TOp:=[oo 3 (.mov (.tmp 0)),oo 4 (.call 0 0 (.cst (.fn 21)) [(.tmp 3)] [] []),oo 5 (.bin false .gtr (.tmp 4) (.cst (.int .i64 0))),oo 2 (.mov (.tmp 5))]
def A3z:Kp:=⟨[],[(2,false)],[],[],[]⟩
def Bdq:TFd:=⟨1,[(.tmp 2,.bool)],[],(.seq (.ops A30) (.seq (.ops A31) (.keep A3z .ret)))⟩
noncomputable def G9:Ent:=⟨[.ty (.sl (.st 4))],[],[(.sl (.st 4))],⟨(.ty .bool),[],[],[.bool],[],[]⟩,none,fun p=>Ee p⟩
theorem Hz:G9.ok Tryz.prog 23:=Au hm Tryz.func23 (fd:=Bdq) (by kernel_rfl) (Ak (l:=[(21,Wn)]) (y:=[]) ⟨Ann,trivial⟩ trivial) (by kernel_rfl) (fun p=>by kernel_rfl)
def Ary:List TOp:=[oo 6 (.mov (.cst (.int .i64 0))),oo 7 (.mov (.cst (.int .i64 0))),oo 8 (.mov (.cst (.int .i64 0)))]
def Arz:List TOp:=[oo 13 (.mov (.tmp 0)),oo 14 (.nchk (.tmp 13)),oo 15 (.fld 1 (.tmp 14)),oo 16 (.load false 1 (.tmp 15)),oo 17 (.mov (.tmp 0)),oo 18 (.nchk (.tmp 17)),oo 19 (.fld 0 (.tmp 18)),oo 20 (.load false 1 (.tmp 19)),oo 21 (.len false (.tmp 20)),oo 22 (.bin false .lss (.tmp 16) (.tmp 21)),oo 12 (.mov (.tmp 22))]
def Ar0:List TOp:=[oo 23 (.mov (.tmp 0)),oo 24 (.nchk (.tmp 23)),oo 25 (.fld 0 (.tmp 24)),oo 26 (.load false 1 (.tmp 25)),oo 27 (.mov (.tmp 0)),oo 28 (.nchk (.tmp 27)),oo 29 (.fld 1 (.tmp 28)),oo 30 (.load false 1 (.tmp 29)),oo 31 (.idx 4 (.tmp 26) (.tmp 30)),oo 32 (.fld 1 (.tmp 31)),oo 33 (.load false 1 (.tmp 32)),oo 34 (.mov (.tmp 0)),oo 35 (.nchk (.tmp 34)),oo 36 (.fld 0 (.tmp 35)),oo 37 (.load false 1 (.tmp 36)),oo 38 (.mov (.tmp 0)),oo 39 (.nchk (.tmp 38)),oo 40 (.fld 1 (.tmp 39)),oo 41 (.load false 1 (.tmp 40)),oo 42 (.idx 4 (.tmp 37) (.tmp 41)),oo 43 (.fld 2 (.tmp 42)),oo 44 (.load false 1 (.tmp 43)),oo 6 (.mov (.tmp 33)),oo 7 (.mov (.tmp 44)),oo 8 (.mov (.cst (.int .i64 14)))]
def F3:Kp:=⟨[],[(6,false),(7,false),(8,false)],[(.ext 0,false)],[],[]⟩
def Ar1:List TOp:=[oo 46 (.mov (.tmp 0)),oo 47 (.nchk (.tmp 46)),oo 48 (.fld 2 (.tmp 47)),oo 49 (.load false 1 (.tmp 48)),oo 45 (.mov (.tmp 49))]
def Ar2:List TOp:=[oo 51 (.mov (.tmp 1)),oo 52 (.mov (.tmp 1)),oo 53 (.len true (.tmp 52)),oo 54 (.call 0 0 (.cst (.fn 53)) [(.tmp 51),(.tmp 53)] [] []),oo 50 (.mov (.tmp 54)),oo 55 (.ext 0 (.tmp 50)),oo 56 (.ext 1 (.tmp 50)),oo 57 (.ext 2 (.tmp 50)),oo 9 (.mov (.tmp 55)),oo 10 (.mov (.tmp 56)),oo 11 (.mov (.tmp 57))]
def Ar3:List TOp:=[oo 58 (.mov (.tmp 9)),oo 59 (.mov (.tmp 10)),oo 6 (.mov (.tmp 58)),oo 7 (.mov (.tmp 59)),oo 8 (.mov (.cst (.int .i64 14)))]
def Ar4:List TOp:=[oo 61 (.mov (.tmp 2)),oo 62 (.un .not (.tmp 61)),oo 60 (.mov (.tmp 62))]
def Ar5:List TOp:=[oo 6 (.mov (.cst (.int .i64 1))),oo 7 (.mov (.cst (.int .i64 1))),oo 8 (.mov (.cst (.int .i64 4)))]
def Ar6:List TOp:=[oo 6 (.mov (.cst (.int .i64 0))),oo 7 (.mov (.cst (.int .i64 0))),oo 8 (.mov (.cst (.int .i64 0)))]
def Awr:TFd:=⟨3,[(.tmp 6,.bool),(.tmp 7,.bool),(.tmp 8,.bool)],[],(.seq (.ops Ary) (.seq (.pass 0 (.seq (.draw [] Arz) (.cond (.tmp 12) (.free (.seq (.draw [] Ar0) (.keep F3 .ret))) (.seq (.ops Ar1) (.cond (.tmp 45) (.free (.seq (.ops Ar2) (.seq (.ops Ar3) (.keep F3 .ret)))) (.seq (.ops Ar4) (.cond (.tmp 60) (.free (.seq (.ops Ar5) (.keep F3 .ret))) .skip))))))) (.seq (.ops Ar6) (.keep F3 .ret))))⟩
def I4:Ent:=⟨[.ptr (.ext 0) 0,.ty .str,.ty .bool],[.st 3],[.str,.bool,(.st 3)],⟨(.tup [(.ty (.int .i64)),(.ty (.int .i64)),(.ty (.int .i64))]),[],[some .same],[(.int .i64),(.int .i64),(.int .i64)],[],[]⟩,none,fun p=>F9 p.1 p.2.1 p.2.2⟩
theorem Qu:I4.ok Tryz.prog 31:=Au hm Tryz.func31 (fd:=Awr) (by kernel_rfl) (Ak (l:=[(53,Am5)]) (y:=[]) ⟨Avt,trivial⟩ trivial) (by kernel_rfl) (fun p=>by kernel_rfl)
def A7n:List TOp:=[oo 2 (.mov .nils),oo 3 (.mov (.cst (.int .i64 0))),oo 4 (.mov (.cst (.int .i64 0))),oo 5 (.mov (.cst (.int .i64 0)))]
def A7o:List TOp:=[oo 15 (.mov (.tmp 0)),oo 16 (.call 1 0 (.cst (.fn 29)) [(.tmp 15)] [] []),oo 14 (.mov (.tmp 16)),oo 17 (.ext 0 (.tmp 14)),oo 18 (.ext 1 (.tmp 14)),oo 19 (.ext 2 (.tmp 14)),oo 20 (.ext 3 (.tmp 14)),oo 6 (.mov (.tmp 17)),oo 7 (.mov (.tmp 18)),oo 8 (.mov (.tmp 19)),oo 9 (.mov (.tmp 20))]
def A7p:List TOp:=[oo 21 (.mov (.tmp 9)),oo 22 (.bin false .neq (.tmp 21) (.cst (.int .i64 0)))]
def A7q:List TOp:=[oo 23 (.mov (.tmp 7)),oo 24 (.mov (.tmp 8)),oo 25 (.mov (.tmp 9)),oo 2 (.mov .nils),oo 3 (.mov (.tmp 23)),oo 4 (.mov (.tmp 24)),oo 5 (.mov (.tmp 25))]
def Xk:Kp:=⟨[],[(2,true),(3,false),(4,false),(5,false)],[],[],[]⟩
def A7r:List TOp:=[oo 26 (.mov (.tmp 6)),oo 27 (.call 0 2 (.cst (.fn 30)) [(.tmp 26)] [] [.loc 16 0]),oo 10 (.mov (.tmp 27))]
def A7s:List TOp:=[oo 29 (.mov (.tmp 6)),oo 30 (.mov (.tmp 0)),oo 31 (.mov (.tmp 10)),oo 32 (.call 0 0 (.cst (.fn 23)) [(.tmp 31)] [] []),oo 33 (.call 0 2 (.cst (.fn 31)) [(.tmp 29),(.tmp 30),(.tmp 32)] [] [.loc 16 0]),oo 28 (.mov (.tmp 33)),oo 34 (.ext 0 (.tmp 28)),oo 35 (.ext 1 (.tmp 28)),oo 36 (.ext 2 (.tmp 28)),oo 11 (.mov (.tmp 34)),oo 12 (.mov (.tmp 35)),oo 13 (.mov (.tmp 36))]
def A7t:List TOp:=[oo 37 (.mov (.tmp 13)),oo 38 (.bin false .neq (.tmp 37) (.cst (.int .i64 0)))]
def A7u:List TOp:=[oo 39 (.mov (.tmp 11)),oo 40 (.mov (.tmp 12)),oo 41 (.mov (.tmp 13)),oo 2 (.mov .nils),oo 3 (.mov (.tmp 39)),oo 4 (.mov (.tmp 40)),oo 5 (.mov (.tmp 41))]
def A7v:List TOp:=[oo 42 (.mov (.tmp 10)),oo 2 (.mov (.tmp 42)),oo 3 (.mov (.cst (.int .i64 0))),oo 4 (.mov (.cst (.int .i64 0))),oo 5 (.mov (.cst (.int .i64 0)))]
def Bia:TFd:=⟨1,[(.tmp 2,.bool),(.tmp 3,.bool),(.tmp 4,.bool),(.tmp 5,.bool)],[],(.seq (.ops A7n) (.seq (.ops A7o) (.seq (.seq (.ops A7p) (.cond (.tmp 22) (.free (.seq (.ops A7q) (.keep Xk .ret))) .skip)) (.seq (.ops A7r) (.seq (.seq (.ops A7s) (.seq (.ops A7t) (.cond (.tmp 38) (.free (.seq (.ops A7u) (.keep Xk .ret))) .skip))) (.seq (.ops A7v) (.keep Xk .ret)))))))⟩
noncomputable def Av6:Ent:=⟨[.ty .str],[],[.str],⟨(.tup [(.ty (.sl (.st 4))),(.ty (.int .i64)),(.ty (.int .i64)),(.ty (.int .i64))]),[],[],[(.sl (.st 4)),(.int .i64),(.int .i64),(.int .i64)],[],[]⟩,none,fun p=>Em p⟩
theorem A6o:Av6.ok Tryz.prog 9:=Au hm Tryz.func9 (fd:=Bia) (by kernel_rfl) (Ak (l:=[(29,Wo),(30,(Dg 100000)),(23,G9),(31,I4)]) (y:=[]) ⟨Ano,(Qt 100000),Hz,Qu,trivial⟩ trivial) (by kernel_rfl) (fun p=>by kernel_rfl)
def Asv:Ent:=⟨[.ty (.int .i64)],[],[.int .i64],⟨(.tup [(.ty (.int .i64)),(.ty .str),(.ty (.int .i64)),(.ty (.int .i64))]),[],[],[(.int .i64),.str,(.int .i64),(.int .i64)],[],[]⟩,none,fun p=>Anr p⟩
theorem Ax3:Asv.ok Tryz.prog 67:=fun p r h=>by
 have h:some (placeOf p)=some r:=h
 cases h
 exact A23 (es:=List.map (Bzb Br3 As.pv) (B4.map fun p=>(p.1,(⟨p.2.1,p.2.2⟩:As)))) (by kernel_rfl) (Ant () _ (by kernel_rfl))
def Yo:List TOp:=[oo 4 (.mov (.cst (.str []))),oo 5 (.mov (.cst (.bool false)))]
def Yp:List TOp:=[oo 6 (.mov (.tmp 0)),oo 7 (.mov (.tmp 1)),oo 8 (.call 0 0 (.cst (.fn 140)) [(.tmp 6),(.tmp 7)] [] []),oo 9 (.un .not (.tmp 8))]
def Yq:List TOp:=[oo 10 (.mov (.tmp 0)),oo 4 (.mov (.tmp 10)),oo 5 (.mov (.cst (.bool false)))]
def Ir:Kp:=⟨[],[(4,false),(5,false)],[],[],[]⟩
def Yr:List TOp:=[oo 11 (.mov (.tmp 0)),oo 12 (.mov (.tmp 0)),oo 13 (.len true (.tmp 12)),oo 14 (.mov (.tmp 1)),oo 15 (.len true (.tmp 14)),oo 16 (.bin false .sub (.tmp 13) (.tmp 15)),oo 17 (.slc true 0 (.tmp 11) none (some (.tmp 16))),oo 4 (.mov (.tmp 17)),oo 5 (.mov (.cst (.bool true)))]
def Ain:TFd:=⟨2,[(.tmp 4,.bool),(.tmp 5,.bool)],[],(.seq (.ops Yo) (.seq (.seq (.ops Yp) (.cond (.tmp 9) (.free (.seq (.ops Yq) (.keep Ir .ret))) .skip)) (.seq (.ops Yr) (.keep Ir .ret))))⟩
def Ju:Ent:=⟨[.ty .str,.ty .str],[],[.str,.str],⟨(.tup [(.ty .str),(.ty .bool)]),[],[],[.str,.bool],[],[]⟩,none,fun p=>stringslite_CutSuffix p.1 p.2⟩
theorem Yw:Ju.ok Tryz.prog 117:=Au hm Tryz.func117 (fd:=Ain) (by kernel_rfl) (Ak (l:=[(140,Ge)]) (y:=[]) ⟨Ix,trivial⟩ trivial) (by kernel_rfl) (fun p=>by kernel_rfl)
def Apu:List TOp:=[oo 4 (.mov (.cst (.str []))),oo 5 (.mov (.cst (.bool false)))]
def Apv:List TOp:=[oo 6 (.mov (.tmp 0)),oo 7 (.mov (.tmp 1)),oo 8 (.call 0 0 (.cst (.fn 117)) [(.tmp 6),(.tmp 7)] [] []),oo 9 (.ext 0 (.tmp 8)),oo 10 (.ext 1 (.tmp 8)),oo 4 (.mov (.tmp 9)),oo 5 (.mov (.tmp 10))]
def Apt:Kp:=⟨[],[(4,false),(5,false)],[],[],[]⟩
def Aux:TFd:=⟨2,[(.tmp 4,.bool),(.tmp 5,.bool)],[],(.seq (.ops Apu) (.seq (.ops Apv) (.keep Apt .ret)))⟩
def Qx:Ent:=⟨[.ty .str,.ty .str],[],[.str,.str],⟨(.tup [(.ty .str),(.ty .bool)]),[],[],[.str,.bool],[],[]⟩,none,fun p=>strings_CutSuffix p.1 p.2⟩
theorem Apz:Qx.ok Tryz.prog 99:=Au hm Tryz.func99 (fd:=Aux) (by kernel_rfl) (Ak (l:=[(117,Ju)]) (y:=[]) ⟨Yw,trivial⟩ trivial) (by kernel_rfl) (fun p=>by kernel_rfl)
def Adi:Ent:=⟨[.nils,.ty (.int .i64)],[],[(.int .i64)],⟨(.own (.res 0)),[some (.row .str)],[],[(.sl .str)],[],[]⟩,none,fun p=>C9 (List UInt8) 16 p⟩
theorem Ar9:Adi.ok Tryz.prog 100:=fun p r h=>by
 obtain⟨e1,e2⟩:=Adk (show C9 (List UInt8) 16 p=some r from h)
 subst e1
 exact Aw0 e2
def M8:List TOp:=[oo 2 (.mov .nils)]
def M9:List TOp:=[oo 3 (.mov (.cst (.int .i64 0)))]
def Na:List TOp:=[oo 9 (.mov (.tmp 0)),oo 10 (.len false (.tmp 9)),oo 11 (.mov (.cst (.int .i64 0)))]
def Nb:List TOp:=[oo 12 (.bin false .lss (.tmp 11) (.tmp 10))]
def Nc:List TOp:=[oo 13 (.idx 1 (.tmp 9) (.tmp 11)),oo 14 (.load false 1 (.tmp 13)),oo 5 (.mov (.tmp 14))]
def Nf:List TOp:=[oo 15 (.mov (.tmp 3)),oo 16 (.mov (.tmp 5)),oo 17 (.len false (.tmp 16)),oo 18 (.bin false .add (.tmp 15) (.tmp 17)),oo 3 (.mov (.tmp 18))]
def Ng:List TOp:=[oo 19 (.mov (.tmp 3)),oo 20 (.bin false .lss (.tmp 19) (.cst (.int .i64 0)))]
def Gc:Kp:=⟨[],[(0,false),(3,false),(9,false),(10,false),(11,false)],[],[],[]⟩
def Ni:Sig:=⟨[(0,none),(3,none),(9,none),(10,none),(11,none)],[],[],[],[]⟩
def Nh:List TOp:=[oo 22 (.bin false .add (.tmp 11) (.cst (.int .i64 1))),oo 11 (.mov (.tmp 22))]
def Le:DC:=(.seq (.ops Nb) (.seq (.cond (.tmp 12) .skip (.exit 0)) (.seq (.pass 1 (.seq (.ops Nc) (.seq (.ops Nf) (.seq (.ops Ng) (.join Gc Ni (.cond (.tmp 20) .stuck .skip)))))) (.ops Nh))))
def Ln:Sig:=⟨[(0,none),(3,some (.ty (.int .i64))),(9,none),(10,none),(11,some (.ty (.int .i64)))],[],[(.int .i64),(.int .i64)],[],[]⟩
def La:Kp:=⟨[],[(0,false),(3,false)],[],[],[]⟩
def Lo:Sig:=⟨[(0,none),(3,some (.ty (.int .i64)))],[],[(.int .i64)],[],[]⟩
def Lg:List TOp:=[oo 23 (.mov (.tmp 3)),oo 24 (.call 1 3 (.cst (.fn 100)) [.nils,(.tmp 23)] [] []),oo 6 (.mov (.tmp 24))]
def Lh:List TOp:=[oo 25 (.mov (.tmp 0)),oo 26 (.len false (.tmp 25)),oo 27 (.mov (.cst (.int .i64 0)))]
def Li:List TOp:=[oo 28 (.bin false .lss (.tmp 27) (.tmp 26))]
def Lj:List TOp:=[oo 29 (.idx 1 (.tmp 25) (.tmp 27)),oo 30 (.load false 1 (.tmp 29)),oo 8 (.mov (.tmp 30))]
def Lk:List TOp:=[oo 31 (.mov (.tmp 6)),oo 32 (.mov (.tmp 8)),ot 33 .str (.append 24 1 16 (.tmp 31) (.tmp 32)),oo 6 (.mov (.tmp 33))]
def Ll:List TOp:=[oo 34 (.bin false .add (.tmp 27) (.cst (.int .i64 1))),oo 27 (.mov (.tmp 34))]
def Lf:DC:=(.seq (.ops Li) (.seq (.cond (.tmp 28) .skip (.exit 2)) (.seq (.pass 3 (.seq (.ops Lj) (.ops Lk))) (.ops Ll))))
def Lb:Kp:=⟨[],[(6,false),(25,false),(26,false),(27,false)],[(.loc 24 0,false)],[],[]⟩
def Lq:Sig:=⟨[(6,some (.own (.loc 24 0))),(25,none),(26,none),(27,some (.ty (.int .i64)))],[(.loc 24 0,(.row .str))],[(.int .i64),(.sl .str)],[],[]⟩
def Lc:Kp:=⟨[.loc 24 0],[(6,true)],[],[],[]⟩
def Lr:Sig:=⟨[(6,some (.ty (.sl .str)))],[],[(.sl .str)],[],[]⟩
def Lm:List TOp:=[oo 35 (.mov (.tmp 6)),oo 2 (.mov (.tmp 35))]
def Ld:Kp:=⟨[],[(2,false)],[],[],[]⟩
def Qm:TFd:=⟨1,[(.tmp 2,.bool)],[],(.seq (.ops M8) (.seq (.ops M9) (.seq (.seq (.ops Na) (.join La Lo (.block 0 (.loop [0,3,9,10,11] [] Gc Ln Le)))) (.seq (.ops Lg) (.seq (.seq (.ops Lh) (.join Lc Lr (.block 2 (.loop [6,25,26,27] [] Lb Lq Lf)))) (.seq (.ops Lm) (.keep Ld .ret)))))))⟩
noncomputable def Dr:Ent:=⟨[.ty (.sl (.sl .str))],[],[(.sl (.sl .str))],⟨(.ty (.sl .str)),[],[],[(.sl .str)],[],[]⟩,none,fun p=>Ao p⟩
theorem Gd:Dr.ok Tryz.prog 70:=Au hm Tryz.func70 (fd:=Qm) (by kernel_rfl) (Ak (l:=[(100,Adi)]) (y:=[]) ⟨Ar9,trivial⟩ trivial) (by kernel_rfl) (fun p=>by kernel_rfl)
def A4y:List TOp:=[oo 3 (.box (.tmp 0)),oo 6 (.mov .nils)]
def A4z:List TOp:=[oo 10 (.fld 0 (.tmp 3)),oo 11 (.load false 1 (.tmp 10))]
def A40:List TOp:=[oo 13 (.bin false .eql (.tmp 11) (.cst (.int .i64 0))),oo 12 (.mov (.tmp 13))]
def A41:List TOp:=[oo 15 (.fld 1 (.tmp 3)),oo 16 (.load false 1 (.tmp 15)),oo 17 (.call 0 0 (.cst (.fn 99)) [(.tmp 16),(.cst (.str [37]))] [] []),oo 14 (.mov (.tmp 17)),oo 18 (.ext 0 (.tmp 14)),oo 19 (.ext 1 (.tmp 14)),oo 7 (.mov (.tmp 18)),oo 8 (.mov (.tmp 19))]
def A42:List TOp:=[oo 20 (.mov (.tmp 8))]
def A43:List TOp:=[oo 21 (.mov (.tmp 7)),ot 22 .str (.lit false 1 [(.tmp 21),(.cst (.str [37]))]),oo 6 (.mov (.tmp 22))]
def Dp:Kp:=⟨[.loc 33 0,.loc 40 0],[(6,true)],[],[],[]⟩
def A44:List TOp:=[oo 23 (.fld 1 (.tmp 3)),oo 24 (.load false 1 (.tmp 23)),ot 25 .str (.lit false 1 [(.tmp 24)]),oo 6 (.mov (.tmp 25))]
def A45:List TOp:=[oo 27 (.bin false .eql (.tmp 11) (.cst (.int .i64 1))),oo 26 (.mov (.tmp 27))]
def A46:List TOp:=[oo 28 (.fld 1 (.tmp 3)),oo 29 (.load false 1 (.tmp 28)),ot 30 .str (.lit false 1 [(.tmp 29)]),oo 6 (.mov (.tmp 30))]
def A0p:List TOp:=[oo 32 (.bin false .eql (.tmp 11) (.cst (.int .i64 2))),oo 31 (.mov (.tmp 32))]
def A0q:List TOp:=[ot 33 .str (.lit true 1 [(.cst (.str [45]))]),oo 34 (.mov (.tmp 2)),oo 35 (.idx 1 (.tmp 34) (.cst (.int .i64 0))),oo 36 (.load false 1 (.tmp 35)),ot 37 .str (.append 33 1 16 (.tmp 33) (.tmp 36)),oo 6 (.mov (.tmp 37))]
def A0r:List TOp:=[oo 39 (.bin false .eql (.tmp 11) (.cst (.int .i64 14))),oo 38 (.mov (.tmp 39))]
def A0s:List TOp:=[ot 40 .str (.lit true 1 [(.cst (.str [110,111,116]))]),oo 41 (.mov (.tmp 2)),oo 42 (.idx 1 (.tmp 41) (.cst (.int .i64 0))),oo 43 (.load false 1 (.tmp 42)),ot 44 .str (.append 40 1 16 (.tmp 40) (.tmp 43)),oo 6 (.mov (.tmp 44))]
def A0t:List TOp:=[oo 46 (.bin false .eql (.tmp 11) (.cst (.int .i64 15))),oo 45 (.mov (.tmp 46))]
def A0u:List TOp:=[ot 47 .str (.lit false 1 [(.cst (.str [105,102]))]),oo 48 (.mov (.tmp 2)),oo 49 (.idx 1 (.tmp 48) (.cst (.int .i64 0))),oo 50 (.load false 1 (.tmp 49)),ot 51 .str (.lit false 1 [(.cst (.str [116,104,101,110]))]),oo 52 (.mov (.tmp 2)),oo 53 (.idx 1 (.tmp 52) (.cst (.int .i64 1))),oo 54 (.load false 1 (.tmp 53)),ot 55 .str (.lit false 1 [(.cst (.str [101,108,115,101]))]),oo 56 (.mov (.tmp 2)),oo 57 (.idx 1 (.tmp 56) (.cst (.int .i64 2))),oo 58 (.load false 1 (.tmp 57)),ot 59 (.sl .str) (.lit false 1 [(.tmp 47),(.tmp 50),(.tmp 51),(.tmp 54),(.tmp 55),(.tmp 58)]),oo 60 (.call 0 0 (.cst (.fn 70)) [(.tmp 59)] [] []),oo 6 (.mov (.tmp 60))]
def A0v:List TOp:=[oo 62 (.bin false .eql (.tmp 11) (.cst (.int .i64 16))),oo 61 (.mov (.tmp 62))]
def A0w:List TOp:=[oo 63 (.bin false .eql (.tmp 11) (.cst (.int .i64 17))),oo 61 (.mov (.tmp 63))]
def A0n:Kp:=⟨[],[(1,false),(2,false),(3,false),(61,false)],[(.loc 3 0,false)],[],[]⟩
def A02:Sig:=⟨[(1,none),(2,none),(3,some (.ptr (.loc 3 0) 0)),(61,some (.ty .bool))],[(.loc 3 0,(.box [none,none]))],[.bool],[],[]⟩
def A0x:List TOp:=[oo 9 (.mov (.cst (.str [109,105,110])))]
def A0y:List TOp:=[oo 64 (.fld 0 (.tmp 3)),oo 65 (.load false 1 (.tmp 64)),oo 66 (.bin false .eql (.tmp 65) (.cst (.int .i64 17)))]
def A0z:List TOp:=[oo 9 (.mov (.cst (.str [109,97,120])))]
def A0o:Kp:=⟨[],[(2,false),(9,false)],[],[.loc 3 0],[]⟩
def A03:Sig:=⟨[(2,none),(9,some (.ty .str))],[],[.str],[],[]⟩
def A00:List TOp:=[oo 67 (.mov (.tmp 9)),ot 68 .str (.lit false 1 [(.tmp 67),(.cst (.str [40]))]),oo 69 (.mov (.tmp 2)),oo 70 (.idx 1 (.tmp 69) (.cst (.int .i64 0))),oo 71 (.load false 1 (.tmp 70)),ot 72 .str (.lit false 1 [(.cst (.str [44]))]),oo 73 (.mov (.tmp 2)),oo 74 (.idx 1 (.tmp 73) (.cst (.int .i64 1))),oo 75 (.load false 1 (.tmp 74)),ot 76 .str (.lit false 1 [(.cst (.str [41]))]),ot 77 (.sl .str) (.lit false 1 [(.tmp 68),(.tmp 71),(.tmp 72),(.tmp 75),(.tmp 76)]),oo 78 (.call 0 0 (.cst (.fn 70)) [(.tmp 77)] [] []),oo 6 (.mov (.tmp 78))]
def A01:List TOp:=[oo 79 (.mov (.tmp 2)),oo 80 (.idx 1 (.tmp 79) (.cst (.int .i64 0))),oo 81 (.load false 1 (.tmp 80)),oo 82 (.mov (.tmp 1)),ot 83 .str (.lit false 1 [(.tmp 82)]),oo 84 (.mov (.tmp 2)),oo 85 (.idx 1 (.tmp 84) (.cst (.int .i64 1))),oo 86 (.load false 1 (.tmp 85)),ot 87 (.sl .str) (.lit false 1 [(.tmp 81),(.tmp 83),(.tmp 86)]),oo 88 (.call 0 0 (.cst (.fn 70)) [(.tmp 87)] [] []),oo 6 (.mov (.tmp 88))]
def Bel:TFd:=⟨3,[(.tmp 6,.bool)],[],(.seq (.ops A4y) (.seq (.seq (.ops A4z) (.pass 0 (.seq (.ops A40) (.cond (.tmp 12) (.free (.seq (.seq (.ops A41) (.seq (.ops A42) (.cond (.tmp 20) (.free (.seq (.ops A43) (.keep Dp .ret))) .skip))) (.seq (.ops A44) (.keep Dp .ret)))) (.seq (.ops A45) (.cond (.tmp 26) (.free (.seq (.ops A46) (.keep Dp .ret))) (.seq (.ops A0p) (.cond (.tmp 31) (.free (.seq (.ops A0q) (.keep Dp .ret))) (.seq (.ops A0r) (.cond (.tmp 38) (.free (.seq (.ops A0s) (.keep Dp .ret))) (.seq (.ops A0t) (.cond (.tmp 45) (.free (.seq (.draw [] A0u) (.keep Dp .ret))) (.seq (.seq (.ops A0v) (.join A0n A02 (.cond (.tmp 61) .skip (.ops A0w)))) (.cond (.tmp 61) (.free (.seq (.ops A0x) (.seq (.seq (.ops A0y) (.join A0o A03 (.cond (.tmp 66) (.ops A0z) .skip))) (.seq (.draw [] A00) (.keep Dp .ret))))) .skip)))))))))))))) (.seq (.draw [] A01) (.keep Dp .ret))))⟩
noncomputable def Asz:Ent:=⟨[.ty (.st 4),.ty .str,.ty (.sl (.sl .str))],[],[(.st 4),.str,(.sl (.sl .str))],⟨(.ty (.sl .str)),[],[],[(.sl .str)],[],[]⟩,none,fun p=>V9 p.1 p.2.1 p.2.2⟩
theorem A22:Asz.ok Tryz.prog 69:=Au hm Tryz.func69 (fd:=Bel) (by kernel_rfl) (Ak (l:=[(99,Qx),(70,Dr)]) (y:=[]) ⟨Apz,Gd,trivial⟩ trivial) (by kernel_rfl) (fun p=>by kernel_rfl)
def A4g:List TOp:=[oo 4 (.mov .nils),oo 5 (.mov .nils)]
def A4h:List TOp:=[oo 18 (.mov (.tmp 0)),oo 19 (.idx 2 (.tmp 18) (.cst (.int .i64 0))),ot 20 (.st 4) (.load true 2 (.tmp 19)),oo 21 (.mov (.tmp 0)),ot 22 (.st 4) (.slc false 2 (.tmp 21) (some (.cst (.int .i64 1))) none),oo 6 (.alloc [.pv (.int .i64 0),.pv (.str [])]),on (.store 2 (.tmp 6) (.tmp 20)),oo 7 (.mov (.tmp 22))]
def A4i:List TOp:=[oo 8 (.mov .nils)]
def A4j:List TOp:=[oo 24 (.fld 0 (.tmp 6)),oo 25 (.load false 1 (.tmp 24)),oo 26 (.call 0 0 (.cst (.fn 67)) [(.tmp 25)] [] []),oo 23 (.mov (.tmp 26)),oo 27 (.ext 0 (.tmp 23)),oo 28 (.ext 1 (.tmp 23)),oo 29 (.ext 2 (.tmp 23)),oo 30 (.ext 3 (.tmp 23)),oo 9 (.mov (.tmp 27)),oo 10 (.mov (.tmp 28)),oo 11 (.mov (.tmp 29)),oo 12 (.mov (.tmp 30))]
def A4k:List TOp:=[oo 31 (.mov (.tmp 11)),oo 32 (.mov (.tmp 12)),ot 33 (.int .i64) (.lit false 1 [(.tmp 31),(.tmp 32),(.cst (.int .i64 0))]),oo 13 (.mov (.tmp 33))]
def A4l:List TOp:=[oo 34 (.fld 0 (.tmp 6)),oo 35 (.load false 1 (.tmp 34))]
def A4m:List TOp:=[oo 37 (.bin false .eql (.tmp 35) (.cst (.int .i64 2))),oo 36 (.mov (.tmp 37))]
def A4n:List TOp:=[ot 38 (.int .i64) (.lit false 1 [(.cst (.int .i64 7))]),oo 9 (.mov (.cst (.int .i64 7))),oo 13 (.mov (.tmp 38))]
def A4o:List TOp:=[oo 40 (.bin false .eql (.tmp 35) (.cst (.int .i64 14))),oo 39 (.mov (.tmp 40))]
def A4p:List TOp:=[ot 41 (.int .i64) (.lit false 1 [(.cst (.int .i64 3))]),oo 9 (.mov (.cst (.int .i64 3))),oo 13 (.mov (.tmp 41))]
def Az7:List TOp:=[oo 43 (.bin false .eql (.tmp 35) (.cst (.int .i64 15))),oo 42 (.mov (.tmp 43))]
def Az8:List TOp:=[oo 9 (.mov (.cst (.int .i64 0)))]
def Az1:Kp:=⟨[],[(1,false),(6,false),(7,false),(8,false),(9,false),(10,false),(13,false)],[(.loc 6 0,false)],[],[]⟩
def A0j:Sig:=⟨[(1,none),(6,some (.ptr (.loc 6 0) 0)),(7,none),(8,some .nils),(9,some (.ty (.int .i64))),(10,none),(13,some (.ty (.sl (.int .i64))))],[(.loc 6 0,(.box [none,none]))],[(.int .i64),(.sl (.int .i64))],[],[]⟩
def Az9:List TOp:=[oo 44 (.fld 0 (.tmp 6)),oo 45 (.load false 1 (.tmp 44)),oo 46 (.call 0 0 (.cst (.fn 68)) [(.tmp 45)] [] []),oo 47 (.mov (.cst (.int .i64 0)))]
def A0a:List TOp:=[oo 48 (.bin false .lss (.tmp 47) (.tmp 46))]
def A0b:List TOp:=[oo 49 (.mov (.tmp 47)),oo 14 (.mov (.tmp 49))]
def A0c:List TOp:=[oo 51 (.mov (.tmp 7)),oo 52 (.mov (.tmp 13)),oo 53 (.mov (.tmp 14)),oo 54 (.idx 1 (.tmp 52) (.tmp 53)),oo 55 (.load false 1 (.tmp 54)),oo 56 (.call 0 0 (.cst (.fn 37)) [(.tmp 51),(.tmp 55)] [] []),oo 50 (.mov (.tmp 56)),oo 57 (.ext 0 (.tmp 50)),oo 58 (.ext 1 (.tmp 50)),oo 15 (.mov (.tmp 57)),oo 16 (.mov (.tmp 58))]
def A0d:List TOp:=[oo 59 (.mov (.tmp 8)),oo 60 (.mov (.tmp 15)),ot 61 (.sl .str) (.lit false 1 [(.tmp 60)]),ot 62 (.sl .str) (.append 8 1 24 (.tmp 59) (.tmp 61)),oo 63 (.mov (.tmp 16)),oo 8 (.mov (.tmp 62)),oo 7 (.mov (.tmp 63))]
def A0e:List TOp:=[oo 64 (.bin false .add (.tmp 47) (.cst (.int .i64 1))),oo 47 (.mov (.tmp 64))]
def Az6:DC:=(.seq (.ops A0a) (.seq (.cond (.tmp 48) .skip (.exit 1)) (.seq (.pass 2 (.seq (.ops A0b) (.seq (.ops A0c) (.ops A0d)))) (.ops A0e))))
def Az2:Kp:=⟨[],[(1,false),(6,false),(7,false),(8,false),(9,false),(10,false),(13,false),(46,false),(47,false)],[(.loc 8 0,false),(.loc 6 0,false)],[],[((.slot 8 (.loc 8 0) 1),(.sl .str))]⟩
def A0k:Sig:=⟨[(1,none),(6,some (.ptr (.loc 6 0) 0)),(7,some (.ty (.sl (.st 4)))),(8,some (.own (.loc 8 0))),(9,none),(10,none),(13,none),(46,none),(47,some (.ty (.int .i64)))],[(.loc 8 0,(.row (.sl .str))),(.loc 6 0,(.box [none,none]))],[(.sl (.st 4)),(.int .i64),(.sl (.sl .str))],[],[]⟩
def Az3:Kp:=⟨[.loc 8 0],[(1,false),(6,false),(7,false),(8,true),(9,false),(10,false)],[(.loc 6 0,false)],[],[]⟩
def A0l:Sig:=⟨[(1,none),(6,some (.ptr (.loc 6 0) 0)),(7,some (.ty (.sl (.st 4)))),(8,some (.ty (.sl (.sl .str)))),(9,none),(10,none)],[(.loc 6 0,(.box [none,none]))],[(.sl (.st 4)),(.sl (.sl .str))],[],[]⟩
def A0f:List TOp:=[ot 65 (.st 4) (.load true 2 (.tmp 6)),oo 66 (.mov (.tmp 10)),oo 67 (.mov (.tmp 8)),oo 68 (.call 0 0 (.cst (.fn 69)) [(.tmp 65),(.tmp 66),(.tmp 67)] [] []),oo 17 (.mov (.tmp 68))]
def A0g:List TOp:=[oo 69 (.mov (.tmp 9)),oo 70 (.mov (.tmp 1)),oo 71 (.bin false .lss (.tmp 69) (.tmp 70))]
def A0h:List TOp:=[ot 72 .str (.lit false 1 [(.cst (.str [40]))]),oo 73 (.mov (.tmp 17)),ot 74 .str (.lit false 1 [(.cst (.str [41]))]),ot 75 (.sl .str) (.lit false 1 [(.tmp 72),(.tmp 73),(.tmp 74)]),oo 76 (.call 0 0 (.cst (.fn 70)) [(.tmp 75)] [] []),oo 17 (.mov (.tmp 76))]
def Az4:Kp:=⟨[],[(7,false),(17,false)],[],[.loc 6 0],[]⟩
def A0m:Sig:=⟨[(7,none),(17,some (.ty (.sl .str)))],[],[(.sl .str)],[],[]⟩
def A0i:List TOp:=[oo 77 (.mov (.tmp 17)),oo 78 (.mov (.tmp 7)),oo 4 (.mov (.tmp 77)),oo 5 (.mov (.tmp 78))]
def Az5:Kp:=⟨[],[(4,false),(5,false)],[],[],[]⟩
def Bek:TFd:=⟨2,[(.tmp 4,.bool),(.tmp 5,.bool)],[],(.seq (.ops A4g) (.seq (.draw [.loc 6 0] A4h) (.seq (.ops A4i) (.seq (.ops A4j) (.seq (.ops A4k) (.seq (.seq (.ops A4l) (.pass 0 (.seq (.ops A4m) (.join Az1 A0j (.cond (.tmp 36) (.ops A4n) (.seq (.ops A4o) (.cond (.tmp 39) (.ops A4p) (.seq (.ops Az7) (.cond (.tmp 42) (.ops Az8) .skip))))))))) (.seq (.seq (.ops Az9) (.join Az3 A0l (.block 1 (.loop [1,6,7,8,9,10,13,46,47] [] Az2 A0k Az6)))) (.seq (.ops A0f) (.seq (.seq (.ops A0g) (.join Az4 A0m (.cond (.tmp 71) (.ops A0h) .skip))) (.seq (.ops A0i) (.keep Az5 .ret)))))))))))⟩
noncomputable def N9(fuel:Nat):Ent:=⟨[.ty (.sl (.st 4)),.ty (.int .i64)],[],[(.sl (.st 4)),(.int .i64)],⟨(.tup [(.ty (.sl .str)),(.ty (.sl (.st 4)))]),[],[],[(.sl .str),(.sl (.st 4))],[],[]⟩,none,fun p=>Gl fuel p.1 p.2⟩
theorem S6: ∀fuel:Nat,(N9 fuel).ok Tryz.prog 37
 |0=>fun p r h=>by have h:none=some r:=h;cases h
 |fuel+1=>Au hm Tryz.func37 (fd:=Bek) (by kernel_rfl) (Ak (l:=[(67,Asv),(68,Anp),(37,(N9 fuel)),(69,Asz),(70,Dr)]) (y:=[]) ⟨Ax3,Av7,(S6 fuel),A22,Gd,trivial⟩ trivial) (by kernel_rfl) (fun p=>by kernel_rfl)
def Uf:Ent:=⟨[.ty (.sl .str),.ty .str],[],[(.sl .str),.str],⟨(.ty .str),[],[],[.str],[],[]⟩,none,fun p=>strings_Join p.1 p.2⟩
theorem Wf:Uf.ok Tryz.prog 38:=fun p r h=>A08 (show strings_Join _ _=some _ from h)
def A3u:List TOp:=[oo 2 (.mov (.cst (.str []))),oo 3 (.mov (.cst (.int .i64 0)))]
def A3v:List TOp:=[oo 6 (.mov (.tmp 0)),oo 7 (.call 0 0 (.cst (.fn 23)) [(.tmp 6)] [] []),oo 8 (.un .not (.tmp 7))]
def A3w:List TOp:=[oo 2 (.mov (.cst (.str []))),oo 3 (.mov (.cst (.int .i64 1)))]
def Ao7:Kp:=⟨[],[(2,false),(3,false)],[],[],[]⟩
def A3x:List TOp:=[oo 10 (.mov (.tmp 0)),oo 11 (.call 0 0 (.cst (.fn 37)) [(.tmp 10),(.cst (.int .i64 0))] [] []),oo 9 (.mov (.tmp 11)),oo 12 (.ext 0 (.tmp 9)),oo 13 (.ext 1 (.tmp 9)),oo 4 (.mov (.tmp 12)),oo 5 (.mov (.tmp 13))]
def A3y:List TOp:=[oo 14 (.mov (.tmp 4)),oo 15 (.call 0 0 (.cst (.fn 38)) [(.tmp 14),(.cst (.str [32]))] [] []),oo 2 (.mov (.tmp 15)),oo 3 (.mov (.cst (.int .i64 0)))]
def Bdp:TFd:=⟨1,[(.tmp 2,.bool),(.tmp 3,.bool)],[],(.seq (.ops A3u) (.seq (.seq (.ops A3v) (.cond (.tmp 8) (.free (.seq (.ops A3w) (.keep Ao7 .ret))) .skip)) (.seq (.ops A3x) (.seq (.ops A3y) (.keep Ao7 .ret)))))⟩
noncomputable def Ast:Ent:=⟨[.ty (.sl (.st 4))],[],[(.sl (.st 4))],⟨(.tup [(.ty .str),(.ty (.int .i64))]),[],[],[.str,(.int .i64)],[],[]⟩,none,fun p=>Ou p⟩
theorem A20:Ast.ok Tryz.prog 17:=Au hm Tryz.func17 (fd:=Bdp) (by kernel_rfl) (Ak (l:=[(23,G9),(37,(N9 100000)),(38,Uf)]) (y:=[]) ⟨Hz,(S6 100000),Wf,trivial⟩ trivial) (by kernel_rfl) (fun p=>by kernel_rfl)
def Ah1:List TOp:=[oo 4 (.mov (.cst (.str [])))]
def Ah2:List TOp:=[oo 6 (.mov (.tmp 0)),oo 7 (.mov (.tmp 1)),ot 8 .str (.lit false 1 [(.tmp 7)]),oo 9 (.call 0 2 (.cst (.fn 56)) [(.tmp 6),(.tmp 8)] [] [.ext 0])]
def Ah3:List TOp:=[oo 10 (.mov (.tmp 0)),oo 11 (.call 0 2 (.cst (.fn 61)) [(.tmp 10),(.cst (.int .i64 1)),(.cst (.bool true))] [] [.ext 0]),oo 5 (.mov (.tmp 11))]
def Ah4:List TOp:=[oo 12 (.mov (.tmp 0)),ot 13 .str (.lit false 1 [(.cst (.str [59]))]),oo 14 (.call 0 2 (.cst (.fn 56)) [(.tmp 12),(.tmp 13)] [] [.ext 0])]
def Ah5:List TOp:=[oo 15 (.mov (.tmp 5)),oo 4 (.mov (.tmp 15))]
def Ah0:Kp:=⟨[],[(4,false)],[(.ext 0,false)],[],[]⟩
def Ao8:TFd:=⟨2,[(.tmp 4,.bool)],[],(.seq (.ops Ah1) (.seq (.ops Ah2) (.seq (.ops Ah3) (.seq (.ops Ah4) (.seq (.ops Ah5) (.keep Ah0 .ret))))))⟩
noncomputable def L2:Ent:=⟨[.ptr (.ext 0) 0,.ty .str],[.st 3],[.str,(.st 3)],⟨(.ty .str),[],[some (.st 3)],[.str,(.st 3)],[],[]⟩,none,fun p=>Ck p.1 p.2⟩
theorem Aej:L2.ok Tryz.prog 62:=Au hm Tryz.func62 (fd:=Ao8) (by kernel_rfl) (Ak (l:=[(56,D3),(61,F2)]) (y:=[]) ⟨Fb,H1,trivial⟩ trivial) (by kernel_rfl) (fun p=>by kernel_rfl)
def Ac2:List TOp:=[oo 2 (.alloc [.pv (.str []),.pv (.str []),.pv (.str []),.pv (.str []),.nils,.nils,.pv (.str []),.pv (.str []),.pv (.str [])])]
def Ac3:List TOp:=[oo 3 (.alloc [.pv (.str []),.pv (.str []),.pv (.str []),.pv (.str []),.nils,.nils,.pv (.str []),.pv (.str []),.pv (.str [])])]
def Ac4:List TOp:=[oo 6 (.mov (.tmp 0)),ot 7 .str (.lit false 1 [(.cst (.str [112,114,111,100,117,99,116]))]),oo 8 (.call 0 2 (.cst (.fn 56)) [(.tmp 6),(.tmp 7)] [] [.ext 0])]
def Ac5:List TOp:=[oo 9 (.mov (.tmp 0)),oo 10 (.call 0 2 (.cst (.fn 61)) [(.tmp 9),(.cst (.int .i64 0)),(.cst (.bool true))] [] [.ext 0]),oo 11 (.mov (.tmp 0)),oo 12 (.call 0 2 (.cst (.fn 61)) [(.tmp 11),(.cst (.int .i64 0)),(.cst (.bool true))] [] [.ext 0]),oo 13 (.fld 0 (.tmp 3)),on (.store 1 (.tmp 13) (.tmp 10)),oo 14 (.fld 1 (.tmp 3)),on (.store 1 (.tmp 14) (.tmp 12))]
def Ac6:List TOp:=[oo 15 (.mov (.tmp 0)),ot 16 .str (.lit false 1 [(.cst (.str [123])),(.cst (.str [98,97,115,105,115]))]),oo 17 (.call 0 2 (.cst (.fn 56)) [(.tmp 15),(.tmp 16)] [] [.ext 0])]
def Ac7:List TOp:=[oo 18 (.mov (.tmp 0)),oo 19 (.call 0 2 (.cst (.fn 61)) [(.tmp 18),(.cst (.int .i64 0)),(.cst (.bool true))] [] [.ext 0]),oo 20 (.fld 2 (.tmp 3)),on (.store 1 (.tmp 20) (.tmp 19))]
def Ac8:List TOp:=[oo 21 (.mov (.tmp 0)),ot 22 .str (.lit false 1 [(.cst (.str [59]))]),oo 23 (.call 0 2 (.cst (.fn 56)) [(.tmp 21),(.tmp 22)] [] [.ext 0])]
def Ac9:List TOp:=[oo 24 (.mov (.tmp 0)),oo 25 (.call 0 2 (.cst (.fn 62)) [(.tmp 24),(.cst (.str [112,101,114,105,111,100]))] [] [.ext 0]),oo 26 (.fld 3 (.tmp 3)),on (.store 1 (.tmp 26) (.tmp 25))]
def Ada:List TOp:=[oo 27 (.mov (.tmp 0)),ot 28 .str (.lit false 1 [(.cst (.str [116,105,101,114,115])),(.cst (.str [123]))]),oo 29 (.call 0 2 (.cst (.fn 56)) [(.tmp 27),(.tmp 28)] [] [.ext 0])]
def Adb:List TOp:=[oo 4 (.mov (.cst (.bool true)))]
def X7:List TOp:=[oo 30 (.mov (.tmp 0)),oo 31 (.nchk (.tmp 30)),oo 32 (.fld 2 (.tmp 31)),oo 33 (.load false 1 (.tmp 32)),oo 34 (.un .not (.tmp 33)),oo 35 (.mov (.tmp 34)),og 36 35 true .bool (.mov (.tmp 4)),og 37 35 true .bool (.mov (.tmp 36)),og 38 37 false .bool (.mov (.tmp 0)),og 39 37 false .bool (.call 0 2 (.cst (.fn 63)) [(.tmp 38),(.cst (.str [125]))] [] [.ext 0]),og 40 37 false .bool (.un .not (.tmp 39)),og 41 35 true .bool (.pick (.tmp 37) (.cst (.bool true)) (.tmp 40)),oo 42 (.pick (.tmp 35) (.tmp 41) (.cst (.bool false)))]
def X8:List TOp:=[oo 43 (.mov (.tmp 0)),oo 44 (.call 0 2 (.cst (.fn 61)) [(.tmp 43),(.cst (.int .i64 1)),(.cst (.bool true))] [] [.ext 0]),ot 45 (.st 6) (.build [.pv (.str []),.pv (.str [])] [(0,1,(.tmp 44))]),oo 5 (.alloc [.pv (.str []),.pv (.str [])]),on (.store 2 (.tmp 5) (.tmp 45))]
def X9:List TOp:=[oo 46 (.mov (.tmp 0)),ot 47 .str (.lit false 1 [(.cst (.str [58]))]),oo 48 (.call 0 2 (.cst (.fn 56)) [(.tmp 46),(.tmp 47)] [] [.ext 0])]
def Ya:List TOp:=[oo 49 (.mov (.tmp 0)),oo 50 (.call 0 2 (.cst (.fn 61)) [(.tmp 49),(.cst (.int .i64 1)),(.cst (.bool true))] [] [.ext 0]),oo 51 (.fld 1 (.tmp 5)),on (.store 1 (.tmp 51) (.tmp 50))]
def Yb:List TOp:=[oo 52 (.mov (.tmp 0)),ot 53 .str (.lit false 1 [(.cst (.str [37])),(.cst (.str [59]))]),oo 54 (.call 0 2 (.cst (.fn 56)) [(.tmp 52),(.tmp 53)] [] [.ext 0])]
def Yc:List TOp:=[oo 55 (.fld 4 (.tmp 3)),oo 56 (.load false 1 (.tmp 55)),ot 57 (.st 6) (.load true 2 (.tmp 5)),ot 58 (.st 6) (.lit false 2 [(.tmp 57)]),ot 59 (.st 6) (.append 500003 2 32 (.tmp 56) (.tmp 58)),oo 60 (.fld 4 (.tmp 3)),on (.store 1 (.tmp 60) (.tmp 59))]
def Yd:List TOp:=[oo 4 (.mov (.cst (.bool false)))]
def X6:DC:=(.seq (.seq (.ops X7) (.cond (.tmp 42) .skip (.exit 0))) (.seq (.pass 1 (.seq (.ops X8) (.seq (.ops X9) (.seq (.ops Ya) (.seq (.ops Yb) (.ops Yc)))))) (.ops Yd)))
def X3:Kp:=⟨[],[(0,false),(2,false),(3,false),(4,false)],[(.loc 500003 0,false),(.ext 0,false),(.loc 2 0,false),(.loc 3 0,true)],[.loc 5 0],[((.cell (.loc 3 0) 4 (.loc 500003 0) 2),(.st 6))]⟩
def Yk:Sig:=⟨[(0,some (.ptr (.ext 0) 0)),(2,some (.ptr (.loc 2 0) 0)),(3,some (.ptr (.loc 3 0) 0)),(4,some (.ty .bool))],[(.loc 500003 0,(.row (.st 6))),(.ext 0,(.st 3)),(.loc 2 0,(.box [none,none,none,none,some .nils,some .nils,none,none,none])),(.loc 3 0,(.box [some (.ty .str),some (.ty .str),some (.ty .str),some (.ty .str),some (.own (.loc 500003 0)),some (.ty (.sl (.st 4))),some (.ty .str),some (.ty .str),some (.ty .str)]))],[.bool,(.st 3),.str,.str,.str,.str,(.sl (.st 4)),.str,.str,.str,(.sl (.st 6))],[0,2,3,4,5,6,7,8,9,10,1],[0,10,1,2,3,4,5,6,7,8,9]⟩
def X4:Kp:=⟨[.loc 500003 0],[(0,false),(2,false),(3,false)],[(.ext 0,false),(.loc 2 0,false),(.loc 3 0,true)],[],[]⟩
def Yl:Sig:=⟨[(0,some (.ptr (.ext 0) 0)),(2,some (.ptr (.loc 2 0) 0)),(3,some (.ptr (.loc 3 0) 0))],[(.ext 0,(.st 3)),(.loc 2 0,(.box [none,none,none,none,some .nils,some .nils,none,none,none])),(.loc 3 0,(.st 7))],[(.st 3),(.st 7)],[],[]⟩
def Ye:List TOp:=[oo 61 (.mov (.tmp 0)),ot 62 .str (.lit false 1 [(.cst (.str [125])),(.cst (.str [102,101,101]))]),oo 63 (.call 0 2 (.cst (.fn 56)) [(.tmp 61),(.tmp 62)] [] [.ext 0])]
def Yf:List TOp:=[oo 64 (.mov (.tmp 0)),oo 65 (.call 0 2 (.cst (.fn 30)) [(.tmp 64)] [] [.ext 0]),oo 66 (.fld 5 (.tmp 3)),on (.store 1 (.tmp 66) (.tmp 65))]
def Yg:List TOp:=[oo 67 (.mov (.tmp 0)),ot 68 .str (.lit false 1 [(.cst (.str [59]))]),oo 69 (.call 0 2 (.cst (.fn 56)) [(.tmp 67),(.tmp 68)] [] [.ext 0])]
def Yh:List TOp:=[oo 70 (.mov (.tmp 0)),oo 71 (.call 0 2 (.cst (.fn 62)) [(.tmp 70),(.cst (.str [109,105,110,105,109,117,109]))] [] [.ext 0]),oo 72 (.mov (.tmp 0)),oo 73 (.call 0 2 (.cst (.fn 62)) [(.tmp 72),(.cst (.str [111,118,101,114,100,114,97,102,116]))] [] [.ext 0]),oo 74 (.mov (.tmp 0)),oo 75 (.call 0 2 (.cst (.fn 62)) [(.tmp 74),(.cst (.str [110,111,116,105,99,101]))] [] [.ext 0]),oo 76 (.fld 6 (.tmp 3)),on (.store 1 (.tmp 76) (.tmp 71)),oo 77 (.fld 7 (.tmp 3)),on (.store 1 (.tmp 77) (.tmp 73)),oo 78 (.fld 8 (.tmp 3)),on (.store 1 (.tmp 78) (.tmp 75))]
def Yi:List TOp:=[oo 79 (.mov (.tmp 0)),ot 80 .str (.lit false 1 [(.cst (.str [125]))]),oo 81 (.call 0 2 (.cst (.fn 56)) [(.tmp 79),(.tmp 80)] [] [.ext 0])]
def Yj:List TOp:=[ot 82 (.st 7) (.load true 9 (.tmp 3)),on (.store 9 (.tmp 2) (.tmp 82))]
def X5:Kp:=⟨[],[(2,false)],[(.ext 0,false),(.loc 2 0,false)],[],[]⟩
def Amb:TFd:=⟨1,[(.cell 2 true 9,(.st 7))],[],(.seq (.ops Ac2) (.seq (.ops Ac3) (.seq (.ops Ac4) (.seq (.ops Ac5) (.seq (.ops Ac6) (.seq (.ops Ac7) (.seq (.ops Ac8) (.seq (.ops Ac9) (.seq (.ops Ada) (.seq (.seq (.ops Adb) (.join X4 Yl (.block 0 (.loop [0,2,3,4] [] X3 Yk X6)))) (.seq (.ops Ye) (.seq (.ops Yf) (.seq (.ops Yg) (.seq (.ops Yh) (.seq (.ops Yi) (.seq (.ops Yj) (.keep X5 .ret)))))))))))))))))⟩
noncomputable def Kj:Ent:=⟨[.ptr (.ext 0) 0],[.st 3],[(.st 3)],⟨(.ty (.st 7)),[],[some (.st 3)],[(.st 7),(.st 3)],[],[]⟩,none,fun p=>Dm p⟩
theorem Zj:Kj.ok Tryz.prog 35:=Au hm Tryz.func35 (fd:=Amb) (by kernel_rfl) (Ak (l:=[(56,D3),(61,F2),(62,L2),(63,Hl),(30,(Dg 100000))]) (y:=[]) ⟨Fb,H1,Aej,I5,(Qt 100000),trivial⟩ trivial) (by kernel_rfl) (fun p=>by kernel_rfl)
def Bdf:List TOp:=[oo 2 (.mov .nils),oo 3 (.mov (.cst (.int .i64 0))),oo 4 (.mov (.cst (.int .i64 0))),oo 5 (.mov (.cst (.int .i64 0)))]
def Bdg:List TOp:=[oo 17 (.mov (.tmp 0)),oo 18 (.call 1 0 (.cst (.fn 29)) [(.tmp 17)] [] []),oo 16 (.mov (.tmp 18)),oo 19 (.ext 0 (.tmp 16)),oo 20 (.ext 1 (.tmp 16)),oo 21 (.ext 2 (.tmp 16)),oo 22 (.ext 3 (.tmp 16)),oo 6 (.mov (.tmp 19)),oo 7 (.mov (.tmp 20)),oo 8 (.mov (.tmp 21)),oo 9 (.mov (.tmp 22))]
def Bdh:List TOp:=[oo 23 (.mov (.tmp 9)),oo 24 (.bin false .neq (.tmp 23) (.cst (.int .i64 0)))]
def Bdi:List TOp:=[oo 25 (.mov (.tmp 7)),oo 26 (.mov (.tmp 8)),oo 27 (.mov (.tmp 9)),oo 2 (.mov .nils),oo 3 (.mov (.tmp 25)),oo 4 (.mov (.tmp 26)),oo 5 (.mov (.tmp 27))]
def Ahy:Kp:=⟨[],[(2,true),(3,false),(4,false),(5,false)],[],[],[]⟩
def Bdj:List TOp:=[oo 10 (.mov .nils)]
def Bdk:List TOp:=[oo 11 (.mov (.cst (.bool true)))]
def Bdl:List TOp:=[oo 28 (.mov (.tmp 6)),oo 29 (.nchk (.tmp 28)),oo 30 (.fld 2 (.tmp 29)),oo 31 (.load false 1 (.tmp 30)),oo 32 (.un .not (.tmp 31)),oo 33 (.mov (.tmp 32)),og 34 33 true .bool (.mov (.tmp 6)),og 35 33 true .bool (.nchk (.tmp 34)),og 36 33 true .bool (.fld 1 (.tmp 35)),og 37 33 true .bool (.load false 1 (.tmp 36)),og 38 33 true .bool (.mov (.tmp 6)),og 39 33 true .bool (.nchk (.tmp 38)),og 40 33 true .bool (.fld 0 (.tmp 39)),og 41 33 true .bool (.load false 1 (.tmp 40)),og 42 33 true .bool (.len false (.tmp 41)),og 43 33 true .bool (.bin false .lss (.tmp 37) (.tmp 42)),oo 44 (.pick (.tmp 33) (.tmp 43) (.cst (.bool false)))]
def Bdm:List TOp:=[oo 45 (.mov (.tmp 6)),oo 46 (.call 0 2 (.cst (.fn 35)) [(.tmp 45)] [] [.loc 18 0]),oo 12 (.alloc [.pv (.str []),.pv (.str []),.pv (.str []),.pv (.str []),.nils,.nils,.pv (.str []),.pv (.str []),.pv (.str [])]),on (.store 9 (.tmp 12) (.tmp 46))]
def Bdn:List TOp:=[oo 47 (.mov (.tmp 11)),oo 48 (.mov (.tmp 47)),og 49 48 true .bool (.fld 4 (.tmp 12)),og 50 48 true .bool (.load false 1 (.tmp 49)),og 51 48 true .bool (.len false (.tmp 50)),og 52 48 true .bool (.bin false .leq (.tmp 51) (.cst (.int .i64 8))),oo 53 (.pick (.tmp 48) (.tmp 52) (.cst (.bool false))),oo 54 (.mov (.tmp 53)),og 55 54 true .bool (.fld 5 (.tmp 12)),og 56 54 true .bool (.load false 1 (.tmp 55)),og 57 54 true .bool (.call 0 0 (.cst (.fn 23)) [(.tmp 56)] [] []),oo 58 (.pick (.tmp 54) (.tmp 57) (.cst (.bool false))),oo 11 (.mov (.tmp 58))]
def A7d:List TOp:=[oo 59 (.mov (.tmp 10)),ot 60 (.st 7) (.load true 9 (.tmp 12)),ot 61 (.st 7) (.lit false 9 [(.tmp 60)]),ot 62 (.st 7) (.append 10 9 160 (.tmp 59) (.tmp 61)),oo 10 (.mov (.tmp 62))]
def A7c:DC:=(.seq (.seq (.draw [] Bdl) (.cond (.tmp 44) .skip (.exit 0))) (.pass 1 (.seq (.ops Bdm) (.seq (.ops Bdn) (.ops A7d)))))
def A7a:Kp:=⟨[],[(0,false),(6,false),(10,false),(11,false)],[(.loc 10 0,false),(.loc 18 0,false)],[.loc 12 0],[((.slot 10 (.loc 10 0) 9),(.st 7))]⟩
def A7i:Sig:=⟨[(0,none),(6,some (.ptr (.loc 18 0) 0)),(10,some (.own (.loc 10 0))),(11,some (.ty .bool))],[(.loc 10 0,(.row (.st 7))),(.loc 18 0,(.st 3))],[.bool,(.st 3),(.sl (.st 7))],[0,2,1],[0,2,1]⟩
def A7b:Kp:=⟨[.loc 10 0],[(0,false),(6,false),(10,true),(11,false)],[(.loc 18 0,false)],[],[]⟩
def A7j:Sig:=⟨[(0,none),(6,some (.ptr (.loc 18 0) 0)),(10,some (.ty (.sl (.st 7)))),(11,some (.ty .bool))],[(.loc 18 0,(.st 3))],[(.sl (.st 7)),.bool,(.st 3)],[],[]⟩
def A7e:List TOp:=[oo 64 (.mov (.tmp 6)),oo 65 (.mov (.tmp 0)),oo 66 (.mov (.tmp 11)),oo 67 (.mov (.tmp 66)),og 68 67 true .bool (.mov (.tmp 10)),og 69 67 true .bool (.len false (.tmp 68)),og 70 67 true .bool (.bin false .leq (.tmp 69) (.cst (.int .i64 16))),oo 71 (.pick (.tmp 67) (.tmp 70) (.cst (.bool false))),oo 72 (.call 0 2 (.cst (.fn 31)) [(.tmp 64),(.tmp 65),(.tmp 71)] [] [.loc 18 0]),oo 63 (.mov (.tmp 72)),oo 73 (.ext 0 (.tmp 63)),oo 74 (.ext 1 (.tmp 63)),oo 75 (.ext 2 (.tmp 63)),oo 13 (.mov (.tmp 73)),oo 14 (.mov (.tmp 74)),oo 15 (.mov (.tmp 75))]
def A7f:List TOp:=[oo 76 (.mov (.tmp 15)),oo 77 (.bin false .neq (.tmp 76) (.cst (.int .i64 0)))]
def A7g:List TOp:=[oo 78 (.mov (.tmp 13)),oo 79 (.mov (.tmp 14)),oo 80 (.mov (.tmp 15)),oo 2 (.mov .nils),oo 3 (.mov (.tmp 78)),oo 4 (.mov (.tmp 79)),oo 5 (.mov (.tmp 80))]
def A7h:List TOp:=[oo 81 (.mov (.tmp 10)),oo 2 (.mov (.tmp 81)),oo 3 (.mov (.cst (.int .i64 0))),oo 4 (.mov (.cst (.int .i64 0))),oo 5 (.mov (.cst (.int .i64 0)))]
def Bl6:TFd:=⟨1,[(.tmp 2,.bool),(.tmp 3,.bool),(.tmp 4,.bool),(.tmp 5,.bool)],[],(.seq (.ops Bdf) (.seq (.ops Bdg) (.seq (.seq (.ops Bdh) (.cond (.tmp 24) (.free (.seq (.ops Bdi) (.keep Ahy .ret))) .skip)) (.seq (.ops Bdj) (.seq (.ops Bdk) (.seq (.join A7b A7j (.block 0 (.loop [0,6,10,11] [] A7a A7i A7c))) (.seq (.seq (.ops A7e) (.seq (.ops A7f) (.cond (.tmp 77) (.free (.seq (.ops A7g) (.keep Ahy .ret))) .skip))) (.seq (.ops A7h) (.keep Ahy .ret)))))))))⟩
noncomputable def Anm:Ent:=⟨[.ty .str],[],[.str],⟨(.tup [(.ty (.sl (.st 7))),(.ty (.int .i64)),(.ty (.int .i64)),(.ty (.int .i64))]),[],[],[(.sl (.st 7)),(.int .i64),(.int .i64),(.int .i64)],[],[]⟩,none,fun p=>Sl p⟩
theorem Av3:Anm.ok Tryz.prog 12:=Au hm Tryz.func12 (fd:=Bl6) (by kernel_rfl) (Ak (l:=[(29,Wo),(35,Kj),(23,G9),(31,I4)]) (y:=[]) ⟨Ano,Zj,Hz,Qu,trivial⟩ trivial) (by kernel_rfl) (fun p=>by kernel_rfl)
def A4b:List TOp:=[oo 1 (.box (.tmp 0)),oo 2 (.mov (.cst (.bool false)))]
def A4c:List TOp:=[oo 3 (.fld 0 (.tmp 1)),oo 4 (.load false 1 (.tmp 3)),oo 5 (.call 0 0 (.cst (.fn 75)) [(.tmp 4)] [] []),oo 6 (.un .not (.tmp 5)),oo 7 (.mov (.tmp 6)),og 8 7 false .bool (.fld 1 (.tmp 1)),og 9 7 false .bool (.load false 1 (.tmp 8)),og 10 7 false .bool (.call 0 0 (.cst (.fn 75)) [(.tmp 9)] [] []),og 11 7 false .bool (.un .not (.tmp 10)),oo 12 (.pick (.tmp 7) (.cst (.bool true)) (.tmp 11)),oo 2 (.mov (.tmp 12))]
def A4a:Kp:=⟨[],[(2,false)],[],[],[]⟩
def Bd1:TFd:=⟨1,[(.tmp 2,.bool)],[],(.seq (.ops A4b) (.seq (.ops A4c) (.keep A4a .ret)))⟩
noncomputable def Asu:Ent:=⟨[.ty (.st 6)],[],[(.st 6)],⟨(.ty .bool),[],[],[.bool],[],[]⟩,none,fun p=>Ow p⟩
theorem A21:Asu.ok Tryz.prog 76:=Au hm Tryz.func76 (fd:=Bd1) (by kernel_rfl) (Ak (l:=[(75,Kg)]) (y:=[]) ⟨Qc,trivial⟩ trivial) (by kernel_rfl) (fun p=>by kernel_rfl)
def Pd:List TOp:=[oo 4 (.mov (.cst (.int .i64 0)))]
def Pe:List TOp:=[oo 6 (.mov (.tmp 0)),oo 7 (.len false (.tmp 6)),oo 8 (.mov (.cst (.int .i64 0)))]
def Pf:List TOp:=[oo 9 (.bin false .lss (.tmp 8) (.tmp 7))]
def Pg:List TOp:=[oo 10 (.mov (.tmp 8)),oo 5 (.mov (.tmp 10))]
def Ph:List TOp:=[oo 11 (.mov (.tmp 1)),oo 12 (.mov (.tmp 0)),oo 13 (.mov (.tmp 5)),oo 14 (.idx 2 (.tmp 12) (.tmp 13)),ot 15 (.st 6) (.load true 2 (.tmp 14)),oo 16 (.call 0 0 (.tmp 11) [(.tmp 15)] [] [])]
def Pi:List TOp:=[oo 17 (.mov (.tmp 5)),oo 4 (.mov (.tmp 17))]
def Gm:Kp:=⟨[],[(4,false)],[],[],[]⟩
def Pj:List TOp:=[oo 18 (.bin false .add (.tmp 8) (.cst (.int .i64 1))),oo 8 (.mov (.tmp 18))]
def Pb:DC:=(.seq (.ops Pf) (.seq (.cond (.tmp 9) .skip (.exit 0)) (.seq (.pass 1 (.seq (.ops Pg) (.seq (.ops Ph) (.cond (.tmp 16) (.free (.seq (.ops Pi) (.keep Gm .ret))) .skip)))) (.ops Pj))))
def Pa:Kp:=⟨[],[(0,false),(1,false),(7,false),(8,false)],[],[],[]⟩
def Np:Sig:=⟨[(0,none),(1,some (.fnc 76)),(7,none),(8,some (.ty (.int .i64)))],[],[(.int .i64)],[],[]⟩
def Nm:Kp:=⟨[],[],[],[],[]⟩
def Nq:Sig:=⟨[],[],[],[],[]⟩
def Nn:List TOp:=[oo 4 (.mov (.cst (.int .i64 (-1))))]
def R3:TFd:=⟨2,[(.tmp 4,.bool)],[],(.seq (.ops Pd) (.seq (.seq (.ops Pe) (.joinO Nm Nq (.block 0 (.loop [0,1,7,8] [] Pa Np Pb)))) (.seq (.ops Nn) (.keep Gm .ret))))⟩
noncomputable def G4:Ent:=⟨[.ty (.sl (.st 6)),.fnc 76],[],[(.sl (.st 6))],⟨(.ty (.int .i64)),[],[],[(.int .i64)],[],[]⟩,none,fun p=>Eo p⟩
theorem P2:G4.ok Tryz.prog 104:=Au hm Tryz.func104 (fd:=R3) (by kernel_rfl) (Ak (l:=[(76,Asu)]) (y:=[]) ⟨A21,trivial⟩ trivial) (by kernel_rfl) (fun p=>by kernel_rfl)
def Kt:List TOp:=[oo 4 (.mov (.cst (.bool false)))]
def Ku:List TOp:=[oo 5 (.mov (.tmp 0)),oo 6 (.mov (.tmp 1)),oo 7 (.call 0 0 (.cst (.fn 104)) [(.tmp 5),(.tmp 6)] [] []),oo 8 (.bin false .geq (.tmp 7) (.cst (.int .i64 0))),oo 4 (.mov (.tmp 8))]
def Ks:Kp:=⟨[],[(4,false)],[],[],[]⟩
def Nj:TFd:=⟨2,[(.tmp 4,.bool)],[],(.seq (.ops Kt) (.seq (.ops Ku) (.keep Ks .ret)))⟩
noncomputable def Fp:Ent:=⟨[.ty (.sl (.st 6)),.fnc 76],[],[(.sl (.st 6))],⟨(.ty .bool),[],[],[.bool],[],[]⟩,none,fun p=>Cl p⟩
theorem K4:Fp.ok Tryz.prog 77:=Au hm Tryz.func77 (fd:=Nj) (by kernel_rfl) (Ak (l:=[(104,G4)]) (y:=[]) ⟨P2,trivial⟩ trivial) (by kernel_rfl) (fun p=>by kernel_rfl)
def Bd4:List TOp:=[oo 1 (.box (.tmp 0)),oo 2 (.mov (.cst (.bool false)))]
def Bd5:List TOp:=[oo 8 (.fld 0 (.tmp 1)),oo 9 (.load false 1 (.tmp 8)),oo 10 (.fld 1 (.tmp 1)),oo 11 (.load false 1 (.tmp 10)),oo 12 (.fld 2 (.tmp 1)),oo 13 (.load false 1 (.tmp 12)),ot 14 .str (.lit false 1 [(.tmp 9),(.tmp 11),(.tmp 13)]),oo 15 (.len false (.tmp 14)),oo 16 (.mov (.cst (.int .i64 0)))]
def Bd6:List TOp:=[oo 17 (.bin false .lss (.tmp 16) (.tmp 15))]
def Bd7:List TOp:=[oo 18 (.idx 1 (.tmp 14) (.tmp 16)),oo 19 (.load false 1 (.tmp 18)),oo 4 (.mov (.tmp 19))]
def Bd8:List TOp:=[oo 20 (.mov (.tmp 4)),oo 21 (.call 0 0 (.cst (.fn 74)) [(.tmp 20),(.cst (.bool true))] [] []),oo 22 (.un .not (.tmp 21))]
def Bd9:List TOp:=[oo 2 (.mov (.cst (.bool false)))]
def Ahz:Kp:=⟨[],[(2,false)],[],[],[]⟩
def Bea:List TOp:=[oo 23 (.bin false .add (.tmp 16) (.cst (.int .i64 1))),oo 16 (.mov (.tmp 23))]
def Bd3:DC:=(.seq (.ops Bd6) (.seq (.cond (.tmp 17) .skip (.exit 0)) (.seq (.pass 1 (.seq (.ops Bd7) (.seq (.ops Bd8) (.cond (.tmp 22) (.free (.seq (.ops Bd9) (.keep Ahz .ret))) .skip)))) (.ops Bea))))
def Bd2:Kp:=⟨[],[(1,false),(14,false),(15,false),(16,false)],[(.loc 1 0,false)],[],[]⟩
def A8e:Sig:=⟨[(1,some (.ptr (.loc 1 0) 0)),(14,none),(15,none),(16,some (.ty (.int .i64)))],[(.loc 1 0,(.box [none,none,none,none,none,none,none,none,none]))],[(.int .i64)],[],[]⟩
def As1:Kp:=⟨[],[(1,false)],[(.loc 1 0,false)],[],[]⟩
def As2:Sig:=⟨[(1,some (.ptr (.loc 1 0) 0))],[(.loc 1 0,(.box [none,none,none,none,none,none,none,none,none]))],[],[],[]⟩
def A76:List TOp:=[oo 24 (.fld 3 (.tmp 1)),oo 25 (.load false 1 (.tmp 24)),oo 26 (.fld 6 (.tmp 1)),oo 27 (.load false 1 (.tmp 26)),oo 28 (.fld 7 (.tmp 1)),oo 29 (.load false 1 (.tmp 28)),oo 30 (.fld 8 (.tmp 1)),oo 31 (.load false 1 (.tmp 30)),ot 32 .str (.lit false 1 [(.tmp 25),(.tmp 27),(.tmp 29),(.tmp 31)]),oo 33 (.len false (.tmp 32)),oo 34 (.mov (.cst (.int .i64 0)))]
def A77:List TOp:=[oo 35 (.bin false .lss (.tmp 34) (.tmp 33))]
def A78:List TOp:=[oo 36 (.idx 1 (.tmp 32) (.tmp 34)),oo 37 (.load false 1 (.tmp 36)),oo 6 (.mov (.tmp 37))]
def A79:List TOp:=[oo 38 (.mov (.tmp 6)),oo 39 (.call 0 0 (.cst (.fn 75)) [(.tmp 38)] [] []),oo 40 (.un .not (.tmp 39))]
def A8a:List TOp:=[oo 2 (.mov (.cst (.bool false)))]
def A8b:List TOp:=[oo 41 (.bin false .add (.tmp 34) (.cst (.int .i64 1))),oo 34 (.mov (.tmp 41))]
def A75:DC:=(.seq (.ops A77) (.seq (.cond (.tmp 35) .skip (.exit 2)) (.seq (.pass 3 (.seq (.ops A78) (.seq (.ops A79) (.cond (.tmp 40) (.free (.seq (.ops A8a) (.keep Ahz .ret))) .skip)))) (.ops A8b))))
def A74:Kp:=⟨[],[(1,false),(32,false),(33,false),(34,false)],[(.loc 1 0,false)],[],[]⟩
def A8f:Sig:=⟨[(1,some (.ptr (.loc 1 0) 0)),(32,none),(33,none),(34,some (.ty (.int .i64)))],[(.loc 1 0,(.box [none,none,none,none,none,none,none,none,none]))],[(.int .i64)],[],[]⟩
def A8c:List TOp:=[oo 7 (.mov (.cst (.fn 76)))]
def A8d:List TOp:=[oo 42 (.fld 4 (.tmp 1)),oo 43 (.load false 1 (.tmp 42)),oo 44 (.len false (.tmp 43)),oo 45 (.bin false .geq (.tmp 44) (.cst (.int .i64 1))),oo 46 (.mov (.tmp 45)),og 47 46 true .bool (.fld 4 (.tmp 1)),og 48 46 true .bool (.load false 1 (.tmp 47)),og 49 46 true .bool (.len false (.tmp 48)),og 50 46 true .bool (.bin false .leq (.tmp 49) (.cst (.int .i64 8))),oo 51 (.pick (.tmp 46) (.tmp 50) (.cst (.bool false))),oo 52 (.mov (.tmp 51)),og 53 52 true .bool (.fld 4 (.tmp 1)),og 54 52 true .bool (.load false 1 (.tmp 53)),og 55 52 true .bool (.mov (.tmp 7)),og 56 52 true .bool (.call 0 0 (.cst (.fn 77)) [(.tmp 54),(.tmp 55)] [] []),og 57 52 true .bool (.un .not (.tmp 56)),oo 58 (.pick (.tmp 52) (.tmp 57) (.cst (.bool false))),oo 59 (.mov (.tmp 58)),og 60 59 true .bool (.fld 5 (.tmp 1)),og 61 59 true .bool (.load false 1 (.tmp 60)),og 62 59 true .bool (.call 0 0 (.cst (.fn 23)) [(.tmp 61)] [] []),oo 63 (.pick (.tmp 59) (.tmp 62) (.cst (.bool false))),oo 2 (.mov (.tmp 63))]
def Bl8:TFd:=⟨1,[(.tmp 2,.bool)],[],(.seq (.ops Bd4) (.seq (.seq (.ops Bd5) (.joinO As1 As2 (.block 0 (.loop [1,14,15,16] [] Bd2 A8e Bd3)))) (.seq (.seq (.ops A76) (.joinO As1 As2 (.block 2 (.loop [1,32,33,34] [] A74 A8f A75)))) (.seq (.ops A8c) (.seq (.ops A8d) (.keep Ahz .ret))))))⟩
noncomputable def Azb:Ent:=⟨[.ty (.st 7)],[],[(.st 7)],⟨(.ty .bool),[],[],[.bool],[],[]⟩,none,fun p=>Aqp p⟩
theorem Bb3:Azb.ok Tryz.prog 43:=Au hm Tryz.func43 (fd:=Bl8) (by kernel_rfl) (Ak (l:=[(74,Ael),(75,Kg),(77,Fp),(23,G9)]) (y:=[]) ⟨Asy,Qc,K4,Hz,trivial⟩ trivial) (by kernel_rfl) (fun p=>by kernel_rfl)
def Aro:List TOp:=[oo 1 (.box (.tmp 0)),oo 2 (.mov (.cst (.bool false)))]
def Arp:List TOp:=[ot 3 (.st 7) (.load true 9 (.tmp 1)),oo 4 (.call 0 0 (.cst (.fn 43)) [(.tmp 3)] [] []),oo 5 (.un .not (.tmp 4)),oo 2 (.mov (.tmp 5))]
def Arn:Kp:=⟨[],[(2,false)],[],[],[]⟩
def Awg:TFd:=⟨1,[(.tmp 2,.bool)],[],(.seq (.ops Aro) (.seq (.ops Arp) (.keep Arn .ret)))⟩
noncomputable def S4:Ent:=⟨[.ty (.st 7)],[],[(.st 7)],⟨(.ty .bool),[],[],[.bool],[],[]⟩,none,fun p=>F8 p⟩
theorem Aq2:S4.ok Tryz.prog 42:=Au hm Tryz.func42 (fd:=Awg) (by kernel_rfl) (Ak (l:=[(43,Azb)]) (y:=[]) ⟨Bb3,trivial⟩ trivial) (by kernel_rfl) (fun p=>by kernel_rfl)
def Pm:List TOp:=[oo 4 (.mov (.cst (.int .i64 0)))]
def Pn:List TOp:=[oo 6 (.mov (.tmp 0)),oo 7 (.len false (.tmp 6)),oo 8 (.mov (.cst (.int .i64 0)))]
def Po:List TOp:=[oo 9 (.bin false .lss (.tmp 8) (.tmp 7))]
def Pp:List TOp:=[oo 10 (.mov (.tmp 8)),oo 5 (.mov (.tmp 10))]
def Pq:List TOp:=[oo 11 (.mov (.tmp 1)),oo 12 (.mov (.tmp 0)),oo 13 (.mov (.tmp 5)),oo 14 (.idx 9 (.tmp 12) (.tmp 13)),ot 15 (.st 7) (.load true 9 (.tmp 14)),oo 16 (.call 0 0 (.tmp 11) [(.tmp 15)] [] [])]
def Pr:List TOp:=[oo 17 (.mov (.tmp 5)),oo 4 (.mov (.tmp 17))]
def Gn:Kp:=⟨[],[(4,false)],[],[],[]⟩
def Ps:List TOp:=[oo 18 (.bin false .add (.tmp 8) (.cst (.int .i64 1))),oo 8 (.mov (.tmp 18))]
def Pl:DC:=(.seq (.ops Po) (.seq (.cond (.tmp 9) .skip (.exit 0)) (.seq (.pass 1 (.seq (.ops Pp) (.seq (.ops Pq) (.cond (.tmp 16) (.free (.seq (.ops Pr) (.keep Gn .ret))) .skip)))) (.ops Ps))))
def Pk:Kp:=⟨[],[(0,false),(1,false),(7,false),(8,false)],[],[],[]⟩
def Nt:Sig:=⟨[(0,none),(1,some (.fnc 42)),(7,none),(8,some (.ty (.int .i64)))],[],[(.int .i64)],[],[]⟩
def Nr:Kp:=⟨[],[],[],[],[]⟩
def Nu:Sig:=⟨[],[],[],[],[]⟩
def Ns:List TOp:=[oo 4 (.mov (.cst (.int .i64 (-1))))]
def R4:TFd:=⟨2,[(.tmp 4,.bool)],[],(.seq (.ops Pm) (.seq (.seq (.ops Pn) (.joinO Nr Nu (.block 0 (.loop [0,1,7,8] [] Pk Nt Pl)))) (.seq (.ops Ns) (.keep Gn .ret))))⟩
noncomputable def G5:Ent:=⟨[.ty (.sl (.st 7)),.fnc 42],[],[(.sl (.st 7))],⟨(.ty (.int .i64)),[],[],[(.int .i64)],[],[]⟩,none,fun p=>Ep p⟩
theorem P3:G5.ok Tryz.prog 78:=Au hm Tryz.func78 (fd:=R4) (by kernel_rfl) (Ak (l:=[(42,S4)]) (y:=[]) ⟨Aq2,trivial⟩ trivial) (by kernel_rfl) (fun p=>by kernel_rfl)
def Kw:List TOp:=[oo 4 (.mov (.cst (.bool false)))]
def Kx:List TOp:=[oo 5 (.mov (.tmp 0)),oo 6 (.mov (.tmp 1)),oo 7 (.call 0 0 (.cst (.fn 78)) [(.tmp 5),(.tmp 6)] [] []),oo 8 (.bin false .geq (.tmp 7) (.cst (.int .i64 0))),oo 4 (.mov (.tmp 8))]
def Kv:Kp:=⟨[],[(4,false)],[],[],[]⟩
def Nk:TFd:=⟨2,[(.tmp 4,.bool)],[],(.seq (.ops Kw) (.seq (.ops Kx) (.keep Kv .ret)))⟩
noncomputable def Fq:Ent:=⟨[.ty (.sl (.st 7)),.fnc 42],[],[(.sl (.st 7))],⟨(.ty .bool),[],[],[.bool],[],[]⟩,none,fun p=>Cm p⟩
theorem K5:Fq.ok Tryz.prog 44:=Au hm Tryz.func44 (fd:=Nk) (by kernel_rfl) (Ak (l:=[(78,G5)]) (y:=[]) ⟨P3,trivial⟩ trivial) (by kernel_rfl) (fun p=>by kernel_rfl)
def Awh:List TOp:=[oo 2 (.mov (.cst (.str []))),oo 3 (.mov (.cst (.int .i64 0)))]
def Awi:List TOp:=[oo 4 (.mov (.cst (.fn 42)))]
def Awj:List TOp:=[oo 12 (.mov (.tmp 0)),oo 13 (.len false (.tmp 12)),oo 14 (.bin false .gtr (.tmp 13) (.cst (.int .i64 16))),oo 15 (.mov (.tmp 14)),og 16 15 false .bool (.mov (.tmp 0)),og 17 15 false .bool (.mov (.tmp 4)),og 18 15 false .bool (.call 0 0 (.cst (.fn 44)) [(.tmp 16),(.tmp 17)] [] []),oo 19 (.pick (.tmp 15) (.cst (.bool true)) (.tmp 18))]
def Awk:List TOp:=[oo 2 (.mov (.cst (.str []))),oo 3 (.mov (.cst (.int .i64 1)))]
def Wa:Kp:=⟨[],[(2,false),(3,false)],[],[],[]⟩
def Awl:List TOp:=[oo 5 (.mov .nils)]
def Awm:List TOp:=[oo 20 (.mov (.tmp 0)),oo 21 (.len false (.tmp 20)),oo 22 (.mov (.cst (.int .i64 0)))]
def Awn:List TOp:=[oo 23 (.bin false .lss (.tmp 22) (.tmp 21))]
def Awo:List TOp:=[oo 24 (.idx 9 (.tmp 20) (.tmp 22)),ot 25 (.st 7) (.load true 9 (.tmp 24)),oo 7 (.alloc [.pv (.str []),.pv (.str []),.pv (.str []),.pv (.str []),.nils,.nils,.pv (.str []),.pv (.str []),.pv (.str [])]),on (.store 9 (.tmp 7) (.tmp 25))]
def Awp:List TOp:=[oo 26 (.mov (.tmp 5)),oo 27 (.fld 0 (.tmp 7)),oo 28 (.load false 1 (.tmp 27)),oo 29 (.fld 1 (.tmp 7)),oo 30 (.load false 1 (.tmp 29)),oo 31 (.fld 2 (.tmp 7)),oo 32 (.load false 1 (.tmp 31)),oo 33 (.fld 3 (.tmp 7)),oo 34 (.load false 1 (.tmp 33)),ot 35 .str (.lit false 1 [(.cst (.str [112,114,111,100,117,99,116])),(.tmp 28),(.tmp 30),(.cst (.str [123])),(.cst (.str [98,97,115,105,115])),(.tmp 32),(.cst (.str [59])),(.cst (.str [112,101,114,105,111,100])),(.tmp 34),(.cst (.str [59])),(.cst (.str [116,105,101,114,115])),(.cst (.str [123]))]),ot 36 .str (.append 5 1 16 (.tmp 26) (.tmp 35)),oo 5 (.mov (.tmp 36))]
def Aud:List TOp:=[oo 37 (.fld 4 (.tmp 7)),oo 38 (.load false 1 (.tmp 37)),oo 39 (.len false (.tmp 38)),oo 40 (.mov (.cst (.int .i64 0)))]
def Aue:List TOp:=[oo 41 (.bin false .lss (.tmp 40) (.tmp 39))]
def Auf:List TOp:=[oo 42 (.idx 2 (.tmp 38) (.tmp 40)),ot 43 (.st 6) (.load true 2 (.tmp 42)),oo 9 (.alloc [.pv (.str []),.pv (.str [])]),on (.store 2 (.tmp 9) (.tmp 43))]
def Aug:List TOp:=[oo 44 (.mov (.tmp 5)),oo 45 (.fld 0 (.tmp 9)),oo 46 (.load false 1 (.tmp 45)),oo 47 (.fld 1 (.tmp 9)),oo 48 (.load false 1 (.tmp 47)),ot 49 .str (.lit false 1 [(.tmp 46),(.cst (.str [58])),(.tmp 48),(.cst (.str [37])),(.cst (.str [59]))]),ot 50 .str (.append 5 1 16 (.tmp 44) (.tmp 49)),oo 5 (.mov (.tmp 50))]
def Auh:List TOp:=[oo 51 (.bin false .add (.tmp 40) (.cst (.int .i64 1))),oo 40 (.mov (.tmp 51))]
def Aub:DC:=(.seq (.ops Aue) (.seq (.cond (.tmp 41) .skip (.exit 2)) (.seq (.pass 3 (.seq (.ops Auf) (.ops Aug))) (.ops Auh))))
def At7:Kp:=⟨[],[(5,false),(7,false),(20,false),(21,false),(22,false),(38,false),(39,false),(40,false)],[(.loc 5 0,false),(.loc 7 0,false)],[.loc 9 0],[]⟩
def Aun:Sig:=⟨[(5,some (.own (.loc 5 0))),(7,some (.ptr (.loc 7 0) 0)),(20,none),(21,none),(22,none),(38,none),(39,none),(40,some (.ty (.int .i64)))],[(.loc 5 0,(.row .str)),(.loc 7 0,(.box [none,none,none,none,none,none,none,none,none]))],[(.int .i64),(.sl .str)],[],[]⟩
def At8:Kp:=⟨[],[(5,false),(7,false),(20,false),(21,false),(22,false)],[(.loc 5 0,false),(.loc 7 0,false)],[],[]⟩
def Auo:Sig:=⟨[(5,some (.own (.loc 5 0))),(7,some (.ptr (.loc 7 0) 0)),(20,none),(21,none),(22,none)],[(.loc 5 0,(.row .str)),(.loc 7 0,(.box [none,none,none,none,none,none,none,none,none]))],[(.sl .str)],[],[]⟩
def Aui:List TOp:=[oo 53 (.fld 5 (.tmp 7)),oo 54 (.load false 1 (.tmp 53)),oo 55 (.call 0 0 (.cst (.fn 37)) [(.tmp 54),(.cst (.int .i64 0))] [] []),oo 52 (.mov (.tmp 55)),oo 56 (.ext 0 (.tmp 52)),oo 57 (.ext 1 (.tmp 52)),oo 10 (.mov (.tmp 56)),oo 11 (.mov (.tmp 57))]
def Auj:List TOp:=[oo 58 (.mov (.tmp 5)),ot 59 .str (.lit false 1 [(.cst (.str [125])),(.cst (.str [102,101,101]))]),ot 60 .str (.append 5 1 16 (.tmp 58) (.tmp 59)),oo 61 (.mov (.tmp 10)),ot 62 .str (.append 60 1 16 (.tmp 60) (.tmp 61)),oo 5 (.mov (.tmp 62))]
def Auk:List TOp:=[oo 63 (.mov (.tmp 5)),oo 64 (.fld 6 (.tmp 7)),oo 65 (.load false 1 (.tmp 64)),oo 66 (.fld 7 (.tmp 7)),oo 67 (.load false 1 (.tmp 66)),oo 68 (.fld 8 (.tmp 7)),oo 69 (.load false 1 (.tmp 68)),ot 70 .str (.lit false 1 [(.cst (.str [59])),(.cst (.str [109,105,110,105,109,117,109])),(.tmp 65),(.cst (.str [59])),(.cst (.str [111,118,101,114,100,114,97,102,116])),(.tmp 67),(.cst (.str [59])),(.cst (.str [110,111,116,105,99,101])),(.tmp 69),(.cst (.str [59])),(.cst (.str [125]))]),ot 71 .str (.append 5 1 16 (.tmp 63) (.tmp 70)),oo 5 (.mov (.tmp 71))]
def Aul:List TOp:=[oo 72 (.bin false .add (.tmp 22) (.cst (.int .i64 1))),oo 22 (.mov (.tmp 72))]
def Auc:DC:=(.seq (.ops Awn) (.seq (.cond (.tmp 23) .skip (.exit 0)) (.seq (.pass 1 (.seq (.ops Awo) (.seq (.ops Awp) (.seq (.seq (.ops Aud) (.join At8 Auo (.block 2 (.loop [5,7,20,21,22,38,39,40] [] At7 Aun Aub)))) (.seq (.ops Aui) (.seq (.ops Auj) (.ops Auk))))))) (.ops Aul))))
def At9:Kp:=⟨[],[(5,false),(20,false),(21,false),(22,false)],[(.loc 5 0,false)],[.loc 7 0],[((.slot 5 (.loc 5 0) 1),.str)]⟩
def Aup:Sig:=⟨[(5,some (.own (.loc 5 0))),(20,none),(21,none),(22,some (.ty (.int .i64)))],[(.loc 5 0,(.row .str))],[(.int .i64),(.sl .str)],[],[]⟩
def Aua:Kp:=⟨[.loc 5 0],[(5,true)],[],[],[]⟩
def Auq:Sig:=⟨[(5,some (.ty (.sl .str)))],[],[(.sl .str)],[],[]⟩
def Aum:List TOp:=[oo 73 (.mov (.tmp 5)),oo 74 (.call 0 0 (.cst (.fn 38)) [(.tmp 73),(.cst (.str [32]))] [] []),oo 2 (.mov (.tmp 74)),oo 3 (.mov (.cst (.int .i64 0)))]
def Azx:TFd:=⟨1,[(.tmp 2,.bool),(.tmp 3,.bool)],[],(.seq (.ops Awh) (.seq (.ops Awi) (.seq (.seq (.ops Awj) (.cond (.tmp 19) (.free (.seq (.ops Awk) (.keep Wa .ret))) .skip)) (.seq (.ops Awl) (.seq (.seq (.ops Awm) (.join Aua Auq (.block 0 (.loop [5,20,21,22] [] At9 Aup Auc)))) (.seq (.ops Aum) (.keep Wa .ret)))))))⟩
noncomputable def Zg:Ent:=⟨[.ty (.sl (.st 7))],[],[(.sl (.st 7))],⟨(.tup [(.ty .str),(.ty (.int .i64))]),[],[],[.str,(.int .i64)],[],[]⟩,none,fun p=>Kf p⟩
theorem Av4:Zg.ok Tryz.prog 19:=Au hm Tryz.func19 (fd:=Azx) (by kernel_rfl) (Ak (l:=[(44,Fq),(37,(N9 100000)),(38,Uf)]) (y:=[]) ⟨K5,(S6 100000),Wf,trivial⟩ trivial) (by kernel_rfl) (fun p=>by kernel_rfl)
def Agb:List TOp:=[oo 4 (.mov (.cst (.bool false)))]
def Agc:List TOp:=[oo 6 (.mov (.tmp 0)),oo 7 (.len false (.tmp 6)),oo 8 (.mov (.tmp 1)),oo 9 (.len false (.tmp 8)),oo 10 (.bin false .neq (.tmp 7) (.tmp 9))]
def Agd:List TOp:=[oo 4 (.mov (.cst (.bool false)))]
def G0:Kp:=⟨[],[(4,false)],[],[],[]⟩
def Age:List TOp:=[oo 5 (.mov (.cst (.int .i64 0)))]
def Agf:List TOp:=[oo 11 (.mov (.tmp 5)),oo 12 (.mov (.tmp 0)),oo 13 (.len false (.tmp 12)),oo 14 (.bin false .lss (.tmp 11) (.tmp 13))]
def Agg:List TOp:=[oo 17 (.mov (.tmp 0)),oo 18 (.mov (.tmp 5)),oo 19 (.idx 2 (.tmp 17) (.tmp 18)),ot 20 (.st 4) (.load true 2 (.tmp 19)),oo 21 (.mov (.tmp 1)),oo 22 (.mov (.tmp 5)),oo 23 (.idx 2 (.tmp 21) (.tmp 22)),ot 24 (.st 4) (.load true 2 (.tmp 23)),oo 25 (.eqs true [.i,.s] (.tmp 20) (.tmp 24))]
def Agh:List TOp:=[oo 4 (.mov (.cst (.bool false)))]
def Agi:List TOp:=[oo 15 (.mov (.tmp 5)),oo 16 (.bin false .add (.tmp 15) (.cst (.int .i64 1))),oo 5 (.mov (.tmp 16))]
def Aga:DC:=(.seq (.seq (.ops Agf) (.cond (.tmp 14) .skip (.exit 0))) (.seq (.pass 1 (.seq (.draw [] Agg) (.cond (.tmp 25) (.free (.seq (.ops Agh) (.keep G0 .ret))) .skip))) (.ops Agi)))
def Abl:Kp:=⟨[],[(0,false),(1,false),(5,false)],[],[],[]⟩
def Abo:Sig:=⟨[(0,none),(1,none),(5,some (.ty (.int .i64)))],[],[(.int .i64)],[],[]⟩
def Abm:Kp:=⟨[],[],[],[],[]⟩
def Abp:Sig:=⟨[],[],[],[],[]⟩
def Abn:List TOp:=[oo 4 (.mov (.cst (.bool true)))]
def Aox:TFd:=⟨2,[(.tmp 4,.bool)],[],(.seq (.ops Agb) (.seq (.seq (.ops Agc) (.cond (.tmp 10) (.free (.seq (.ops Agd) (.keep G0 .ret))) .skip)) (.seq (.seq (.ops Age) (.joinO Abm Abp (.block 0 (.loop [0,1,5] [] Abl Abo Aga)))) (.seq (.ops Abn) (.keep G0 .ret)))))⟩
noncomputable def Hb:Ent:=⟨[.ty (.sl (.st 4)),.ty (.sl (.st 4))],[],[(.sl (.st 4)),(.sl (.st 4))],⟨(.ty .bool),[],[],[.bool],[],[]⟩,none,fun p=>D2 p.1 p.2⟩
theorem J2:Hb.ok Tryz.prog 11:=Au hm Tryz.func11 (fd:=Aox) (by kernel_rfl) (Ak (l:=[]) (y:=[]) trivial trivial) (by kernel_rfl) (fun p=>by kernel_rfl)
def U6:List TOp:=[oo 4 (.mov (.cst (.bool false)))]
def U7:List TOp:=[oo 6 (.mov (.tmp 0)),oo 7 (.len false (.tmp 6)),oo 8 (.mov (.tmp 1)),oo 9 (.len false (.tmp 8)),oo 10 (.bin false .neq (.tmp 7) (.tmp 9))]
def U8:List TOp:=[oo 4 (.mov (.cst (.bool false)))]
def Ez:Kp:=⟨[],[(4,false)],[],[],[]⟩
def U9:List TOp:=[oo 11 (.mov (.tmp 0)),oo 12 (.len false (.tmp 11)),oo 13 (.mov (.cst (.int .i64 0)))]
def Va:List TOp:=[oo 14 (.bin false .lss (.tmp 13) (.tmp 12))]
def Vb:List TOp:=[oo 15 (.mov (.tmp 13)),oo 5 (.mov (.tmp 15))]
def Vc:List TOp:=[oo 16 (.mov (.tmp 0)),oo 17 (.mov (.tmp 5)),oo 18 (.idx 2 (.tmp 16) (.tmp 17)),ot 19 (.st 6) (.load true 2 (.tmp 18)),oo 20 (.mov (.tmp 1)),oo 21 (.mov (.tmp 5)),oo 22 (.idx 2 (.tmp 20) (.tmp 21)),ot 23 (.st 6) (.load true 2 (.tmp 22)),oo 24 (.eqs true [.s,.s] (.tmp 19) (.tmp 23))]
def Vd:List TOp:=[oo 4 (.mov (.cst (.bool false)))]
def Ve:List TOp:=[oo 25 (.bin false .add (.tmp 13) (.cst (.int .i64 1))),oo 13 (.mov (.tmp 25))]
def Tx:DC:=(.seq (.ops Va) (.seq (.cond (.tmp 14) .skip (.exit 0)) (.seq (.pass 1 (.seq (.ops Vb) (.seq (.draw [] Vc) (.cond (.tmp 24) (.free (.seq (.ops Vd) (.keep Ez .ret))) .skip)))) (.ops Ve))))
def Tv:Kp:=⟨[],[(0,false),(1,false),(12,false),(13,false)],[],[],[]⟩
def T0:Sig:=⟨[(0,none),(1,none),(12,none),(13,some (.ty (.int .i64)))],[],[(.int .i64)],[],[]⟩
def Tw:Kp:=⟨[],[],[],[],[]⟩
def T3:Sig:=⟨[],[],[],[],[]⟩
def Tz:List TOp:=[oo 4 (.mov (.cst (.bool true)))]
def Add:TFd:=⟨2,[(.tmp 4,.bool)],[],(.seq (.ops U6) (.seq (.seq (.ops U7) (.cond (.tmp 10) (.free (.seq (.ops U8) (.keep Ez .ret))) .skip)) (.seq (.seq (.ops U9) (.joinO Tw T3 (.block 0 (.loop [0,1,12,13] [] Tv T0 Tx)))) (.seq (.ops Tz) (.keep Ez .ret)))))⟩
noncomputable def Iv:Ent:=⟨[.ty (.sl (.st 6)),.ty (.sl (.st 6))],[],[(.sl (.st 6)),(.sl (.st 6))],⟨(.ty .bool),[],[],[.bool],[],[]⟩,none,fun p=>Ea p.1 p.2⟩
theorem Vs:Iv.ok Tryz.prog 48:=Au hm Tryz.func48 (fd:=Add) (by kernel_rfl) (Ak (l:=[]) (y:=[]) trivial trivial) (by kernel_rfl) (fun p=>by kernel_rfl)
def Vf:List TOp:=[oo 4 (.mov (.cst (.bool false)))]
def Vg:List TOp:=[oo 6 (.mov (.tmp 0)),oo 7 (.len false (.tmp 6)),oo 8 (.mov (.tmp 1)),oo 9 (.len false (.tmp 8)),oo 10 (.bin false .neq (.tmp 7) (.tmp 9))]
def Vh:List TOp:=[oo 4 (.mov (.cst (.bool false)))]
def E0:Kp:=⟨[],[(4,false)],[],[],[]⟩
def Vi:List TOp:=[oo 11 (.mov (.tmp 0)),oo 12 (.len false (.tmp 11)),oo 13 (.mov (.cst (.int .i64 0)))]
def Vj:List TOp:=[oo 14 (.bin false .lss (.tmp 13) (.tmp 12))]
def Vk:List TOp:=[oo 15 (.mov (.tmp 13)),oo 5 (.mov (.tmp 15))]
def Vl:List TOp:=[oo 16 (.mov (.tmp 0)),oo 17 (.mov (.tmp 5)),oo 18 (.idx 2 (.tmp 16) (.tmp 17)),ot 19 (.st 4) (.load true 2 (.tmp 18)),oo 20 (.mov (.tmp 1)),oo 21 (.mov (.tmp 5)),oo 22 (.idx 2 (.tmp 20) (.tmp 21)),ot 23 (.st 4) (.load true 2 (.tmp 22)),oo 24 (.eqs true [.i,.s] (.tmp 19) (.tmp 23))]
def Vm:List TOp:=[oo 4 (.mov (.cst (.bool false)))]
def Vn:List TOp:=[oo 25 (.bin false .add (.tmp 13) (.cst (.int .i64 1))),oo 13 (.mov (.tmp 25))]
def T6:DC:=(.seq (.ops Vj) (.seq (.cond (.tmp 14) .skip (.exit 0)) (.seq (.pass 1 (.seq (.ops Vk) (.seq (.draw [] Vl) (.cond (.tmp 24) (.free (.seq (.ops Vm) (.keep E0 .ret))) .skip)))) (.ops Vn))))
def T4:Kp:=⟨[],[(0,false),(1,false),(12,false),(13,false)],[],[],[]⟩
def T8:Sig:=⟨[(0,none),(1,none),(12,none),(13,some (.ty (.int .i64)))],[],[(.int .i64)],[],[]⟩
def T5:Kp:=⟨[],[],[],[],[]⟩
def T9:Sig:=⟨[],[],[],[],[]⟩
def T7:List TOp:=[oo 4 (.mov (.cst (.bool true)))]
def Ade:TFd:=⟨2,[(.tmp 4,.bool)],[],(.seq (.ops Vf) (.seq (.seq (.ops Vg) (.cond (.tmp 10) (.free (.seq (.ops Vh) (.keep E0 .ret))) .skip)) (.seq (.seq (.ops Vi) (.joinO T5 T9 (.block 0 (.loop [0,1,12,13] [] T4 T8 T6)))) (.seq (.ops T7) (.keep E0 .ret)))))⟩
noncomputable def Iw:Ent:=⟨[.ty (.sl (.st 4)),.ty (.sl (.st 4))],[],[(.sl (.st 4)),(.sl (.st 4))],⟨(.ty .bool),[],[],[.bool],[],[]⟩,none,fun p=>Eb p.1 p.2⟩
theorem Vt:Iw.ok Tryz.prog 49:=Au hm Tryz.func49 (fd:=Ade) (by kernel_rfl) (Ak (l:=[]) (y:=[]) trivial trivial) (by kernel_rfl) (fun p=>by kernel_rfl)
def A7l:List TOp:=[oo 2 (.box (.tmp 0)),oo 3 (.box (.tmp 1)),oo 4 (.mov (.cst (.bool false)))]
def A7m:List TOp:=[oo 5 (.fld 4 (.tmp 2)),oo 6 (.load false 1 (.tmp 5)),oo 7 (.fld 4 (.tmp 3)),oo 8 (.load false 1 (.tmp 7)),oo 9 (.call 0 0 (.cst (.fn 48)) [(.tmp 6),(.tmp 8)] [] []),oo 10 (.mov (.tmp 9)),og 11 10 true .bool (.fld 5 (.tmp 2)),og 12 10 true .bool (.load false 1 (.tmp 11)),og 13 10 true .bool (.fld 5 (.tmp 3)),og 14 10 true .bool (.load false 1 (.tmp 13)),og 15 10 true .bool (.call 0 0 (.cst (.fn 49)) [(.tmp 12),(.tmp 14)] [] []),oo 16 (.pick (.tmp 10) (.tmp 15) (.cst (.bool false))),oo 17 (.mov (.tmp 16)),og 18 17 true .bool (.fld 0 (.tmp 2)),og 19 17 true .bool (.load false 1 (.tmp 18)),og 20 17 true .bool (.fld 0 (.tmp 3)),og 21 17 true .bool (.load false 1 (.tmp 20)),og 22 17 true .bool (.bin false .eql (.tmp 19) (.tmp 21)),oo 23 (.pick (.tmp 17) (.tmp 22) (.cst (.bool false))),oo 24 (.mov (.tmp 23)),og 25 24 true .bool (.fld 1 (.tmp 2)),og 26 24 true .bool (.load false 1 (.tmp 25)),og 27 24 true .bool (.fld 1 (.tmp 3)),og 28 24 true .bool (.load false 1 (.tmp 27)),og 29 24 true .bool (.bin false .eql (.tmp 26) (.tmp 28)),oo 30 (.pick (.tmp 24) (.tmp 29) (.cst (.bool false))),oo 31 (.mov (.tmp 30)),og 32 31 true .bool (.fld 2 (.tmp 2)),og 33 31 true .bool (.load false 1 (.tmp 32)),og 34 31 true .bool (.fld 2 (.tmp 3)),og 35 31 true .bool (.load false 1 (.tmp 34)),og 36 31 true .bool (.bin false .eql (.tmp 33) (.tmp 35)),oo 37 (.pick (.tmp 31) (.tmp 36) (.cst (.bool false))),oo 38 (.mov (.tmp 37)),og 39 38 true .bool (.fld 3 (.tmp 2)),og 40 38 true .bool (.load false 1 (.tmp 39)),og 41 38 true .bool (.fld 3 (.tmp 3)),og 42 38 true .bool (.load false 1 (.tmp 41)),og 43 38 true .bool (.bin false .eql (.tmp 40) (.tmp 42)),oo 44 (.pick (.tmp 38) (.tmp 43) (.cst (.bool false))),oo 45 (.mov (.tmp 44)),og 46 45 true .bool (.fld 6 (.tmp 2)),og 47 45 true .bool (.load false 1 (.tmp 46)),og 48 45 true .bool (.fld 6 (.tmp 3)),og 49 45 true .bool (.load false 1 (.tmp 48)),og 50 45 true .bool (.bin false .eql (.tmp 47) (.tmp 49)),oo 51 (.pick (.tmp 45) (.tmp 50) (.cst (.bool false))),oo 52 (.mov (.tmp 51)),og 53 52 true .bool (.fld 7 (.tmp 2)),og 54 52 true .bool (.load false 1 (.tmp 53)),og 55 52 true .bool (.fld 7 (.tmp 3)),og 56 52 true .bool (.load false 1 (.tmp 55)),og 57 52 true .bool (.bin false .eql (.tmp 54) (.tmp 56)),oo 58 (.pick (.tmp 52) (.tmp 57) (.cst (.bool false))),oo 59 (.mov (.tmp 58)),og 60 59 true .bool (.fld 8 (.tmp 2)),og 61 59 true .bool (.load false 1 (.tmp 60)),og 62 59 true .bool (.fld 8 (.tmp 3)),og 63 59 true .bool (.load false 1 (.tmp 62)),og 64 59 true .bool (.bin false .eql (.tmp 61) (.tmp 63)),oo 65 (.pick (.tmp 59) (.tmp 64) (.cst (.bool false))),oo 4 (.mov (.tmp 65))]
def A7k:Kp:=⟨[],[(4,false)],[],[],[]⟩
def Bh9:TFd:=⟨2,[(.tmp 4,.bool)],[],(.seq (.ops A7l) (.seq (.ops A7m) (.keep A7k .ret)))⟩
noncomputable def Av5:Ent:=⟨[.ty (.st 7),.ty (.st 7)],[],[(.st 7),(.st 7)],⟨(.ty .bool),[],[],[.bool],[],[]⟩,none,fun p=>S5 p.1 p.2⟩
theorem A6n:Av5.ok Tryz.prog 24:=Au hm Tryz.func24 (fd:=Bh9) (by kernel_rfl) (Ak (l:=[(48,Iv),(49,Iw)]) (y:=[]) ⟨Vs,Vt,trivial⟩ trivial) (by kernel_rfl) (fun p=>by kernel_rfl)
end Go.Av.G
end
