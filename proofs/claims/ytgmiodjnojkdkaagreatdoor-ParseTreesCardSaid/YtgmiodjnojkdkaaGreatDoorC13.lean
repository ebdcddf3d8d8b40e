import Derived.ProofKit
import Derived.Test.YtgmiodjnojkdkaaGreatDoorC12
set_option linter.all false
section
set_option linter.unusedVariables false
set_option linter.unusedSimpArgs false
namespace Go.Av
open Go Go.ChangeShapes Go.WideShapes Go.ChangeAt Go.RowKit
inductive TT where
 |int (k:IntKind)
 |bool
 |str
 |slice (t:TT)
 |unit
 |field (t r:TT)
 |struct (t:TT)
def TT.sz:TT→Nat
 | .unit=>0
 | .field t r=>t.sz+r.sz
 | .struct t=>t.sz
 |_=>1
def TT.pack:TT→List PV→PV
 | .struct _,xs=> .agg xs
 | .unit,xs=> .agg xs
 | .field _ _,xs=> .agg xs
 |_,xs=>xs.headD .nilI
def TT.Of:TT→List PV→Prop
 | .int k,xs=> ∃n,xs=[.int k n]∧k.min≤n∧n≤k.max
 | .bool,xs=> ∃b,xs=[.bool b]
 | .str,xs=> ∃s,xs=[.str s]∧s.length≤maxLen
 | .slice t,xs=> ∃ys:List (List PV),xs=[.slice (ys.map t.pack)]∧ys.length≤maxLen∧ ∀y∈ys,t.Of y
 | .unit,xs=>xs=[]
 | .field t r,xs=> ∃a b,xs=a++b∧t.Of a∧r.Of b
 | .struct t,xs=>t.Of xs
def Hu(P:Program)(rd:TypeId→TT→Bool):Nat→List Field→TT→Bool
 |_,[],.unit=>true
 |off,f::fs,.field t r=>f.offset==off&&(P.cellsOf f.type==t.sz&&(rd f.type t&&Hu P rd (off+t.sz) fs r))
 |_,_,_=>false
def reads(P:Program):Nat→TypeId→TT→Bool
 |0,_,_=>false
 |n+1,t,τ=>match P.underlying t,τ with
  |some (.int k),.int k'=>k==k'
  |some .bool,.bool=>true
  |some .string,.str=>true
  |some (.slice e),.slice r=>P.cellsOf e==r.sz&&(decide (0<r.sz)&&reads P n e r)
  |some (.struct fs),.struct r=>P.cellsOf t==r.sz&&Hu P (reads P n) 0 fs.toList r
  |_,_=>false
theorem TT.Of.len: ∀{t:TT} {xs:List PV},t.Of xs→xs.length=t.sz
 | .int k,xs,⟨n,h,_⟩=>by subst h;rfl
 | .bool,xs,⟨b,h⟩=>by subst h;rfl
 | .str,xs,⟨s,h,_⟩=>by subst h;rfl
 | .slice t,xs,⟨ys,h,_⟩=>by subst h;rfl
 | .unit,xs,h=>by simp[TT.Of] at h;subst h;rfl
 | .field t r,xs,⟨a,b,h,ha,hb⟩=>by subst h;simp[TT.sz,ha.len,hb.len]
 | .struct t,xs,h=>TT.Of.len (t:=t) h
theorem TT.Of.one: ∀{t:TT} {xs:List PV},t.Of xs→ ∀x∈xs,x.one=true
 | .int k,xs,⟨n,h,_⟩=>by subst h;simp[PV.one]
 | .bool,xs,⟨b,h⟩=>by subst h;simp[PV.one]
 | .str,xs,⟨s,h,_⟩=>by subst h;simp[PV.one]
 | .slice t,xs,⟨ys,h,_⟩=>by subst h;simp[PV.one]
 | .unit,xs,h=>by simp[TT.Of] at h;subst h;simp
 | .field t r,xs,⟨a,b,h,ha,hb⟩=>by
  subst h
  intro x hx
  rcases List.mem_append.1 hx with hx|hx
  ·exact ha.one x hx
  ·exact hb.one x hx
 | .struct t,xs,h=>TT.Of.one (t:=t) h
theorem Me{t:TT}{xs:List PV}(h:t.Of xs):(t.pack xs).cells=xs:=by
 cases t with
 |struct t=>rfl
 |int k=>obtain⟨n,rfl,_⟩:=h;rfl
 |bool=>obtain⟨n,rfl⟩:=h;rfl
 |str=>obtain⟨n,rfl,_⟩:=h;rfl
 |slice t=>obtain⟨n,rfl,_⟩:=h;rfl
 |unit=>rfl
 |field t r=>rfl
def S0(w:World)(ok:Nat→Prop)(xs:List PV)(us:List Value):Prop:=xs.length=us.length∧ ∀(j:Nat) (x:PV) (u:Value),xs[j]? =some x→us[j]? =some u→Bd w ok x u
theorem S0.append{w:World}{ok:Nat→Prop}{xs xs':List PV}{us us':List Value}(h:S0 w ok xs us)(h':S0 w ok xs' us'):S0 w ok (xs++xs') (us++us'):=by
 refine⟨by simp[h.1,h'.1],fun j x u hx hu=>?_⟩
 by_cases hj:j<xs.length
 ·rw[List.getElem?_append_left hj] at hx
  rw[List.getElem?_append_left (h.1▸hj)] at hu
  exact h.2 j x u hx hu
 ·rw[List.getElem?_append_right (by omega)] at hx
  rw[List.getElem?_append_right (by rw[←h.1];omega),←h.1] at hu
  exact h'.2 _ x u hx hu
theorem S0.single{w:World}{ok:Nat→Prop}{x:PV}{u:Value}(h:Bd w ok x u):S0 w ok [x] [u]:=by
 refine⟨rfl,fun j y v hy hv=>?_⟩
 cases j with
 |zero=>simp at hy hv;subst hy;subst hv;exact h
 |succ j=>simp at hy
section
variable {H:Type} {enc:TypeId×Value→H} {P:Program} {W:World}
theorem Bql{n m:Nat}{cs:List Value}(IH: ∀(t:TypeId) (τ:TT) (cs:List Value) (x:DataW H×List MemPlace),reads P n t τ=true→DataW.trod enc P W 0 (fun _=>true) true m t cs=some x→cs.length=τ.sz∧ ∃xs,τ.Of xs∧S0 W (· <W.heap.size) xs cs):
  ∀(fs:List Field) (τ:TT) (off:Nat),Hu P (reads P n) off fs τ=true→(∀f∈fs,∃x,DataW.trod enc P W 0 (fun _=>true) true m f.type ((cs.drop f.offset).take (P.cellsOf f.type))=some x)→off+τ.sz=cs.length→
   ∃xs,τ.Of xs∧S0 W (· <W.heap.size) xs (cs.drop off)
 |[],.unit,off,h,ht,hl=>⟨[],rfl,by simp[TT.sz] at hl;subst hl;exact⟨by simp,fun j x u hx=>by simp at hx⟩⟩
 |f::fs,.field t r,off,h,ht,hl=>by
  simp only[Hu,Bool.and_eq_true,beq_iff_eq] at h
  obtain⟨rfl,hc,hr,hF⟩:=h
  obtain⟨x,hx⟩:=ht f (by simp)
  obtain⟨hlen,xs,ho,hL⟩:=IH _ _ _ _ hr hx
  simp only[TT.sz] at hl
  obtain⟨ys,ho',hL'⟩:=Bql IH fs r (f.offset+t.sz) hF (fun g hg=>ht g (by simp[hg])) (by omega)
  refine⟨xs++ys,⟨xs,ys,rfl,ho,ho'⟩,?_⟩
  have e:cs.drop f.offset=(cs.drop f.offset).take (P.cellsOf f.type)++cs.drop (f.offset+t.sz):=by
   rw[hc,←List.drop_drop]
   exact(List.take_append_drop _ _).symm
  rw[e]
  exact hL.append hL'
 |[],.int _,_,h,_,_=>by simp[Hu] at h
 |[],.bool,_,h,_,_=>by simp[Hu] at h
 |[],.str,_,h,_,_=>by simp[Hu] at h
 |[],.slice _,_,h,_,_=>by simp[Hu] at h
 |[],.field _ _,_,h,_,_=>by simp[Hu] at h
 |[],.struct _,_,h,_,_=>by simp[Hu] at h
 |_::_,.int _,_,h,_,_=>by simp[Hu] at h
 |_::_,.bool,_,h,_,_=>by simp[Hu] at h
 |_::_,.str,_,h,_,_=>by simp[Hu] at h
 |_::_,.slice _,_,h,_,_=>by simp[Hu] at h
 |_::_,.unit,_,h,_,_=>by simp[Hu] at h
 |_::_,.struct _,_,h,_,_=>by simp[Hu] at h
theorem Bu6{n m:Nat}{e:TypeId}{τ:TT}(IH: ∀(t:TypeId) (τ:TT) (cs:List Value) (x:DataW H×List MemPlace),reads P n t τ=true→DataW.trod enc P W 0 (fun _=>true) true m t cs=some x→cs.length=τ.sz∧ ∃xs,τ.Of xs∧S0 W (· <W.heap.size) xs cs)
  (hc:P.cellsOf e=τ.sz)(h0:0<τ.sz)(hr:reads P n e τ=true){a:Addr}{len:Nat}{elems:List (DataW H×List MemPlace)}(hl:elems.length=len)
  (h: ∀i,i<len→(W.cells? 0 (a.add (i*P.cellsOf e)) (P.cellsOf e)).bind (DataW.trod enc P W 0 (fun _=>true) true m e)=elems[i]?):
  ∃(ys:List (List PV)) (us:Nat→Nat→Value),ys.length=len∧(∀y∈ys,τ.Of y)∧(0<len→a.spot=none)∧(∀i j,i<len→j<τ.sz→a.block<W.heap.size∧W.cell? ⟨a.block,a.off+i*τ.sz+j,none⟩=some (us i j))∧
   ∀(i j:Nat) (y:List PV) (x:PV),ys[i]? =some y→y[j]? =some x→Bd W (· <W.heap.size) x (us i j):=by
 have key: ∀i,∃q:List PV×List Value,i<len→W.cells? 0 (a.add (i*P.cellsOf e)) (P.cellsOf e)=some q.2∧q.2.length=τ.sz∧τ.Of q.1∧S0 W (· <W.heap.size) q.1 q.2:=by
  intro i
  by_cases hi:i<len
  ·have:=h i hi
   rw[List.getElem?_eq_getElem (by omega)] at this
   obtain⟨cs,h1,h2⟩:=Option.bind_eq_some_iff.1 this
   obtain⟨h3,xs,h4,h5⟩:=IH _ _ _ _ hr h2
   exact⟨(xs,cs),fun _=>⟨h1,h3,h4,h5⟩⟩
  ·exact⟨([],[]),fun h=>absurd h hi⟩
 obtain⟨f,hf⟩:=Classical.skolem.1 key
 have hcell: ∀i,i<len→ ∀j,j<τ.sz→W.cell? ((a.add (i*τ.sz)).add j)=some (((f i).2[j]?).getD default):=by
  intro i hi j hj
  obtain⟨h1,h2,h3,h4⟩:=hf i hi
  rw[hc] at h1
  rw[(World.cells?_some h1).2.2 j hj,List.getElem?_eq_getElem (by omega)]
  rfl
 have hspot:0<len→a.spot=none:=by
  intro hlen
  have:=hcell 0 hlen 0 h0
  simp only[Nat.zero_mul,Addr.add,if_true] at this
  unfold World.cell? at this
  cases hs:a.spot with
  |none=>rfl
  |some s=>rw[hs] at this;split at this<;>simp at this
 refine⟨(List.range len).map fun i=>(f i).1,fun i j=>((f i).2[j]?).getD default,by simp,?_,hspot,?_,?_⟩
 ·intro y hy
  simp only[List.mem_map,List.mem_range] at hy
  obtain⟨i,hi,rfl⟩:=hy
  exact(hf i hi).2.2.1
 ·intro i j hi hj
  have hs:=hspot (by omega)
  have hh:=hcell i hi j hj
  have e1:(a.add (i*τ.sz)).add j=⟨a.block,a.off+i*τ.sz+j,none⟩:=by
   rcases a with⟨b,o,s⟩
   simp only at hs
   subst hs
   unfold Addr.add
   split<;>split<;>simp_all
  rw[e1] at hh
  refine⟨?_,hh⟩
  unfold World.cell? at hh
  split at hh
  ·rename_i hb
   exact(Array.getElem?_eq_some_iff.1 hb).1
  ·cases hh
 ·intro i j y x hy hx
  simp only[List.getElem?_map,Option.map_eq_some_iff] at hy
  obtain⟨i',hi',rfl⟩:=hy
  have hi:i<len:=by
   have:=(List.getElem?_eq_some_iff.1 hi').1
   simpa using this
  obtain rfl:i=i':=by simpa [List.getElem?_range hi] using hi'
  obtain⟨h1,h2,h3,h4⟩:=hf i hi
  have hj:j<(f i).2.length:=by
   rw[←h4.1]
   exact(List.getElem?_eq_some_iff.1 hx).1
  have:=h4.2 j x (f i).2[j] hx (List.getElem?_eq_getElem hj)
  simpa [List.getElem?_eq_getElem hj] using this
theorem Bsu: ∀(m n:Nat) (t:TypeId) (τ:TT) (cs:List Value) (x:DataW H×List MemPlace),reads P n t τ=true→DataW.trod enc P W 0 (fun _=>true) true m t cs=some x→cs.length=τ.sz∧ ∃xs,τ.Of xs∧S0 W (· <W.heap.size) xs cs
 |m,0,t,τ,cs,x,hr,h=>by simp[reads] at hr
 |0,n+1,t,τ,cs,x,hr,h=>by simp[DataW.trod] at h
 |m+1,n+1,t,τ,cs,x,hr,h=>by
  have IH:=Bsu m n
  unfold reads at hr
  split at hr
  ·rename_i k k' ht
   obtain rfl:k=k':=by simpa using hr
   obtain⟨i,rfl,_,hw⟩:=DataW.trod_int ht h
   simp only[Lit.wf,Bool.and_eq_true,decide_eq_true_eq] at hw
   exact⟨rfl,_,⟨i,rfl,hw.1,hw.2⟩,.single (.int k i)⟩
  ·rename_i ht
   obtain⟨b,rfl,_⟩:=DataW.trod_bool ht h
   exact⟨rfl,_,⟨b,rfl⟩,.single (.bool b)⟩
  ·rename_i ht
   obtain⟨s,rfl,_,hw⟩:=DataW.trod_string ht h
   exact⟨rfl,_,⟨s.data.toList,rfl,by rw[Array.length_toList];exact hw⟩,.single (by simpa using Bd.str (w:=W) (ok:=(· <W.heap.size)) s.data.toList)⟩
  ·rename_i e r ht
   simp only[Bool.and_eq_true,beq_iff_eq,decide_eq_true_eq] at hr
   obtain⟨hc,h0,hr⟩:=hr
   rcases DataW.trod_slice ht h with⟨rfl,_⟩|⟨a,len,cap,elems,rest,m',hm,rfl,_,_,hlc,hcm,hel,hat,_,_⟩
   ·exact⟨rfl,_,⟨[],rfl,Nat.zero_le _,by simp⟩,.single (.slice [] none 0 0 r.sz (fun _ _=>default) rfl (Nat.le_refl _) (by simp) (by simp) (by intro i j hi;omega) (by omega) (by intro i j x y hx;simp at hx))⟩
   ·obtain rfl:m=m':=by omega
    obtain⟨ys,us,hl,ho,hs,hcell,hlie⟩:=Bu6 IH hc h0 hr hel hat
    refine⟨rfl,_,⟨ys,rfl,by omega,ho⟩,.single (.slice _ (some a) len cap r.sz us (by simp[hl]) hlc ?_ ?_ ?_ ?_ ?_)⟩
    ·intro x hx
     obtain⟨y,hy,rfl⟩:=List.mem_map.1 hx
     rw[Me (ho y hy)]
     exact(ho y hy).len
    ·intro x hx
     obtain⟨y,hy,rfl⟩:=List.mem_map.1 hx
     rw[Me (ho y hy)]
     exact(ho y hy).one
    ·intro i j hi hj
     exact⟨a,rfl,hs (by omega),(hcell i j hi hj).1,(hcell i j hi hj).2⟩
    ·intro h;exact⟨a,rfl,hs h⟩
    ·intro i j x y hx hy
     simp only[List.getElem?_map,Option.map_eq_some_iff] at hx
     obtain⟨z,hz,rfl⟩:=hx
     rw[Me (ho z (List.mem_of_getElem? hz))] at hy
     exact hlie i j z y hz hy
  ·rename_i fs r ht
   simp only[Bool.and_eq_true,beq_iff_eq] at hr
   obtain⟨hc,hF⟩:=hr
   obtain⟨xs,m',hm,_,hlen,hxl,hf⟩:=DataW.trod_struct ht h
   obtain rfl:m=m':=by omega
   refine⟨by rw[hlen,hc];rfl,?_⟩
   obtain⟨ys,ho,hL⟩:=Bql (cs:=cs) IH fs.toList r 0 hF (fun f hf'=>by
    obtain⟨i,hi,he⟩:=List.getElem_of_mem hf'
    have hi':i<fs.size:=by simpa using hi
    have:=hf i f (by rw[Array.getElem?_eq_getElem hi'];simpa using he)
    rw[List.getElem?_eq_getElem (by omega)] at this
    exact⟨_,this⟩) (by rw[hlen,hc];simp)
   exact⟨ys,ho,by simpa using hL⟩
  ·cases hr
theorem Bu5{n base:Nat}{t:TypeId}{τ:TT}{v:Value}{d:DataW H}{ps:List MemPlace}(hr:reads P n t τ=true)(hok:Value.okWide P W .any base t v)(h:DataW.Trod enc P W 0 (fun _=>true) true t v d ps):
  ∃xs,τ.Of xs∧Bd W (· <W.heap.size) (τ.pack xs) v:=by
 obtain⟨m,hm⟩:=h
 obtain⟨hlen,xs,ho,hL⟩:=Bsu m n t τ _ _ hr hm
 refine⟨xs,ho,?_⟩
 have one: ∀u,v=u→u.cells= #[u]→(τ.pack xs).cells=[τ.pack xs]→Bd W (· <W.heap.size) (τ.pack xs) v:=by
  intro u hu hc hp
  subst hu
  rw[Me ho] at hp
  rw[hc,hp] at hL
  exact hL.2 0 _ _ rfl rfl
 cases n with
 |zero=>simp[reads] at hr
 |succ n=>
  unfold reads at hr
  split at hr
  ·rename_i ht
   obtain⟨i,rfl⟩:=okWide_int ht hok
   obtain⟨k,rfl,_⟩:=ho
   exact one _ rfl rfl rfl
  ·rename_i ht
   obtain⟨i,rfl⟩:=okWide_bool ht hok
   obtain⟨k,rfl⟩:=ho
   exact one _ rfl rfl rfl
  ·rename_i ht
   obtain⟨i,rfl⟩:=okWide_string ht hok
   obtain⟨k,rfl,_⟩:=ho
   exact one _ rfl rfl rfl
  ·rename_i ht
   obtain⟨a,l,c,rfl⟩:=okWide_slice ht hok
   obtain⟨k,rfl,_⟩:=ho
   exact one _ rfl rfl rfl
  ·rename_i ht
   obtain⟨us,rfl,hs⟩:=okWide_struct ht hok
   simp only[TT.pack]
   have:=Bd.agg (w:=W) (ok:=(· <W.heap.size)) xs us.toList (by simpa [Value.cells] using hL.1) (fun x hx=>TT.Of.one ho x hx) (by simpa [Value.cells] using hL.2)
   simpa using this
  ·cases hr
theorem Bj2{α:Type}{f:α→PV}{τ:TT}{wf:α→Prop}(hh: ∀xs,τ.Of xs→ ∃x,wf x∧τ.pack xs=f x): ∀ys:List (List PV),(∀y∈ys,τ.Of y)→ ∃l:List α,l.length=ys.length∧(∀x∈l,wf x)∧ys.map τ.pack=l.map f
 |[],_=>⟨[],rfl,by simp,rfl⟩
 |y::ys,h=>by
  obtain⟨x,hx,he⟩:=hh y (h y (by simp))
  obtain⟨l,h0,h1,h2⟩:=Bj2 hh ys (fun z hz=>h z (by simp[hz]))
  refine⟨x::l,by simp[h0],?_,by simp[he,h2]⟩
  intro z hz
  rcases List.mem_cons.1 hz with rfl|hz
  ·exact hx
  ·exact h1 z hz
theorem Asp{W':World}(hl:laidOutB P=true)(hb:Below W.heap.size W W'){sp:Nat→Bool}: ∀{ts:List TypeId} {vs:List Value} {ds:List (DataW H)} {ps:List MemPlace},
  (∀t∈ts,P.readableRec t=true∧t<P.types.size)→DataW.TrodAll enc P W 0 (fun _=>true) true ts vs ds ps→(∀p∈ps,p.block<W.heap.size)→(∀p∈ps,sp p.block=true)→DataW.TrodAll enc P W' 0 sp true ts vs ds ps
 |[],_,_,_,_,h,_,_=>by
  obtain⟨rfl,rfl,rfl⟩:=trodAll_nil h
  rfl
 |t::ts,_,_,_,hr,h,hlt,hs=>by
  obtain⟨v,vs,d,ds,a,b,rfl,rfl,rfl,h1,h2⟩:=trodAll_cons h
  exact⟨a,b,WideElems.Trod_stays hl (hr t (by simp)).1 (hr t (by simp)).2 h1 (fun p hp=>hb.same (hlt p (by simp[hp]))) (fun p hp=>hs p (by simp[hp])),Asp hl hb (fun u hu=>hr u (by simp[hu])) h2 (fun p hp=>hlt p (by simp[hp])) (fun p hp=>hs p (by simp[hp])),rfl⟩
theorem A1v{W':World}(hb:Below W.heap.size W W')(may:MemPlace→Prop):W.keptBut W' may:=by
 refine⟨hb.os,hb.output,fun i hi=>?_⟩
 rw[hb.block i hi]
 split<;>simp_all
theorem Bls{f:Func}{s:ChangeSpec}{apart fresh handsOn again:Bool}{W':World}{args:Array Value}{ds gs:List (DataW H)}{before:List MemPlace}{tb:TypeId}
  (hl:laidOutB P=true)(hp: ∀t∈f.params.toList,P.readableRec t=true∧t<P.types.size)(hr:f.resultTypes= #[tb])(hb:P.underlying tb=some .bool)(hv:s.vars=[])
  (hW:DataW.Whole enc P f.params.toList s.vars apart W args.toList ds gs before)(h1:(s.fn H (ds++gs)).results=[.lit (.bool true)])(h2:(s.fn H (ds++gs)).args=ds)(h3:(s.fn H (ds++gs)).vars=[])
  (hbel:Below W.heap.size W W'):s.post enc P f apart fresh handsOn again W args (.bool true) W':=by
 have hlt:=hW.lt
 have hW0:=hW
 obtain⟨p,q,hA,hV,rfl,hz,hn⟩:=hW
 rw[hv] at hV
 obtain⟨rfl,rfl⟩:=trodVars_none hV
 have hres: ∀(b:Nat) (sp:Nat→Bool) (hd:Bool),DataW.TrodAll enc P W' b sp hd f.resultTypes.toList ((Value.bool true).resultList f.resultTypes.size) [.lit (.bool true)] []:=by
  intro b sp hd
  rw[hr]
  exact trodAll_mk1 ⟨1,by simp[DataW.trod,Value.cells,hb]⟩
 have hargs: ∀sp:Nat→Bool,(∀x∈p,sp x.block=true)→DataW.TrodAll enc P W' 0 sp true f.params.toList args.toList ds p:=fun sp hs=>Asp hl hbel hp hA (fun x hx=>hlt x (by simp[hx])) hs
 refine⟨ds,[],p++[],[],p,[],hW0,by rw[h1];exact hres _ _ _,by rw[h2];exact hargs _ (fun x hx=>by simpa using hlt x (by simp[hx])),by rw[h3,hv];rfl,A1v hbel _,fun _=>?_⟩
 refine⟨?_,_,[],([]++p)++[],⟨[]++p,[],trodAll_append (hargs _ (fun _ _=>rfl)) (hres _ _ _),by rw[hv];rfl,rfl,?_,?_⟩,?_⟩
 ·exact ok_one (f:=f) hr rfl (okWide_bool_mk hb true)
 ·intro b off hm
  have hm':MemPlace.cell b off∈p:=by simpa using hm
  have h0:=hz b off (by simpa using hm')
  have hlb:=hlt _ (by simpa using hm':MemPlace.cell b off∈p++[])
  unfold World.frozen? at h0⊢
  rw[hbel.block b hlb]
  exact h0
 ·intro ha
  simpa using hn ha
 ·intro x hx _
  simpa using hx
def AllOf:List TT→List PV→Prop
 |[],xs=>xs=[]
 |τ::ts,xs=> ∃cs ys,xs=τ.pack cs::ys∧τ.Of cs∧AllOf ts ys
theorem Bst{n base:Nat}: ∀{ts:List TypeId} {τs:List TT} {vs:List Value} {ds:List (DataW H)} {ps:List MemPlace},ts.length=τs.length→(∀p∈ts.zip τs,reads P n p.1 p.2=true)→
  (∀(j:Nat) t v,ts[j]? =some t→vs[j]? =some v→Value.okWide P W .any base t v)→DataW.TrodAll enc P W 0 (fun _=>true) true ts vs ds ps→ds.length=ts.length∧ ∃xs,AllOf τs xs∧S0 W (· <W.heap.size) xs vs
 |[],τs,_,_,_,hl,_,_,h=>by
  obtain⟨rfl,rfl,rfl⟩:=trodAll_nil h
  cases τs with
  |nil=>exact⟨rfl,[],rfl,rfl,fun j x u hx=>by simp at hx⟩
  |cons=>cases hl
 |t::ts,τs,_,_,_,hl,hr,hok,h=>by
  obtain⟨v,vs,d,ds,a,b,rfl,rfl,rfl,h1,h2⟩:=trodAll_cons h
  cases τs with
  |nil=>cases hl
  |cons τ τs=>
   obtain⟨cs,ho,hL⟩:=Bu5 (hr (t,τ) (by simp)) (hok 0 t v rfl rfl) h1
   obtain⟨hlen,ys,hos,hLs⟩:=Bst (by simpa using hl) (fun p hp=>hr p (by simp[hp])) (fun j t v ht hv=>hok (j+1) t v (by simpa using ht) (by simpa using hv)) h2
   exact⟨by simp[hlen],_,⟨cs,ys,rfl,ho,hos⟩,(S0.single hL).append hLs⟩
theorem Bft{f:FuncId}{vs:List Value}{xs:List PV}(hc:Bm P f (xs.map .pv) [] ⟨.pv (.bool true),[],[]⟩)(hl:S0 W (· <W.heap.size) xs vs)(hG:GOK W (· <W.heap.size)):
  Calls P f vs.toArray W fun e W'=>e= .returned (.bool true)∧Below W.heap.size W W':=by
 refine(hc.2 W vs (fun _=>⟨none,0⟩) (· <W.heap.size) (fun b hb=>⟨hb,fun i hi=>by cases hi⟩) hG (fun i j b hi=>by cases hi) (fun i xs hx=>by simp at hx) (by simpa using hl.1) ?_).mono ?_
 ·intro j x v hx hv
  simp only[List.getElem?_map,Option.map_eq_some_iff] at hx
  obtain⟨y,hy,rfl⟩:=hx
  exact .pv _ _ (hl.2 j y v hy hv)
 ·rintro e W' ⟨v,δ,rfl,ha⟩
  refine⟨?_,ha.quiet.os,ha.quiet.tape,ha.quiet.out,ha.size,fun b hb=>ha.frame b hb (fun⟨i,hi,_⟩=>by cases hi)⟩
  cases ha.val with
  |pv _ _ h=>cases h;rfl
theorem Btl{f:FuncId}{fn:Func}{s:ChangeSpec}{apart fresh handsOn again:Bool}{n:Nat}{tb:TypeId}(τs:List TT)
  (hl:laidOutB P=true)(hp:fn.params.toList.all (fun t=>P.readableRec t&&decide (t<P.types.size))=true)(hr:fn.resultTypes= #[tb])(hb:P.underlying tb=some .bool)(hv:s.vars=[])
  (ht:fn.params.toList.length=τs.length)(hrd:(fn.params.toList.zip τs).all (fun p=>reads P n p.1 p.2)=true)(hs: ∀ds:List (DataW H),ds.length=fn.params.toList.length→s.fn H ds={results:=[.lit (.bool true)],args:=ds})
  (hc: ∀xs:List PV,AllOf τs xs→Bm P f (xs.map .pv) [] ⟨.pv (.bool true),[],[]⟩):
  ∀(W:World) (base:Nat) (args:Array Value) (ds gs:List (DataW H)) (before:List MemPlace),
   (∀(j:Nat) t v,fn.params[j]? =some t→args[j]? =some v→Value.okWide P W .any base t v)→
   DataW.Whole enc P fn.params.toList s.vars apart W args.toList ds gs before→
   GOK W (· <W.heap.size)→
   Calls P f args W fun e W'=> ∃v,e= .returned v∧s.post enc P fn apart fresh handsOn again W args v W':=by
 intro W base args ds gs before hok hW hG
 have hW0:=hW
 obtain⟨p,q,hA,hV,rfl,_,_⟩:=hW
 rw[hv] at hV
 obtain⟨rfl,rfl⟩:=trodVars_none hV
 obtain⟨hlen,xs,ho,hL⟩:=Bst (n:=n) (base:=base) ht (by simpa using hrd) (fun j t v h1 h2=>hok j t v (by simpa using h1) (by simpa using h2)) hA
 have hs':s.fn H (ds++[])={results:=[.lit (.bool true)],args:=ds}:=by rw[List.append_nil];exact hs ds hlen
 refine(Bft (hc xs ho) hL hG).mono fun e W' ⟨he,hb'⟩=>⟨_,he,?_⟩
 exact Bls (P:=P) hl (fun t ht=>by have:=List.all_eq_true.1 hp t ht;simpa using this) hr hb hv hW0 (by rw[hs']) (by rw[hs']) (by rw[hs']) hb'
end
def inR(k:IntKind)(n:Int):Prop:=k.min≤n∧n≤k.max
theorem of_slice{α:Type}{f:α→PV}{τ:TT}{wf:α→Prop}(hh: ∀xs,τ.Of xs→ ∃x,wf x∧τ.pack xs=f x){xs:List PV}(h:(TT.slice τ).Of xs): ∃l:List α,(l.length≤maxLen∧ ∀x∈l,wf x)∧xs=[.slice (l.map f)]:=by
 obtain⟨ys,rfl,hl,hy⟩:=h
 obtain⟨l,h0,h1,h2⟩:=Bj2 hh ys hy
 exact⟨l,⟨by omega,h1⟩,by rw[h2]⟩
end Go.Av
end
