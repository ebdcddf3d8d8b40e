import Derived.Great.FillDense
import Derived.Great.BuildSlice
import Derived.Test.YtgmiodjnojkdkaaGreatDoorC3
set_option linter.all false
section
namespace Go.Av
section
variable {P:Program} {C:Ctx} {β:Key→Blk} {σ:St} {a:Act} {w:World} {o:Oper}
theorem Ax.new(h:RR C β σ a w)(hd: ∀i,o.dst=some i→i<C.nt)(k:Key)(hk: ∀i,k≠ .ext i)(hn:σ.look k=none)(o1:Ah)(c:Nat)(ob:Obj){x:SV}{v:Value}
  (hr:(execOp a.eval o).run P w= .ok (.value v) (w.alloc ob))
  (hobj: ∀β':Key→Blk,(∀k',k'≠k→β' k'=β k')→β' k=⟨some w.heap.size,c⟩→(∀b,okB C β σ.look w b→okB C β' (σ.insAll [(k,o1)]).look (w.alloc ob) b)→Fa (w.alloc ob) (okB C β' (σ.insAll [(k,o1)]).look (w.alloc ob)) β' (σ.insAll [(k,o1)]).look o1 ⟨some w.heap.size,c⟩)
  (hs: ∀β':Key→Blk,β' k=⟨some w.heap.size,c⟩→As (w.alloc ob) (okB C β' (σ.insAll [(k,o1)]).look (w.alloc ob)) β' (σ.insAll [(k,o1)]).look x v)(hq:Quiet w (w.alloc ob):=by exact Quiet.alloc _ _):
  Ax P C ((σ.insAll [(k,o1)]).put o.dst x) o a w:=by
 intro K hK Q
 obtain⟨β',b1,b2,h',_,_⟩:=h.new k hk hn o1 c ob hobj hq
 exact Q0 hr (hK β' _ _ (h'.put o.dst x v hd (hs β' b2)))
theorem Bgv{k:Key}(hn:σ.look k=none){cs:List SV}{us:List Value}(hcl:Bk w (okB C β σ.look w) β σ.look cs us)(T:TypeId)(c:Nat)(β':Key→Blk)(b1: ∀k',k'≠k→β' k'=β k')
  (hok: ∀b,okB C β σ.look w b→okB C β' (σ.insAll [(k,.box cs)]).look (w.alloc (.cells us.toArray T)) b):
  Fa (w.alloc (.cells us.toArray T)) (okB C β' (σ.insAll [(k,.box cs)]).look (w.alloc (.cells us.toArray T))) β' (σ.insAll [(k,.box cs)]).look (.box cs) ⟨some w.heap.size,c⟩:=by
 refine⟨_,us.toArray,T,rfl,heap_alloc_new w _,by simp[hcl.1],fun u hu=>hcl.2.1 u (by simpa using hu),fun j x u hx hu=>?_⟩
 refine(hcl.2.2 j x u hx (by simpa using hu)).mono (Ec _) hok (fun k' o' hk'=>?_)
 have hne:k'≠k:=fun e=>by subst e;rw[hn] at hk';cases hk'
 exact⟨o',by rw[St.look_ins,if_neg (fun e=>hne e.symm)];exact hk',o'.sim_refl,b1 k' hne⟩
theorem Ajg{ok:Nat→Prop}{lk:Key→Option Ah}{x:SV}{v:Value}(hx:As w ok β lk x v)(g1: ∀vs,x≠ .tup vs)(g2:x≠ .dead):Bk w ok β lk x.cells v.cells.toList:=by
 have one: ∀(y:SV) (u:Value),As w ok β lk y u→u.oneCell'=true→Bk w ok β lk [y] [u]:=fun y u hy hu=>
  ⟨rfl,by simpa using hu,fun j z q hz hq=>by
   cases j with
   |zero=>simp at hz hq;subst hz;subst hq;exact hy
   |succ j=>simp at hz⟩
 cases hx with
 |pv p _ h=>
  cases h with
  |agg cs us hl h1 h=>exact Bk.pv hl h1 h
  |int k n=>exact one _ _ (.pv _ _ (.int k n)) rfl
  |bool b=>exact one _ _ (.pv _ _ (.bool b)) rfl
  |str s=>exact one _ _ (.pv _ _ (.str s)) rfl
  |fn f=>exact one _ _ (.pv _ _ (.fn f)) rfl
  |nilFn=>exact one _ _ (.pv _ _ .nilFn) rfl
  |yld l=>exact one _ _ (.pv _ _ (.yld l)) rfl
  |hdl t b u=>exact one _ _ (.pv _ _ (.hdl t b u)) rfl
  |nilI=>exact one _ _ (.pv _ _ .nilI) rfl
  |iface t x v h=>exact one _ _ (.pv _ _ (.iface t x v h)) rfl
  |slice xs a n c sz us hn hc hsz h1 hat hp h=>exact one _ _ (.pv _ _ (.slice xs a n c sz us hn hc hsz h1 hat hp h)) rfl
 |nils=>exact one _ _ (.nils _) rfl
 |ptr k off cs b hk hb=>exact one _ _ (.ptr k off cs b hk hb) rfl
 |own k sz xs b hk hb=>exact one _ _ (.own k sz xs b hk hb) rfl
 |ownN k sz ad hk hb=>exact one _ _ (.ownN k sz ad hk hb) rfl
 |mp k kk es b hk hb=>exact one _ _ (.mp k kk es b hk hb) rfl
 |iown k i off sz xs b hk hb hi=>exact one _ _ (.iown k i off sz xs b hk hb hi) rfl
 |ipv x off b o us hb h1 hat h=>exact one _ _ (.ipv x off b o us hb h1 hat h) rfl
 |agg cs us hl h h1=>exact⟨hl,h1,h⟩
 |tup cs us hl h=>exact absurd rfl (g1 cs)
 |fn f cs us hl h=>exact one _ _ (.fn f cs us hl h) rfl
 |dead v=>exact absurd rfl g2
def Zw:Value→SV→Bool
 | .slice none 0 0,.nils=>true
 |v,.dead=>v.oneCell'
 |v,.pv x=>Agp v x
 |_,_=>false
theorem A8g{ok:Nat→Prop}{lk:Key→Option Ah}{v:Value}{x:SV}(h:Zw v x=true):v.oneCell'=true∧As w ok β lk x v:=by
 unfold Zw at h
 split at h
 ·exact⟨rfl,.nils _⟩
 ·exact⟨h,.dead _⟩
 ·rename_i x
  have hl:=Tr (w:=w) (ok:=ok) h
  refine⟨?_,.pv _ _ hl⟩
  cases hl<;>first|rfl|(simp[Agp] at h;done)
 ·cases h
theorem Bk2{ok:Nat→Prop}{lk:Key→Option Ah}{vs:List Value}{xs:List SV}(h:Cu Zw vs xs=true):Bk w ok β lk xs vs:=by
 induction vs generalizing xs with
 |nil=>cases xs with
  |nil=>exact⟨rfl,by simp,by simp⟩
  |cons _ _=>simp[Cu] at h
 |cons v vs ih=>cases xs with
  |nil=>simp[Cu] at h
  |cons x xs=>
   simp only[Cu,Bool.and_eq_true] at h
   obtain⟨i1,i2,i3⟩:=ih h.2
   obtain⟨h1,h2⟩:=A8g (w:=w) (ok:=ok) (β:=β) (lk:=lk) h.1
   refine⟨by simp[i1],fun u hu=>?_,fun j y u hy hu=>?_⟩
   ·simp at hu;rcases hu with rfl|hu
    ·exact h1
    ·exact i2 u hu
   ·cases j with
    |zero=>simp at hy hu;subst hy;subst hu;exact h2
    |succ j=>exact i3 j y u (by simpa using hy) (by simpa using hu)
theorem Bb7(h:RR C β σ a w)(hd: ∀i,o.dst=some i→i<C.nt){t:TypeId}{zero:List SV}(ho:o.op= .alloc t){i:TypeInfo}{z:Value}(hi:P.info? t=some i)(hz:i.zero=some z)(ha:Cu Zw z.cells.toList zero=true)
  (k:Key)(hk: ∀i,k≠ .ext i)(hn:σ.look k=none):Ax P C ((σ.insAll [(k,.box zero)]).put o.dst (.ptr k 0)) o a w:=by
 have hcl:=Bk2 (w:=w) (ok:=okB C β σ.look w) (β:=β) (lk:=σ.look) ha
 refine Ax.new h hd k hk hn _ 0 (.cells z.cells.toList.toArray t) (v:= .pointer (some ⟨w.heap.size,0,none⟩)) ?_ (fun β' b1 _ hok=>Bgv hn hcl t 0 β' b1 hok) (fun β' b2=>?_)
 ·simp only[execOp,ho,Sem.run_bind,Instr.alloc,zeroValue,typeInfo,run_program,Result.andThen_ok,hi,hz,Sem.run_pure,newVar,newRow,run_newObj_alloc,Array.toArray_toList]
 ·have:=As.ptr (w:=w.alloc (.cells z.cells.toList.toArray t)) (ok:=okB C β' (σ.insAll [(k,.box zero)]).look (w.alloc (.cells z.cells.toList.toArray t))) (β:=β') (lk:=(σ.insAll [(k,.box zero)]).look) k 0 zero w.heap.size (by rw[St.look_ins];simp) (by rw[b2])
  exact this
theorem Bj1(h:RR C β σ a w)(hd: ∀i,o.dst=some i→i<C.nt){t:TypeId}{x:Operand}{x':Opd}(ho:o.op= .box t x)(hx:Ak x x'=true)(h1: ∀vs,σ.ev x'≠ .tup vs)(h2:σ.ev x'≠ .dead)
  (k:Key)(hk: ∀i,k≠ .ext i)(hn:σ.look k=none):Ax P C ((σ.insAll [(k,.box (σ.ev x').cells)]).put o.dst (.ptr k 0)) o a w:=by
 have hcl:=Ajg (h.ev hx) h1 h2
 refine Ax.new h hd k hk hn _ 0 (.cells (a.eval x).cells.toList.toArray t) (v:= .pointer (some ⟨w.heap.size,0,none⟩)) ?_ (fun β' b1 _ hok=>Bgv hn hcl t 0 β' b1 hok) (fun β' b2=>?_)
 ·simp only[execOp,ho,Sem.run_bind,Instr.box,newVar,newRow,run_newObj_alloc,Result.andThen_ok,Sem.run_pure,Array.toArray_toList]
 ·have:=As.ptr (w:=w.alloc (.cells (a.eval x).cells.toList.toArray t)) (ok:=okB C β' (σ.insAll [(k,.box (σ.ev x').cells)]).look (w.alloc (.cells (a.eval x).cells.toList.toArray t))) (β:=β') (lk:=(σ.insAll [(k,.box (σ.ev x').cells)]).look) k 0 (σ.ev x').cells w.heap.size (by rw[St.look_ins];simp) (by rw[b2])
  exact this
theorem Bk.fill{ok:Nat→Prop}{lk:Key→Option Ah}{cs vc:List SV}{us vu:List Value}(h:Bk w ok β lk cs us)(hv:Bk w ok β lk vc vu)(off n:Nat)(hn:vc.length=n):
  Bk w ok β lk (cs.take off++vc++cs.drop (off+n)) (us.take off++vu++us.drop (off+n)):=by
 have app: ∀{c1 c2:List SV} {u1 u2:List Value},Bk w ok β lk c1 u1→Bk w ok β lk c2 u2→Bk w ok β lk (c1++c2) (u1++u2):=by
  intro c1 c2 u1 u2 h1 h2
  refine⟨by simp[h1.1,h2.1],fun u hu=>?_,fun j x u hx hu=>?_⟩
  ·rcases List.mem_append.1 hu with hu|hu
   ·exact h1.2.1 u hu
   ·exact h2.2.1 u hu
  ·simp only[List.getElem?_append,h1.1] at hx hu
   split at hx
   ·rename_i hlt;rw[if_pos hlt] at hu;exact h1.2.2 j x u hx hu
   ·rename_i hlt;rw[if_neg hlt] at hu;exact h2.2.2 _ x u hx hu
 have tk:Bk w ok β lk (cs.take off) (us.take off):=by simpa using h.range 0 off
 have dr:Bk w ok β lk (cs.drop (off+n)) (us.drop (off+n)):=by
  have:=h.range (off+n) cs.length
  rwa [List.take_of_length_le (by simp),List.take_of_length_le (by simp[h.1])] at this
 exact app (app tk hv) dr
theorem Blp(us vu:List Value)(off:Nat)(hle:off+vu.length≤us.length):
  (vu.toArray.zipIdx.foldl (fun cs (x:Value×Nat)=>cs.setIfInBounds (off+x.2) x.1) us.toArray)=(us.take off++vu++us.drop (off+vu.length)).toArray:=by
 obtain⟨h1,h2⟩:=Great.foldl_set off vu 0 us.toArray
 have e:vu.toArray.zipIdx.foldl (fun cs (x:Value×Nat)=>cs.setIfInBounds (off+x.2) x.1) us.toArray=(vu.zipIdx 0).foldl (fun cs (x:Value×Nat)=>cs.setIfInBounds (off+x.2) x.1) us.toArray:=by
  rw[←Array.foldl_toList,Array.toList_zipIdx]
 rw[e]
 apply Array.ext_getElem?
 intro k
 rw[h2 k]
 simp only[Nat.add_zero,List.size_toArray,List.getElem?_toArray,List.getElem?_append,List.length_append,List.length_take,List.getElem?_take,List.getElem?_drop]
 by_cases h3:k<off
 ·have: ¬(off≤k∧k<off+vu.length∧k<us.length):=by omega
  rw[if_neg this,if_pos (by omega),if_pos (by omega),if_pos h3]
 ·by_cases h4:k<off+vu.length
  ·rw[if_pos ⟨by omega,h4,by omega⟩,if_pos (by omega),if_neg (by omega)]
   congr 1;omega
  ·rw[if_neg (by omega),if_neg (by omega)]
   congr 1;omega
def Qn(pl:Nat→Option (Nat×Nat))(p:Nat×Operand)(q:Nat×Nat×Opd):Bool:=pl p.1==some (q.1,q.2.1)&&Ak p.2 q.2.2
def Anv{α β:Type}(f:α→β→Bool):List α→List β→Bool
 |[],[]=>true
 |x::xs,y::ys=>f x y&&Anv f xs ys
 |_,_=>false
theorem Ap9(h:RR C β σ a w){pl:Nat→Option (Nat×Nat)}: ∀(ps:List (Nat×Operand)) (qs:List (Nat×Nat×Opd)) (cs cs':List SV) (us:List Value),Anv (Qn pl) ps qs=true→
  Bk w (okB C β σ.look w) β σ.look cs us→An8 cs (qs.map fun p=>(p.1,p.2.1,σ.ev p.2.2))=some cs'→(∀q∈qs,(∀vs,σ.ev q.2.2≠ .tup vs)∧σ.ev q.2.2≠ .dead)→
  ∃us',Instr.fill pl us.toArray (ps.map fun p=>(p.1,a.eval p.2))=some us'.toArray∧Bk w (okB C β σ.look w) β σ.look cs' us'
 |[],[],cs,cs',us,_,hcl,hf,_=>by
  simp only[List.map_nil,An8,Option.some.injEq] at hf;subst hf
  exact⟨us,rfl,hcl⟩
 |[],_::_,_,_,_,h2,_,_,_=>by simp[Anv] at h2
 |_::_,[],_,_,_,h2,_,_,_=>by simp[Anv] at h2
 |p::ps,q::qs,cs,cs',us,h2,hcl,hf,hne=>by
  simp only[Anv,Bool.and_eq_true,Qn,beq_iff_eq] at h2
  obtain⟨⟨hpl,hag⟩,h2⟩:=h2
  simp only[List.map_cons,An8] at hf
  split at hf
  ·rename_i hc
   obtain⟨e1,e2⟩:=hc
   obtain⟨n1,n2⟩:=hne q (by simp)
   have hv:=Ajg (h.ev hag) n1 n2
   obtain⟨us',hr,hcl'⟩:=Ap9 h ps qs _ cs' _ h2 (hcl.fill hv q.1 q.2.1 e1) hf (fun q' hq'=>hne q' (by simp[hq']))
   refine⟨us',?_,hcl'⟩
   have hsz:(a.eval p.2).cells.size=q.2.1:=by rw[←e1,hv.1];simp
   have hul:cs.length=us.length:=hcl.1
   simp only[List.map_cons]
   unfold Instr.fill
   simp only[hpl]
   have hcond: ¬((a.eval p.2).cells.size≠q.2.1∨q.1+(a.eval p.2).cells.size>us.toArray.size):=by
    simp only[List.size_toArray]
    omega
   rw[if_neg (by simp only[Bool.or_eq_true,decide_eq_true_eq];exact hcond)]
   rw[←hr]
   congr 1
   have:=Blp us (a.eval p.2).cells.toList q.1 (by simp only[Array.length_toList];omega)
   simp only[Array.toArray_toList,Array.length_toList,hsz] at this
   exact this
  ·cases hf
theorem Bb8(h:RR C β σ a w)(hd: ∀i,o.dst=some i→i<C.nt){t:TypeId}{parts:Array (Nat×Operand)}{zero:List SV}{parts':List (Nat×Nat×Opd)}(ho:o.op= .build t parts){it:TypeInfo}{z:Value}{fields:Array Field}{places:List (Nat×Nat)}
  (hi:P.info? t=some it)(hz:it.zero=some z)(hu:P.underlying t=some (.struct fields))(hpl:fields.toList.mapM (fun f=>(P.info? f.type).map fun i=>(f.offset,i.size))=some places)(ha:Cu Zw z.cells.toList zero=true)
  (hp:Anv (Qn (fun i:Nat=>places[i]?)) parts.toList parts'=true)(hne: ∀q∈parts',(∀vs,σ.ev q.2.2≠ .tup vs)∧σ.ev q.2.2≠ .dead)
  {cs:List SV}(hf:An8 zero (parts'.map fun p=>(p.1,p.2.1,σ.ev p.2.2))=some cs){v:SV}(hv:SV.ofCells true cs=some v):Ax P C ((σ.insAll []).put o.dst v) o a w:=by
 have hcl:=Bk2 (w:=w) (ok:=okB C β σ.look w) (β:=β) (lk:=σ.look) ha
 obtain⟨us',hr,hcl'⟩:=Ap9 h _ _ _ _ _ hp hcl hf hne
 obtain⟨u,hu1,hs⟩:=F4 hv hcl'
 simp only[N8,cond_true,Option.some.injEq] at hu1
 subst hu1
 refine Ax.value h hd (v:= .agg us'.toArray) ?_ hs
 have hb:P.built t (parts.map fun(i,x)=>(i,a.eval x)).toList=some us'.toArray:=by
  unfold Program.built
  simp only[hi,hu,hz,hpl]
  have hpf:(fun i:Nat=>places.toArray[i]?)=fun i:Nat=>places[i]? :=by funext i;simp
  rw[hpf,←hr]
  simp
 simp only[execOp,ho,Sem.run_bind,run_build w t _ _ hb,Result.andThen_ok,Sem.run_pure]
theorem A7z(h:RR C β σ a w)(hd: ∀i,o.dst=some i→i<C.nt){t:TypeId}{parts:Array (Nat×Operand)}{zero:List SV}{parts':List (Nat×Nat×Opd)}(ho:o.op= .build t parts){it:TypeInfo}{z:Value}{len:Nat}{e:TypeId}{ie:TypeInfo}
  (hi:P.info? t=some it)(hz:it.zero=some z)(hu:P.underlying t=some (.array len e))(hpl:P.info? e=some ie)(ha:Cu Zw z.cells.toList zero=true)
  (hp:Anv (Qn fun i=>some (i*ie.size,ie.size)) parts.toList parts'=true)(hne: ∀q∈parts',(∀vs,σ.ev q.2.2≠ .tup vs)∧σ.ev q.2.2≠ .dead)
  {cs:List SV}(hf:An8 zero (parts'.map fun p=>(p.1,p.2.1,σ.ev p.2.2))=some cs){v:SV}(hv:SV.ofCells true cs=some v):Ax P C ((σ.insAll []).put o.dst v) o a w:=by
 have hcl:=Bk2 (w:=w) (ok:=okB C β σ.look w) (β:=β) (lk:=σ.look) ha
 obtain⟨us',hr,hcl'⟩:=Ap9 h _ _ _ _ _ hp hcl hf hne
 obtain⟨u,hu1,hs⟩:=F4 hv hcl'
 simp only[N8,cond_true,Option.some.injEq] at hu1
 subst hu1
 refine Ax.value h hd (v:= .agg us'.toArray) ?_ hs
 have hb:P.built t (parts.map fun(i,x)=>(i,a.eval x)).toList=some us'.toArray:=by
  unfold Program.built
  simp only[hi,hu,hz,hpl]
  rw[←hr]
  simp
 simp only[execOp,ho,Sem.run_bind,run_build w t _ _ hb,Result.andThen_ok,Sem.run_pure]
def okP(w:World)(b:Nat):Prop:=b<w.heap.size
theorem A42{lk:Key→Option Ah}(b:Nat)(h:okB C β lk w b):okP w b:=h.1
theorem Ax8{sz i j:Nat}(hj:j<sz):(i*sz+j)/sz=i∧(i*sz+j)%sz=j:=by
 have h0:0<sz:=by omega
 constructor
 ·rw[Nat.mul_comm,Nat.mul_add_div h0,Nat.div_eq_of_lt hj,Nat.add_zero]
 ·rw[Nat.mul_comm,Nat.mul_add_mod,Nat.mod_eq_of_lt hj]
theorem Bfe{cs:List SV}{xs:List PV}(h:St.pure.pureL σ cs=some xs):xs.length=cs.length∧(∀(j:Nat) (c:SV) (x:PV),cs[j]? =some c→xs[j]? =some x→σ.pure c=some x):=by
 induction cs generalizing xs with
 |nil=>simp[St.pure.pureL] at h;subst h;simp
 |cons c cs ih=>
  have key: ∃x r,σ.pure c=some x∧St.pure.pureL σ cs=some r∧xs=x::r:=by
   cases hc:σ.pure c with
   |none=>cases c<;>simp[St.pure.pureL,hc] at h
   |some x=>
    cases hr:St.pure.pureL σ cs with
    |none=>cases c<;>simp[St.pure.pureL,hc,hr] at h
    |some r=>cases c<;>simp[St.pure.pureL,hc,hr] at h<;>exact⟨x,r,rfl,rfl,h.symm⟩
  obtain⟨x,r,h1,h2,rfl⟩:=key
  obtain⟨i1,i2⟩:=ih h2
  refine⟨by simp[i1],fun j c' y hc hy=>?_⟩
  cases j with
  |zero=>simp at hc hy;subst hc;subst hy;exact h1
  |succ j=>exact i2 j c' y (by simpa using hc) (by simpa using hy)
theorem Ax9{w':World}{ok ok':Nat→Prop}{sz:Nat}{xs:List PV}{B:Blk}{β:Key→Blk}{lk:Key→Option Ah}(h:Fa w' ok β lk (.row sz xs) B)(hok: ∀b,ok b→ok' b){b:Nat}(hB:B.b=some b)(hb:ok' b):Be w' ok' (.slice xs) (.slice (some ⟨b,0,none⟩) xs.length B.c):=by
 rcases h with h|⟨b',arr,T,h0,h1,h2,h3,h4,h5⟩
 ·rw[hB] at h;cases h.1
 ·rw[hB] at h0;cases h0
  refine .slice xs _ _ _ sz (fun i j=>arr.getD (i*sz+j) undef) rfl h2 (fun x hx=>(h4 x hx).1) (fun x hx=>(h4 x hx).2) ?_ (fun _=>⟨_,rfl,rfl⟩) ?_
  ·intro i j hi hj
   refine⟨_,rfl,rfl,hb,?_⟩
   have hm:=List.getElem_mem hi
   have hjl:j<xs[i].cells.length:=by rw[(h4 _ hm).1];exact hj
   obtain⟨u,hu,_⟩:=h5 i j _ _ (List.getElem?_eq_getElem hi) (List.getElem?_eq_getElem hjl)
   have hlt:=(Array.getElem?_eq_some_iff.1 hu).1
   simp only[World.cell?,h1]
   simp[hlt]
  ·intro i j x y hx hy
   obtain⟨u,hu,hl⟩:=h5 i j x y hx hy
   have:arr.getD (i*sz+j) undef=u:=by
    obtain⟨hlt,rfl⟩:=Array.getElem?_eq_some_iff.1 hu
    simp[Array.getD,hlt]
   rw[this];exact hl.mono (fun b _ off u hu=>hu) hok
theorem Ahf{ok:Nat→Prop}(ad:Option Addr):Be w ok (.slice []) (.slice ad 0 0):=
 .slice [] _ 0 0 0 (fun _ _=>undef) rfl (Nat.le_refl _) (by simp) (by simp) (by intro i j hi;omega) (by omega) (by simp)
theorem Bjk(h:RR C β σ a w){x:SV}{v:Value}(hx:As w (okB C β σ.look w) β σ.look x v): ∀p,σ.pure x=some p→Be w (okP w) p v:=by
 induction hx with
 |pv x v hl=>intro p hp;simp only[St.pure,Option.some.injEq] at hp;subst hp;exact hl.mono (fun b _ off u hu=>hu) A42
 |nils=>intro p hp;simp only[St.pure,Option.some.injEq] at hp;subst hp;exact Ahf _
 |ptr k off cs b hk hb=>intro p hp;simp[St.pure] at hp
 |own k sz xs b hk hb=>
  intro p hp
  simp only[St.pure,hk,Option.some.injEq] at hp;subst hp
  exact Ax9 (h.objs k _ hk) A42 hb (h.blk_lt hk hb)
 |ownN k sz ad hk hb=>
  intro p hp
  simp only[St.pure,hk,Option.some.injEq] at hp;subst hp
  exact Ahf _
 |mp k kk es b hk hb=>intro p hp;simp[St.pure] at hp
 |iown k i off sz xs b hk hb hi=>intro p hp;simp[St.pure] at hp
 |ipv x off b o us hb h1 hat hl=>intro p hp;simp[St.pure] at hp
 |agg cs us hl hs h1 ih=>
  intro p hp
  simp only[St.pure,Option.map_eq_some_iff] at hp
  obtain⟨xs,hxs,rfl⟩:=hp
  obtain⟨e1,e2⟩:=Bfe hxs
  have hlie: ∀(j:Nat) (x:PV) (u:Value),xs[j]? =some x→us[j]? =some u→Be w (okP w) x u:=fun j x u hx hu=>by
   have hj:j<cs.length:=by rw[←e1];exact(List.getElem?_eq_some_iff.1 hx).1
   exact ih j cs[j] u (by simp[hj]) hu x (e2 j _ x (by simp[hj]) hx)
  refine .agg xs us (by rw[e1,hl]) (fun x hx=>?_) hlie
  obtain⟨j,hj⟩:=List.mem_iff_getElem?.1 hx
  have hjl:j<us.length:=by rw[←hl,←e1];exact(List.getElem?_eq_some_iff.1 hj).1
  exact Hf (hlie j x _ hj (List.getElem?_eq_getElem hjl)) (h1 _ (List.getElem_mem hjl))
 |tup cs us hl hs ih=>intro p hp;simp[St.pure] at hp
 |fn f cs us hl hs ih=>
  intro p hp
  cases cs with
  |nil=>
   simp only[St.pure,Option.some.injEq] at hp;subst hp
   have:us=[]:=List.eq_nil_of_length_eq_zero (by simpa using hl.symm)
   subst this
   exact .fn f
  |cons _ _=>simp[St.pure] at hp
 |dead v=>intro p hp;simp[St.pure] at hp
theorem A8v{cs:List SV}{xs:List PV}(h:SV.clean.cleanL cs=some xs):xs.length=cs.length∧(∀(j:Nat) (c:SV) (x:PV),cs[j]? =some c→xs[j]? =some x→c.clean=some x):=by
 induction cs generalizing xs with
 |nil=>simp[SV.clean.cleanL] at h;subst h;simp
 |cons c cs ih=>
  have key: ∃x r,c.clean=some x∧SV.clean.cleanL cs=some r∧xs=x::r:=by
   cases hc:c.clean with
   |none=>cases c<;>simp[SV.clean.cleanL,hc] at h
   |some x=>
    cases hr:SV.clean.cleanL cs with
    |none=>cases c<;>simp[SV.clean.cleanL,hc,hr] at h
    |some r=>cases c<;>simp[SV.clean.cleanL,hc,hr] at h<;>exact⟨x,r,rfl,rfl,h.symm⟩
  obtain⟨x,r,h1,h2,rfl⟩:=key
  obtain⟨i1,i2⟩:=ih h2
  refine⟨by simp[i1],fun j c' y hc hy=>?_⟩
  cases j with
  |zero=>simp at hc hy;subst hc;subst hy;exact h1
  |succ j=>exact i2 j c' y (by simpa using hc) (by simpa using hy)
theorem Auo{ok:Nat→Prop}{lk:Key→Option Ah}{x:SV}{v:Value}(hx:As w ok β lk x v): ∀p,x.clean=some p→Be w ok p v:=by
 induction hx with
 |pv x v hl=>intro p hp;simp only[SV.clean,Option.some.injEq] at hp;subst hp;exact hl
 |nils=>
  intro p hp;simp only[SV.clean,Option.some.injEq] at hp;subst hp
  exact .slice [] _ 0 0 0 (fun _ _=>undef) rfl (Nat.le_refl _) (by simp) (by simp) (by intro i j hi;omega) (by omega) (by simp)
 |ptr k off cs b hk hb=>intro p hp;simp[SV.clean] at hp
 |own k sz xs b hk hb=>intro p hp;simp[SV.clean] at hp
 |ownN k sz ad hk hb=>intro p hp;simp[SV.clean] at hp
 |mp k kk es b hk hb=>intro p hp;simp[SV.clean] at hp
 |iown k i off sz xs b hk hb hi=>intro p hp;simp[SV.clean] at hp
 |ipv x off b o us hb h1 hat hl=>intro p hp;simp[SV.clean] at hp
 |agg cs us hl hs h1 ih=>
  intro p hp
  simp only[SV.clean,Option.map_eq_some_iff] at hp
  obtain⟨xs,hxs,rfl⟩:=hp
  obtain⟨e1,e2⟩:=A8v hxs
  have hlie: ∀(j:Nat) (x:PV) (u:Value),xs[j]? =some x→us[j]? =some u→Be w ok x u:=fun j x u hx hu=>by
   have hj:j<cs.length:=by rw[←e1];exact(List.getElem?_eq_some_iff.1 hx).1
   exact ih j cs[j] u (by simp[hj]) hu x (e2 j _ x (by simp[hj]) hx)
  refine .agg xs us (by rw[e1,hl]) (fun x hx=>?_) hlie
  obtain⟨j,hj⟩:=List.mem_iff_getElem?.1 hx
  have hjl:j<us.length:=by rw[←hl,←e1];exact(List.getElem?_eq_some_iff.1 hj).1
  exact Hf (hlie j x _ hj (List.getElem?_eq_getElem hjl)) (h1 _ (List.getElem_mem hjl))
 |tup cs us hl hs ih=>intro p hp;simp[SV.clean] at hp
 |fn f cs us hl hs ih=>
  intro p hp
  cases cs with
  |nil=>
   simp only[SV.clean,Option.some.injEq] at hp;subst hp
   have:us=[]:=List.eq_nil_of_length_eq_zero (by simpa using hl.symm)
   subst this
   exact .fn f
  |cons _ _=>simp[SV.clean] at hp
 |dead v=>intro p hp;simp[SV.clean] at hp
theorem Ak7{ok:Nat→Prop}{lk:Key→Option Ah}: ∀{vs:List SV} {us:List Value} {xs:List PV},vs.length=us.length→(∀(j:Nat) (x:SV) (u:Value),vs[j]? =some x→us[j]? =some u→As w ok β lk x u)→
  Ha vs=some xs→xs.length=us.length∧ ∀(j:Nat) (x:PV) (u:Value),xs[j]? =some x→us[j]? =some u→Be w ok x u
 |[],us,xs,hl,h,hc=>by
  simp only[Ha,Option.some.injEq] at hc;subst hc
  exact⟨by simpa using hl,by simp⟩
 |v::vs,[],xs,hl,h,hc=>by simp at hl
 |v::vs,u::us,xs,hl,h,hc=>by
  simp only[Ha] at hc
  cases hv:v.clean with
  |none=>rw[hv] at hc;cases hc
  |some x=>
   cases hr:Ha vs with
   |none=>rw[hv,hr] at hc;cases hc
   |some r=>
    rw[hv,hr] at hc;cases hc
    obtain⟨i1,i2⟩:=Ak7 (vs:=vs) (us:=us) (by simpa using hl) (fun j y q hy hq=>h (j+1) y q (by simpa using hy) (by simpa using hq)) hr
    refine⟨by simp[i1],fun j y q hy hq=>?_⟩
    cases j with
    |zero=>simp at hy hq;subst hy;subst hq;exact Auo (h 0 v u rfl rfl) x hv
    |succ j=>exact i2 j y q (by simpa using hy) (by simpa using hq)
theorem Li{ok:Nat→Prop}{x:PV}{v:Value}(h:Be w ok x v):x.cells.length=v.cells.size∧(∀u∈v.cells,u.oneCell'=true)∧ ∀(j:Nat) (y:PV) (u:Value),x.cells[j]? =some y→v.cells[j]? =some u→Be w ok y u:=by
 have:=Ajg (w:=w) (ok:=ok) (β:=fun _=>⟨none,0⟩) (lk:=fun _=>none) (.pv x v h) (by simp) (by simp)
 obtain⟨h1,h2,h3⟩:=this
 simp only[SV.cells,List.length_map,Array.length_toList] at h1
 refine⟨h1,fun u hu=>h2 u (by simpa using hu),fun j y u hy hu=>?_⟩
 exact Bb (h3 j (.pv y) u (by simp[SV.cells,hy]) (by simpa using hu))
theorem Bp4{t e:TypeId}{it:TypeInfo}{z:Value}{sz:Nat}(ht:P.underlying t=some (.slice e))(hit:P.info? e=some it)(hs:it.size=sz)(hz:it.zero=some z)(h0:sz≠0)(us:List Value)(hus: ∀u∈us,u.cells.size=sz)(hne:us≠[])(hsm:us.length*sz≤2^24)(parts:Array (Nat×Value))
  (hp:parts.toList=(us.zipIdx 0).map fun x=>(x.2,x.1)): ∃arr:Array Value,(Instr.buildSlice t us.length parts).run P w= .ok (.slice (some ⟨w.heap.size,0,none⟩) us.length us.length) (w.alloc (.cells arr e))∧arr.size=us.length*sz∧
   ∀i j,i<us.length→j<sz→arr[i*sz+j]? =(us[i]?).bind (fun v=>v.cells[j]?):=by
 subst hs
 have hlen:0<us.length:=by cases us with
  |nil=>exact absurd rfl hne
  |cons _ _=>simp
 obtain⟨r,hr,hrs,hk⟩:=Great.fill_dense (s:=it.size) (by omega) us 0 ((Array.range (us.length*it.size)).map (z.cells[· %z.cells.size]!)) hus (by simp)
 refine⟨r,?_,by rw[hrs];simp,fun i j hi hj=>?_⟩
 ·exact run_buildSlice w t e us.length parts r it z ht hit hz (by omega) (by have:=Nat.mul_pos hlen (by omega:0<it.size);omega) (by rw[hp];exact hr)
 ·rw[hk]
  obtain⟨e1,e2⟩:=Ax8 (i:=i) hj
  have hlt:i*it.size+j<us.length*it.size:=by
   have:(i+1)*it.size≤us.length*it.size:=Nat.mul_le_mul_right _ hi
   rw[Nat.add_mul] at this;omega
  rw[if_pos (by simpa using hlt),e1,e2,Nat.sub_zero]
theorem Bpz{k:Key}(hn:σ.look k=none){ps:List PV}{us:List Value}{sz:Nat}(hsz: ∀x∈ps,x.cells.length=sz)(hl:ps.length=us.length)(hlie: ∀(j:Nat) (x:PV) (u:Value),ps[j]? =some x→us[j]? =some u→Be w (okB C β σ.look w) x u)
  (arr:Array Value)(e:TypeId)(c:Nat)(hc:ps.length≤c)(hsize:arr.size=c*sz)(ha: ∀i j,i<us.length→j<sz→arr[i*sz+j]? =(us[i]?).bind (fun v=>v.cells[j]?))(β':Key→Blk)
  (hok: ∀b,okB C β σ.look w b→okB C β' (σ.insAll [(k,.row sz ps)]).look (w.alloc (.cells arr e)) b):
  Fa (w.alloc (.cells arr e)) (okB C β' (σ.insAll [(k,.row sz ps)]).look (w.alloc (.cells arr e))) β' (σ.insAll [(k,.row sz ps)]).look (.row sz ps) ⟨some w.heap.size,c⟩:=by
 have fine: ∀x∈ps,x.fine:=fun x hx=>by
  obtain⟨j,hj⟩:=List.mem_iff_getElem?.1 hx
  have hjl:j<us.length:=by rw[←hl];exact(List.getElem?_eq_some_iff.1 hj).1
  exact(hlie j x us[j] hj (by simp[hjl])).fine
 refine .inr ⟨_,arr,e,rfl,heap_alloc_new w _,hc,hsize,fun x hx=>⟨hsz x hx,fine x hx⟩,fun i j x y hx hy=>?_⟩
 have hi:i<us.length:=by rw[←hl];exact(List.getElem?_eq_some_iff.1 hx).1
 have hu:us[i]? =some us[i]:=by simp[hi]
 have hL:=hlie i x _ hx hu
 obtain⟨c1,c2,c3⟩:=Li hL
 have hj:j<x.cells.length:=(List.getElem?_eq_some_iff.1 hy).1
 have hj2:j<us[i].cells.size:=by rw[←c1];exact hj
 have hcu:us[i].cells[j]? =some us[i].cells[j]:=by simp[hj2]
 refine⟨us[i].cells[j],?_,(c3 j y _ hy hcu).mono (Ec _) hok⟩
 rw[ha i j hi (by rw[←hsz x (List.mem_of_getElem? hx)];exact hj),hu]
 exact hcu
end
end Go.Av
end
