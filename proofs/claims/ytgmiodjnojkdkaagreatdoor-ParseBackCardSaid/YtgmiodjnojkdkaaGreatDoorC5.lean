import Derived.IntWalk
import Derived.Test.YtgmiodjnojkdkaaGreatDoorC4
set_option linter.all false
section
namespace Go.Av
section
variable {P:Program} {C:Ctx} {β:Key→Blk} {σ:St} {a:Act} {w:World} {o:Oper}
theorem RR.alloc(h:RR C β σ a w)(ob:Obj)(hq:Quiet w (w.alloc ob):=by exact Quiet.alloc _ _):RR C β σ a (w.alloc ob)∧(∀b,okB C β σ.look w b→okB C β σ.look (w.alloc ob) b)∧okB C β σ.look (w.alloc ob) w.heap.size:=by
 have hok: ∀b,okB C β σ.look w b→okB C β σ.look (w.alloc ob) b:=fun b hb=>⟨by have:=hb.1;rw[World.size_alloc];omega,hb.2⟩
 refine⟨⟨h.tsz,h.dfs,h.inj,?_,h.lo,h.ext2,?_,?_,?_,h.quiet.trans hq,h.gw⟩,hok,?_,?_⟩
 ·intro k o hk
  exact(h.objs k o hk).mono (Ec ob) hok rfl (fun b hb=>heap_alloc_old w ob _ (h.blk_lt hk hb)) (fun k2 o2 _ h2=>⟨o2,h2,o2.sim_refl,rfl⟩)
 ·intro t
  exact(h.slots t).mono (Ec ob) hok (fun k2 o2 h2=>⟨o2,h2,o2.sim_refl,rfl⟩)
 ·have:=h.size;rw[World.size_alloc];omega
 ·intro b hb hx
  have:=h.frame b hb hx
  have hs:=h.size
  rw[heap_alloc_old w ob b (by omega)]
  exact this
 ·rw[World.size_alloc];omega
 ·refine⟨fun k o hk e=>?_,fun hlt=>?_⟩
  ·have:=h.blk_lt hk e
   omega
  ·have:=h.size
   omega
theorem Ax.bare(h:RR C β σ a w)(hd: ∀i,o.dst=some i→i<C.nt)(ob:Obj){x:SV}{v:Value}(hr:(execOp a.eval o).run P w= .ok (.value v) (w.alloc ob))
  (hs:(∀b,okB C β σ.look w b→okB C β σ.look (w.alloc ob) b)→okB C β σ.look (w.alloc ob) w.heap.size→As (w.alloc ob) (okB C β σ.look (w.alloc ob)) β σ.look x v)(hq:Quiet w (w.alloc ob):=by exact Quiet.alloc _ _):
  Ax P C ((σ.insAll []).put o.dst x) o a w:=by
 intro K hK Q
 obtain⟨h',h1,h2⟩:=h.alloc ob hq
 exact Q0 hr (hK β _ _ (h'.put o.dst x v hd (hs h1 h2)))
def H6:Nat→List (Nat×Operand)→List Opd→Bool
 |_,[],[]=>true
 |i,p::ps,x::xs=>p.1==i&&Ak p.2 x&&H6 (i+1) ps xs
 |_,_,_=>false
theorem Mj: ∀{ps:List (Nat×Operand)} {xs:List Opd} {i:Nat},H6 i ps xs=true→Cu Ak (ps.map (·.2)) xs=true∧ ∀f:Operand→Value,ps.map (fun p=>(p.1,f p.2))=((ps.map fun p=>f p.2).zipIdx i).map fun x=>(x.2,x.1)
 |[],[],_,_=>⟨rfl,fun _=>rfl⟩
 |[],_::_,_,h=>by simp[H6] at h
 |_::_,[],_,h=>by simp[H6] at h
 |p::ps,x::xs,i,h=>by
  simp only[H6,Bool.and_eq_true,beq_iff_eq] at h
  obtain⟨⟨h1,h2⟩,h3⟩:=h
  obtain⟨i1,i2⟩:=Mj h3
  refine⟨by simp[Cu,h2,i1],fun f=>?_⟩
  simp only[List.map_cons,List.zipIdx_cons,i2 f,h1]
theorem Bmp(h:RR C β σ a w){ps:List (Nat×Operand)}{xs:List Opd}{sz:Nat}{qs:List PV}(hag:H6 0 ps xs=true)(hc:Ha (xs.map σ.ev)=some qs)(hsz:Hy sz qs=true):
  qs.length=(ps.map fun p=>a.eval p.2).length∧(∀u∈ps.map (fun p=>a.eval p.2),u.cells.size=sz)∧ ∀(j:Nat) (x:PV) (u:Value),qs[j]? =some x→(ps.map fun p=>a.eval p.2)[j]? =some u→Be w (okB C β σ.look w) x u:=by
 obtain⟨h1,_⟩:=Mj hag
 obtain⟨e1,e2⟩:=h.evs h1
 rw[List.map_map] at e1 e2
 obtain⟨g1,g2⟩:=Ak7 (vs:=xs.map σ.ev) (us:=ps.map fun p=>a.eval p.2) (by exact e1) (by exact e2) hc
 refine⟨g1,fun u hu=>?_,g2⟩
 obtain⟨j,hj⟩:=List.mem_iff_getElem?.1 hu
 have hjl:j<qs.length:=by rw[g1];exact(List.getElem?_eq_some_iff.1 hj).1
 have hL:=g2 j qs[j] u (by simp[hjl]) hj
 rw[←(Li hL).1]
 exact Ez hsz _ (List.getElem_mem hjl)
theorem Bj6(h:RR C β σ a w)(hd: ∀i,o.dst=some i→i<C.nt){t e:TypeId}{len sz:Nat}{parts:Array (Nat×Operand)}{xs:List Opd}{keep:Bool}(ho:o.op= .buildSlice t len parts)(ht:P.underlying t=some (.slice e))
  {it:TypeInfo}{z:Value}(hit:P.info? e=some it)(hs:it.size=sz)(hz:it.zero=some z)(h0:sz≠0)(hlen:len=xs.length)(hne:xs≠[])(hsm:len*sz≤2^24)(hag:H6 0 parts.toList xs=true)
  {qs:List PV}(hc:Ha (xs.map σ.ev)=some qs)(hsz:Hy sz qs=true)(k:Key)(hk: ∀i,k≠ .ext i)(hn:keep=true→σ.look k=none):
  Ax P C (if keep then(σ.insAll [(k,.row sz qs)]).put o.dst (.own k) else(σ.insAll []).put o.dst (.pv (.slice qs))) o a w:=by
 obtain⟨g1,g2,g3⟩:=Bmp h hag hc hsz
 have hl2:(parts.toList.map fun p=>a.eval p.2).length=xs.length:=by
  have:=(A1w (Mj hag).1).1
  simpa using this
 have hne':parts.toList.map (fun p=>a.eval p.2)≠[]:=fun e=>hne (List.eq_nil_of_length_eq_zero (by rw[←hl2,e];rfl))
 obtain⟨arr,hr,hasz,ha⟩:=Bp4 (P:=P) (w:=w) ht hit hs hz h0 _ g2 hne' (by rw[hl2,←hlen];exact hsm) (parts.map fun(i,x)=>(i,a.eval x)) (by
  rw[Array.toList_map];exact(Mj hag).2 a.eval)
 have hrun:(execOp a.eval o).run P w= .ok (.value (.slice (some ⟨w.heap.size,0,none⟩) qs.length qs.length)) (w.alloc (.cells arr e)):=by
  rw[hl2,←hlen] at hr
  simp only[execOp,ho,Sem.run_bind,hr,Result.andThen_ok,Sem.run_pure]
  rw[g1,hl2,hlen]
 cases keep with
 |true=>
  have hn':=hn rfl
  rw[if_pos rfl]
  refine Ax.new h hd k hk hn' _ qs.length (.cells arr e) hrun (fun β' b1 _ hok=>Bpz hn' (Ez hsz) g1 g3 arr e _ (Nat.le_refl _) (by rw[hasz,g1]) ha β' hok) (fun β' b2=>?_)
  have:=As.own (w:=w.alloc (.cells arr e)) (ok:=okB C β' (σ.insAll [(k,.row sz qs)]).look (w.alloc (.cells arr e))) (β:=β') (lk:=(σ.insAll [(k,.row sz qs)]).look) k sz qs w.heap.size (by rw[St.look_ins];simp) (by rw[b2])
  rw[b2] at this
  exact this
 |false=>
  rw[if_neg (by simp)]
  refine Ax.bare h hd (.cells arr e) hrun (fun hok hnew=> .pv _ _ ?_)
  have hat: ∀(i j:Nat) (x y:PV),qs[i]? =some x→x.cells[j]? =some y→ ∃u,arr[i*sz+j]? =some u∧Be (w.alloc (.cells arr e)) (okB C β σ.look (w.alloc (.cells arr e))) y u:=by
   intro i j x y hx hy
   have hi:i<(parts.toList.map fun p=>a.eval p.2).length:=by rw[←g1];exact(List.getElem?_eq_some_iff.1 hx).1
   have hu:=List.getElem?_eq_getElem hi
   obtain⟨c1,c2,c3⟩:=Li (g3 i x _ hx hu)
   have hj:j<x.cells.length:=(List.getElem?_eq_some_iff.1 hy).1
   have hj2:=hj
   rw[c1] at hj2
   have hcu:=Array.getElem?_eq_getElem hj2
   refine⟨_,?_,(c3 j y _ hy hcu).mono (Ec _) hok⟩
   rw[ha i j hi (by rw[←Ez hsz x (List.mem_of_getElem? hx)];exact hj),hu]
   exact hcu
  have fine: ∀x∈qs,x.fine:=fun x hx=>by
   obtain⟨j,hj⟩:=List.mem_iff_getElem?.1 hx
   have hjl:j<(parts.toList.map fun p=>a.eval p.2).length:=by rw[←g1];exact(List.getElem?_eq_some_iff.1 hj).1
   exact(g3 j x _ hj (List.getElem?_eq_getElem hjl)).fine
  have hcell: ∀j u,arr[j]? =some u→(w.alloc (.cells arr e)).cell? ⟨w.heap.size,j,none⟩=some u:=fun j u hu=>by
   simp only[World.cell?,heap_alloc_new]
   simpa using hu
  refine .slice qs _ _ _ sz (fun i j=>arr.getD (i*sz+j) undef) rfl (Nat.le_refl _) (Ez hsz) fine ?_ (fun _=>⟨_,rfl,rfl⟩) ?_
  ·intro i j hi hj
   refine⟨_,rfl,rfl,hnew,?_⟩
   have hjl:j<qs[i].cells.length:=by rw[Ez hsz _ (List.getElem_mem hi)];exact hj
   obtain⟨u,hu,_⟩:=hat i j _ _ (List.getElem?_eq_getElem hi) (List.getElem?_eq_getElem hjl)
   rw[Nat.zero_add]
   obtain⟨hlt,rfl⟩:=Array.getElem?_eq_some_iff.1 hu
   rw[hcell _ _ hu]
   simp[Array.getD,hlt]
  ·intro i j x y hx hy
   obtain⟨u,hu,hL⟩:=hat i j x y hx hy
   obtain⟨hlt,rfl⟩:=Array.getElem?_eq_some_iff.1 hu
   simpa [Array.getD,hlt] using hL
theorem wrap_i64{n:Int}(h0:0≤n)(h1:n≤140737488355328):IntKind.i64.wrap n=n:=by
 exact IntWalk.i64_in n (by omega)
theorem Bsg{t e:TypeId}{it:TypeInfo}{z:Value}{sz:Nat}(ht:P.underlying t=some (.slice e))(hit:P.info? e=some it)(hz:it.zero=some z)(hs:it.size=sz)(hzs:z.cells.size=sz)(h0:sz≠0){n c:Int}(h1:0≤n)(h2:n≤c)(h3:c*it.bytes≤140737488355328)(h4:c≤140737488355328):
  ∃arr:Array Value,(Instr.makeSlice t (.int .i64 n) (.int .i64 c)).run P w= .ok (.slice (some ⟨w.heap.size,0,none⟩) n.toNat c.toNat) (w.alloc (.cells arr e))∧arr.size=c.toNat*sz∧ ∀i j,i<c.toNat→j<sz→arr[i*sz+j]? =z.cells[j]? :=by
 subst hs
 by_cases hc:c.toNat*it.size=0
 ·have hc0:c.toNat=0:=by rcases Nat.mul_eq_zero.1 hc with h|h
                         ·exact h
                         ·exact absurd h h0
  refine⟨#[],?_,by simp[hc],fun i j hi=>by omega⟩
  have hb: ¬(it.bytes:Int)*c>2^48:=by rw[Int.mul_comm];omega
  have hb': ¬(it.bytes:Int)*n>2^48:=by
   have:(it.bytes:Int)*n≤it.bytes*c:=Int.mul_le_mul_of_nonneg_left h2 (by omega)
   omega
  have e1:(decide (n<0))=false:=by simp;omega
  have e2:(decide (c<0))=false:=by simp;omega
  simp only[Instr.makeSlice,Sem.run_bind,run_underlying ht,Result.andThen_ok,asInt,asIntOf,Sem.run_pure,typeInfo,run_program,hit,wrap_i64 h1 (by omega:n≤_),wrap_i64 (by omega:0≤c) h4,decide_eq_false hb,e1,e2,Bool.or_self,Bool.false_or,Bool.or_false,decide_eq_false (by omega: ¬n>c),Bool.false_eq_true,if_false,run_askRoom,sizeOf,hc,if_true,newRow,run_newObj_alloc]
  rw[show(Array.range 0).map (fun x=>(#[]:Array Value)[x%(#[]:Array Value).size]!)= #[] from by apply Array.ext';simp]
 ·have hb: ¬(it.bytes:Int)*c>2^48:=by rw[Int.mul_comm];omega
  have e1:(decide (n<0))=false:=by simp;omega
  have e2:(decide (c<0))=false:=by simp;omega
  refine⟨(Array.range (c.toNat*it.size)).map (z.cells[· %z.cells.size]!),?_,by simp,fun i j hi hj=>?_⟩
  ·simp only[Instr.makeSlice,Sem.run_bind,run_underlying ht,Result.andThen_ok,asInt,asIntOf,Sem.run_pure,typeInfo,run_program,hit,wrap_i64 h1 (by omega:n≤_),wrap_i64 (by omega:0≤c) h4,decide_eq_false hb,e1,e2,Bool.or_self,Bool.false_or,Bool.or_false,decide_eq_false (by omega: ¬n>c),Bool.false_eq_true,if_false,run_askRoom,sizeOf,hc,zeroValue,hz,newRow,run_newObj_alloc]
  ·obtain⟨r1,r2⟩:=Ax8 (i:=i) hj
   have hlt:i*it.size+j<c.toNat*it.size:=by
    have:(i+1)*it.size≤c.toNat*it.size:=Nat.mul_le_mul_right _ hi
    rw[Nat.add_mul] at this;omega
   simp only[Array.getElem?_map,Array.getElem?_range,hlt,if_true,Option.map_some,hzs,r2]
   rw[getElem!_pos z.cells j (by omega)]
   simp[hzs,hj]
theorem Bnu(h:RR C β σ a w)(hd: ∀i,o.dst=some i→i<C.nt){t e:TypeId}{sz bytes:Nat}{zero:PV}{xn xc:Operand}{yn yc:Opd}(ho:o.op= .makeSlice t xn xc)(ht:P.underlying t=some (.slice e)){it:TypeInfo}{z:Value}(hit:P.info? e=some it)(hs:it.size=sz)(hby:it.bytes=bytes)(hz:it.zero=some z)(h0:sz≠0)
  (hzl: ∀(w:World) (ok:Nat→Prop),Be w ok zero z)(hzc:zero.cells.length=sz)(hn:Ak xn yn=true)(hc:Ak xc yc=true){n c:Int}(en:intOf (σ.ev yn)=some (.i64,n))(ec:intOf (σ.ev yc)=some (.i64,c))(h1:0≤n)(h2:n≤c)(h3:c*bytes≤140737488355328)(h4:c≤140737488355328)
  (k:Key)(hk: ∀i,k≠ .ext i)(hnk:σ.look k=none):Ax P C ((σ.insAll [(k,.row sz (List.replicate n.toNat zero))]).put o.dst (.own k)) o a w:=by
 subst hby
 have hzs:z.cells.size=sz:=by rw[←(Li (hzl w (fun _=>True))).1,hzc]
 obtain⟨arr,hr,has,ha⟩:=Bsg (P:=P) (w:=w) ht hit hz hs hzs h0 h1 h2 h3 h4
 have e1:=Qy (h.ev hn) en
 have e2:=Qy (h.ev hc) ec
 refine Ax.new h hd k hk hnk _ c.toNat (.cells arr e) (v:= .slice (some ⟨w.heap.size,0,none⟩) n.toNat c.toNat) ?_ (fun β' b1 _ hok=>?_) (fun β' b2=>?_)
 ·simp only[execOp,ho,Sem.run_bind,e1,e2,hr,Result.andThen_ok,Sem.run_pure]
 ·refine .inr ⟨_,arr,e,rfl,heap_alloc_new w _,by simp;omega,has,fun x hx=>?_,fun i j x y hx hy=>?_⟩
  ·rw[List.eq_of_mem_replicate hx];exact⟨hzc,(hzl w (fun _=>True)).fine⟩
  ·have hx':x=zero:=List.eq_of_mem_replicate (List.mem_of_getElem? hx)
   subst hx'
   have hi:i<n.toNat:=by have:=(List.getElem?_eq_some_iff.1 hx).1;simpa using this
   have hj:j<x.cells.length:=(List.getElem?_eq_some_iff.1 hy).1
   obtain⟨c1,c2,c3⟩:=Li (hzl (w.alloc (.cells arr e)) (okB C β' (σ.insAll [(k,.row sz (List.replicate n.toNat x))]).look (w.alloc (.cells arr e))))
   have hj2:=hj
   rw[c1] at hj2
   refine⟨_,?_,c3 j y _ hy (Array.getElem?_eq_getElem hj2)⟩
   rw[ha i j (by omega) (by omega)]
   exact Array.getElem?_eq_getElem hj2
 ·have:=As.own (w:=w.alloc (.cells arr e)) (ok:=okB C β' (σ.insAll [(k,.row sz (List.replicate n.toNat zero))]).look (w.alloc (.cells arr e))) (β:=β') (lk:=(σ.insAll [(k,.row sz (List.replicate n.toNat zero))]).look) k sz (List.replicate n.toNat zero) w.heap.size (by rw[St.look_ins];simp) (by rw[b2])
  rw[b2] at this
  simpa using this
end
end Go.Av
end
section
namespace Go.Av
theorem Bea(l:List (Key×Ah))(k:Key)(o:Ah)(k':Key):Ay (l.map fun p=>if p.1=k then(k,o) else p) k'=if k'=k then(Ay l k).map (fun _=>o) else Ay l k':=by
 induction l with
 |nil=>simp[Ay]
 |cons p l ih=>
  obtain⟨i,v⟩:=p
  simp only[List.map_cons]
  by_cases hi:i=k
  ·subst hi
   simp only[if_true,Ay,ih]
   by_cases hk:k'=i
   ·subst hk;simp
   ·rw[if_neg (fun e=>hk e.symm),if_neg hk,if_neg hk,if_neg (fun e=>hk e.symm)]
  ·simp only[hi,if_false,Ay,ih]
   by_cases hk:k'=k
   ·subst hk;simp[hi]
   ·simp[hk]
theorem Bu(σ:St)(k:Key)(o:Ah)(k':Key):(σ.over k o).look k'=if k'=k then(σ.look k).map (fun _=>o) else σ.look k':=Bea σ.hp k o k'
@[simp] theorem Bql (σ:St) (k:Key) (o:Ah) (t:Nat):(σ.over k o).get t=σ.get t:=rfl
section
variable {P:Program} {C:Ctx} {β:Key→Blk} {σ:St} {a:Act} {w:World} {o:Oper}
theorem A2y{k:Key}{o1 o':Ah}(hk:σ.look k=some o1)(hs:o1.sim o'): ∀k2 o2,σ.look k2=some o2→ ∃o3,(σ.over k o').look k2=some o3∧o2.sim o3∧β k2=β k2:=by
 intro k2 o2 h2
 rw[Bu]
 by_cases e:k2=k
 ·subst e;rw[hk] at h2;cases h2;exact⟨o',by simp[hk],hs,rfl⟩
 ·exact⟨o2,by simp[e,h2],o2.sim_refl,rfl⟩
theorem W1{k:Key}{o1 o':Ah}(hk:σ.look k=some o1): ∀k2 o2,(σ.over k o').look k2=some o2→(k2=k∧o2=o')∨(k2≠k∧σ.look k2=some o2):=by
 intro k2 o2 h2
 rw[Bu] at h2
 by_cases e:k2=k
 ·subst e;simp[hk] at h2;exact .inl ⟨rfl,h2.symm⟩
 ·simp[e] at h2;exact .inr ⟨e,h2⟩
theorem At6{k:Key}{o1 o':Ah}(hk:σ.look k=some o1){w':World}(hw:w'.heap.size=w.heap.size)(b:Nat):okB C β (σ.over k o').look w' b↔okB C β σ.look w b:=by
 constructor
 ·rintro⟨h1,h2,h3⟩
  refine⟨by rw[←hw];exact h1,fun k2 o2 h=>?_,h3⟩
  by_cases e:k2=k
  ·subst e;exact h2 k2 o' (by rw[Bu];simp[hk])
  ·exact h2 k2 o2 (by rw[Bu];simp[e,h])
 ·rintro⟨h1,h2,h3⟩
  refine⟨by rw[hw];exact h1,fun k2 o2 h=>?_,h3⟩
  rcases W1 hk k2 o2 h with⟨rfl,rfl⟩|⟨_,h⟩
  ·exact h2 _ _ hk
  ·exact h2 k2 o2 h
theorem Tx{k:Key}{o1:Ah}(hk:σ.look k=some o1){b:Nat}(hb:(β k).b=some b){w':World}(hoth: ∀b',b'≠b→w'.heap[b']? =w.heap[b']?):H5 (okB C β σ.look w) w w':=by
 intro b' hb' off u hu
 have hne:b'≠b:=fun e=>by subst e;exact hb'.2.1 k o1 hk hb
 simp only[World.cell?,hoth b' hne]
 exact hu
theorem Ami{k:Key}{o1 o':Ah}(hk:σ.look k=some o1)(hs:o1.sim o'){b:Nat}(hb:(β k).b=some b){w':World}(hsz:w'.heap.size=w.heap.size)(hoth: ∀b',b'≠b→w'.heap[b']? =w.heap[b']?){x:SV}{v:Value}(hx:As w (okB C β σ.look w) β σ.look x v):
  As w' (okB C β (σ.over k o').look w') β (σ.over k o').look x v:=
 hx.mono (Tx hk hb hoth) (fun b hb=>(At6 hk hsz b).2 hb) (A2y hk hs)
theorem Ahi{k:Key}{o1 o':Ah}(hk:σ.look k=some o1){b:Nat}(hb:(β k).b=some b){w':World}(hsz:w'.heap.size=w.heap.size)(hoth: ∀b',b'≠b→w'.heap[b']? =w.heap[b']?){x:PV}{v:Value}(hx:Be w (okB C β σ.look w) x v):
  Be w' (okB C β (σ.over k o').look w') x v:=
 hx.mono (Tx hk hb hoth) (fun b hb=>(At6 hk hsz b).2 hb)
theorem RR.over(h:RR C β σ a w){k:Key}{o1 o':Ah}(hk:σ.look k=some o1)(hs:o1.sim o'){b:Nat}(hb:(β k).b=some b){w':World}(hsz:w'.heap.size=w.heap.size)(hoth: ∀b',b'≠b→w'.heap[b']? =w.heap[b']?)(hq:Quiet w w')
  (hobj:Fa w' (okB C β (σ.over k o').look w') β (σ.over k o').look o' (β k)):RR C β (σ.over k o') a w':=by
 refine⟨h.tsz,h.dfs,?_,?_,?_,?_,?_,by rw[hsz];exact h.size,?_,h.quiet.trans hq,h.gw⟩
 ·intro k1 k2 o2 o3 b1 h1 h2 e1 e2
  have g: ∀k2 o2,(σ.over k o').look k2=some o2→ ∃o3,σ.look k2=some o3:=fun k2 o2 h2=>by
   rcases W1 hk k2 o2 h2 with⟨rfl,_⟩|⟨_,h⟩
   ·exact⟨_,hk⟩
   ·exact⟨_,h⟩
  obtain⟨_,g1⟩:=g k1 _ h1
  obtain⟨_,g2⟩:=g k2 _ h2
  exact h.inj k1 k2 _ _ b1 g1 g2 e1 e2
 ·intro k2 o2 h2
  rcases W1 hk k2 o2 h2 with⟨rfl,rfl⟩|⟨hne,h2'⟩
  ·exact hobj
  ·exact(h.objs k2 o2 h2').mono (Tx hk hb hoth) (fun b hb=>(At6 hk hsz b).2 hb) rfl (fun b2 hb2=>hoth b2 (fun e=>by subst e;exact hne (h.inj k2 k _ _ b2 h2' hk hb2 hb))) (fun k3 o3 _ h3=>A2y hk hs k3 o3 h3)
 ·intro k2 o2 b2 h2 hx
  rcases W1 hk k2 o2 h2 with⟨rfl,_⟩|⟨_,h'⟩
  ·exact h.lo _ _ b2 hk hx
  ·exact h.lo k2 o2 b2 h' hx
 ·intro i o2 h2
  rcases W1 hk _ o2 h2 with⟨e,rfl⟩|⟨_,h'⟩
  ·subst e
   obtain⟨o0,g1,g2,g3⟩:=h.ext2 i _ hk
   exact⟨o0,g1,A9 g2 hs,g3⟩
  ·exact h.ext2 i _ h'
 ·intro t
  exact Ami hk hs hb hsz hoth (h.slots t)
 ·intro b2 hb2 hx
  have hne:b2≠b:=by
   intro e
   subst e
   rcases h.lo k _ b2 hk hb with h1|h1
   ·omega
   ·exact hx h1
  rw[hoth b2 hne]
  exact h.frame b2 hb2 hx
theorem Als{t:TypeId}{i:TypeInfo}{v:Value}(hi:P.info? t=some i)(hv:v.cells.size=i.size)(h1: ∀u∈v.cells,u.oneCell'=true){g off:Nat}{T:TypeId}{cur:Array Value}(hg:w.heap[g]? =some (.cells cur T (0,0)))(hle:off+i.size≤cur.size):
  (storeVar t ⟨g,off,none⟩ v).run P w= .ok () (w.setRow g (cur.toList.take off++v.cells.toList++cur.toList.drop (off+i.size)).toArray):=by
 have:=run_storeCells_at P g off T v.cells.toList 0 cur w hg (by simp[hv];exact hle) (fun u hu=>h1 u (by simpa using hu))
 simp only[storeVar,Sem.run_bind,Hl hi,Result.andThen_ok,hv,ne_eq,not_true_eq_false,if_false,this,Nat.add_zero,Array.length_toList,Sem.run_pure]
theorem Atw(h:RR C β σ a w)(hd: ∀i,o.dst=some i→i<C.nt){t:TypeId}{n:Nat}{x y:Operand}{x' y':Opd}(ho:o.op= .store t x y){i:TypeInfo}(hi:P.info? t=some i)(hn:i.size=n)(hx:Ak x x'=true)(hy:Ak y y'=true)
  {k:Key}{off:Nat}{cs:List SV}(ex:σ.ev x'= .ptr k off)(hk:σ.look k=some (.box cs))(n1: ∀vs,σ.ev y'≠ .tup vs)(n2:σ.ev y'≠ .dead)(hl:(σ.ev y').cells.length=n)(hle:off+n≤cs.length):
  Ax P C ((σ.over k (.box (Cf cs off (σ.ev y').cells))).put o.dst .dead) o a w:=by
 subst hn
 have hxl:=h.ev hx
 rw[ex] at hxl
 obtain⟨b,arr,T,g0,g1,g2,g3,g4⟩:=h.objs k _ hk
 have hxe:a.eval x= .pointer (some ⟨b,off,none⟩):=by
  generalize a.eval x=xv at hxl
  cases hxl with
  |ptr _ _ _ b' _ hb'=>rw[g0] at hb';cases hb';rfl
 have hcl:=Ajg (h.ev hy) n1 n2
 have hvs:(a.eval y).cells.size=i.size:=by have:=hcl.1;simp at this;omega
 have hcs:Bk w (okB C β σ.look w) β σ.look cs arr.toList:=⟨by simpa using g2.symm,fun u hu=>g3 u (by simpa using hu),fun j y u hy hu=>g4 j y u hy (by simpa using hu)⟩
 have hnew:=hcs.fill hcl off i.size hl
 have hr:=Als (P:=P) (t:=t) hi hvs (fun u hu=>hcl.2.1 u (by simpa using hu)) g1 (off:=off) (by omega)
 intro K hK Q
 refine Ay3 (w':=w.setRow b (arr.toList.take off++(a.eval y).cells.toList++arr.toList.drop (off+i.size)).toArray) ?_ (hK β _ _ (RR.put (h.over hk (o':= .box (Cf cs off (σ.ev y').cells)) trivial g0 (by simp) (fun b' hne=>setRow_other w b b' _ hne) (Quiet.setRow _ _ _) ?_) o.dst .dead undef hd (.dead _)))
 ·simp only[execOp,ho,Sem.run_bind,Instr.storeAt,hxe,Instr.sureAddr,Sem.run_pure,Result.andThen_ok,hr]
 ·refine⟨b,_,T,g0,setRow_heap w _ arr _ T (0,0) g1,?_,fun u hu=>hnew.2.1 u (by simpa using hu),fun j z u hz hu=>?_⟩
  ·have:=hnew.1
   simp only[Cf,hl,List.size_toArray]
   exact this.symm
  ·simp only[Cf,hl] at hz
   exact Ami (o':= .box (Cf cs off (σ.ev y').cells)) hk trivial g0 (by simp) (fun b' hne=>setRow_other w b b' _ hne) (hnew.2.2 j z u hz (by simpa [Cf,hl] using hu))
theorem Aym(arr:Array Value)(vs:List Value)(o n q:Nat)(hn:vs.length=n)(hle:o+n≤arr.size):
  (arr.toList.take o++vs++arr.toList.drop (o+n)).toArray[q]? =if o≤q∧q<o+n then vs[q-o]? else arr[q]? :=by
 simp only[List.getElem?_toArray,List.getElem?_append,List.length_append,List.length_take,Array.length_toList,List.getElem?_take,List.getElem?_drop,hn]
 by_cases h1:q<o
 ·have h2:q<min o arr.size+n:=by omega
  have h3:q<min o arr.size:=by omega
  rw[if_pos h2,if_pos h3,if_pos h1,if_neg (by omega)]
  simp
 ·by_cases h2:q<o+n
  ·rw[if_pos (by omega),if_neg (by omega),if_pos ⟨by omega,h2⟩]
   congr 1;omega
  ·rw[if_neg (by omega),if_neg (by omega)]
   simp
   congr 1;omega
theorem Ayf{e v e':PV}{off n:Nat}(h:e.setCells off v=some e')(hv:v.cells.length=n)(hle:off+n≤e.cells.length)(hf:e.fine)(hfv:v.fine):
  e'.cells.length=e.cells.length∧e'.fine∧ ∀j,e'.cells[j]? =if off≤j∧j<off+n then v.cells[j-off]? else e.cells[j]? :=by
 have single:(∀cs,e≠ .agg cs)→e.cells=[e]:=fun hne=>by cases e<;>first|rfl|exact absurd rfl (hne _)
 by_cases hagg: ∃cs,e= .agg cs
 ·obtain⟨cs,rfl⟩:=hagg
  simp only[PV.setCells,Option.some.injEq] at h;subst h
  have ec:(PV.agg cs).cells=cs:=rfl
  have ec2:(PV.agg (Cf cs off v.cells)).cells=Cf cs off v.cells:=rfl
  rw[ec] at hle
  rw[ec,ec2]
  have hg: ∀j,(Cf cs off v.cells)[j]? =if off≤j∧j<off+n then v.cells[j-off]? else cs[j]? :=by
   intro j
   simp only[Cf,hv,List.getElem?_append,List.length_append,List.length_take,List.getElem?_take,List.getElem?_drop]
   by_cases h1:j<off
   ·rw[if_pos (by omega),if_pos (by omega),if_pos h1,if_neg (by omega)]
   ·by_cases h2:j<off+n
    ·rw[if_pos (by omega),if_neg (by omega),if_pos ⟨by omega,h2⟩];congr 1;omega
    ·rw[if_neg (by omega),if_neg (by omega)];congr 1;omega
  refine⟨by simp only[Cf,List.length_append,List.length_take,List.length_drop,hv];omega,fun y hy=>?_,hg⟩
  rw[ec2] at hy
  simp only[Cf] at hy
  rcases List.mem_append.1 hy with hy|hy
  ·rcases List.mem_append.1 hy with hy|hy
   ·exact hf y (List.mem_of_mem_take hy)
   ·exact hfv y hy
  ·exact hf y (List.mem_of_mem_drop hy)
 ·have hne: ∀cs,e≠ .agg cs:=fun cs e1=>hagg ⟨cs,e1⟩
  have hs:=single hne
  have hv1:v.one=true∧e'=v:=by
   cases e<;>simp only[PV.setCells] at h<;>first
    |exact absurd rfl (hne _)
    |(cases hvo:v.one<;>simp[hvo] at h;exact⟨rfl,h.symm⟩)
  obtain⟨hv1,rfl⟩:=hv1
  have hvc:e'.cells=[e']:=by cases e'<;>first|rfl|(simp[PV.one] at hv1)
  rw[hs] at hle⊢
  rw[hvc] at hv⊢
  simp at hv hle
  have hoff:off=0:=by omega
  subst hoff;subst hv
  refine⟨rfl,by intro y hy;rw[hvc] at hy;simp at hy;subst hy;exact hv1,fun j=>?_⟩
  by_cases hj:j=0
  ·subst hj;simp
  ·rw[if_neg (by omega)]
   simp[List.getElem?_cons,hj]
theorem Atx(h:RR C β σ a w)(hd: ∀i,o.dst=some i→i<C.nt){t:TypeId}{n:Nat}{x y:Operand}{x' y':Opd}(ho:o.op= .store t x y){it:TypeInfo}(hi:P.info? t=some it)(hn:it.size=n)(hx:Ak x x'=true)(hy:Ak y y'=true)
  {k:Key}{i off sz:Nat}{xs:List PV}{v e e':PV}(ex:σ.ev x'= .iown k i off)(ey:σ.ev y'= .pv v)(hk:σ.look k=some (.row sz xs))(he:xs[i]? =some e)(hl:v.cells.length=n)(hle:off+n≤e.cells.length)(hs:e.setCells off v=some e'):
  Ax P C ((σ.over k (.row sz (xs.set i e'))).put o.dst .dead) o a w:=by
 subst hn
 have hxl:=h.ev hx
 rw[ex] at hxl
 have hil:i<xs.length:=(List.getElem?_eq_some_iff.1 he).1
 obtain⟨b,arr,T,g0,g1,g2,g3,g4,g5⟩:=(h.objs k _ hk).resolve_left (fun e1=>by rw[e1.2.1] at hil;simp at hil)
 have hxe:a.eval x= .pointer (some ⟨b,i*sz+off,none⟩):=by
  generalize a.eval x=xv at hxl
  cases hxl with
  |iown _ _ _ sz' xs' b' hk' hb' _=>rw[hk] at hk';cases hk';rw[g0] at hb';cases hb';rfl
 have hyl:=h.ev hy
 rw[ey] at hyl
 have hvl:=Bb hyl
 obtain⟨c1,c2,c3⟩:=Li hvl
 have hvs:(a.eval y).cells.size=it.size:=by rw[←c1];exact hl
 have hem:=g4 e (List.mem_of_getElem? he)
 obtain⟨s1,s2,s3⟩:=Ayf hs hl hle hem.2 hvl.fine
 have hfit:i*sz+off+it.size≤arr.size:=by
  rw[g3]
  have:(i+1)*sz≤(β k).c*sz:=Nat.mul_le_mul_right _ (by omega)
  rw[Nat.add_mul] at this
  have:=hem.1
  omega
 have hr:=Als (P:=P) (t:=t) hi hvs c2 g1 (off:=i*sz+off) hfit
 have hsim:(Ah.row sz xs).sim (.row sz (xs.set i e')):=⟨rfl,by simp⟩
 intro K hK Q
 refine Ay3 (w':=w.setRow b (arr.toList.take (i*sz+off)++(a.eval y).cells.toList++arr.toList.drop (i*sz+off+it.size)).toArray) ?_ (hK β _ _ (RR.put (h.over hk hsim g0 (by simp) (fun b' hne=>setRow_other w b b' _ hne) (Quiet.setRow _ _ _) ?_) o.dst .dead undef hd (.dead _)))
 ·simp only[execOp,ho,Sem.run_bind,Instr.storeAt,hxe,Instr.sureAddr,Sem.run_pure,Result.andThen_ok,hr]
 ·have hsp:=fun q=>Aym arr (a.eval y).cells.toList (i*sz+off) it.size q (by simpa using hvs) hfit
  refine .inr ⟨b,_,T,g0,setRow_heap w _ arr _ T (0,0) g1,by simpa using g2,?_,fun z hz=>?_,fun i2 j z q hz hq=>?_⟩
  ·simp only[List.size_toArray,List.length_append,List.length_take,List.length_drop,Array.length_toList,hvs]
   rw[←g3];omega
  ·rcases List.mem_or_eq_of_mem_set hz with hz|rfl
   ·exact g4 z hz
   ·exact⟨by rw[s1];exact hem.1,s2⟩
  ·rw[hsp]
   have hj:j<sz:=by
    have hjl:=(List.getElem?_eq_some_iff.1 hq).1
    have hzm:=List.mem_of_getElem? hz
    rcases List.mem_or_eq_of_mem_set hzm with hz'|rfl
    ·rw[←(g4 z hz').1];exact hjl
    ·rw[s1,hem.1] at hjl;exact hjl
   have hes:e.cells.length=sz:=hem.1
   by_cases hi2:i2=i
   ·subst hi2
    simp only[List.getElem?_set_self hil,Option.some.injEq] at hz
    subst hz
    rw[s3 j] at hq
    by_cases hin:off≤j∧j<off+it.size
    ·rw[if_pos hin] at hq
     have hjv:j-off<(a.eval y).cells.size:=by rw[hvs];omega
     refine⟨(a.eval y).cells[j-off],?_,Ahi hk g0 (by simp) (fun b' hne=>setRow_other w b b' _ hne) (c3 (j-off) q _ hq (Array.getElem?_eq_getElem hjv))⟩
     rw[if_pos (by omega)]
     rw[show i2*sz+j-(i2*sz+off)=j-off by omega]
     simp[hjv]
    ·rw[if_neg hin] at hq
     obtain⟨u,hu,hL⟩:=g5 i2 j e q he hq
     refine⟨u,?_,Ahi hk g0 (by simp) (fun b' hne=>setRow_other w b b' _ hne) hL⟩
     rw[if_neg (by omega)]
     exact hu
   ·rw[List.getElem?_set_ne (fun e=>hi2 e.symm)] at hz
    obtain⟨u,hu,hL⟩:=g5 i2 j z q hz hq
    refine⟨u,?_,Ahi hk g0 (by simp) (fun b' hne=>setRow_other w b b' _ hne) hL⟩
    have hout: ¬(i*sz+off≤i2*sz+j∧i2*sz+j<i*sz+off+it.size):=by
     rcases Nat.lt_or_gt_of_ne hi2 with hlt|hgt
     ·have:(i2+1)*sz≤i*sz:=Nat.mul_le_mul_right _ hlt
      rw[Nat.add_mul] at this
      omega
     ·have:(i+1)*sz≤i2*sz:=Nat.mul_le_mul_right _ hgt
      rw[Nat.add_mul] at this
      omega
    rw[if_neg hout]
    exact hu
end
end Go.Av
end
section
namespace Go.Av
section
variable {P:Program} {C:Ctx} {β:Key→Blk} {σ:St} {a:Act} {w:World} {o:Oper}
theorem RR.move(h:RR C β σ a w)(k k2:Key)(hk2: ∀i,k2≠ .ext i)(o1:Ah)(B:Blk)(w':World)(hsz:w.heap.size≤w'.heap.size)(hB: ∀b,B.b=some b→C.w0.heap.size≤b∨C.lent b)
  (hB2: ∀k3 o3 b,k3≠k→k3≠k2→σ.look k3=some o3→(β k3).b=some b→B.b≠some b)(hB3: ∀b,okB C β σ.look w b→B.b≠some b)(hfr: ∀b,b<w.heap.size→(∀o,σ.look k=some o→(β k).b≠some b)→w'.heap[b]? =w.heap[b]?)
  (hobj: ∀β':Key→Blk,(∀b,okB C β σ.look w b→okB C β' (((σ.kill k).kill k2).insAll [(k2,o1)]).look w' b)→(H5 (okB C β σ.look w) w w')→
   Fa w' (okB C β' (((σ.kill k).kill k2).insAll [(k2,o1)]).look w') β' (((σ.kill k).kill k2).insAll [(k2,o1)]).look o1 B)(hq:Quiet w w'):
  ∃β',β' k2=B∧RR C β' (((σ.kill k).kill k2).insAll [(k2,o1)]) a w':=by
 refine⟨fun k'=>if k'=k2 then B else β k',by simp,?_⟩
 generalize hβ:(fun k'=>if k'=k2 then B else β k')=β'
 have b1: ∀k',k'≠k2→β' k'=β k':=fun k' hne=>by rw[←hβ];simp[hne]
 have b2:β' k2=B:=by rw[←hβ];simp
 have hl: ∀k',k'≠k2→(((σ.kill k).kill k2).insAll [(k2,o1)]).look k'=if k'=k then none else((σ.look k').map (Ah.kill k)).map (Ah.kill k2):=fun k' hne=>by
  rw[St.look_ins,if_neg (fun e=>hne e.symm),B8,if_neg hne,B8]
  split<;>rfl
 have hlk:(((σ.kill k).kill k2).insAll [(k2,o1)]).look k2=some o1:=by rw[St.look_ins];simp
 have hfor: ∀k' o',k'≠k2→k'≠k→σ.look k'=some o'→(((σ.kill k).kill k2).insAll [(k2,o1)]).look k'=some ((o'.kill k).kill k2):=fun k' o' h1 h2 h3=>by rw[hl k' h1,if_neg h2,h3];rfl
 have hback: ∀k' o',k'≠k2→(((σ.kill k).kill k2).insAll [(k2,o1)]).look k'=some o'→k'≠k∧ ∃o2,σ.look k'=some o2∧o'=(o2.kill k).kill k2:=fun k' o' hne h'=>by
  rw[hl k' hne] at h'
  by_cases e:k'=k
  ·rw[if_pos e] at h';cases h'
  ·rw[if_neg e] at h'
   simp only[Option.map_eq_some_iff] at h'
   obtain⟨o2,⟨o3,h1,rfl⟩,h2⟩:=h'
   exact⟨e,o3,h1,h2.symm⟩
 have hok: ∀b,okB C β σ.look w b→okB C β' (((σ.kill k).kill k2).insAll [(k2,o1)]).look w' b:=by
  intro b hb
  refine⟨by have:=hb.1;omega,fun k' o' h'=>?_,hb.2.2⟩
  by_cases e:k'=k2
  ·subst e;rw[b2];exact hB3 b hb
  ·obtain⟨_,o2,h2,_⟩:=hback k' o' e h'
   rw[b1 k' e];exact hb.2.1 k' o2 h2
 have hkeep:H5 (okB C β σ.look w) w w':=by
  intro b hb off u hu
  simp only[World.cell?,hfr b hb.1 (fun o ho e=>hb.2.1 k o ho e)]
  exact hu
 have mono: ∀{x:SV} {v:Value},As w (okB C β σ.look w) β σ.look x v→As w' (okB C β' (((σ.kill k).kill k2).insAll [(k2,o1)]).look w') β' (((σ.kill k).kill k2).insAll [(k2,o1)]).look ((x.kill k).kill k2) v:=by
  intro x v hx
  rcases Zt k2 (x.kill k) with e|⟨e,hn2⟩
  ·rw[e];exact .dead v
  ·rw[e]
   rcases Zt k x with e'|⟨e',hn⟩
   ·rw[e'];exact .dead v
   ·rw[e'] at hn2⊢
    refine hx.mono' hkeep hok (fun k' o' hk' hl'=>?_)
    have hne:k'≠k:=fun e=>by subst e;rw[hn] at hk';cases hk'
    have hne2:k'≠k2:=fun e=>by subst e;rw[hn2] at hk';cases hk'
    exact⟨_,hfor k' o' hne2 hne hl',A9 (o'.kill_sim k) (Ah.kill_sim k2 _),b1 k' hne2⟩
 refine⟨h.tsz,h.dfs,?_,?_,?_,?_,?_,Nat.le_trans h.size hsz,?_,h.quiet.trans hq,h.gw⟩
 ·intro k1 k3 o2 o3 b h1 h2 e1 e2
  by_cases q1:k1=k2
  ·by_cases q2:k3=k2
   ·rw[q1,q2]
   ·obtain⟨hne,o4,h4,_⟩:=hback k3 _ q2 h2
    rw[q1,b2] at e1;rw[b1 k3 q2] at e2
    exact absurd e1 (hB2 k3 o4 b hne q2 h4 e2)
  ·obtain⟨hne,o4,h4,_⟩:=hback k1 _ q1 h1
   by_cases q2:k3=k2
   ·rw[q2,b2] at e2;rw[b1 k1 q1] at e1
    exact absurd e2 (hB2 k1 o4 b hne q1 h4 e1)
   ·obtain⟨_,o5,h5,_⟩:=hback k3 _ q2 h2
    rw[b1 k1 q1] at e1;rw[b1 k3 q2] at e2
    exact h.inj k1 k3 _ _ b h4 h5 e1 e2
 ·intro k' o' h'
  by_cases e:k'=k2
  ·subst e;rw[hlk] at h';cases h';rw[b2];exact hobj β' hok hkeep
  ·obtain⟨hne,o2,h2,rfl⟩:=hback k' o' e h'
   have hb:=h.objs k' o2 h2
   have hblk: ∀b,(β k').b=some b→w'.heap[b]? =w.heap[b]? :=fun b hb'=>hfr b (h.blk_lt h2 hb') (fun o ho e'=>hne (h.inj k' k _ _ b h2 ho hb' e'))
   rw[b1 k' e]
   cases o2 with
   |box cs=>
    obtain⟨b,arr,T,e0,e1,e2,e3,e4⟩:=hb
    refine⟨b,arr,T,e0,(hblk b e0).trans e1,by simpa using e2,e3,fun j x u hx hu=>?_⟩
    simp only[List.getElem?_map,Option.map_eq_some_iff] at hx
    obtain⟨x',⟨x2,hx',rfl⟩,rfl⟩:=hx
    exact mono (e4 j x2 u hx' hu)
   |row sz xs=>
    rcases hb with hb|⟨b,arr,T,e0,e1,e2,e3,e4,e5⟩
    ·exact .inl hb
    ·refine .inr ⟨b,arr,T,e0,(hblk b e0).trans e1,e2,e3,e4,fun i j x y hx hy=>?_⟩
     obtain⟨u,hu,hl⟩:=e5 i j x y hx hy
     exact⟨u,hu,hl.mono hkeep hok⟩
   |map kk es=>
    obtain⟨b,ents,clock,e0,e1,e2⟩:=hb
    exact⟨b,ents,clock,e0,(hblk b e0).trans e1,e2.mono hkeep hok⟩
 ·intro k' o' b h' hx
  by_cases e:k'=k2
  ·subst e;rw[b2] at hx;exact hB b hx
  ·obtain⟨_,o2,h2,_⟩:=hback k' o' e h'
   rw[b1 k' e] at hx;exact h.lo k' o2 b h2 hx
 ·intro i o' h'
  obtain⟨_,o2,h2,rfl⟩:=hback _ o' (fun e=>hk2 i e.symm) h'
  obtain⟨o0,g1,g2,g3⟩:=h.ext2 i o2 h2
  rw[b1 _ (fun e=>hk2 i e.symm)]
  exact⟨o0,g1,A9 g2 (A9 (o2.kill_sim k) (Ah.kill_sim k2 _)),g3⟩
 ·intro t
  rw[D8,Fy,Fy]
  exact mono (h.slots t)
 ·intro b hb hx
  have hs:=h.size
  rw[hfr b (by omega) (fun o ho e=>?_)]
  ·exact h.frame b hb hx
  ·rcases h.lo k o b ho e with h1|h1
   ·omega
   ·exact hx h1
theorem SV.kill_kill(k:Key)(x:SV):(x.kill k).kill k=x.kill k:=by
 unfold SV.kill
 cases h:x.names k<;>simp[h,SV.names]
theorem kill_kill(k:Key)(o:Ah):(o.kill k).kill k=o.kill k:=by
 cases o with
 |box cs=>
  simp only[Ah.kill,List.map_map]
  congr 1
  exact List.map_congr_left (fun v _=>SV.kill_kill k v)
 |row _ _=>rfl
 |map _ _=>rfl
theorem Bed(k:Key): ∀k',((σ.kill k).kill k).look k'=(σ.kill k).look k':=by
 intro k'
 rw[B8,B8]
 by_cases e:k'=k
 ·simp[e]
 ·simp only[e,if_false]
  cases σ.look k' with
  |none=>rfl
  |some o=>simp[kill_kill]
theorem Bi0(k:Key): ∀t,((σ.kill k).kill k).get t=(σ.kill k).get t:=by
 intro t
 rw[Fy,Fy,SV.kill_kill]
theorem RR.congr(h:RR C β σ a w){σ':St}(hg: ∀t,σ'.get t=σ.get t)(hl: ∀k,σ'.look k=σ.look k):RR C β σ' a w:=by
 have e:σ'.look=σ.look:=funext hl
 refine h.slots_of e (fun t=>?_)
 rw[hg];exact h.slots t
theorem Arm(h:RR C β σ a w){x:SV}{v:Value}(hx:As w (okB C β σ.look w) β σ.look x v){ys:List PV}(he:σ.elems x=some ys){sz:Nat}(ha:Hy sz ys=true)(h0:sz≠0):
  ∃(ad:Option Addr) (c:Nat) (news:List Value),v= .slice ad ys.length c∧news.length=ys.length*sz∧(∀u∈news,u.oneCell'=true)∧
   (∀(i j:Nat) (x y:PV),ys[i]? =some x→x.cells[j]? =some y→ ∃u,news[i*sz+j]? =some u∧Be w (okB C β σ.look w) y u)∧
   (0<ys.length→ ∃b:Addr,ad=some b∧ ∀(j:Nat) (u:Value),news[j]? =some u→w.cell? (b.add j)=some u):=by
 have hsz:=Ez ha
 have Ip: ∀(news:List Value),news.length=ys.length*sz→(∀x∈ys,x.fine)→(∀(i j:Nat) (x y:PV),ys[i]? =some x→x.cells[j]? =some y→ ∃u,news[i*sz+j]? =some u∧Be w (okB C β σ.look w) y u)→ ∀u∈news,u.oneCell'=true:=by
  intro news hl hf hn u hu
  obtain⟨q,hq⟩:=List.mem_iff_getElem?.1 hu
  have hql:=(List.getElem?_eq_some_iff.1 hq).1
  have hpos:0<sz:=by omega
  have hi:q/sz<ys.length:=(Nat.div_lt_iff_lt_mul hpos).2 (by omega)
  have hj:q%sz<sz:=Nat.mod_lt _ hpos
  have hm:=List.getElem_mem hi
  have hjl:q%sz<(ys[q/sz]).cells.length:=by rw[hsz _ hm];exact hj
  obtain⟨u',hu',hL⟩:=hn (q/sz) (q%sz) _ _ (List.getElem?_eq_getElem hi) (List.getElem?_eq_getElem hjl)
  rw[Nat.mul_comm,Nat.div_add_mod,hq] at hu'
  cases hu'
  exact hL.oneCell (hf _ hm _ (List.getElem_mem hjl))
 cases x<;>simp only[St.elems] at he<;>try (cases he;done)
 ·rename_i p
  cases p<;>simp only at he<;>try (cases he;done)
  cases he
  obtain⟨ad,c,sz1,us,rfl,hc,hsz1,h1,hat,hp,hlie⟩:=Lj (Bb hx)
  let news:=(List.range (ys.length*sz)).map fun q=>us (q/sz) (q%sz)
  have hn: ∀(i j:Nat) (x y:PV),ys[i]? =some x→x.cells[j]? =some y→ ∃u,news[i*sz+j]? =some u∧Be w (okB C β σ.look w) y u:=by
   intro i j x y hx hy
   have hi:=(List.getElem?_eq_some_iff.1 hx).1
   have hj:j<sz:=by have:=(List.getElem?_eq_some_iff.1 hy).1;rw[hsz x (List.mem_of_getElem? hx)] at this;exact this
   obtain⟨r1,r2⟩:=Ax8 (i:=i) hj
   have hlt:i*sz+j<ys.length*sz:=by
    have:(i+1)*sz≤ys.length*sz:=Nat.mul_le_mul_right _ hi
    rw[Nat.add_mul] at this;omega
   exact⟨us i j,by simp[news,hlt,r1,r2],hlie i j x y hx hy⟩
  refine⟨ad,c,news,rfl,by simp[news],Ip news (by simp[news]) h1 hn,hn,fun hpos=>?_⟩
  obtain⟨b,rfl,hbs⟩:=hp hpos
  refine⟨b,rfl,fun q u hu=>?_⟩
  simp only[news,List.getElem?_map,Option.map_eq_some_iff] at hu
  obtain⟨q',hq',rfl⟩:=hu
  obtain⟨hlt,rfl⟩:=List.getElem?_eq_some_iff.1 hq'
  simp only[List.length_range] at hlt
  simp only[List.getElem_range]
  have hpos2:0<sz:=by omega
  have hi:q/sz<ys.length:=(Nat.div_lt_iff_lt_mul hpos2).2 hlt
  have hs1:sz1=sz:=by rw[←hsz1 _ (List.getElem_mem hi),hsz _ (List.getElem_mem hi)]
  subst hs1
  obtain⟨b',hb',_,_,hcell⟩:=hat (q/sz1) (q%sz1) hi (Nat.mod_lt _ hpos2)
  cases hb'
  obtain⟨bb,bo,bs⟩:=b
  simp only at hbs;subst hbs
  rw[addr_add]
  simp only[Nat.add_assoc] at hcell
  rw[Nat.mul_comm,Nat.div_add_mod] at hcell
  exact hcell
 ·cases he;cases hx
  exact⟨_,0,[],rfl,by simp,by simp,by simp,by simp⟩
 ·rename_i k
  cases hx with
  |ownN _ sz1 ad hk hb=>rw[hk] at he;cases he;exact⟨_,0,[],rfl,by simp,by simp,by simp,by simp⟩
  |own _ sz1 xs' b hk hb=>
   rw[hk] at he;cases he
   obtain⟨b',arr,T,g0,g1,g2,g3,g4,g5⟩:=(h.objs k _ hk).resolve_left (fun e=>by rw[hb] at e;cases e.1)
   rw[hb] at g0;cases g0
   by_cases hpos:0<ys.length
   ·have hm:=List.getElem_mem hpos
    have hs1:sz1=sz:=by rw[←(g4 _ hm).1,hsz _ hm]
    subst hs1
    have hle:ys.length*sz1≤arr.size:=by rw[g3];exact Nat.mul_le_mul_right _ g2
    have hn: ∀(i j:Nat) (x y:PV),ys[i]? =some x→x.cells[j]? =some y→ ∃u,(arr.toList.take (ys.length*sz1))[i*sz1+j]? =some u∧Be w (okB C β σ.look w) y u:=by
     intro i j x y hx hy
     obtain⟨u,hu,hL⟩:=g5 i j x y hx hy
     have hi:=(List.getElem?_eq_some_iff.1 hx).1
     have hj:j<sz1:=by have:=(List.getElem?_eq_some_iff.1 hy).1;rw[hsz x (List.mem_of_getElem? hx)] at this;exact this
     have hlt:i*sz1+j<ys.length*sz1:=by
      have:(i+1)*sz1≤ys.length*sz1:=Nat.mul_le_mul_right _ hi
      rw[Nat.add_mul] at this;omega
     exact⟨u,by simp[List.getElem?_take,hlt,hu],hL⟩
    have hlen:(arr.toList.take (ys.length*sz1)).length=ys.length*sz1:=by simp;omega
    refine⟨_,_,arr.toList.take (ys.length*sz1),rfl,hlen,Ip _ hlen (fun x hx=>(g4 x hx).2) hn,hn,fun _=>⟨_,rfl,fun q u hu=>?_⟩⟩
    rw[addr_add]
    simp only[List.getElem?_take] at hu
    split at hu
    ·simp only[World.cell?,g1,Nat.zero_add]
     simpa using hu
    ·cases hu
   ·have hnil:ys=[]:=List.eq_nil_of_length_eq_zero (by omega)
    subst hnil
    exact⟨_,_,[],rfl,by simp,by simp,by simp,by simp⟩
theorem Aqz(t ty e T:TypeId)(i:TypeInfo)(ht:P.underlying t=some (.slice e))(hi:P.info? e=some i)(g sLen sCap:Nat)(cur:Array Value)(hg:w.heap[g]? =some (.cells cur T (0,0)))
  (ad:Option Addr)(m c:Nat)(news:List Value)(hl:news.length=m*i.size)(hnews:0<m→ ∃b,ad=some b∧ ∀j u,news[j]? =some u→w.cell? (b.add j)=some u)(h1: ∀u∈news,u.oneCell'=true)
  (hroom:sLen+m≤sCap)(hfit:sLen*i.size+news.length≤cur.size):
  (Builtin.append_ #[t,t] ty #[.slice (some ⟨g,0,none⟩) sLen sCap,.slice ad m c]).run P w=
   .ok (.slice (some ⟨g,0,none⟩) (sLen+m) sCap) (w.setRow g (cur.toList.take (sLen*i.size)++news++cur.toList.drop (sLen*i.size+news.length)).toArray):=by
 have hf:(Builtin.firstCells i.size m (.slice ad m c)).run P w= .ok news.toArray w:=by
  by_cases hm:0<m
  ·obtain⟨b,rfl,hb⟩:=hnews hm
   exact run_firstCells_some (P:=P) w i.size m b m c news hl hb
  ·have hm0:m=0:=by omega
   subst hm0
   have hn:news=[]:=List.eq_nil_of_length_eq_zero (by simpa using hl)
   subst hn
   cases ad with
   |none=>rfl
   |some b=>simp[Builtin.firstCells,loadCells,loadCellsFrom]
 have hst:=run_storeCells_at P g (sLen*i.size) T news 0 cur w hg (by simpa using hfit) h1
 simp only[Nat.add_zero] at hst
 simp[Builtin.append_,run_underlying ht,sizeOf,typeInfo,hi,Builtin.lenOf,hroom,hf,Addr.add_lit,hst]
theorem Sg{w':World}{ok ok':Nat→Prop}{β':Key→Blk}{lk':Key→Option Ah}(hk:H5 ok w w')(hok: ∀b,ok b→ok' b){sz:Nat}{xs ys:List PV}{olds news:Nat→Option Value}{arr:Array Value}{T:TypeId}{B:Blk}{b:Nat}(hB:B.b=some b)
  (hg:w'.heap[b]? =some (.cells arr T (0,0)))(hc:(xs++ys).length≤B.c)(hs:arr.size=B.c*sz)(hx: ∀x∈xs,x.cells.length=sz∧x.fine)(hy: ∀x∈ys,x.cells.length=sz∧x.fine)
  (ho: ∀q,q<xs.length*sz→arr[q]? =olds q)(hn: ∀q,q<ys.length*sz→arr[xs.length*sz+q]? =news q)
  (holds: ∀(i j:Nat) (x y:PV),xs[i]? =some x→x.cells[j]? =some y→ ∃u,olds (i*sz+j)=some u∧Be w ok y u)
  (hnews: ∀(i j:Nat) (x y:PV),ys[i]? =some x→x.cells[j]? =some y→ ∃u,news (i*sz+j)=some u∧Be w ok y u):Fa w' ok' β' lk' (.row sz (xs++ys)) B:=by
 refine .inr ⟨b,arr,T,hB,hg,hc,hs,fun x h=>?_,fun i j x y hix hjy=>?_⟩
 ·rcases List.mem_append.1 h with h|h
  ·exact hx x h
  ·exact hy x h
 ·rw[List.getElem?_append] at hix
  split at hix
  ·rename_i hlt
   have hj:j<sz:=by have:=(List.getElem?_eq_some_iff.1 hjy).1;rw[(hx x (List.mem_of_getElem? hix)).1] at this;exact this
   obtain⟨u,hu,hL⟩:=holds i j x y hix hjy
   refine⟨u,?_,hL.mono hk hok⟩
   rw[ho,hu]
   have:(i+1)*sz≤xs.length*sz:=Nat.mul_le_mul_right _ hlt
   rw[Nat.add_mul] at this;omega
  ·rename_i hge
   have hj:j<sz:=by have:=(List.getElem?_eq_some_iff.1 hjy).1;rw[(hy x (List.mem_of_getElem? hix)).1] at this;exact this
   have hlt:=(List.getElem?_eq_some_iff.1 hix).1
   obtain⟨u,hu,hL⟩:=hnews _ j x y hix hjy
   refine⟨u,?_,hL.mono hk hok⟩
   have e1:i*sz=xs.length*sz+(i-xs.length)*sz:=by rw[←Nat.add_mul];congr 1;omega
   rw[show i*sz+j=xs.length*sz+((i-xs.length)*sz+j) by omega,hn,hu]
   have:(i-xs.length+1)*sz≤ys.length*sz:=Nat.mul_le_mul_right _ hlt
   rw[Nat.add_mul] at this;omega
theorem Mm{c:Call}{x y:Operand}{t:TypeId}(ho:o.op= .call c)(hc:c.callee= .builtin .append)(hca:c.args= #[x,y])(hct:c.argTypes= #[t,t]){v:Value}{w':World}
  (hr:(Builtin.append_ #[t,t] o.type #[a.eval x,a.eval y]).run P w= .ok v w'):(execOp a.eval o).run P w= .ok (.value v) w':=by
 simp only[execOp,ho,resolve,hc,hca,hct,List.map_toArray,List.map_cons,List.map_nil,Sem.run_bind,Sem.run_pure,Result.andThen_ok,invoke,builtin,hr]
theorem Aqy{t ty e:TypeId}{i:TypeInfo}{z:Value}(ht:P.underlying t=some (.slice e))(hi:P.info? e=some i)(hz:i.zero=some z)(ax ad:Option Addr){m cy:Nat}{news:List Value}(hl:news.length=m*i.size)
  (hn:0<m→ ∃b,ad=some b∧ ∀j u,news[j]? =some u→w.cell? (b.add j)=some u)(hb:m*i.bytes≤140737488355328)(hb1:1≤i.bytes)(hpos:0<m):
  (Builtin.append_ #[t,t] ty #[.slice ax 0 0,.slice ad m cy]).run P w=
   .ok (.slice (some ⟨w.heap.size,0,none⟩) m (grownCap w m 0 e)) (w.drew.alloc (.cells (news.toArray++Builtin.zeroCells z.cells (grownCap w m 0 e-m)) e)):=by
 have hcount:m≤140737488355328:=by
  have:m*1≤m*i.bytes:=Nat.mul_le_mul_left _ hb1
  omega
 obtain⟨b,rfl,hcell⟩:=hn hpos
 cases ax with
 |none=>exact run_append_nil (P:=P) w t ty e i z ht hi hz b m cy news hl hcell hpos (by omega) (by omega)
 |some bx=>
  have:=run_append_grow (P:=P) w t ty e i z ht hi hz bx 0 0 [] (by simp) (by simp) b m cy news hl hcell (by omega) (by omega) (by rw[Nat.zero_add,nextslicecap_zero hpos];omega)
  simpa using this
theorem Atv{t ty e:TypeId}{i:TypeInfo}(ht:P.underlying t=some (.slice e))(hi:P.info? e=some i)(ax ad:Option Addr)(cy:Nat):
  (Builtin.append_ #[t,t] ty #[.slice ax 0 0,.slice ad 0 cy]).run P w= .ok (.slice ax 0 0) w:=by
 have hf:(Builtin.firstCells i.size 0 (.slice ad 0 cy)).run P w= .ok #[] w:=by
  cases ad with
  |none=>rfl
  |some b=>simp[Builtin.firstCells,loadCells,loadCellsFrom]
 cases ax<;>simp[Builtin.append_,run_underlying ht,sizeOf,typeInfo,hi,Builtin.lenOf,hf,storeCells]
theorem Sk(h:RR C β σ a w)(hd: ∀i,o.dst=some i→i<C.nt){c:Call}{x y:Operand}{y':Opd}{t e:TypeId}(ho:o.op= .call c)(hc:c.callee= .builtin .append)(hca:c.args= #[x,y])(hct:c.argTypes= #[t,t])
  (ht:P.underlying t=some (.slice e)){i:TypeInfo}{z:Value}{sz bytes:Nat}(hi:P.info? e=some i)(hz:i.zero=some z)(hs:i.size=sz)(hby:i.bytes=bytes)(hzs:z.cells.size=sz)(h0:sz≠0)
  (hy:Ak y y'=true){k k2:Key}{ys:List PV}{ax:Option Addr}(hxe:a.eval x= .slice ax 0 0)(hk2: ∀i,k2≠ .ext i)(ey:σ.elems (σ.ev y')=some ys)(ha:Hy sz ys=true)(hb1:1≤bytes)(hb:ys.length*bytes≤140737488355328):
  Ax P C ((((σ.kill k).kill k2).insAll [(k2,.row sz ys)]).put o.dst (.own k2)) o a w:=by
 subst hs;subst hby
 obtain⟨ad,cy,news,hye,n1,n2,n3,n4⟩:=Arm h (h.ev hy) ey ha h0
 have hyf: ∀x∈ys,x.cells.length=i.size∧x.fine:=fun x hx=>⟨Ez ha x hx,fun q hq=>by
  obtain⟨i1,hi1⟩:=List.mem_iff_getElem?.1 hx
  obtain⟨j1,hj1⟩:=List.mem_iff_getElem?.1 hq
  obtain⟨u,hu,hL⟩:=n3 i1 j1 x q hi1 hj1
  exact Hf hL (n2 u (List.mem_of_getElem? hu))⟩
 by_cases hpos:0<ys.length
 ·have hr:=Aqy (P:=P) (w:=w) (ty:=o.type) ht hi hz ax ad (cy:=cy) n1 n4 hb hb1 hpos
  obtain⟨arr2,harr2⟩: ∃arr2,arr2=news.toArray++Builtin.zeroCells z.cells (grownCap w ys.length 0 e-ys.length):=⟨_,rfl⟩
  rw[←hxe,←hye,←harr2] at hr
  have hrun:=Mm (P:=P) (a:=a) (w:=w) ho hc hca hct hr
  have hge:=grownCap_ge w ys.length 0 e
  intro K hK Q
  refine Exists.elim (h.move k k2 hk2 (.row i.size ys) ⟨some w.heap.size,grownCap w ys.length 0 e⟩ (w.drew.alloc (.cells arr2 e)) (by rw[World.size_alloc];exact Nat.le_succ _) (fun b hb=>by simp at hb;subst hb;exact .inl h.size)
   (fun k3 o3 b _ _ h3 e1 e2=>by have:=h.blk_lt h3 e1;simp at e2;omega) (fun b hb e=>by have:=hb.1;simp at e;omega) (fun b hb _=>heap_alloc_old w.drew _ b hb) (fun β' hok hkeep=>?_) (Quiet.trans (Quiet.drawn _ _) (Quiet.alloc _ _))) (fun β' hh=>?_)
  rotate_left
  ·refine Q0 hrun (hK β' _ _ (hh.2.put o.dst (.own k2) _ hd ?_))
   have:=As.own (w:=w.drew.alloc (.cells arr2 e)) (ok:=okB C β' (((σ.kill k).kill k2).insAll [(k2,.row i.size ys)]).look (w.drew.alloc (.cells arr2 e))) (β:=β') (lk:=(((σ.kill k).kill k2).insAll [(k2,.row i.size ys)]).look) k2 i.size ys w.heap.size (by rw[St.look_ins];simp) (by rw[hh.1])
   rw[hh.1] at this
   exact this
  ·have:=Sg (w:=w) (w':=w.drew.alloc (.cells arr2 e)) (β':=β') (lk':=(((σ.kill k).kill k2).insAll [(k2,.row i.size ys)]).look) hkeep hok (xs:=[]) (ys:=ys) (olds:=fun _=>none) (news:=fun q=>news[q]?) (B:=⟨some w.heap.size,grownCap w ys.length 0 e⟩) rfl (heap_alloc_new w.drew _) (by simpa using hge) ?_ (by simp) hyf (by simp) (fun q hq=>?_) (by simp) n3
   ·exact this
   ·rw[harr2]
    simp only[Array.size_append,List.size_toArray,size_zeroCells,hzs,n1]
    rw[←Nat.add_mul];congr 1;omega
   ·simp only[List.length_nil,Nat.zero_mul,Nat.zero_add]
    rw[harr2,Array.getElem?_append,if_pos (by simp only[List.size_toArray];omega)]
    simp
 ·obtain rfl:ys=[]:=List.eq_nil_of_length_eq_zero (by omega)
  have hr:=Atv (P:=P) (w:=w) (ty:=o.type) ht hi ax ad cy
  rw[←hxe] at hr
  have hye':a.eval y= .slice ad 0 cy:=hye
  rw[←hye'] at hr
  have hrun:=Mm (P:=P) (a:=a) (w:=w) ho hc hca hct hr
  intro K hK Q
  refine Exists.elim (h.move k k2 hk2 (.row i.size []) ⟨none,0⟩ w (Nat.le_refl _) (fun b hb=>by simp at hb) (fun k3 o3 b _ _ h3 e1 e2=>by simp at e2) (fun b hb e=>by simp at e) (fun b hb _=>rfl) (fun β' hok hkeep=> .inl ⟨rfl,rfl,rfl⟩) (Quiet.refl _)) (fun β' hh=>?_)
  refine Q0 hrun (hK β' _ _ (hh.2.put o.dst (.own k2) _ hd ?_))
  rw[hxe]
  exact As.ownN k2 i.size ax (by rw[St.look_ins];simp) (by rw[hh.1])
theorem Aq6(h:RR C β σ a w)(hd: ∀i,o.dst=some i→i<C.nt){c:Call}{x y:Operand}{x' y':Opd}{t e:TypeId}(ho:o.op= .call c)(hc:c.callee= .builtin .append)(hca:c.args= #[x,y])(hct:c.argTypes= #[t,t])
  (ht:P.underlying t=some (.slice e)){i:TypeInfo}{z:Value}{sz bytes:Nat}(hi:P.info? e=some i)(hz:i.zero=some z)(hs:i.size=sz)(hby:i.bytes=bytes)(hzs:z.cells.size=sz)(h0:sz≠0)
  (hx:Ak x x'=true)(hy:Ak y y'=true){k k2:Key}{xs ys:List PV}(ex:σ.ev x'= .own k)(hk:σ.look k=some (.row sz xs))(hk2: ∀i,k2≠ .ext i)(ey:σ.elems (σ.ev y')=some ys)(ha:Hy sz ys=true)(hb1:1≤bytes)(hb:(xs.length+ys.length)*bytes≤140737488355328):
  Ax P C ((((σ.kill k).kill k2).insAll [(k2,.row sz (xs++ys))]).put o.dst (.own k2)) o a w:=by
 subst hs;subst hby
 have hxl:=h.ev hx
 rw[ex] at hxl
 generalize hxe:a.eval x=xv at hxl
 cases hxl with
 |ownN _ sz1 ad1 hk1 hb1'=>
  rw[hk] at hk1;cases hk1
  have:=Sk (k:=k) h hd ho hc hca hct ht hi hz rfl rfl hzs h0 hy hxe hk2 ey ha hb1 (by simpa using hb)
  simpa using this
 |own _ sz1 xs1 bk hk1 hbk=>
 rw[hk] at hk1;cases hk1
 obtain⟨ad,cy,news,hye,n1,n2,n3,n4⟩:=Arm h (h.ev hy) ey ha h0
 obtain⟨bk',arr,T,g0,g1,g2,g3,g4,g5⟩:=(h.objs k _ hk).resolve_left (fun e1=>by rw[hbk] at e1;cases e1.1)
 rw[hbk] at g0;cases g0
 have hcount:xs.length+ys.length≤140737488355328:=by
  have:(xs.length+ys.length)*1≤(xs.length+ys.length)*i.bytes:=Nat.mul_le_mul_left _ hb1
  omega
 have hyf: ∀x∈ys,x.cells.length=i.size∧x.fine:=fun x hx=>⟨Ez ha x hx,fun q hq=>by
  obtain⟨i1,hi1⟩:=List.mem_iff_getElem?.1 hx
  obtain⟨j1,hj1⟩:=List.mem_iff_getElem?.1 hq
  obtain⟨u,hu,hL⟩:=n3 i1 j1 x q hi1 hj1
  exact Hf hL (n2 u (List.mem_of_getElem? hu))⟩
 have own': ∀(β':Key→Blk) (w':World) (b c:Nat),β' k2=⟨some b,c⟩→As w' (okB C β' (((σ.kill k).kill k2).insAll [(k2,.row i.size (xs++ys))]).look w') β' (((σ.kill k).kill k2).insAll [(k2,.row i.size (xs++ys))]).look (.own k2) (.slice (some ⟨b,0,none⟩) (xs.length+ys.length) c):=by
  intro β' w' b c hB
  have:=As.own (w:=w') (ok:=okB C β' (((σ.kill k).kill k2).insAll [(k2,.row i.size (xs++ys))]).look w') (β:=β') (lk:=(((σ.kill k).kill k2).insAll [(k2,.row i.size (xs++ys))]).look) k2 i.size (xs++ys) b (by rw[St.look_ins];simp) (by rw[hB])
  rw[hB,List.length_append] at this
  exact this
 have lo:=h.lo k _ bk hk hbk
 by_cases hroom:xs.length+ys.length≤(β k).c
 ·
  have hfit:xs.length*i.size+news.length≤arr.size:=by rw[n1,g3,←Nat.add_mul];exact Nat.mul_le_mul_right _ hroom
  have hr:=Aqz (P:=P) (w:=w) t o.type e T i ht hi bk xs.length (β k).c arr g1 ad ys.length cy news n1 n4 n2 hroom hfit
  rw[←hxe,←hye] at hr
  have hrun:=Mm (P:=P) (a:=a) (w:=w) ho hc hca hct hr
  have hsp:=fun q=>Aym arr news (xs.length*i.size) news.length q rfl hfit
  intro K hK Q
  refine Exists.elim (h.move k k2 hk2 (.row i.size (xs++ys)) ⟨some bk,(β k).c⟩ (w.setRow bk (arr.toList.take (xs.length*i.size)++news++arr.toList.drop (xs.length*i.size+news.length)).toArray) (by simp) (fun b hb=>by simp at hb;subst hb;exact lo)
   (fun k3 o3 b hne _ h3 e1 e2=>by simp at e2;subst e2;exact hne (h.inj k3 k _ _ _ h3 hk e1 hbk)) (fun b hb e=>by simp at e;subst e;exact hb.2.1 k _ hk hbk) (fun b _ hne=>setRow_other w _ _ _ (fun e=>by subst e;exact hne _ hk hbk)) (fun β' hok hkeep=>?_) (Quiet.setRow _ _ _)) (fun β' hh=>?_)
  rotate_left
  ·exact Q0 hrun (hK β' _ _ (hh.2.put o.dst (.own k2) _ hd (own' β' _ _ _ hh.1)))
  ·refine Sg hkeep hok (olds:=fun q=>arr[q]?) (news:=fun q=>news[q]?) rfl (setRow_heap w _ arr _ T (0,0) g1) (by simpa using hroom) ?_ g4 hyf (fun q hq=>?_) (fun q hq=>?_) g5 n3
   ·simp only[List.size_toArray,List.length_append,List.length_take,List.length_drop,Array.length_toList]
    rw[←g3];omega
   ·rw[hsp,if_neg (by omega)]
   ·rw[hsp,if_pos (by omega),Nat.add_sub_cancel_left]
 ·
  have hpos:0<ys.length:=by omega
  obtain⟨b,rfl,hcell⟩:=n4 hpos
  have hle:xs.length*i.size≤arr.size:=by rw[g3];exact Nat.mul_le_mul_right _ g2
  have hlo:(arr.toList.take (xs.length*i.size)).length=xs.length*i.size:=by simp;omega
  have hr:=run_append_grow (P:=P) w t o.type e i z ht hi hz ⟨bk,0,none⟩ xs.length (β k).c (arr.toList.take (xs.length*i.size)) hlo (fun j u hu=>by
   rw[addr_add]
   simp only[List.getElem?_take] at hu
   split at hu
   ·simp only[World.cell?,g1,Nat.zero_add];simpa using hu
   ·cases hu) b ys.length cy news n1 hcell (by omega) (by omega) (growslice_fits (by omega) hb)
  obtain⟨arr2,harr2⟩: ∃arr2,arr2=(arr.toList.take (xs.length*i.size)).toArray++news.toArray++Builtin.zeroCells z.cells (grownCap w (xs.length+ys.length) (β k).c e-(xs.length+ys.length)):=⟨_,rfl⟩
  rw[←hxe,←hye,←harr2] at hr
  have hrun:=Mm (P:=P) (a:=a) (w:=w) ho hc hca hct hr
  have hge:=grownCap_ge w (xs.length+ys.length) (β k).c e
  intro K hK Q
  refine Exists.elim (h.move k k2 hk2 (.row i.size (xs++ys)) ⟨some w.heap.size,grownCap w (xs.length+ys.length) (β k).c e⟩ (w.drew.alloc (.cells arr2 e)) (by rw[World.size_alloc];exact Nat.le_succ _) (fun b hb=>by simp at hb;subst hb;exact .inl h.size)
   (fun k3 o3 b _ _ h3 e1 e2=>by have:=h.blk_lt h3 e1;simp at e2;omega) (fun b hb e=>by have:=hb.1;simp at e;omega) (fun b hb _=>heap_alloc_old w.drew _ b hb) (fun β' hok hkeep=>?_) (Quiet.trans (Quiet.drawn _ _) (Quiet.alloc _ _))) (fun β' hh=>?_)
  rotate_left
  ·exact Q0 hrun (hK β' _ _ (hh.2.put o.dst (.own k2) _ hd (own' β' _ _ _ hh.1)))
  ·refine Sg hkeep hok (olds:=fun q=>arr[q]?) (news:=fun q=>news[q]?) rfl (heap_alloc_new w.drew _) (by simpa using hge) ?_ g4 hyf (fun q hq=>?_) (fun q hq=>?_) g5 n3
   ·rw[harr2]
    simp only[Array.size_append,List.size_toArray,size_zeroCells,hzs,hlo,n1]
    rw[←Nat.add_mul,←Nat.add_mul];congr 1;omega
   ·rw[harr2,Array.append_assoc,Array.getElem?_append,if_pos (by simp only[List.size_toArray];omega)]
    simp[List.getElem?_take,hq]
   ·rw[harr2,Array.append_assoc,Array.getElem?_append,if_neg (by simp only[List.size_toArray];omega),Array.getElem?_append,if_pos (by simp only[List.size_toArray,hlo];omega)]
    simp only[List.size_toArray,hlo,List.getElem?_toArray]
    congr 1;omega
theorem Aq5(h:RR C β σ a w)(hd: ∀i,o.dst=some i→i<C.nt){c:Call}{x y:Operand}{x' y':Opd}{t e:TypeId}(ho:o.op= .call c)(hc:c.callee= .builtin .append)(hca:c.args= #[x,y])(hct:c.argTypes= #[t,t])
  (ht:P.underlying t=some (.slice e)){i:TypeInfo}{z:Value}{sz bytes:Nat}(hi:P.info? e=some i)(hz:i.zero=some z)(hs:i.size=sz)(hby:i.bytes=bytes)(hzs:z.cells.size=sz)(h0:sz≠0)
  (hx:Ak x x'=true)(hy:Ak y y'=true){k:Key}{ys:List PV}(ex:σ.ev x'= .nils)(hke: ∀i,k≠ .ext i)(ey:σ.elems (σ.ev y')=some ys)(ha:Hy sz ys=true)(hb1:1≤bytes)(hb:ys.length*bytes≤140737488355328):
  Ax P C (((σ.kill k).insAll [(k,.row sz ys)]).put o.dst (.own k)) o a w:=by
 have hxl:=h.ev hx
 rw[ex] at hxl
 obtain⟨ax,hxe⟩: ∃ax,a.eval x= .slice ax 0 0:=by generalize a.eval x=xv at hxl;cases hxl;exact⟨_,rfl⟩
 have:=Sk (k:=k) (k2:=k) h hd ho hc hca hct ht hi hz hs hby hzs h0 hy hxe hke ey ha hb1 hb
 intro K hK Q
 refine this K (fun β' a' w' h'=>hK β' a' w' (h'.congr (fun t=>?_) (fun k'=>?_))) Q
 ·rw[Cm,Cm,D8,D8,Bi0]
 ·rw[St.look_put,St.look_put,St.look_ins,St.look_ins,Bed]
end
end Go.Av
end
