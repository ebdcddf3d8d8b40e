import Derived.MapKept
import Derived.Test.YtgmiodjnojkdkaaGreatDoorC5
set_option linter.all false
section
namespace Go.Av
section
variable {P:Program} {C:Ctx} {β:Key→Blk} {σ:St} {a:Act} {w:World} {o:Oper}
def KK.is:KK→TypeDesc→Bool
 | .i k,.int k'=>decide (k=k')
 | .b,.bool=>true
 | .s,.string=>true
 |_,_=>false
theorem A9d{kk:KK}{d:TypeDesc}(hd:kk.is d=true){x:PV}{v:Value}{ok:Nat→Prop}(hx:x.isKK kk=true)(hl:Be w ok x v):MapKept.IsKey d v:=by
 cases kk<;>cases x<;>simp only[PV.isKK] at hx<;>try (cases hx;done)
 all_goals
  cases d<;>simp only[KK.is] at hd<;>try (cases hd;done)
  cases hl
 ·simp only[decide_eq_true_eq] at hx hd
  subst hx;subst hd
  rfl
 ·trivial
 ·trivial
theorem Bjs{kk:KK}{d:TypeDesc}(hd:kk.is d=true){x y:PV}{u v:Value}{ok:Nat→Prop}(hx:x.isKK kk=true)(hy:y.isKK kk=true)(hu:Be w ok x u)(hv:Be w ok y v):Instr.sameNow d u v=some (Ey x y):=by
 cases kk<;>cases x<;>simp only[PV.isKK] at hx<;>(try (cases hx;done))<;>cases y<;>simp only[PV.isKK] at hy<;>(try (cases hy;done))<;>
  cases d<;>simp only[KK.is] at hd<;>(try (cases hd;done))<;>cases hu<;>cases hv<;>simp only[Instr.sameNow,Ey]
 ·simp only[decide_eq_true_eq] at hx hy
  subst hx;subst hy
  simp
 ·rename_i s t
  congr 1
  rw[Bool.eq_iff_iff,MapKept.bytes_beq]
  simp
def Gu:List (PV×PV)→PV→Option Nat
 |[],_=>none
 |e::es,k=>if Ey k e.1 then some 0 else(Gu es k).map (· +1)
theorem Ame: ∀{es:List (PV×PV)} {k:PV},Io es k=(Gu es k).bind (fun i=>(es[i]?).map (·.2))
 |[],k=>rfl
 |e::es,k=>by
  have ih:=Ame (es:=es) (k:=k)
  unfold Io at ih⊢
  simp only[List.find?_cons,Gu]
  cases h:Ey k e.1 with
  |true=>simp
  |false=>
   simp only[Bool.false_eq_true,if_false]
   rw[ih]
   cases Gu es k<;>simp
theorem Avi: ∀{es:List (PV×PV)} {k v:PV},Aaf es k v=match Gu es k with
  |some i=>es.modify i (fun e=>(e.1,v))
  |none=>es++[(k,v)]
 |[],k,v=>rfl
 |e::es,k,v=>by
  have ih:=Avi (es:=es) (k:=k) (v:=v)
  simp only[Aaf,Gu]
  cases h:Ey k e.1 with
  |true=>simp
  |false=>
   simp only[Bool.false_eq_true,if_false]
   rw[ih]
   cases Gu es k<;>simp
theorem Ajq: ∀{es:List (PV×PV)} {k:PV} {i:Nat},Gu es k=some i→i<es.length
 |[],k,i,h=>by cases h
 |e::es,k,i,h=>by
  simp only[Gu] at h
  split at h
  ·simp at h;subst h;simp
  ·simp only[Option.map_eq_some_iff] at h
   obtain⟨j,hj,rfl⟩:=h
   have:=Ajq hj
   simp;omega
theorem Arx: ∀{es:List (PV×PV)} {k:PV} {i:Nat},Gu es k=some i→ ∃e,es[i]? =some e∧Ey k e.1=true
 |[],k,i,h=>by cases h
 |e::es,k,i,h=>by
  simp only[Gu] at h
  split at h
  ·rename_i hs;simp at h;subst h;exact⟨e,rfl,hs⟩
  ·simp only[Option.map_eq_some_iff] at h
   obtain⟨j,hj,rfl⟩:=h
   obtain⟨e',h1,h2⟩:=Arx hj
   exact⟨e',by simpa using h1,h2⟩
theorem A8r{ents:Array MapEntry}{c:Nat}(h:At9 ents.toList c)(e:MapEntry)(he:e.born=c):At9 (ents.push e).toList (c+1):=by
 obtain⟨h1,h2⟩:=h
 constructor
 ·rw[Array.toList_push,List.map_append,List.nodup_append]
  refine⟨h1,by simp,fun a ha b hb=>?_⟩
  simp only[List.map_cons,List.map_nil,List.mem_singleton] at hb
  obtain⟨u,hu,rfl⟩:=List.mem_map.1 ha
  have:=h2 u hu
  omega
 ·intro u hu
  rw[Array.toList_push] at hu
  rcases List.mem_append.1 hu with hu|hu
  ·have:=h2 u hu;omega
  ·rw[List.mem_singleton.1 hu];omega
theorem Ay6{ents:Array MapEntry}{c:Nat}(h:At9 ents.toList c)(j:Nat)(f:MapEntry→MapEntry)(hf: ∀e,(f e).born=e.born):At9 (ents.modify j f).toList c:=by
 have e:(ents.modify j f).toList.map (·.born)=ents.toList.map (·.born):=by
  apply List.ext_getElem?
  intro i
  rw[List.getElem?_map,List.getElem?_map,Array.getElem?_toList,Array.getElem?_toList,Array.getElem?_modify]
  by_cases hij:j=i
  ·subst hij;rw[if_pos rfl];cases ents[j]? <;>simp[hf]
  ·rw[if_neg hij]
 refine⟨by rw[e];exact h.1,fun u hu=>?_⟩
 have:u.born∈(ents.modify j f).toList.map (·.born):=List.mem_map_of_mem hu
 rw[e] at this
 obtain⟨v,hv,hvu⟩:=List.mem_map.1 this
 have:=h.2 v hv
 omega
theorem Al7{kk:KK}{d:TypeDesc}(hd:kk.is d=true){ok:Nat→Prop}{k:PV}{kv:Value}(hk:k.isKK kk=true)(hkv:Be w ok k kv): ∀{es:List (PV×PV)} {ents:List MapEntry} (i:Nat),Ajc w ok kk es ents→
  Instr.findNow d kv ents i=some ((Gu es k).bind (fun j=>(ents[j]?).map (fun e=>(i+j,e.val))))
 |[],ents,i,h=>by
  have:ents=[]:=List.eq_nil_of_length_eq_zero (by simpa using h.1.symm)
  subst this;rfl
 |e::es,[],i,h=>by have:=h.1;simp at this
 |e::es,u::us,i,h=>by
  obtain⟨h1,h2,h3⟩:=h.2 0 e u rfl rfl
  have hr:Ajc w ok kk es us:=⟨by simpa using h.1,fun j e u he hu=>h.2 (j+1) e u (by simpa using he) (by simpa using hu)⟩
  simp only[Instr.findNow,Bjs hd hk h1 hkv h2,Gu]
  cases hs:Ey k e.1 with
  |true=>simp
  |false=>
   simp only[Bool.false_eq_true,if_false]
   rw[Al7 hd hk hkv (i+1) hr]
   cases Gu es k with
   |none=>rfl
   |some j=>
    simp only[Option.map_some,Option.bind_some,List.getElem?_cons_succ]
    cases us[j]? with
    |none=>rfl
    |some q=>simp;omega
theorem Bcc(h:RR C β σ a w)(hd: ∀i,o.dst=some i→i<C.nt){t:TypeId}(ho:o.op= .makeMap t none)(kk:KK)(k:Key)(hk: ∀i,k≠ .ext i)(hn:σ.look k=none):Ax P C ((σ.insAll [(k,.map kk [])]).put o.dst (.mp k)) o a w:=by
 refine Ax.new h hd k hk hn _ 0 (.map #[] 0) (v:= .map (some w.heap.size)) ?_ (fun β' b1 _ hok=>⟨_,#[],0,rfl,heap_alloc_new w _,⟨rfl,by simp⟩,⟨List.nodup_nil,by simp⟩⟩) (fun β' b2=>?_)
 ·simp only[execOp,ho,Option.map_none,Sem.run_bind,Instr.makeMap,run_newObj_alloc,Result.andThen_ok,Sem.run_pure]
 ·exact As.mp k kk [] w.heap.size (by rw[St.look_ins];simp) (by rw[b2])
theorem Bcd(h:RR C β σ a w)(hd: ∀i,o.dst=some i→i<C.nt){t kt et:TypeId}{x i:Operand}{ok:Bool}{x' i':Opd}(ho:o.op= .lookup t x i ok)(hx:Ak x x'=true)(hi:Ak i i'=true)
  {d:TypeDesc}{kk:KK}(ht:P.underlying t=some (.map kt et))(hkt:P.underlying kt=some d)(hkd:kk.is d=true){it:TypeInfo}{z:Value}{zero:PV}(hit:P.info? et=some it)(hz:it.zero=some z)(hzl: ∀(w:World) (ok:Nat→Prop),Be w ok zero z)
  {k:Key}{es:List (PV×PV)}{kv:PV}(ex:σ.ev x'= .mp k)(hk:σ.look k=some (.map kk es))(ei:σ.ev i'= .pv kv)(hkv:kv.isKK kk=true):
  Ax P C ((σ.insAll []).put o.dst (bif ok then .tup [.pv ((Io es kv).getD zero),.pv (.bool (Io es kv).isSome)] else .pv ((Io es kv).getD zero))) o a w:=by
 have hxl:=h.ev hx
 have hil:=h.ev hi
 rw[ex] at hxl;rw[ei] at hil
 have hil:=Bb hil
 obtain⟨b,ents,clock,g0,g1,g2,gB⟩:=h.objs k _ hk
 have hxe:a.eval x= .map (some b):=by
  generalize a.eval x=xv at hxl
  cases hxl with|mp _ kk' es' b' hk' hb'=>rw[g0] at hb';cases hb';rfl
 have hkey:=A9d hkd hkv hil
 have hfind:=Al7 hkd hkv hil 0 g2
 have hget: ∃u q,(Gu es kv).bind (fun j=>(ents.toList[j]?).map (fun e=>(0+j,e.val)))=q∧(q.map (·.2)).getD z=u∧q.isSome=(Io es kv).isSome∧Be w (okB C β σ.look w) ((Io es kv).getD zero) u:=by
  refine⟨_,_,rfl,rfl,?_,?_⟩
  ·rw[Ame]
   cases hm:Gu es kv with
   |none=>rfl
   |some j=>
    have:=Ajq hm
    have h2:j<ents.toList.length:=by rw[←g2.1];exact this
    simp only[Option.bind_some,List.getElem?_eq_getElem this,List.getElem?_eq_getElem h2];rfl
  ·rw[Ame]
   cases hm:Gu es kv with
   |none=>exact hzl _ _
   |some j=>
    have:=Ajq hm
    have h2:j<ents.toList.length:=by rw[←g2.1];exact this
    simp only[Option.bind_some,List.getElem?_eq_getElem this,List.getElem?_eq_getElem h2,Option.map_some,Option.getD_some]
    exact(g2.2 j _ _ (List.getElem?_eq_getElem this) (List.getElem?_eq_getElem h2)).2.2
 obtain⟨u,q,hq,hu,hsome,hlie⟩:=hget
 rw[hq] at hfind
 have hrun:(Instr.lookup t (a.eval x) (a.eval i) ok).run P w= .ok (if ok then .tuple #[u,.bool (Io es kv).isSome] else u) w:=by
  rw[hxe]
  simp only[Instr.lookup,Sem.run_bind,run_underlying ht,Result.andThen_ok,MapKept.run_getObj_map g1,Sem.run_pure,MapKept.run_checkKey hkt hkey _ 9999,MapKept.run_findKey hkt hfind]
  cases q with
  |none=>
   simp only[Option.map_none,Option.getD_none] at hu
   simp only[Option.isSome_none] at hsome
   subst hu
   rw[←hsome]
   simp only[zeroValue,typeInfo,run_program,Sem.run_bind,hit,hz,Sem.run_pure,Result.andThen_ok]
  |some p=>
   simp only[Option.map_some,Option.getD_some] at hu
   simp only[Option.isSome_some] at hsome
   obtain⟨p1,p2⟩:=p
   rw[←hsome,←hu]
   cases ok<;>simp only[Sem.run_bind,Sem.run_pure,Result.andThen_ok,if_true,Bool.false_eq_true,if_false]
 refine Ax.value h hd (v:=if ok then .tuple #[u,.bool (Io es kv).isSome] else u) ?_ ?_
 ·simp only[execOp,ho,Sem.run_bind,hrun,Result.andThen_ok,Sem.run_pure]
 ·cases ok with
  |false=>exact .pv _ _ hlie
  |true=>
   refine As.tup [_,_] [u,.bool (Io es kv).isSome] rfl (fun j y q hy hq=>?_)
   match j,hy,hq with
   |0,hy,hq=>simp at hy hq;subst hy;subst hq;exact .pv _ _ hlie
   |1,hy,hq=>simp at hy hq;subst hy;subst hq;exact .pv _ _ (.bool _)
theorem Bfx(h:RR C β σ a w)(hd: ∀i,o.dst=some i→i<C.nt){c:Call}{x:Operand}{x':Opd}{t:TypeId}(ho:o.op= .call c)(hc:c.callee= .builtin .len)(hca:c.args= #[x])(hct:c.argTypes= #[t])
  (hx:Ak x x'=true){kt et:TypeId}(ht:P.underlying t=some (.map kt et)){k:Key}{kk:KK}{es:List (PV×PV)}(ex:σ.ev x'= .mp k)(hk:σ.look k=some (.map kk es)):
  Ax P C ((σ.insAll []).put o.dst (.pv (.int .i64 es.length))) o a w:=by
 have hxl:=h.ev hx
 rw[ex] at hxl
 obtain⟨b,ents,clock,g0,g1,g2,gB⟩:=h.objs k _ hk
 have hxe:a.eval x= .map (some b):=by
  generalize a.eval x=xv at hxl
  cases hxl with|mp _ kk' es' b' hk' hb'=>rw[g0] at hb';cases hb';rfl
 have hl:ents.size=es.length:=by have:=g2.1;simp at this;exact this.symm
 refine Ax.value h hd (v:= .int .i64 es.length) ?_ (.pv _ _ (.int _ _))
 simp only[execOp,ho,resolve,hc,hca,hct,List.map_toArray,List.map_cons,List.map_nil,Sem.run_bind,Sem.run_pure,Result.andThen_ok,invoke,builtin,Builtin.len_,hxe,List.getElem?_toArray,List.getElem?_cons_zero,run_underlying ht,goInt,MapKept.run_getObj_map g1,hl]
theorem Bbx{kk:KK}{x y:PV}{u v:Value}{ok:Nat→Prop}(hx:x.isKK kk=true)(hy:y.isKK kk=true)(hu:Be w ok x u)(hv:Be w ok y v)(hs:Ey x y=true)(n:Nat):Instr.sameBits n v u=true∧x=y:=by
 cases kk<;>cases x<;>simp only[PV.isKK] at hx<;>(try (cases hx;done))<;>cases y<;>simp only[PV.isKK] at hy<;>(try (cases hy;done))<;>cases hu<;>cases hv<;>simp only[Ey,beq_iff_eq] at hs
 ·simp only[decide_eq_true_eq] at hx hy
  subst hx;subst hy;subst hs
  cases n<;>simp[Instr.sameBits]
 ·subst hs;cases n<;>simp[Instr.sameBits]
 ·subst hs
  cases n<;>simp only[Instr.sameBits,MapKept.bytes_beq,and_self]
theorem Bfy(h:RR C β σ a w)(hd: ∀i,o.dst=some i→i<C.nt){t kt et:TypeId}{x i y:Operand}{x' i' y':Opd}(ho:o.op= .mapUpdate t x i y∨o.op= .insert t x i y)(hx:Ak x x'=true)(hi:Ak i i'=true)(hy:Ak y y'=true)
  {d:TypeDesc}{kk:KK}(ht:P.underlying t=some (.map kt et))(hkt:P.underlying kt=some d)(hkd:kk.is d=true)
  {k:Key}{es:List (PV×PV)}{kv vv:PV}(ex:σ.ev x'= .mp k)(hk:σ.look k=some (.map kk es))(ei:σ.ev i'= .pv kv)(ey:σ.ev y'= .pv vv)(hkv:kv.isKK kk=true):
  Ax P C ((σ.over k (.map kk (Aaf es kv vv))).put o.dst .dead) o a w:=by
 have hxl:=h.ev hx
 have hil:=h.ev hi
 have hyl:=h.ev hy
 rw[ex] at hxl;rw[ei] at hil;rw[ey] at hyl
 have hil:=Bb hil
 have hyl:=Bb hyl
 obtain⟨b,ents,clock,g0,g1,g2,gB⟩:=h.objs k _ hk
 have hxe:a.eval x= .map (some b):=by
  generalize a.eval x=xv at hxl
  cases hxl with|mp _ kk' es' b' hk' hb'=>rw[g0] at hb';cases hb';rfl
 have hkey:=A9d hkd hkv hil
 have hfind:=Al7 hkd hkv hil 0 g2
 have hrun: ∃ents' clock',(Instr.mapUpdate t (a.eval x) (a.eval i) (a.eval y)).run P w= .ok () {w with heap:=w.heap.setIfInBounds b (.map ents' clock')}∧Agl w (okB C β σ.look w) kk (Aaf es kv vv) ents'.toList clock':=by
  rw[hxe,Avi]
  cases hm:Gu es kv with
  |none=>
   rw[hm] at hfind
   refine⟨ents.push {key:=a.eval i,val:=a.eval y,born:=clock},clock+1,?_,?_⟩
   ·simp only[Instr.mapUpdate,Sem.run_bind,run_underlying ht,Result.andThen_ok,MapKept.run_getObj_map g1,MapKept.run_checkKey hkt hkey _ 9999,MapKept.run_findKey hkt hfind,Option.bind_none,MapKept.run_setObj_map _ g1]
   ·refine⟨⟨by simp[g2.1],fun j e u he hu=>?_⟩,A8r gB _ rfl⟩
    simp only[Array.toList_push,List.getElem?_append] at he hu
    rw[←g2.1] at hu
    split at he
    ·rename_i hlt;rw[if_pos hlt] at hu;exact g2.2 j e u he hu
    ·rename_i hlt
     rw[if_neg hlt] at hu
     have hj:j-es.length=0:=by
      have:=(List.getElem?_eq_some_iff.1 he).1
      simpa using this
     rw[hj] at he hu
     simp at he hu
     subst he;subst hu
     exact⟨hkv,hil,hyl⟩
  |some j=>
   rw[hm] at hfind
   have hj:=Ajq hm
   have hj2:j<ents.toList.length:=by rw[←g2.1];exact hj
   have hj3:j<ents.size:=by simpa using hj2
   simp only[Option.bind_some,List.getElem?_eq_getElem hj2,Option.map_some,Nat.zero_add] at hfind
   obtain⟨e0,he0,hs0⟩:=Arx hm
   obtain⟨q1,q2,q3⟩:=g2.2 j e0 _ he0 (List.getElem?_eq_getElem hj2)
   obtain⟨hsb,hke⟩:=Bbx hkv q1 hil q2 hs0 10000
   refine⟨ents.modify j fun e=>{e with key:=a.eval i,val:=a.eval y},clock,?_,?_⟩
   ·have hkk:((ents[j]?).map (·.key)).getD (a.eval i)=(ents.toList[j]).key:=by simp[hj3]
    simp only[Instr.mapUpdate,Sem.run_bind,run_underlying ht,Result.andThen_ok,MapKept.run_getObj_map g1,MapKept.run_checkKey hkt hkey _ 9999,MapKept.run_findKey hkt hfind,Instr.keyThatStays,hkk,hsb,if_true,Sem.run_pure,MapKept.run_setObj_map _ g1]
   ·refine⟨⟨by simp[g2.1],fun j' e u he hu=>?_⟩,Ay6 gB _ _ fun _=>rfl⟩
    rw[List.getElem?_modify] at he
    rw[Array.getElem?_toList,Array.getElem?_modify] at hu
    by_cases hjj:j=j'
    ·subst hjj
     rw[he0] at he
     rw[if_pos rfl,Array.getElem?_eq_getElem hj3] at hu
     simp at he hu
     subst he;subst hu
     exact⟨by rw[←hke];exact hkv,by rw[←hke];exact hil,hyl⟩
    ·rw[if_neg hjj] at hu
     have he:es[j']? =some e:=by
      cases hq:es[j']? with
      |none=>rw[hq] at he;simp at he
      |some e1=>rw[hq] at he;simp[hjj] at he;rw[he]
     exact g2.2 j' e u he (by simpa using hu)
 obtain⟨ents',clock',hr,hents⟩:=hrun
 obtain⟨s1,s2⟩:=MapKept.heap_set (o':= .map ents' clock') g1
 intro K hK Q
 refine Ay3 (w':={w with heap:=w.heap.setIfInBounds b (.map ents' clock')}) ?_ (hK β _ _ (RR.put (h.over hk (o':= .map kk (Aaf es kv vv)) (w':={w with heap:=w.heap.setIfInBounds b (.map ents' clock')}) trivial g0 (by simp) (fun b' hne=>s2 b' hne) ⟨rfl,rfl,rfl⟩ ?_) o.dst .dead undef hd (.dead _)))
 ·rcases ho with ho|ho<;>simp only[execOp,ho,Sem.run_bind,hr,Result.andThen_ok,Sem.run_pure]
 ·exact⟨b,ents',clock',g0,s1,hents.mono (Tx hk g0 s2) (fun b' hb'=>(At6 hk (by simp) b').2 hb')⟩
end
end Go.Av
end
section
namespace Go.Av
def SV.killZ(Z:List Key)(v:SV):SV:=if Z.any (fun k=>v.names k) then .dead else v
def Ah.killZ(Z:List Key):Ah→Ah
 | .box cs=> .box (cs.map (SV.killZ Z))
 | .row sz xs=> .row sz xs
 | .map kk es=> .map kk es
def Ah.names(k:Key):Ah→Bool
 | .box cs=>SV.names.namesL k cs
 |_=>false
theorem SV.killZ_nil(v:SV):v.killZ []=v:=by simp[SV.killZ]
theorem SV.killZ_cons(k:Key)(Z:List Key)(v:SV):(v.kill k).killZ Z=v.killZ (k::Z):=by
 unfold SV.kill SV.killZ
 cases h:v.names k with
 |true=>simp[h,SV.names]
 |false=>simp[h]
theorem SV.killZ_snoc(k:Key)(Z:List Key)(v:SV):(v.killZ Z).kill k=v.killZ (Z++[k]):=by
 unfold SV.kill SV.killZ
 by_cases h:Z.any (fun k=>v.names k)=true
 ·simp only[h,if_true,List.any_append,Bool.true_or]
  simp[SV.names]
 ·have h:Z.any (fun k=>v.names k)=false:=by simpa using h
  simp only[h,List.any_append,Bool.false_or,List.any_cons,List.any_nil,Bool.or_false,Bool.false_eq_true,if_false]
  cases v.names k<;>simp
theorem SV.killZ_none{Z:List Key}{v:SV}(h: ∀k∈Z,v.names k=false):v.killZ Z=v:=by
 unfold SV.killZ
 rw[if_neg]
 simp only[List.any_eq_true,not_exists,not_and]
 intro k hk e
 rw[h k hk] at e;cases e
theorem A8c(Z:List Key)(v:SV):v.killZ Z= .dead∨(v.killZ Z=v∧ ∀k∈Z,v.names k=false):=by
 unfold SV.killZ
 by_cases h:Z.any (fun k=>v.names k)=true
 ·rw[if_pos h];exact .inl rfl
 ·rw[if_neg h]
  refine .inr ⟨rfl,fun k hk=>?_⟩
  cases hn:v.names k with
  |false=>rfl
  |true=>exact absurd (List.any_eq_true.2 ⟨k,hk,hn⟩) h
theorem SV.killZ_congr{Z Z':List Key}(h: ∀k,k∈Z↔k∈Z')(v:SV):v.killZ Z=v.killZ Z':=by
 unfold SV.killZ
 have:Z.any (fun k=>v.names k)=Z'.any (fun k=>v.names k):=by
  rw[Bool.eq_iff_iff]
  simp only[List.any_eq_true]
  constructor
  ·rintro⟨k,h1,h2⟩;exact⟨k,(h k).1 h1,h2⟩
  ·rintro⟨k,h1,h2⟩;exact⟨k,(h k).2 h1,h2⟩
 rw[this]
theorem Ah.killZ_nil(o:Ah):o.killZ []=o:=by
 cases o with
 |box cs=>simp only[Ah.killZ];congr 1;rw[List.map_congr_left (fun v _=>SV.killZ_nil v)];simp
 |row _ _=>rfl
 |map _ _=>rfl
theorem Ah.killZ_cons(k:Key)(Z:List Key)(o:Ah):(o.kill k).killZ Z=o.killZ (k::Z):=by
 cases o with
 |box cs=>simp only[Ah.killZ,Ah.kill,List.map_map];congr 1;exact List.map_congr_left (fun v _=>SV.killZ_cons k Z v)
 |row _ _=>rfl
 |map _ _=>rfl
theorem Ah.killZ_snoc(k:Key)(Z:List Key)(o:Ah):(o.killZ Z).kill k=o.killZ (Z++[k]):=by
 cases o with
 |box cs=>simp only[Ah.killZ,Ah.kill,List.map_map];congr 1;exact List.map_congr_left (fun v _=>SV.killZ_snoc k Z v)
 |row _ _=>rfl
 |map _ _=>rfl
theorem Avn{k:Key}{cs:List SV}(h:SV.names.namesL k cs=false){v:SV}(hv:v∈cs):v.names k=false:=by
 induction cs with
 |nil=>simp at hv
 |cons c cs ih=>
  simp only[SV.names.namesL,Bool.or_eq_false_iff] at h
  rcases List.mem_cons.1 hv with rfl|hv
  ·exact h.1
  ·exact ih h.2 hv
theorem Ah.killZ_none{Z:List Key}{o:Ah}(h: ∀k∈Z,o.names k=false):o.killZ Z=o:=by
 cases o with
 |box cs=>
  simp only[Ah.killZ];congr 1
  have:cs.map (SV.killZ Z)=cs.map (fun v=>v):=List.map_congr_left (fun v hv=>SV.killZ_none (fun k hk=>Avn (h k hk) hv))
  rw[this];simp
 |row _ _=>rfl
 |map _ _=>rfl
theorem Ah.killZ_congr{Z Z':List Key}(h: ∀k,k∈Z↔k∈Z')(o:Ah):o.killZ Z=o.killZ Z':=by
 cases o with
 |box cs=>simp only[Ah.killZ];congr 1;exact List.map_congr_left (fun v _=>SV.killZ_congr h v)
 |row _ _=>rfl
 |map _ _=>rfl
theorem Ah.killZ_sim(Z:List Key)(o:Ah):o.sim (o.killZ Z):=by cases o<;>simp[Ah.killZ,Ah.sim]
theorem F1(Z:List Key): ∀(σ:St) (t:Nat),(σ.killAll Z).get t=(σ.get t).killZ Z:=by
 induction Z with
 |nil=>intro σ t;rw[SV.killZ_nil];rfl
 |cons k Z ih=>intro σ t;rw[show σ.killAll (k::Z)=(σ.kill k).killAll Z from rfl,ih,Fy,SV.killZ_cons]
theorem Cg(Z:List Key): ∀(σ:St) (k:Key),(σ.killAll Z).look k=if k∈Z then none else(σ.look k).map (Ah.killZ Z):=by
 induction Z with
 |nil=>
  intro σ k
  rw[show σ.killAll []=σ from rfl]
  simp only[List.not_mem_nil,if_false]
  cases σ.look k with
  |none=>rfl
  |some o=>simp[Ah.killZ_nil]
 |cons k' Z ih=>
  intro σ k
  rw[show σ.killAll (k'::Z)=(σ.kill k').killAll Z from rfl,ih,B8]
  by_cases e:k=k'
  ·subst e;simp
  ·by_cases e2:k∈Z
   ·simp[e2]
   ·rw[if_neg e2,if_neg e,if_neg (by simp[e,e2])]
    cases σ.look k with
    |none=>rfl
    |some o=>simp[Ah.killZ_cons]
def Anx(γ:Nat→Blk):Key→Blk
 | .ext i=>γ i
 |_=>⟨none,0⟩
def Ak6(ext:List Ah):Key→Option Ah:=Ay (N5 0 ext)
def Fb(γ δ:Nat→Blk):Key→Blk
 | .ext i=>γ i
 | .res i=>δ i
 | .loc _ _=>⟨none,0⟩
def Ci(ext rows:List (Option Ah)):Key→Option Ah
 | .ext i=>(ext[i]?).join
 | .res i=>(rows[i]?).join
 | .loc _ _=>none
structure After (C:Ctx) (w':World) (r:Res) (v:Value) (δ:Nat→Blk):Prop where
 size:C.w0.heap.size≤w'.heap.size
 frame: ∀b,b<C.w0.heap.size→ ¬C.lent b→w'.heap[b]? =C.w0.heap[b]?
 inj: ∀k k' o o' b,Ci r.ext r.rows k=some o→Ci r.ext r.rows k'=some o'→(Fb C.γ δ k).b=some b→(Fb C.γ δ k').b=some b→k=k'
 lo: ∀k o b,Ci r.ext r.rows k=some o→(Fb C.γ δ k).b=some b→C.w0.heap.size≤b∨C.lent b
 len:r.ext.length=C.ext.length
 exts: ∀i o,Ci r.ext r.rows (.ext i)=some o→ ∃o0,C.ext[i]? =some o0∧o0.sim o
 objs: ∀k o,Ci r.ext r.rows k=some o→Fa w' (okB C (Fb C.γ δ) (Ci r.ext r.rows) w') (Fb C.γ δ) (Ci r.ext r.rows) o (Fb C.γ δ k)
 val:As w' (okB C (Fb C.γ δ) (Ci r.ext r.rows) w') (Fb C.γ δ) (Ci r.ext r.rows) r.v v
 quiet:Quiet C.w0 w'
def Enters(P:Program)(f:FuncId):Prop:= ∃fn,P.funcs[f]? =some fn∧(fn.name=="runtime.NumGoroutine")=false∧fn.body.isNone=false
def Bo(P:Program)(f:FuncId)(args:List SV)(ext:List Ah)(r:Res):Prop:=
 Enters P f∧ ∀(w:World) (vs:List Value) (γ:Nat→Blk) (ok:Nat→Prop),(∀b,ok b→b<w.heap.size∧ ∀i,i<ext.length→(γ i).b≠some b)→GOK w ok→
  (∀i j b,i<ext.length→j<ext.length→(γ i).b=some b→(γ j).b=some b→i=j)→(∀i o,ext[i]? =some o→Fa w ok (Anx γ) (Ak6 ext) o (γ i))→
  args.length=vs.length→(∀(j:Nat) (x:SV) (v:Value),args[j]? =some x→vs[j]? =some v→As w ok (Anx γ) (Ak6 ext) x v)→
  Calls P f vs.toArray w fun e w'=> ∃v δ,e= .returned v∧After ⟨w,ext,γ,0,ok,[]⟩ w' r v δ
def Oc(P:Program)(cl:Callee):Prop:= ∀d g args ext r,cl d g args ext=some r→Bo P g args ext r
section
variable {P:Program} {C:Ctx} {β:Key→Blk} {σ:St} {a:Act} {w:World} {o:Oper}
theorem Amb{ks:List Key}{k:Key}{i:Nat}(h:ks.idxOf? k=some i):ks[i]? =some k:=by
 induction ks generalizing i with
 |nil=>simp[List.idxOf?] at h
 |cons k' ks ih=>
  simp only[List.idxOf?,List.findIdx?_cons] at h ih
  by_cases e:(k'==k)=true
  ·rw[if_pos e] at h;simp at h;subst h;simp at e;subst e;rfl
  ·rw[if_neg e] at h
   simp only[Option.map_eq_some_iff] at h
   obtain⟨j,hj,rfl⟩:=h
   simpa using ih hj
theorem Bcn{ks:List Key}{k k':Key}(h:toX ks k=some k'): ∃i,k'= .ext i∧ks[i]? =some k:=by
 unfold toX at h
 simp only[Option.map_eq_some_iff] at h
 obtain⟨i,hi,rfl⟩:=h
 exact⟨i,rfl,Amb hi⟩
theorem Jo{ks:List Key}: ∀{l:List Key} {ext:List Ah},Hr σ ks l=some ext→ext.length=l.length∧ ∀(i:Nat) (k:Key),l[i]? =some k→ ∃o,σ.look k=some o∧ext[i]? =some (o.nm (toX ks))
 |[],ext,h=>by simp[Hr] at h;subst h;simp
 |k::l,ext,h=>by
  simp only[Hr] at h
  cases hk:σ.look k with
  |none=>rw[hk] at h;cases h
  |some o=>
   cases hr:Hr σ ks l with
   |none=>rw[hk,hr] at h;cases h
   |some os=>
    rw[hk,hr] at h;cases h
    obtain⟨e1,e2⟩:=Jo hr
    refine⟨by simp[e1],fun i k' hk'=>?_⟩
    cases i with
    |zero=>simp at hk';subst hk';exact⟨o,hk,rfl⟩
    |succ i=>simpa using e2 i k' (by simpa using hk')
theorem Aro: ∀(ext:List Ah) (i0 i:Nat),Ay (N5 i0 ext) (.ext (i0+i))=ext[i]?
 |[],_,_=>by simp[N5,Ay]
 |y::ext,i0,i=>by
  cases i with
  |zero=>simp[N5,Ay]
  |succ i=>
   have:=Aro ext (i0+1) i
   have hne:Key.ext i0≠Key.ext (i0+(i+1)):=by intro e;injection e with e;omega
   simp only[N5,Ay,if_neg hne]
   rw[show i0+(i+1)=i0+1+i by omega]
   simpa using this
theorem A1x(ext:List Ah)(i:Nat):Ak6 ext (.ext i)=ext[i]? :=by
 have:=Aro ext 0 i
 simpa [Ak6] using this
theorem Arn: ∀(ext:List Ah) (i0:Nat) (k:Key) (o:Ah),Ay (N5 i0 ext) k=some o→ ∃i,k= .ext (i0+i)∧ext[i]? =some o
 |[],_,k,o,h=>by simp[N5,Ay] at h
 |y::ext,i0,k,o,h=>by
  simp only[N5,Ay] at h
  split at h
  ·rename_i e
   simp only[Option.some.injEq] at h
   exact⟨0,e.symm,by simp[h]⟩
  ·obtain⟨i,h1,h2⟩:=Arn ext (i0+1) k o h
   exact⟨i+1,by rw[h1];congr 1;omega,by simpa using h2⟩
def Ss(β:Key→Blk)(ks:List Key)(i:Nat):Blk:=β (ks.getD i (.res 0))
theorem Q5{ks:List Key}{i:Nat}{k:Key}(h:ks[i]? =some k):Ss β ks i=β k:=by simp[Ss,List.getD,h]
theorem Bi2{ks:List Key}{ext:List Ah}(hx:Hr σ ks ks=some ext){ok ok':Nat→Prop}(hok: ∀b,ok b→ok' b){x:SV}{v:Value}(h:As w ok β σ.look x v):As w ok' (Anx (Ss β ks)) (Ak6 ext) (x.nm (toX ks)) v:=by
 refine h.nm' (toX ks) (fun b _ off u hu=>hu) hok (fun k o k' _ hk hf=>?_)
 obtain⟨i,rfl,hi⟩:=Bcn hf
 obtain⟨o',h1,h2⟩:=(Jo hx).2 i k hi
 rw[hk] at h1;cases h1
 exact⟨_,by rw[A1x];exact h2,o.nm_sim _,Q5 hi⟩
theorem Bi3(h:RR C β σ a w){ks:List Key}{ext:List Ah}(hx:Hr σ ks ks=some ext){i:Nat}{o':Ah}(ho:ext[i]? =some o'):Fa w (okB C β σ.look w) (Anx (Ss β ks)) (Ak6 ext) o' (Ss β ks i):=by
 obtain⟨e1,e2⟩:=Jo hx
 have hlt:=(List.getElem?_eq_some_iff.1 ho).1
 have hi:ks[i]? =some (ks[i]'(by omega)):=List.getElem?_eq_getElem (by omega)
 obtain⟨o,h1,h2⟩:=e2 i _ hi
 rw[ho] at h2;cases h2
 rw[Q5 hi]
 refine(h.objs _ _ h1).nm' (toX ks) (fun b _ off u hu=>hu) (fun b hb=>hb) (fun _ _=>rfl) (fun k o2 k' _ hk hf=>?_)
 obtain⟨j,rfl,hj⟩:=Bcn hf
 obtain⟨o3,h3,h4⟩:=e2 j k hj
 rw[hk] at h3;cases h3
 exact⟨_,by rw[A1x];exact h4,o2.nm_sim _,Q5 hj⟩
theorem Aal{f:Key→Option Key}: ∀{ks:List Key} {ext:List (Option Ah)} {σ σ':St},C8 f σ ks ext=some σ'→ks.length=ext.length∧(∀t,σ'.get t=σ.get t)∧(∀k,k∉ks→σ'.look k=σ.look k)∧
  (ks.Nodup→ ∀(i:Nat) (k:Key),ks[i]? =some k→(ext[i]? =some none→σ'.look k=σ.look k)∧ ∀o,ext[i]? =some (some o)→σ'.look k=(σ.look k).map fun _=>o.nm f)
 |[],[],σ,σ',h=>by simp[C8] at h;subst h;simp
 |[],_::_,_,_,h=>by simp[C8] at h
 |_::_,[],_,_,h=>by simp[C8] at h
 |k::ks,none::r,σ,σ',h=>by
  simp only[C8] at h
  obtain⟨e1,e2,e3,e4⟩:=Aal h
  refine⟨by simp[e1],e2,fun k' hk'=>e3 k' (fun hm=>hk' (by simp[hm])),fun hnd i k' hk'=>?_⟩
  rw[List.nodup_cons] at hnd
  cases i with
  |zero=>simp at hk';subst hk';exact⟨fun _=>e3 k hnd.1,fun o ho=>by simp at ho⟩
  |succ i=>simpa using e4 hnd.2 i k' (by simpa using hk')
 |k::ks,some o::r,σ,σ',h=>by
  simp only[C8] at h
  obtain⟨e1,e2,e3,e4⟩:=Aal h
  refine⟨by simp[e1],fun t=>by rw[e2];rfl,fun k' hk'=>?_,fun hnd i k' hk'=>?_⟩
  ·simp at hk'
   rw[e3 k' hk'.2,Bu,if_neg hk'.1]
  ·rw[List.nodup_cons] at hnd
   cases i with
   |zero=>
    simp at hk';subst hk'
    refine⟨fun h=>by simp at h,fun o' ho=>?_⟩
    simp at ho;subst ho
    rw[e3 k hnd.1,Bu,if_pos rfl]
   |succ i=>
    simp at hk'
    obtain⟨q1,q2⟩:=e4 hnd.2 i k' hk'
    have hne:k'≠k:=fun e=>by subst e;exact hnd.1 (List.mem_of_getElem? hk')
    rw[Bu,if_neg hne] at q1 q2
    exact⟨by simpa using q1,by simpa using q2⟩
theorem Aqe: ∀{ks:List Key} {ext:List (Option Ah)} {k:Key},k∈C0 ks ext→ ∃i:Nat,ks[i]? =some k∧ext[i]? =some none
 |[],ext,k,h=>by cases ext<;>simp[C0] at h
 |_::_,[],k,h=>by simp[C0] at h
 |k1::ks,none::r,k,h=>by
  simp only[C0,List.mem_cons] at h
  rcases h with rfl|h
  ·exact⟨0,rfl,rfl⟩
  ·obtain⟨i,h1,h2⟩:=Aqe h
   exact⟨i+1,by simpa using h1,by simpa using h2⟩
 |k1::ks,some _::r,k,h=>by
  simp only[C0] at h
  obtain⟨i,h1,h2⟩:=Aqe h
  exact⟨i+1,by simpa using h1,by simpa using h2⟩
theorem Aob: ∀{ks:List Key} {ext:List (Option Ah)} {k:Key} {i:Nat},ks[i]? =some k→ext[i]? =some none→k∈C0 ks ext
 |[],ext,k,i,h,_=>by simp at h
 |_::_,[],k,i,_,h=>by simp at h
 |k1::ks,none::r,k,i,h1,h2=>by
  cases i with
  |zero=>simp at h1;subst h1;simp[C0]
  |succ i=>simp only[C0,List.mem_cons];exact .inr (Aob (by simpa using h1) (by simpa using h2))
 |k1::ks,some _::r,k,i,h1,h2=>by
  cases i with
  |zero=>simp at h2
  |succ i=>simp only[C0];exact Aob (by simpa using h1) (by simpa using h2)
theorem T7(f:Key→Option Key)(d:Nat): ∀(rows:List (Option Ah)) (i0:Nat) (k:Key),Ay (H1 f d i0 rows) k=match k with
  | .loc d' i=>if d'=d∧i0≤i then((rows[i-i0]?).join).map (Ah.nm f) else none
  |_=>none
 |[],i0,k=>by
  cases k<;>simp[H1,Ay]
 |none::r,i0,k=>by
  have ih:=T7 f d r (i0+1) k
  simp only[H1,ih]
  cases k with
  |loc d' i=>
   simp only
   by_cases h2:d'=d∧i0≤i
   ·rw[if_pos h2]
    by_cases h3:i=i0
    ·subst h3;rw[if_neg (by omega)];simp
    ·rw[if_pos ⟨h2.1,by omega⟩,show i-i0=(i-(i0+1))+1 by omega,List.getElem?_cons_succ]
   ·rw[if_neg h2,if_neg (by omega)]
  |ext i=>rfl
  |res i=>rfl
 |some o::r,i0,k=>by
  have ih:=T7 f d r (i0+1) k
  simp only[H1,Ay,ih]
  cases k with
  |loc d' i=>
   simp only[Key.loc.injEq]
   by_cases h:d=d'∧i0=i
   ·obtain⟨rfl,rfl⟩:=h
    simp
   ·rw[if_neg h]
    by_cases h2:d'=d∧i0≤i
    ·obtain⟨rfl,h2⟩:=h2
     have hne:i0≠i:=fun e=>h ⟨rfl,e⟩
     rw[if_pos ⟨rfl,by omega⟩,if_pos ⟨rfl,h2⟩]
     rw[show i-i0=(i-(i0+1))+1 by omega,List.getElem?_cons_succ]
    ·rw[if_neg (by omega),if_neg h2]
  |ext i=>simp
  |res i=>simp
theorem Ov(f:Key→Option Key)(d:Nat)(rows:List (Option Ah))(k:Key):(σ.insAll (H1 f d 0 rows)).look k=(match k with
  | .loc d' i=>if d'=d then((rows[i]?).join).map (Ah.nm f) else none
  |_=>none:Option Ah).or (σ.look k):=by
 unfold St.insAll St.look
 simp only[D4,T7]
 cases k<;>simp
theorem RR.grow(h:RR C β σ a w){w':World}(hsz:w.heap.size≤w'.heap.size)(hq:Quiet w w')(hfr: ∀b,b<w.heap.size→w'.heap[b]? =w.heap[b]?):RR C β σ a w':=by
 have hok: ∀b,okB C β σ.look w b→okB C β σ.look w' b:=fun b hb=>⟨by have:=hb.1;omega,hb.2⟩
 have hkp:H5 (okB C β σ.look w) w w':=by
  intro b hb off u hu
  simp only[World.cell?,hfr b hb.1]
  exact hu
 refine⟨h.tsz,h.dfs,h.inj,fun k o hk=>?_,h.lo,h.ext2,fun t=>?_,Nat.le_trans h.size hsz,fun b hb hx=>?_,h.quiet.trans hq,h.gw⟩
 ·exact(h.objs k o hk).mono hkp hok rfl (fun b hb=>hfr b (h.blk_lt hk hb)) (fun k2 o2 _ h2=>⟨o2,h2,o2.sim_refl,rfl⟩)
 ·exact(h.slots t).mono hkp hok (fun k2 o2 h2=>⟨o2,h2,o2.sim_refl,rfl⟩)
 ·have hs:=h.size
  rw[hfr b (by omega)];exact h.frame b hb hx
theorem Qp{α:Type}{x:Option (Option α)}{o:α}(h:x.join=some o):x=some (some o):=by
 cases x with
 |none=>cases h
 |some y=>cases y with
  |none=>cases h
  |some z=>simp at h;subst h;rfl
theorem RR.back(h:RR C β σ a w){ln:List Key}{ext:List Ah}(hext:Hr σ ln ln=some ext)(hnd:ln.Nodup){w':World}{r:Res}{v:Value}{δ:Nat→Blk}{d keep:Nat}{rows':List (Option Ah)}
  (ha:After ⟨w,ext,Ss β ln,0,okB C β σ.look w,[]⟩ w' r v δ)(hrows:(rows'=r.rows∧r.rows.length≤keep)∨(rows'=[]∧keep=0))(hfresh: ∀i,i<keep→σ.look (.loc d i)=none)
  {σ2:St}(hb:C8 (G0 ln d keep) (σ.killAll (C0 ln r.ext)) ln r.ext=some σ2):
  ∃β',RR C β' (σ2.insAll (H1 (G0 ln d keep) d 0 rows')) a w'∧
   (∀b,okB ⟨w,ext,Ss β ln,0,okB C β σ.look w,[]⟩ (Fb (Ss β ln) δ) (Ci r.ext r.rows) w' b→okB C β' (σ2.insAll (H1 (G0 ln d keep) d 0 rows')).look w' b)∧
   (keep=0→ ∀i o b,Ci r.ext r.rows (.res i)=some o→(δ i).b=some b→okB C β' (σ2.insAll (H1 (G0 ln d keep) d 0 rows')).look w' b)∧
   ∀k o k',Ci r.ext r.rows k=some o→G0 ln d keep k=some k'→(σ2.insAll (H1 (G0 ln d keep) d 0 rows')).look k'=some (o.nm (G0 ln d keep))∧β' k'=Fb (Ss β ln) δ k:=by
 obtain⟨x1,x2⟩:=Jo hext
 obtain⟨v1,v2,v3,v4⟩:=Aal hb
 have v4:=v4 hnd
 have hrl:rows'.length≤keep:=by
  rcases hrows with⟨e,hl⟩|⟨e,hl⟩
  ·rw[e];exact hl
  ·rw[e];exact Nat.zero_le _
 generalize hf:G0 ln d keep=f at*
 generalize hτ:σ2.insAll (H1 f d 0 rows')=τ
 have hsz:=ha.size
 have hs0:=h.size
 have hsz:w.heap.size≤w'.heap.size:=hsz
 let β':Key→Blk:=fun k=>match k with
  | .loc d' i=>if d'=d∧i<keep then δ i else β k
  |_=>β k
 have bl: ∀i,i<keep→β' (.loc d i)=δ i:=fun i hi=>by simp[β',hi]
 have bo: ∀k:Key,(∀i,i<keep→k≠Key.loc d i)→β' k=β k:=by
  intro k hk
  cases k with
  |loc d' i=>
   have: ¬(d'=d∧i<keep):=fun e=>hk i e.2 (by rw[e.1])
   simp[β',this]
  |ext i=>rfl
  |res i=>rfl
 have hlive: ∀(i:Nat) (k:Key),ln[i]? =some k→ ∃o,σ.look k=some o:=fun i k hi=>by obtain⟨o,h1,_⟩:=x2 i k hi;exact⟨o,h1⟩
 have hnl: ∀(i:Nat) (k:Key),ln[i]? =some k→ ∀j,j<keep→k≠Key.loc d j:=fun i k hi j hj e=>by
  obtain⟨o,ho⟩:=hlive i k hi
  rw[e,hfresh j hj] at ho;cases ho
 have hlent: ∀b,Ctx.lent ⟨w,ext,Ss β ln,0,okB C β σ.look w,[]⟩ b→ ∃(i:Nat) (k:Key) (o:Ah),ln[i]? =some k∧σ.look k=some o∧(β k).b=some b:=by
  rintro b ⟨i,hi,he⟩
  have hi:i<ext.length:=hi
  have hk:ln[i]? =some (ln[i]'(by omega)):=List.getElem?_eq_getElem (by omega)
  obtain⟨o,ho⟩:=hlive i _ hk
  have he:(Ss β ln i).b=some b:=he
  rw[Q5 hk] at he
  exact⟨i,_,o,hk,ho,he⟩
 have T1: ∀k o,τ.look k=some o→(∃K o1,Ci r.ext r.rows K=some o1∧f K=some k∧o=o1.nm f∧β' k=Fb (Ss β ln) δ K)∨
   (k∉ln∧(∀i,i<keep→k≠ .loc d i)∧ ∃o2,σ.look k=some o2∧o=o2.killZ (C0 ln r.ext)∧β' k=β k):=by
  intro k o hk
  rw[←hτ,Ov] at hk
  by_cases hm:k∈ln
  ·obtain⟨i,hi,hik⟩:=List.getElem_of_mem hm
   have hg:ln[i]? =some k:=by rw[List.getElem?_eq_getElem hi,hik]
   have hk2:σ2.look k=some o:=by
    cases k with
    |loc d' j=>
     simp only at hk
     by_cases e:d'=d
     ·subst e
      rw[if_pos rfl] at hk
      cases hr:rows'[j]? with
      |none=>rw[hr] at hk;simpa using hk
      |some q=>
       have:=(List.getElem?_eq_some_iff.1 hr).1
       exact absurd rfl (hnl i _ hg j (by omega))
     ·rw[if_neg e] at hk;simpa using hk
    |ext j=>simpa using hk
    |res j=>simpa using hk
   obtain⟨w1,w2⟩:=v4 i k hg
   have hil:i<r.ext.length:=by rw[←v1];exact hi
   cases hre:r.ext[i] with
   |none=>
    have hre':r.ext[i]? =some none:=by rw[List.getElem?_eq_getElem hil,hre]
    rw[w1 hre',Cg,if_pos (Aob hg hre')] at hk2
    cases hk2
   |some o1=>
    have hre':r.ext[i]? =some (some o1):=by rw[List.getElem?_eq_getElem hil,hre]
    rw[w2 o1 hre'] at hk2
    cases hkk:(σ.killAll (C0 ln r.ext)).look k with
    |none=>rw[hkk] at hk2;cases hk2
    |some o2=>
     rw[hkk] at hk2;simp at hk2
     refine .inl ⟨.ext i,o1,by simp[Ci,hre'],?_,hk2.symm,?_⟩
     ·rw[←hf];exact hg
     ·rw[bo k (hnl i k hg)];exact(Q5 hg).symm
  ·by_cases hc: ∃i,i<keep∧k= .loc d i
   ·obtain⟨i,hi,rfl⟩:=hc
    simp only[if_true] at hk
    rw[v3 _ hm,Cg,hfresh i hi] at hk
    have hk:((rows'[i]?).join).map (Ah.nm f)=some o:=by
     have:(if Key.loc d i∈C0 ln r.ext then none else Option.map (Ah.killZ (C0 ln r.ext)) none)=none:=by split<;>rfl
     rw[this] at hk
     simpa using hk
    simp only[Option.map_eq_some_iff] at hk
    obtain⟨o1,hj,rfl⟩:=hk
    have hkp:rows'=r.rows:=by
     rcases hrows with⟨e,_⟩|⟨e,_⟩
     ·exact e
     ·rw[e] at hj;simp at hj
    rw[hkp] at hj
    exact .inl ⟨.res i,o1,hj,by rw[←hf];simp[G0,hi],rfl,bl i hi⟩
   ·have hne: ∀i,i<keep→k≠ .loc d i:=fun i hi e=>hc ⟨i,hi,e⟩
    have hk2:σ2.look k=some o:=by
     cases k with
     |loc d' j=>
      simp only at hk
      by_cases e:d'=d
      ·subst e
       rw[if_pos rfl] at hk
       cases hr:rows'[j]? with
       |none=>rw[hr] at hk;simpa using hk
       |some q=>
        have:=(List.getElem?_eq_some_iff.1 hr).1
        exact absurd rfl (hne j (by omega))
      ·rw[if_neg e] at hk;simpa using hk
     |ext j=>simpa using hk
     |res j=>simpa using hk
    rw[v3 k hm,Cg] at hk2
    split at hk2
    ·cases hk2
    ·simp only[Option.map_eq_some_iff] at hk2
     obtain⟨o2,h1,h2⟩:=hk2
     exact .inr ⟨hm,hne,o2,h1,h2.symm,bo k hne⟩
 have T2: ∀k o k',Ci r.ext r.rows k=some o→f k=some k'→τ.look k'=some (o.nm f)∧β' k'=Fb (Ss β ln) δ k:=by
  intro k o k' hk hfk
  rw[←hf] at hfk
  cases k with
  |loc _ _=>cases hk
  |ext i=>
   simp only[G0] at hfk
   simp only[Ci] at hk
   have hre:=Qp hk
   obtain⟨o2,ho2⟩:=hlive i k' hfk
   have hng:k'∉C0 ln r.ext:=fun hm=>by
    obtain⟨j,g1,g2⟩:=Aqe hm
    have hjl:j<ln.length:=(List.getElem?_eq_some_iff.1 g1).1
    have:=(List.getElem?_inj (i:=j) (j:=i) hjl hnd).1 (g1.trans hfk.symm)
    subst this
    rw[hre] at g2;cases g2
   have hl2:=(v4 i k' hfk).2 o hre
   rw[Cg,if_neg hng,ho2] at hl2
   simp only[Option.map_some] at hl2
   refine⟨?_,by rw[bo k' (hnl i k' hfk)];exact(Q5 hfk).symm⟩
   rw[←hτ,Ov]
   cases k' with
   |loc d' j=>
    simp only
    by_cases e:d'=d
    ·subst e
     rw[if_pos rfl]
     cases hr:rows'[j]? with
     |none=>simpa using hl2
     |some q=>
      have:=(List.getElem?_eq_some_iff.1 hr).1
      exact absurd rfl (hnl i _ hfk j (by omega))
    ·rw[if_neg e];simpa using hl2
   |ext j=>simpa using hl2
   |res j=>simpa using hl2
  |res i=>
   simp only[G0] at hfk
   split at hfk
   ·rename_i hi
    cases hfk
    have hkp:rows'=r.rows:=by
     rcases hrows with⟨e,_⟩|⟨_,e⟩
     ·exact e
     ·omega
    refine⟨?_,bl i hi⟩
    rw[←hτ,Ov]
    simp only[Ci] at hk
    simp only[if_true,hkp,hk]
    rfl
   ·cases hfk
 have hblk: ∀k o b,k∉ln→σ.look k=some o→(β k).b=some b→ ¬Ctx.lent ⟨w,ext,Ss β ln,0,okB C β σ.look w,[]⟩ b:=by
  intro k o b hm ho hb hl
  obtain⟨i,k2,o2,g1,g2,g3⟩:=hlent b hl
  have:=h.inj k k2 _ _ b ho g2 hb g3
  subst this
  exact hm (List.mem_of_getElem? g1)
 have hsome: ∀k o,σ.look k=some o→k∉C0 ln r.ext→ ∃o',τ.look k=some o'∧o.sim o'∧β' k=β k:=by
  intro k o ho hng
  have hne: ∀i,i<keep→k≠ .loc d i:=fun i hi e=>by rw[e,hfresh i hi] at ho;cases ho
  by_cases hm:k∈ln
  ·obtain⟨i,hi,hik⟩:=List.getElem_of_mem hm
   have hg:ln[i]? =some k:=by rw[List.getElem?_eq_getElem hi,hik]
   have hil:i<r.ext.length:=by rw[←v1];exact hi
   cases hre:r.ext[i] with
   |none=>exact absurd (Aob hg (by rw[List.getElem?_eq_getElem hil,hre])) hng
   |some o1=>
    have hre':r.ext[i]? =some (some o1):=by rw[List.getElem?_eq_getElem hil,hre]
    have hlk:Ci r.ext r.rows (.ext i)=some o1:=by simp[Ci,hre']
    obtain⟨t1,t2⟩:=T2 (.ext i) o1 k hlk (by rw[←hf];exact hg)
    obtain⟨o0,q1,q2⟩:=ha.exts i o1 hlk
    obtain⟨o3,q3,q4⟩:=x2 i k hg
    rw[ho] at q3;cases q3
    have q1:ext[i]? =some o0:=q1
    rw[q4] at q1;cases q1
    exact⟨_,t1,A9 (o.nm_sim _) (A9 q2 (o1.nm_sim _)),bo k hne⟩
  ·refine⟨o.killZ (C0 ln r.ext),?_,o.killZ_sim _,bo k hne⟩
   have hl2:σ2.look k=some (o.killZ (C0 ln r.ext)):=by rw[v3 k hm,Cg,if_neg hng,ho];rfl
   rw[←hτ,Ov]
   cases k with
   |loc d' j=>
    simp only
    by_cases e:d'=d
    ·subst e
     rw[if_pos rfl]
     cases hr:rows'[j]? with
     |none=>simpa using hl2
     |some q=>
      have:=(List.getElem?_eq_some_iff.1 hr).1
      exact absurd rfl (hne j (by omega))
    ·rw[if_neg e];simpa using hl2
   |ext j=>simpa using hl2
   |res j=>simpa using hl2
 have hokT: ∀b,b<w'.heap.size→(∀k o,τ.look k=some o→(β' k).b≠some b)→(b<w.heap.size→okB C β σ.look w b∨Ctx.lent ⟨w,ext,Ss β ln,0,okB C β σ.look w,[]⟩ b)→okB C β' τ.look w' b:=by
  intro b h1 h2 h3
  refine⟨h1,h2,fun hlt=>?_⟩
  rcases h3 (by omega) with h4|h4
  ·exact h4.2.2 hlt
  ·obtain⟨i,k,o,g1,g2,g3⟩:=hlent b h4
   rcases h.lo k o b g2 g3 with g|g
   ·omega
   ·exact .inr g
 have hokA: ∀b,okB ⟨w,ext,Ss β ln,0,okB C β σ.look w,[]⟩ (Fb (Ss β ln) δ) (Ci r.ext r.rows) w' b→okB C β' τ.look w' b:=by
  intro b hb'
  refine hokT b hb'.1 (fun k o hk e=>?_) (fun hlt=>hb'.2.2 hlt)
  rcases T1 k o hk with⟨K,o1,g1,g2,_,g3⟩|⟨hm,hne,o2,g1,_,g3⟩
  ·rw[g3] at e;exact hb'.2.1 K o1 g1 e
  ·rw[g3] at e
   have hlt:=h.blk_lt g1 e
   rcases hb'.2.2 hlt with q|q
   ·exact q.2.1 k o2 g1 e
   ·exact hblk k o2 b hm g1 e q
 have hokO: ∀b,okB C β σ.look w b→okB C β' τ.look w' b:=by
  intro b hb'
  refine hokT b (by have:=hb'.1;omega) (fun k o hk e=>?_) (fun _=> .inl hb')
  rcases T1 k o hk with⟨K,o1,g1,g2,_,g3⟩|⟨hm,hne,o2,g1,_,g3⟩
  ·rw[g3] at e
   rcases ha.lo K o1 b g1 e with q|q
   ·have q:w.heap.size≤b:=q
    have:=hb'.1;omega
   ·obtain⟨i,k2,o2,q1,q2,q3⟩:=hlent b q
    exact hb'.2.1 k2 o2 q2 q3
  ·rw[g3] at e;exact hb'.2.1 k o2 g1 e
 have hkp:H5 (okB C β σ.look w) w w':=by
  intro b hb' off u hu
  have:w'.heap[b]? =w.heap[b]? :=ha.frame b hb'.1 (fun hl=>by
   obtain⟨i,k,o,g1,g2,g3⟩:=hlent b hl
   exact hb'.2.1 k o g2 g3)
  simp only[World.cell?,this]
  exact hu
 have mono: ∀{x:SV} {v:Value},As w (okB C β σ.look w) β σ.look x v→As w' (okB C β' τ.look w') β' τ.look (x.killZ (C0 ln r.ext)) v:=by
  intro x v hx
  rcases A8c (C0 ln r.ext) x with e|⟨e,hn⟩
  ·rw[e];exact .dead v
  ·rw[e]
   exact hx.mono' hkp hokO (fun k o hk hl=>hsome k o hl (fun hm=>by rw[hn k hm] at hk;cases hk))
 have hget: ∀t,τ.get t=(σ.get t).killZ (C0 ln r.ext):=fun t=>by rw[←hτ,D8,v2,F1]
 refine⟨β',⟨h.tsz,h.dfs,?_,?_,?_,?_,fun t=>by rw[hget];exact mono (h.slots t),Nat.le_trans h.size hsz,?_,h.quiet.trans ha.quiet,h.gw⟩,hokA,?_,T2⟩
 ·intro k1 k2 o1 o2 b h1 h2 e1 e2
  rcases T1 k1 o1 h1 with⟨K1,p1,g1,g2,_,g3⟩|⟨hm1,hn1,p1,g1,_,g3⟩<;>rcases T1 k2 o2 h2 with⟨K2,p2,q1,q2,_,q3⟩|⟨hm2,hn2,p2,q1,_,q3⟩
  ·rw[g3] at e1;rw[q3] at e2
   have:=ha.inj K1 K2 _ _ b g1 q1 e1 e2
   subst this
   rw[g2] at q2;cases q2;rfl
  ·rw[g3] at e1;rw[q3] at e2
   exfalso
   rcases ha.lo K1 p1 b g1 e1 with q|q
   ·have q:w.heap.size≤b:=q
    have:=h.blk_lt q1 e2;omega
   ·exact hblk k2 p2 b hm2 q1 e2 q
  ·rw[g3] at e1;rw[q3] at e2
   exfalso
   rcases ha.lo K2 p2 b q1 e2 with q|q
   ·have q:w.heap.size≤b:=q
    have:=h.blk_lt g1 e1;omega
   ·exact hblk k1 p1 b hm1 g1 e1 q
  ·rw[g3] at e1;rw[q3] at e2
   exact h.inj k1 k2 _ _ b g1 q1 e1 e2
 ·intro k o hk
  rcases T1 k o hk with⟨K,o1,g1,g2,rfl,g3⟩|⟨hm,hne,o2,g1,rfl,g3⟩
  ·rw[g3]
   refine(ha.objs K o1 g1).nm' f (fun b _ off u hu=>hu) hokA (fun _ _=>rfl) (fun k2 o2 k2' _ h2 hf2=>?_)
   obtain⟨t1,t2⟩:=T2 k2 o2 k2' h2 hf2
   exact⟨_,t1,o2.nm_sim _,t2⟩
  ·rw[g3]
   have hfr: ∀b,(β k).b=some b→w'.heap[b]? =w.heap[b]? :=fun b hb=>ha.frame b (h.blk_lt g1 hb) (hblk k o2 b hm g1 hb)
   have:=h.objs k o2 g1
   cases o2 with
   |box cs=>
    obtain⟨b,arr,T,e0,e1,e2,e3,e4⟩:=this
    refine⟨b,arr,T,e0,(hfr b e0).trans e1,by simpa using e2,e3,fun j x u hx hu=>?_⟩
    simp only[List.getElem?_map,Option.map_eq_some_iff] at hx
    obtain⟨x2,hx',rfl⟩:=hx
    exact mono (e4 j x2 u hx' hu)
   |row sz xs=>
    rcases this with hb'|⟨b,arr,T,e0,e1,e2,e3,e4,e5⟩
    ·exact .inl hb'
    ·refine .inr ⟨b,arr,T,e0,(hfr b e0).trans e1,e2,e3,e4,fun i j x y hx hy=>?_⟩
     obtain⟨u,hu,hl⟩:=e5 i j x y hx hy
     exact⟨u,hu,hl.mono hkp hokO⟩
   |map kk es=>
    obtain⟨b,ents,clock,e0,e1,e2⟩:=this
    exact⟨b,ents,clock,e0,(hfr b e0).trans e1,e2.mono hkp hokO⟩
 ·intro k o b hk hx
  have fin: ∀K o1,Ci r.ext r.rows K=some o1→(Fb (Ss β ln) δ K).b=some b→C.w0.heap.size≤b∨C.lent b:=by
   intro K o1 g1 g2
   rcases ha.lo K o1 b g1 g2 with q|q
   ·have q:w.heap.size≤b:=q
    exact .inl (by omega)
   ·obtain⟨i,k2,o2,q1,q2,q3⟩:=hlent b q
    exact h.lo k2 o2 b q2 q3
  rcases T1 k o hk with⟨K,o1,g1,g2,_,g3⟩|⟨hm,hne,o2,g1,_,g3⟩
  ·rw[g3] at hx;exact fin K o1 g1 hx
  ·rw[g3] at hx;exact h.lo k o2 b g1 hx
 ·intro i o hk
  rcases T1 _ o hk with⟨K,o1,g1,g2,rfl,g3⟩|⟨hm,hne,o2,g1,rfl,g3⟩
  ·rw[←hf] at g2
   cases K with
   |loc _ _=>cases g2
   |res j=>simp only[G0] at g2;split at g2<;>cases g2
   |ext j=>
    simp only[G0] at g2
    obtain⟨o3,ho3⟩:=hlive j _ g2
    obtain⟨o0,q1,q2,q3⟩:=h.ext2 i o3 ho3
    obtain⟨o0',q4,q5⟩:=ha.exts j o1 g1
    obtain⟨o4,q6,q7⟩:=x2 j _ g2
    rw[ho3] at q6;cases q6
    have q4:ext[j]? =some o0':=q4
    rw[q7] at q4;cases q4
    exact⟨o0,q1,A9 q2 (A9 (o3.nm_sim _) (A9 q5 (o1.nm_sim _))),(bo (Key.ext i) (fun _ _ e=>by cases e)).trans q3⟩
  ·obtain⟨o0,q1,q2,q3⟩:=h.ext2 i o2 g1
   exact⟨o0,q1,A9 q2 (o2.killZ_sim _),by rw[g3];exact q3⟩
 ·intro b hb' hx
  have hs:=h.size
  have:w'.heap[b]? =w.heap[b]? :=ha.frame b (by show b<w.heap.size;omega) (fun hl=>by
   obtain⟨i,k,o,g1,g2,g3⟩:=hlent b hl
   rcases h.lo k o b g2 g3 with q|q
   ·omega
   ·exact hx q)
  rw[this];exact h.frame b hb' hx
 ·intro hk0 i o b hres hδ
  have hlt:b<w'.heap.size:=(ha.objs _ _ hres).lt hδ
  refine hokT b hlt (fun k o' hk e=>?_) (fun hlt'=>?_)
  ·rcases T1 k o' hk with⟨K,o1,g1,g2,_,g3⟩|⟨hm,hne,o2,g1,_,g3⟩
   ·rw[g3] at e
    have:=ha.inj K (.res i) _ _ b g1 hres e hδ
    subst this
    rw[←hf] at g2
    simp only[G0] at g2
    split at g2
    ·omega
    ·cases g2
   ·rw[g3] at e
    rcases ha.lo _ _ b hres hδ with q|q
    ·have q:w.heap.size≤b:=q
     have:=h.blk_lt g1 e;omega
    ·exact hblk k o2 b hm g1 e q
  ·rcases ha.lo _ _ b hres hδ with q|q
   ·have q:w.heap.size≤b:=q
    omega
   ·exact .inr q
theorem Bbz{ok ok':Nat→Prop}{w':World}{x:PV}{v:Value}(h:Be w ok x v):x.scalar=true→Be w' ok' x v:=by
 induction h with
 |int k n=>intro _;exact .int k n
 |bool b=>intro _;exact .bool b
 |str s=>intro _;exact .str s
 |fn f=>intro _;exact .fn f
 |nilFn=>intro _;exact .nilFn
 |yld l=>intro _;exact .yld l
 |hdl t b u=>intro _;exact .hdl t b u
 |nilI=>intro _;exact .nilI
 |iface t x v _ ih=>intro hs;exact .iface t x v (ih (by simpa [PV.scalar] using hs))
 |agg cs us hl h1 _ ih=>
  intro hs
  simp only[PV.scalar] at hs
  exact .agg cs us hl h1 (fun j x u hx hu=>ih j x u hx hu (scal hs (List.mem_of_getElem? hx)))
 |slice xs a n c sz us hn hc hsz h1 hat hp _ _=>
  intro hs
  cases xs with
  |cons _ _=>simp[PV.scalar] at hs
  |nil=>
   simp at hn;subst hn
   exact .slice [] a 0 c sz us rfl hc (by simp) (by simp) (by intro i j hi;omega) (by omega) (by simp)
where
 scal {cs:List PV} {x:PV} (h:PV.scalar.scalarL cs=true) (hx:x∈cs):x.scalar=true:=by
  induction cs with
  |nil=>simp at hx
  |cons c cs ih=>
   simp only[PV.scalar.scalarL,Bool.and_eq_true] at h
   simp at hx
   rcases hx with rfl|hx
   ·exact h.1
   ·exact ih h.2 hx
theorem Apl{ok ok':Nat→Prop}{w':World}{β β':Key→Blk}{lk lk':Key→Option Ah}{x:SV}{v:Value}(h:As w ok β lk x v):x.scalar=true→As w' ok' β' lk' x v:=by
 induction h with
 |pv x v h=>intro hs;exact .pv _ _ (Bbz h (by simpa [SV.scalar] using hs))
 |nils=>intro _;exact .nils _
 |tup cs us hl _ ih=>intro hs;exact .tup cs us hl (fun j x u hx hu=>ih j x u hx hu (scal (by simpa [SV.scalar] using hs) (List.mem_of_getElem? hx)))
 |ptr k off cs b hk hb=>intro hs;simp[SV.scalar] at hs
 |own k sz xs b hk hb=>intro hs;simp[SV.scalar] at hs
 |ownN k sz ad hk hb=>intro hs;simp[SV.scalar] at hs
 |mp k kk es b hk hb=>intro hs;simp[SV.scalar] at hs
 |iown k i off sz xs b hk hb hi=>intro hs;simp[SV.scalar] at hs
 |ipv x off b o us hb h1 hat h=>intro hs;simp[SV.scalar] at hs
 |agg cs us hl _ h1 _=>intro hs;simp[SV.scalar] at hs
 |fn f cs us hl _ _=>intro hs;simp[SV.scalar] at hs
 |dead v=>intro hs;simp[SV.scalar] at hs
where
 scal {cs:List SV} {x:SV} (h:SV.scalar.scalarT cs=true) (hx:x∈cs):x.scalar=true:=by
  induction cs with
  |nil=>simp at hx
  |cons c cs ih=>
   simp only[SV.scalar.scalarT,Bool.and_eq_true] at h
   simp at hx
   rcases hx with rfl|hx
   ·exact h.1
   ·exact ih h.2 hx
theorem Al9{rows:List (Option Ah)}: ∀{cs cs':List SV},SV.flatR.flatL rows cs=some cs'→cs'.length=cs.length∧ ∀(j:Nat) (x:SV),cs'[j]? =some x→ ∃y,cs[j]? =some y∧y.flatR rows=some x
 |[],cs',h=>by simp[SV.flatR.flatL] at h;subst h;simp
 |c::cs,cs',h=>by
  simp only[SV.flatR.flatL] at h
  cases h1:c.flatR rows with
  |none=>rw[h1] at h;cases h
  |some c1=>
   cases h2:SV.flatR.flatL rows cs with
   |none=>rw[h1,h2] at h;cases h
   |some c2=>
    rw[h1,h2] at h;cases h
    obtain⟨e1,e2⟩:=Al9 h2
    refine⟨by simp[e1],fun j x hx=>?_⟩
    cases j with
    |zero=>simp at hx;subst hx;exact⟨c,rfl,h1⟩
    |succ j=>simpa using e2 j x (by simpa using hx)
theorem A2b{w':World}{ok ok':Nat→Prop}{γ δ:Nat→Blk}{ext rows:List (Option Ah)}{β':Key→Blk}{lk':Key→Option Ah}(hok: ∀b,ok b→ok' b)(hδ: ∀i o b,Ci ext rows (.res i)=some o→(δ i).b=some b→ok' b)
  (hrows: ∀i o,Ci ext rows (.res i)=some o→Fa w' ok (Fb γ δ) (Ci ext rows) o (δ i)){x:SV}{v:Value}(h:As w' ok (Fb γ δ) (Ci ext rows) x v): ∀y,x.flatR rows=some y→As w' ok' β' lk' y v:=by
 induction h with
 |pv x v h=>intro y hy;simp[SV.flatR] at hy;subst hy;exact .pv _ _ (h.mono (fun b _ off u hu=>hu) hok)
 |nils=>intro y hy;simp[SV.flatR] at hy;subst hy;exact .pv _ _ (Ahf _)
 |ptr k off cs b hk hb=>intro y hy;simp[SV.flatR] at hy
 |own k sz xs b hk hb=>
  intro y hy
  cases k with
  |loc d i=>cases hk
  |ext i=>simp[SV.flatR] at hy
  |res i=>
   have hk':=hk
   simp only[Ci] at hk
   have hp:=Qp hk
   simp only[SV.flatR,hp,Option.some.injEq] at hy
   subst hy
   exact .pv _ _ (Ax9 (hrows i _ hk') hok hb (hδ i _ b hk' hb))
 |ownN k sz ad hk hb=>
  intro y hy
  cases k with
  |loc d i=>cases hk
  |ext i=>simp[SV.flatR] at hy
  |res i=>
   simp only[Ci] at hk
   have hp:=Qp hk
   simp only[SV.flatR,hp,Option.some.injEq] at hy
   subst hy
   exact .pv _ _ (Ahf _)
 |mp k kk es b hk hb=>intro y hy;simp[SV.flatR] at hy
 |iown k i off sz xs b hk hb hi=>intro y hy;simp[SV.flatR] at hy
 |ipv x off b o us hb h1 hat h=>intro y hy;simp[SV.flatR] at hy
 |agg cs us hl _ h1 ih=>
  intro y hy
  simp only[SV.flatR] at hy
  cases hf:SV.flatR.flatL rows cs with
  |none=>rw[hf] at hy;cases hy
  |some cs'=>
   rw[hf] at hy
   simp only at hy
   obtain⟨e1,e2⟩:=Al9 hf
   obtain⟨u,hu,hs⟩:=F4 (w:=w') (ok:=ok') (β:=β') (lk:=lk') (us:=us) hy ⟨by rw[e1,hl],h1,fun j x u hx hu=>by obtain⟨z,hz,hzx⟩:=e2 j x hx;exact ih j z u hz hu x hzx⟩
   simp only[N8,cond_true,Option.some.injEq] at hu
   subst hu
   exact hs
 |tup cs us hl _ ih=>
  intro y hy
  simp only[SV.flatR,Option.map_eq_some_iff] at hy
  obtain⟨cs',hf,rfl⟩:=hy
  obtain⟨e1,e2⟩:=Al9 hf
  exact .tup cs' us (by rw[e1,hl]) (fun j x u hx hu=>by obtain⟨z,hz,hzx⟩:=e2 j x hx;exact ih j z u hz hu x hzx)
 |fn f cs us hl _ ih=>intro y hy;simp[SV.flatR] at hy
 |dead v=>intro y hy;simp[SV.flatR] at hy
theorem RR.took(h:RR C β σ a w){ln:List Key}{ext:List Ah}(hext:Hr σ ln ln=some ext)(hnd:ln.Nodup){w':World}{r:Res}{v:Value}{δ:Nat→Blk}{d keep:Nat}{e:Eff}
  (ha:After ⟨w,ext,Ss β ln,0,okB C β σ.look w,[]⟩ w' r v δ)(ht:Av.took ln d keep r=some e)(hfresh: ∀i,i<keep→σ.look (.loc d i)=none)
  {σ2:St}(hb:C8 (G0 ln d keep) (σ.killAll (C0 ln r.ext)) ln r.ext=some σ2): ∃β',RR C β' (σ2.insAll e.ins) a w'∧As w' (okB C β' (σ2.insAll e.ins).look w') β' (σ2.insAll e.ins).look e.v v:=by
 simp only[Av.took] at ht
 by_cases hk:(keep==0)=true
 ·rw[hk] at ht
  simp only[cond_true,Option.map_eq_some_iff] at ht
  obtain⟨y,hy,rfl⟩:=ht
  have hk0:keep=0:=by simpa using hk
  obtain⟨β',h',hok,hδ,_⟩:=h.back hext hnd ha (rows':=[]) (.inr ⟨rfl,hk0⟩) hfresh hb
  exact⟨β',h',A2b hok (fun i o b h1 h2=>hδ hk0 i o b h1 h2) (fun i o ho=>ha.objs _ _ ho) ha.val y hy⟩
 ·simp only[Bool.not_eq_true] at hk
  rw[hk] at ht
  simp only[cond_false] at ht
  cases hle:decide (r.rows.length≤keep) with
  |false=>rw[hle] at ht;cases ht
  |true=>
   rw[hle] at ht
   simp only[cond_true,Option.some.injEq] at ht
   subst ht
   obtain⟨β',h',hok,_,hT⟩:=h.back hext hnd ha (rows':=r.rows) (.inl ⟨rfl,by simpa using hle⟩) hfresh hb
   refine⟨β',h',ha.val.nm' _ (fun b _ off u hu=>hu) hok (fun k o k' _ hk hf=>?_)⟩
   obtain⟨t1,t2⟩:=hT k o k' hk hf
   exact⟨_,t1,o.nm_sim _,t2⟩
end
end Go.Av
end
section
namespace Go.Av
section
variable [Dic] {σ:TSt} {ch:List (Nat×Bool)} {d:Nat} {e:TV×List (Key×TO)}
def Bg2:List TV→List (Nat×Nat×TV)→Option (List TV)
 |cs,[]=>some cs
 |cs,p::r=>match p.2.2.solid with
  |true=>match p.2.2.cells with
   |some vc=>match decide (vc.length=p.2.1)&&decide (p.1+p.2.1≤cs.length) with
    |true=>Bg2 (cs.take p.1++vc++cs.drop (p.1+p.2.1)) r
    |false=>none
   |none=>none
  |false=>none
theorem Bg3: ∀{ps:List (Nat×Nat×TV)} {cs cs':List TV},Bg2 cs ps=some cs'→An8 (cs.map TV.u) (ps.map fun p=>(p.1,p.2.1,p.2.2.u))=some (cs'.map TV.u)∧ ∀p∈ps,p.2.2.u.solid=true
 |[],cs,cs',h=>by cases h;exact⟨rfl,by simp⟩
 |p::r,cs,cs',h=>by
  simp only[Bg2] at h
  split at h
  ·rename_i hs
   split at h
   ·rename_i vc hv
    split at h
    ·rename_i hc
     simp only[Bool.and_eq_true,decide_eq_true_eq] at hc
     obtain⟨h1,h2⟩:=Bg3 h
     have hl:(p.2.2.u.cells).length=p.2.1:=by rw[Z3 hv,List.length_map];exact hc.1
     refine⟨?_,?_⟩
     ·simp only[List.map_cons,An8,List.length_map]
      rw[if_pos ⟨hl,hc.2⟩,Z3 hv,←List.map_take,←List.map_drop,←List.map_append,←List.map_append]
      exact h1
     ·intro q hq
      rcases List.mem_cons.1 hq with rfl|hq
      ·exact A7y hs
      ·exact h2 q hq
    ·cases h
   ·cases h
  ·cases h
def A72(σ:TSt)(ch:List (Nat×Bool))(ty:Ty)(zero:List SV)(ps:List (Nat×Nat×Opd)):An:=match Eh Bmx zero with
 |some cs=>match Bg2 cs (ps.map fun p=>(p.1,p.2.1,σ.ev ch p.2.2)) with
  |some cs'=> .opt (ofC true ty cs')
  |none=> .no
 |none=> .no
theorem Aul(hI:Inv σ)(hc:Bp σ ch){ty:Ty}{zero:List SV}{ps:List (Nat×Nat×Opd)}(h:(A72 σ ch ty zero ps).gives e):Does σ d (.build zero ps) e∧e.1.tame=true:=by
 unfold A72 at h
 split at h
 ·rename_i cs hz
  split at h
  ·rename_i cs' hf
   obtain⟨w,h1,h2,h3,h4⟩:=I5 h
   obtain⟨h5,h6⟩:=Bg3 hf
   refine⟨fun cl=>?_,h4⟩
   have e1:(ps.map fun p=>(p.1,p.2.1,σ.ev ch p.2.2)).map (fun p=>(p.1,p.2.1,p.2.2.u))=ps.map fun p=>(p.1,p.2.1,σ.u.ev p.2.2):=by
    rw[List.map_map]
    exact List.map_congr_left fun p _=>by simp only[Function.comp,Dx hI hc]
   rw[e1,Aqn hz] at h5
   have e2:ps.all (fun p=>(σ.u.ev p.2.2).solid)=true:=List.all_eq_true.2 fun p hp=>by
    have:=h6 _ (List.mem_map_of_mem hp)
    rw[←Dx hI hc];exact this
   simp only[Au,e2,cond_true,h5,Bmw h1,Option.map_some,h2,h3,List.map_nil]
  ·cases h
 ·cases h
theorem Bgj{w w':TV}(h:w.tidy=some w')(hp:w'.isP=true):w.u.clean=some w'.pv:=by
 have h1:=tidy_u h
 rw[Oe hp] at h1
 unfold SV.tidy at h1
 split at h1
 ·rename_i x e;cases h1;exact e
 ·rename_i e;rw[←h1] at e;cases e
def Bph(ty:Ty):List TV→Option (List ty.D)
 |[]=>some []
 |w::ws=>match w.tidy with
  |some w'=>match as1 ty w' with
   |some x=>match Bph ty ws with
    |some l=>some (x::l)
    |none=>none
   |none=>none
  |none=>none
theorem Bmo{ty:Ty}: ∀{ws:List TV} {l:List ty.D},Bph ty ws=some l→Ha (ws.map TV.u)=some (List.map ty.e l)
 |[],_,h=>by cases h;rfl
 |w::ws,l,h=>by
  simp only[Bph] at h
  split at h
  ·rename_i w' e1
   split at h
   ·rename_i x e2
    split at h
    ·rename_i l' e3
     cases h
     obtain⟨h1,h2⟩:=Lg e2
     simp only[List.map_cons,Ha,Bgj e1 h1,Bmo e3,h2]
    ·cases h
   ·cases h
  ·cases h
theorem Anw{t:Ty}(l:List t.D):Hy t.sz (List.map t.e l)=true:=by
 simp only[Hy,List.all_map]
 exact List.all_eq_true.2 fun x _=>by simp[Ajf]
def Bn9(σ:TSt)(ch:List (Nat×Bool))(d:Nat)(ty:Ty)(keep:Bool)(sz:Nat):List Opd→An
 |[]=> .tot .nils []
 |x::xs=>match Bph ty (σ.ev ch x::xs.map (σ.ev ch)) with
  |some l=>match ty.sz==sz with
   |true=>match keep with
    |true=> .tot (.own (.loc d 0)) [(.loc d 0,.row ty l)]
    |false=> .tot (.v (.sl ty) l) []
   |false=> .no
  |none=> .no
theorem A9p(hI:Inv σ)(hc:Bp σ ch){ty:Ty}{keep:Bool}{sz:Nat}{xs:List Opd}(h:(Bn9 σ ch d ty keep sz xs).gives e):Does σ d (.lit keep sz xs) e∧e.1.tame=true:=by
 unfold Bn9 at h
 split at h
 ·cases h
  exact⟨fun cl=>rfl,rfl⟩
 ·rename_i x xs
  split at h
  ·rename_i l hl
   split at h
   ·rename_i hz
    have h1:=Bmo hl
    have e1:(σ.ev ch x::xs.map (σ.ev ch)).map TV.u=(x::xs).map σ.u.ev:=by
     simp only[List.map_cons,List.map_map,Dx hI hc]
     congr 1
     exact List.map_congr_left fun p _=>Dx hI hc p
    rw[e1] at h1
    have hz:ty.sz=sz:=by simpa using hz
    subst hz
    have h1':Ha (σ.u.ev x::xs.map σ.u.ev)=some (List.map ty.e l):=h1
    split at h<;>cases h<;>refine⟨fun cl=>?_,rfl⟩<;>simp only[Au,List.map_cons,h1',Anw,if_true]<;>rfl
   ·cases h
  ·cases h
theorem map_replicate{α β:Type}(f:α→β)(n:Nat)(a:α):(List.replicate n a).map f=List.replicate n (f a):=List.map_replicate
def Bsk(d:Nat)(ty:Ty)(sz bytes:Nat)(zero:PV)(X Y:TV):An:=match X,Y with
 | .v (.int .i64) n,.v (.int .i64) c=>match as1 ty (tc zero) with
  |some z=>match ty.sz==sz with
   |true=> .par (List ty.D) [] (mkO bytes z n c) fun l=>some (.own (.loc d 0),[(.loc d 0,.row ty l)])
   |false=> .no
  |none=> .no
 |_,_=> .no
theorem Bho(hI:Inv σ)(hc:Bp σ ch){ty:Ty}{sz bytes:Nat}{zero:PV}{n c:Opd}(h:(Bsk d ty sz bytes zero (σ.ev ch n) (σ.ev ch c)).gives e):Does σ d (.mk sz bytes zero n c) e∧e.1.tame=true:=by
 have hx:=Dx hI hc n
 have hy:=Dx hI hc c
 unfold Bsk at h
 split at h
 ·rename_i m k e1 e2
  rw[e1] at hx;rw[e2] at hy
  split at h
  ·rename_i z hz
   split at h
   ·rename_i hs
    obtain⟨l,hl,hg⟩:=h
    cases hg
    have hs:ty.sz=sz:=by simpa using hs
    subst hs
    have hz:=(Lg hz).2
    rw[Bn2] at hz
    refine⟨fun cl=>?_,rfl⟩
    unfold mkO at hl
    split at hl
    ·rename_i hb
     cases hl
     have i1:intOf (σ.u.ev n)=some (.i64,m):=by rw[←hx];rfl
     have i2:intOf (σ.u.ev c)=some (.i64,k):=by rw[←hy];rfl
     simp only[Au,i1,i2,if_pos hb,hz]
     refine congrArg some ?_
     show(⟨_,[(_,Ah.row _ _)]⟩:Eff)=⟨_,[(_,Ah.row _ _)]⟩
     rw[map_replicate];rfl
    ·cases hl
   ·cases h
  ·cases h
 ·cases h
def bT(σ:TSt)(ch:List (Nat×Bool))(dflt:Int):Option Opd→Option Int
 |none=>some dflt
 |some o=>match σ.ev ch o with
  | .v (.int _) n=>some n
  |_=>none
theorem Bou(hI:Inv σ)(hc:Bp σ ch){df:Nat}{o:Option Opd}{n:Int}(h:bT σ ch (df:Int) o=some n){top:Nat}(h0:0≤n)(h1:n≤top):bound σ.u df top o=some n.toNat:=by
 cases o with
 |none=>cases h;rfl
 |some o=>
  simp only[bT] at h
  split at h
  ·rename_i k m e1
   cases h
   have:=Dx hI hc o
   rw[e1] at this
   have i1:intOf (σ.u.ev o)=some (k,n):=by rw[←this];rfl
   simp only[bound,i1]
   rw[if_pos ⟨h0,h1⟩]
  ·cases h
theorem Bb3{α:Type}{l m:List α}{lo hi:Int}(h:slO l lo hi=some m):0≤lo∧lo≤hi∧hi≤l.length∧m=(l.take hi.toNat).drop lo.toNat:=by
 unfold slO at h
 split at h
 ·rename_i hc;cases h;exact⟨hc.1,hc.2.1,hc.2.2,rfl⟩
 ·cases h
def Boc(σ:TSt)(ch:List (Nat×Bool))(ty:Ty)(sz:Nat)(lo hi:Option Opd)(s:Bool)(X:TV):An:=match s with
 |true=>match X with
  | .v .str (x:List UInt8)=>match bT σ ch 0 lo,bT σ ch (x.length:Int) hi with
   |some a,some b=> .ask [] (slO x a b) tx
   |_,_=> .no
  |_=> .no
 |false=>match X.tidy with
  |some w=>match as1 (.sl ty) w with
   |some (x:List ty.D)=>match bT σ ch 0 lo,bT σ ch (x.length:Int) hi with
    |some a,some b=>match ty.sz==sz with
     |true=> .ask [] (slO x a b) (.v (.sl ty))
     |false=> .no
    |_,_=> .no
   |none=> .no
  |none=> .no
theorem Bb4(hI:Inv σ)(hc:Bp σ ch){ty:Ty}{sz:Nat}{lo hi:Option Opd}{s:Bool}{x:Opd}(h:(Boc σ ch ty sz lo hi s (σ.ev ch x)).gives e):Does σ d (.slc s sz x lo hi) e∧e.1.tame=true:=by
 have hx:=Dx hI hc x
 unfold Boc at h
 split at h
 ·split at h
  ·rename_i l e1
   rw[e1] at hx
   split at h
   ·rename_i a b ha hb
    obtain⟨m,hm,rfl⟩:=Ea h
    obtain⟨h1,h2,h3,rfl⟩:=Bb3 hm
    have hx:SV.pv (.str l)=σ.u.ev x:=hx
    have hb':=Bou hI hc hb (top:=l.length) (by omega) h3
    have ha':=Bou hI hc (df:=0) ha (top:=b.toNat) h1 (by omega)
    refine⟨fun cl=>?_,rfl⟩
    simp only[Au,←hx,hb',ha'];rfl
   ·cases h
  ·cases h
 ·split at h
  ·rename_i w hw
   split at h
   ·rename_i l hl
    split at h
    ·rename_i a b ha hb
     split at h
     ·rename_i hs
      obtain⟨m,hm,rfl⟩:=Ea h
      obtain⟨h1,h2,h3,rfl⟩:=Bb3 hm
      obtain⟨g1,g2⟩:=Lg hl
      have hs:ty.sz=sz:=by simpa using hs
      subst hs
      have ht:(σ.u.ev x).tidy= .pv (.slice (List.map ty.e l)):=by
       rw[←hx,←tidy_u hw,Oe g1,g2];rfl
      have hb':=Bou hI hc hb (top:=l.length) (by omega) h3
      have ha':=Bou hI hc (df:=0) ha (top:=b.toNat) h1 (by omega)
      refine⟨fun cl=>?_,rfl⟩
      simp only[Au,ht,List.length_map,hb',ha',Anw,if_true]
      refine congrArg some ?_
      show(⟨SV.pv (.slice _),[]⟩:Eff)=⟨SV.pv (.slice (List.map ty.e _)),[]⟩
      rw[List.map_drop,List.map_take]
     ·cases h
    ·cases h
   ·cases h
  ·cases h
def Bn8(σ:TSt)(s:Bool)(X:TV):An:=match s with
 |true=>match X with
  | .v .str (x:List UInt8)=> .tot (nu .i64 (x.length:Int)) []
  |_=> .no
 |false=>match X with
  | .v (.sl t) (x:List t.D)=> .tot (nu .i64 (x.length:Int)) []
  | .nils=> .tot (nu .i64 0) []
  | .c (.slice [])=> .tot (nu .i64 0) []
  | .own k=>match σ.look k with
   |some (.row t l)=> .tot (nu .i64 (l.length:Int)) []
   |_=> .no
  |_=> .no
theorem A9j(hI:Inv σ)(hc:Bp σ ch){s:Bool}{x:Opd}(h:(Bn8 σ s (σ.ev ch x)).gives e):Does σ d (.len s x) e∧e.1.tame=true:=by
 have hx:=Dx hI hc x
 unfold Bn8 at h
 split at h
 ·split at h
  ·rename_i l e1
   rw[e1] at hx
   cases h
   have hx:SV.pv (.str l)=σ.u.ev x:=hx
   exact⟨fun cl=>by simp only[Au,←hx];rfl,rfl⟩
  ·cases h
 ·split at h
  ·rename_i t l e1
   rw[e1] at hx
   cases h
   have hx:SV.pv (.slice (List.map t.e l))=σ.u.ev x:=hx
   exact⟨fun cl=>by simp only[Au,←hx,St.elems,List.length_map];rfl,rfl⟩
  ·rename_i e1
   rw[e1] at hx
   cases h
   exact⟨fun cl=>by simp only[Au,←hx,TV.u,St.elems];rfl,rfl⟩
  ·rename_i e1
   rw[e1] at hx
   cases h
   exact⟨fun cl=>by simp only[Au,←hx,TV.u,St.elems];rfl,rfl⟩
  ·rename_i k e1
   rw[e1] at hx
   split at h
   ·rename_i t l hk
    cases h
    exact⟨fun cl=>by simp only[Au,←hx,TV.u,St.elems,A6 hk,TO.u,List.length_map];rfl,rfl⟩
   ·cases h
  ·cases h
def mmT(mx:Bool)(k:IntKind):Int→List TV→Option Int
 |a,[]=>some a
 |a,.v (.int k') (b:Int)::r=>match decide (k=k') with
  |true=>mmT mx k (match mx with
   |true=>if b>a then b else a
   |false=>if b<a then b else a) r
  |false=>none
 |_,_=>none
theorem Bqr{mx:Bool}{k:IntKind}: ∀{l:List TV} {a m:Int},mmT mx k a l=some m→mmL mx (.int k a) (l.map TV.u)=some (.int k m)
 |[],a,m,h=>by cases h;rfl
 |w::r,a,m,h=>by
  cases w<;>try (cases h;done)
  rename_i t b
  cases t<;>try (cases h;done)
  rename_i k'
  simp only[mmT] at h
  split at h
  ·rename_i hk
   have hk:=of_decide_eq_true hk
   subst hk
   have ih:=Bqr h
   simp only[List.map_cons,TV.u,Ty.e,mmL,Bpl,if_true]
   cases mx<;>exact ih
  ·cases h
def Bsl(mx:Bool)(X:TV)(L:List TV):An:=match X with
 | .v (.int k) n=>match mmT mx k n L with
  |some m=> .tot (nu k m) []
  |none=> .no
 |_=> .no
theorem Bhp(hI:Inv σ)(hc:Bp σ ch){mx:Bool}{x:Opd}{xs:List Opd}(h:(Bsl mx (σ.ev ch x) (xs.map (σ.ev ch))).gives e):Does σ d (.mm mx x xs) e∧e.1.tame=true:=by
 have hx:=Dx hI hc x
 unfold Bsl at h
 split at h
 ·rename_i k n e1
  rw[e1] at hx
  split at h
  ·rename_i m hm
   cases h
   have h1:=Bqr hm
   rw[List.map_map] at h1
   have e2:xs.map (TV.u∘σ.ev ch)=xs.map σ.u.ev:=List.map_congr_left fun p _=>Dx hI hc p
   rw[e2] at h1
   have hx:SV.pv (.int k n)=σ.u.ev x:=hx
   exact⟨fun cl=>by simp only[Au,←hx,h1];rfl,rfl⟩
  ·cases h
 ·cases h
def Bgc(f:FuncId):List TV→An
 |[]=> .tot (.c (.fn f)) []
 |vs=> .tot (.fn f vs) []
theorem A2q(hI:Inv σ)(hc:Bp σ ch){f:FuncId}{xs:List Opd}(h:(Bgc f (xs.map (σ.ev ch))).gives e):Does σ d (.mkfn f xs) e∧e.1.tame=true:=by
 have e2:(xs.map (σ.ev ch)).map TV.u=xs.map σ.u.ev:=by
  rw[List.map_map]
  exact List.map_congr_left fun p _=>Dx hI hc p
 unfold Bgc at h
 split at h
 ·rename_i e1
  cases h
  rw[e1] at e2
  exact⟨fun cl=>by simp only[Au,←e2,List.map_nil];rfl,rfl⟩
 ·rename_i vs hn
  cases h
  refine⟨fun cl=>?_,rfl⟩
  simp only[Au,←e2]
  cases e3:xs.map (σ.ev ch) with
  |nil=>exact(hn e3).elim
  |cons a l=>simp only[List.map_cons,TV.u,Ix,List.map_nil]
def Ty.key:Ty→Bool
 | .int _=>true
 | .bool=>true
 | .str=>true
 |_=>false
def Ty.beq:(t:Ty)→t.D→t.D→Bool
 | .int _=>fun a b=> @BEq.beq Int _ a b
 | .bool=>fun a b=> @BEq.beq Bool _ a b
 | .str=>fun a b=> @BEq.beq (List UInt8) _ a b
 |_=>fun _ _=>false
theorem Bh1{t:Ty}(h:t.key=true)(a b:t.D):Ey (t.e a) (t.e b)=t.beq a b:=by
 cases t<;>first|rfl|cases h
theorem Bmj{t:Ty}(h:t.key=true)(a:t.D):(t.e a).isKK t.kk=true:=by
 cases t<;>first|(simp[Ty.e,Ty.kk,PV.isKK];done)|cases h
def mgT{kt vt:Ty}(es:List (kt.D×vt.D))(k:kt.D):Option vt.D:= @Azi kt.D vt.D ⟨kt.beq⟩ es k
def msT{kt vt:Ty}(es:List (kt.D×vt.D))(k:kt.D)(v:vt.D):List (kt.D×vt.D):= @mset kt.D vt.D ⟨kt.beq⟩ es k v
theorem Bmt{kt vt:Ty}(hk:kt.key=true)(k:kt.D): ∀es:List (kt.D×vt.D),Io (List.map (Bix kt vt) es) (kt.e k)=(mgT es k).map vt.e
 |[]=>rfl
 |e::es=>by
  have ih:=Bmt hk k es
  have h1:Ey (kt.e k) (Bix kt vt e).1=kt.beq k e.1:=Bh1 hk k e.1
  unfold Io mgT Azi at ih⊢
  simp only[List.map_cons,List.find?_cons,h1]
  show _=Option.map vt.e (Option.map (·.2) (match kt.beq k e.1 with|true=>some e|false=>_))
  cases kt.beq k e.1 with
  |true=>rfl
  |false=>exact ih
theorem Bqs{kt vt:Ty}(hk:kt.key=true)(k:kt.D)(v:vt.D): ∀es:List (kt.D×vt.D),Aaf (List.map (Bix kt vt) es) (kt.e k) (vt.e v)=List.map (Bix kt vt) (msT es k v)
 |[]=>rfl
 |e::es=>by
  have ih:=Bqs hk k v es
  have h1:Ey (kt.e k) (Bix kt vt e).1=kt.beq k e.1:=Bh1 hk k e.1
  have h2:msT (e::es) k v=if kt.beq k e.1=true then(e.1,v)::es else e::msT es k v:=rfl
  simp only[List.map_cons,Aaf,h1,h2]
  split
  ·rfl
  ·rw[ih];rfl
def A73(d:Nat)(kt vt:Ty)(kk:KK):An:=match decide (kt.kk=kk) with
 |true=> .tot (.mp (.loc d 0)) [(.loc d 0,.map kt vt [])]
 |false=> .no
theorem Avl{kt vt:Ty}{kk:KK}(h:(A73 d kt vt kk).gives e):Does σ d (.mkmap kk) e∧e.1.tame=true:=by
 unfold A73 at h
 split at h
 ·rename_i hk
  have hk:=of_decide_eq_true hk
  subst hk
  cases h
  exact⟨fun cl=>rfl,rfl⟩
 ·cases h
def A74(σ:TSt)(kk:KK)(ok:Bool)(zero:PV)(X K:TV):An:=match X with
 | .mp key=>match σ.look key with
  |some (.map kt vt es)=>match as1 kt K,as1 vt (tc zero) with
   |some k,some z=>match decide (kt.kk=kk)&&kt.key with
    |true=>match ok with
     |true=> .tot (.tup [.v vt ((mgT es k).getD z),bl (mgT es k).isSome]) []
     |false=> .tot (.v vt ((mgT es k).getD z)) []
    |false=> .no
   |_,_=> .no
  |_=> .no
 |_=> .no
theorem Bl6{vt:Ty}(o:Option vt.D)(z:vt.D):(o.map vt.e).getD (vt.e z)=vt.e (o.getD z):=by cases o<;>rfl
theorem Avm(hI:Inv σ)(hc:Bp σ ch){kk:KK}{ok:Bool}{zero:PV}{x k:Opd}(h:(A74 σ kk ok zero (σ.ev ch x) (σ.ev ch k)).gives e):Does σ d (.mlook kk ok zero x k) e∧e.1.tame=true:=by
 have hx:=Dx hI hc x
 have hk:=Dx hI hc k
 unfold A74 at h
 split at h
 ·rename_i key e1
  rw[e1] at hx
  split at h
  ·rename_i kt vt es hl
   split at h
   ·rename_i kv z hkv hz
    split at h
    ·rename_i hc
     simp only[Bool.and_eq_true,decide_eq_true_eq] at hc
     obtain⟨h1,h2⟩:=Lg hkv
     have hz:=(Lg hz).2
     rw[Bn2] at hz
     have hk':σ.u.ev k= .pv (kt.e kv):=by rw[←hk,Oe h1,h2]
     have hkk:(decide (kt.kk=kk)&&(kt.e kv).isKK kk)=true:=by rw[←hc.1,Bmj hc.2];simp
     have hkey:σ.u.ev x= .mp key:=hx.symm
     split at h<;>cases h<;>refine⟨fun cl=>?_,rfl⟩
     ·simp only[Au,hkey,hk',A6 hl,TO.u,hkk,cond_true,Bmt hc.2,hz,Bl6,Option.isSome_map];rfl
     ·simp only[Au,hkey,hk',A6 hl,TO.u,hkk,cond_true,Bmt hc.2,hz,Bl6,Option.isSome_map];rfl
    ·cases h
   ·cases h
  ·cases h
 ·cases h
def Bgd(σ:TSt):TV→An
 | .mp key=>match σ.look key with
  |some (.map kt vt es)=> .tot (nu .i64 (es.length:Int)) []
  |_=> .no
 |_=> .no
theorem A2r(hI:Inv σ)(hc:Bp σ ch){x:Opd}(h:(Bgd σ (σ.ev ch x)).gives e):Does σ d (.mlen x) e∧e.1.tame=true:=by
 have hx:=Dx hI hc x
 unfold Bgd at h
 split at h
 ·rename_i key e1
  rw[e1] at hx
  split at h
  ·rename_i kt vt es hl
   cases h
   exact⟨fun cl=>by simp only[Au,←hx,TV.u,A6 hl,TO.u,List.length_map];rfl,rfl⟩
  ·cases h
 ·cases h
end
end Go.Av
end
section
namespace Go.Av
section
variable [Dic] {σ:TSt} {ch:List (Nat×Bool)}
inductive RAn:Type 1 where
 |no
 |tot (r:G4)
 |par (α:Type) (d:α) (o:Option α) (g:α→G4)
 |alt (α β:Type) (o:Option (α⊕β)) (f:α→G4) (g:β→G4)
def RAn.gives:RAn→G4→Prop
 | .no,_=>False
 | .tot r,r'=>r'=r
 | .par _ _ o g,r'=> ∃a,o=some a∧g a=r'
 | .alt _ _ o f g,r'=> ∃j,o=some j∧(match j with
  | .inl a=>f a
  | .inr b=>g b)=r'
structure Tab:Type 1 where
 fn:Bool→FuncId→List TV→List TO→RAn
 dy:Nat→List TV→RAn
structure To (P:Program) (T:Tab):Prop where
 fn: ∀b g args ext r,(T.fn b g args ext).gives r→Bo P g (args.map TV.u) (ext.map TO.u) r.u
 dy: ∀g args r,(T.dy g args).gives r→Bo P g (args.map TV.u) [] r.u
structure Ask where
 d:Nat
 g:FuncId
 args:List SV
 ext:List Ah
 r:Res
def Ask.good(P:Program)(k:Ask):Prop:=Bo P k.g k.args k.ext k.r
def Ask.told(cl:Callee)(k:Ask):Prop:=cl k.d k.g k.args k.ext=some k.r
def TV.bare:TV→Bool
 | .ptr _ _=>false
 | .own _=>false
 | .mp _=>false
 | .iown .. =>false
 | .gd .. =>false
 | .agg _ cs=>bareL cs
 | .tup cs=>bareL cs
 | .fn _ cs=>bareL cs
 |_=>true
where
 bareL:List TV→Bool
  |[]=>true
  |a::cs=>a.bare&&bareL cs
mutual
theorem bare_u: ∀w:TV,w.bare=true→w.u.bare=true
 | .v _ _,_| .c _,_| .nils,_| .iv _ _ _,_| .ic _ _,_| .dead,_=>rfl
 | .agg _ cs,h=>bareL_u cs h
 | .tup cs,h=>bareL_u cs h
 | .fn _ cs,h=>bareL_u cs h
 | .ptr _ _,h| .own _,h| .mp _,h| .iown _ _ _ _ _ _,h| .gd _ _ _ _,h=>by cases h
theorem bareL_u: ∀cs:List TV,TV.bare.bareL cs=true→SV.bare.bareL (TV.u.uL cs)=true
 |[],_=>rfl
 |a::cs,h=>by
  simp only[TV.bare.bareL,Bool.and_eq_true] at h
  simp only[TV.u.uL,SV.bare.bareL,bare_u a h.1,bareL_u cs h.2,Bool.and_self]
end
def Ty.scl:Ty→Bool
 | .sl _=>false
 | .st _=>false
 |_=>true
def TV.scalar:TV→Bool
 | .v t _=>match t with
  | .st i=>(Cel.ts i).all Ty.scl
  |t=>t.scl
 | .c p=>p.scalar
 | .nils=>true
 | .tup cs=>scalarL cs
 |_=>false
where
 scalarL:List TV→Bool
  |[]=>true
  |a::cs=>a.scalar&&scalarL cs
theorem Aye{t:Ty}(h:t.scl=true)(x:t.D):(t.e x).scalar=true:=by
 cases t<;>first|rfl|(cases h;done)|skip
 rename_i t
 cases x<;>rfl
theorem Bcr: ∀{ts:List Ty} (h:ts.all Ty.scl=true) (x:Tup ts),PV.scalar.scalarL (Ayz ts x)=true
 |[],_,_=>rfl
 |t::ts,h,x=>by
  simp only[List.all_cons,Bool.and_eq_true] at h
  simp only[Ayz,PV.scalar.scalarL,Aye h.1,Bcr h.2 x.2,Bool.and_self]
mutual
theorem scalar_u: ∀w:TV,w.scalar=true→w.u.scalar=true
 | .v t x,h=>by
  cases t with
  |st i=>
   show PV.scalar.scalarL (Cel.cl i x)=true
   rw[show Cel.cl i x=_ from Dic.cl_get i x]
   exact Bcr h _
  |int k=>exact Aye (t:= .int k) h x
  |bool=>exact Aye (t:= .bool) h x
  |str=>exact Aye (t:= .str) h x
  |fn=>exact Aye (t:= .fn) h x
  |er t=>exact Aye (t:= .er t) h x
  |sl t=>cases h
  |mp k v=>exact Aye (t:= .mp k v) h x
 | .c p,h=>h
 | .nils,_=>rfl
 | .tup cs,h=>scalarL_u cs h
 | .ptr _ _,h| .own _,h| .mp _,h| .iown _ _ _ _ _ _,h| .iv _ _ _,h| .ic _ _,h| .agg _ _,h| .fn _ _,h| .gd _ _ _ _,h| .dead,h=>by cases h
theorem scalarL_u: ∀cs:List TV,TV.scalar.scalarL cs=true→SV.scalar.scalarT (TV.u.uL cs)=true
 |[],_=>rfl
 |a::cs,h=>by
  simp only[TV.scalar.scalarL,Bool.and_eq_true] at h
  simp only[TV.u.uL,SV.scalar.scalarT,scalar_u a h.1,scalarL_u cs h.2,Bool.and_self]
end
def TSt.seen0(σ:TSt):TV→Option TV
 | .v t x=>some (.v t x)
 | .c x=>some (.c x)
 | .nils=>some (.c (.slice []))
 | .fn f []=>some (.c (.fn f))
 | .own k=>match σ.look k with
  |some (.row t l)=>some (.v (.sl t) l)
  |_=>none
 |_=>none
theorem Bp5{w w':TV}(h:σ.seen0 w=some w'):σ.u.pure w.u=some w'.pv∧w'.isP=true∧ ∀cs,w.u≠ .agg cs:=by
 unfold TSt.seen0 at h
 split at h
 ·cases h;exact⟨rfl,rfl,by intro cs e;cases e⟩
 ·cases h;exact⟨rfl,rfl,by intro cs e;cases e⟩
 ·cases h;exact⟨rfl,rfl,by intro cs e;cases e⟩
 ·cases h;exact⟨rfl,rfl,by intro cs e;cases e⟩
 ·split at h
  ·rename_i k t l hk
   cases h
   exact⟨by simp only[TV.u,St.pure,A6 hk,TO.u];rfl,rfl,by intro cs e;cases e⟩
  ·cases h
 ·cases h
theorem Bhy: ∀{cs cs':List TV},Eh σ.seen0 cs=some cs'→St.pure.pureL σ.u (cs.map TV.u)=some (cs'.map TV.pv)
 |[],_,h=>by cases h;rfl
 |a::cs,r,h=>by
  obtain⟨b,r',h1,h2,rfl⟩:=Gr h
  obtain⟨h3,h4,h5⟩:=Bp5 h1
  simp only[List.map_cons,St.pure.pureL,h3,Bhy h2]
def TSt.seen(σ:TSt)(w:TV):Option TV:=match w with
 | .own k=>match σ.look k with
  |some (.row t l)=>some (.v (.sl t) l)
  |_=>none
 | .agg t cs=>match Eh σ.seen0 cs with
  |some cs'=>match t with
   | .st i=>match gather (.st i) cs' with
    |some x=>some (.v (.st i) x)
    |none=>none
   |_=>none
  |none=>none
 |w=>w.tidy
theorem Bsi{w w':TV}(h:σ.seen w=some w'):w'.u=σ.u.seen w.u:=by
 unfold TSt.seen at h
 split at h
 ·split at h
  ·rename_i k t l hk
   cases h
   simp only[TV.u,St.seen,St.pure,A6 hk,TO.u];rfl
  ·cases h
 ·split at h
  ·rename_i cs cs' e
   split at h
   ·split at h
    ·rename_i i x hx
     cases h
     obtain⟨_,h2⟩:=Qo hx
     simp only[TV.u,St.seen,St.pure,Ix,Bhy e,Option.map_some]
     rw[h2];rfl
    ·cases h
   ·cases h
  ·cases h
 ·rename_i h1 h2
  have ht:=tidy_u h
  rw[ht]
  cases w<;>first|(exact(h1 _ rfl).elim)|(exact(h2 _ _ rfl).elim)|rfl|(cases h;done)|skip
  rename_i f caps
  cases caps<;>rfl
def callee(σ:TSt)(ch:List (Nat×Bool))(f:Opd):Option (Bool×FuncId×List TV):=match σ.ev ch f with
 | .c (.fn g)=>some (false,g,[])
 | .fn g caps=>some (false,g,caps)
 | .v .fn (g:Nat)=>some (true,g,[])
 |_=>none
theorem A8u(hI:Inv σ)(hc:Bp σ ch){f:Opd}{c:Bool×FuncId×List TV}(h:callee σ ch f=some c):σ.u.target f=some (c.2.1,c.2.2.map TV.u):=by
 have hx:=Dx hI hc f
 unfold callee at h
 unfold St.target
 split at h
 ·rename_i g e1
  rw[e1] at hx;cases h
  rw[←hx];rfl
 ·rename_i g caps e1
  rw[e1] at hx;cases h
  rw[←hx];simp only[TV.u,Ix]
 ·rename_i g e1
  rw[e1] at hx;cases h
  rw[←hx];rfl
 ·cases h
def Tab.ask(T:Tab)(keep:Nat)(c:Bool×FuncId×List TV)(args:List TV)(ext:List TO):RAn:=match c.1 with
 |true=>match ext with
  |[]=>T.dy c.2.1 args
  |_=> .no
 |false=>T.fn (keep==0) c.2.1 args ext
theorem A8j{P:Program}{T:Tab}(hT:To P T){c:Bool×FuncId×List TV}{args:List TV}{ext:List TO}{r:G4}{keep:Nat}(h:(T.ask keep c args ext).gives r):Bo P c.2.1 (args.map TV.u) (ext.map TO.u) r.u:=by
 unfold Tab.ask at h
 split at h
 ·split at h
  ·exact hT.dy _ _ _ h
  ·cases h
 ·exact hT.fn _ _ _ _ _ h
def fin(d keep m:Nat)(r:G4):Option (TV×List (Key×TO)):=match (m==0||(r.v.scalar&&r.rows.isEmpty)) with
 |true=>match Ayv [] d keep r with
  |some x=>match x.1.tame with
   |true=>some x
   |false=>none
  |none=>none
 |false=>none
def RAn.an(a:RAn)(f:G4→Option (TV×List (Key×TO))):An:=match a with
 | .no=> .no
 | .tot r=>match f r with
  |some x=> .tot x.1 x.2
  |none=> .no
 | .par α dd o g=> .par α dd o fun a=>f (g a)
 | .alt α β o g h=> .alt α β o (fun a=>f (g a)) (fun b=>f (h b))
theorem Bjp{a:RAn}{f:G4→Option (TV×List (Key×TO))}{e:TV×List (Key×TO)}(h:(a.an f).gives e): ∃r,a.gives r∧f r=some e:=by
 unfold RAn.an at h
 split at h
 ·cases h
 ·rename_i r
  split at h
  ·rename_i x hx
   cases h
   exact⟨r,rfl,hx⟩
  ·cases h
 ·obtain⟨a,h1,h2⟩:=h
  exact⟨_,⟨a,h1,rfl⟩,h2⟩
 ·obtain⟨j,h1,h2⟩:=h
  cases j with
  |inl a=>exact⟨_,⟨_,h1,rfl⟩,h2⟩
  |inr b=>exact⟨_,⟨_,h1,rfl⟩,h2⟩
def Brh(σ:TSt)(m:Nat)(w:TV):Option TV:=match m with
 |0=>w.tidy
 |_=>σ.seen w
def Bga(T:Tab)(σ:TSt)(ch:List (Nat×Bool))(d keep m:Nat)(f:Opd)(args:List Opd)(fz ln:List Key):An:=match decide (2≤m)|| !fz.isEmpty|| !ln.isEmpty with
 |true=> .no
 |false=>match callee σ ch f with
  |none=> .no
  |some c=>match Eh (Brh σ m) (args.map (σ.ev ch)++c.2.2) with
   |none=> .no
   |some vs=>match vs.all TV.bare with
    |true=>(T.ask keep c vs []).an (fin d keep m)
    |false=> .no
def A8a(P:Program)(σ:TSt)(d:Nat)(op:AOp)(e:TV×List (Key×TO)):Prop:= ∃q:Option Ask,(∀k,q=some k→k.d=d∧k.good P∧ ∃keep m f args fz ln,op= .call keep m f args fz ln)∧ ∀cl,(∀k,q=some k→k.told cl)→Au cl σ.u d op=some ⟨e.1.u,e.2.map hpU⟩
theorem Does.one{P:Program}{d:Nat}{op:AOp}{e:TV×List (Key×TO)}(h:Does σ d op e):A8a P σ d op e:=⟨none,fun k e=>(by cases e),fun cl _=>h cl⟩
theorem Bms{f:TV→Option TV}{F:SV→SV}(hf: ∀w w',f w=some w'→w'.u=F w.u){l r:List TV}(h:Eh f l=some r):r.map TV.u=(l.map TV.u).map F:=H8 hf h
theorem A13{P:Program}{T:Tab}(hT:To P T)(hI:Inv σ)(hc:Bp σ ch){d keep m:Nat}{f:Opd}{args:List Opd}{fz ln:List Key}{e:TV×List (Key×TO)}(h:(Bga T σ ch d keep m f args fz ln).gives e):A8a P σ d (.call keep m f args fz ln) e∧e.1.tame=true:=by
 unfold Bga at h
 split at h
 ·cases h
 ·rename_i h0
  split at h
  ·cases h
  ·rename_i c hcal
   split at h
   ·cases h
   ·rename_i vs hv
    split at h
    ·rename_i hb
     obtain⟨r,hr,hf⟩:=Bjp h
     have hcon:=A8j hT hr
     unfold fin at hf
     split at hf
     ·rename_i hs
      split at hf
      ·rename_i x hx
       split at hf
       ·rename_i ht
        cases hf
        refine⟨⟨some ⟨d,c.2.1,vs.map TV.u,[],r.u⟩,fun k e=>(by cases e;exact⟨rfl,hcon,_,_,_,_,_,_,rfl⟩),fun cl hcl=>?_⟩,ht⟩
        have hcl:cl d c.2.1 (vs.map TV.u) []=some r.u:=hcl _ rfl
        have hF: ∀w w',Brh σ m w=some w'→w'.u=(fun v=>bif m==0 then v.tidy else σ.u.seen v) w.u:=by
         intro w w' hw
         unfold Brh at hw
         split at hw
         ·exact tidy_u hw
         ·rename_i hm
          have:(m==0)=false:=by simpa using hm
          simp only[this,cond_false]
          exact Bsi hw
        have hargs:=Bms (F:=fun v=>bif m==0 then v.tidy else σ.u.seen v) hF hv
        have e1:(args.map (σ.ev ch)++c.2.2).map TV.u=args.map σ.u.ev++c.2.2.map TV.u:=by
         rw[List.map_append,List.map_map]
         congr 1
         exact List.map_congr_left fun p _=>Dx hI hc p
        rw[e1] at hargs
        have hbare:(vs.map TV.u).all SV.bare=true:=by
         rw[List.all_map]
         exact List.all_eq_true.2 fun w hw=>bare_u w (List.all_eq_true.1 hb w hw)
        have hscal:(m==0||(r.u.v.scalar&&r.u.rows.isEmpty))=true:=by
         simp only[Bool.or_eq_true,Bool.and_eq_true] at hs⊢
         rcases hs with hs|⟨h1,h2⟩
         ·exact .inl hs
         ·refine .inr ⟨scalar_u _ h1,?_⟩
          have:r.rows=[]:=by simpa using h2
          simp[G4.u,this]
        simp only[Au,h0,cond_false,A8u hI hc hcal,←hargs,hbare,cond_true,hcl,hscal,Bia hx]
       ·cases hf
      ·cases hf
     ·cases hf
    ·cases h
def Bka(T:Tab)(σ:TSt)(ch:List (Nat×Bool))(d:Nat)(ty ty2:Ty):AOp→An
 | .mov x=> .val (σ.ev ch x)
 | .pick c a b=>Bgg σ ch c a b
 | .alloc zero=>A71 d zero
 | .box x=>Bn5 d (σ.ev ch x)
 | .load agg n x=>Ayr σ agg ty n (σ.ev ch x)
 | .bin b op x y=>Bn4 b op y (σ.ev ch x) (σ.ev ch y)
 | .eqs neg ks x y=>Bn6 neg ks (σ.ev ch x) (σ.ev ch y)
 | .un op x=>Bsm op (σ.ev ch x)
 | .conv k x=>Bgb k (σ.ev ch x)
 | .fld f x=>Bh7 f (σ.ev ch x)
 | .part agg off n x=>Bgf agg ty off n (σ.ev ch x)
 | .idx sz x i=>Bh8 σ sz (σ.ev ch x) (σ.ev ch i)
 | .sidx x i=>Bgh (σ.ev ch x) (σ.ev ch i)
 | .aidx len n x i=>Bf9 ty len n (σ.ev ch x) (σ.ev ch i)
 | .b2s x=>Bn3 (σ.ev ch x)
 | .ext i x=>Bn7 i (σ.ev ch x)
 | .build zero ps=>A72 σ ch ty zero ps
 | .lit keep sz xs=>Bn9 σ ch d ty keep sz xs
 | .mk sz bytes zero n c=>Bsk d ty sz bytes zero (σ.ev ch n) (σ.ev ch c)
 | .slc s sz x lo hi=>Boc σ ch ty sz lo hi s (σ.ev ch x)
 | .len s x=>Bn8 σ s (σ.ev ch x)
 | .mm mx x xs=>Bsl mx (σ.ev ch x) (xs.map (σ.ev ch))
 | .mkfn f xs=>Bgc f (xs.map (σ.ev ch))
 | .call keep m f args fz ln=>Bga T σ ch d keep m f args fz ln
 | .mkmap kk=>A73 d ty ty2 kk
 | .mlook kk ok zero x k=>A74 σ kk ok zero (σ.ev ch x) (σ.ev ch k)
 | .mlen x=>Bgd σ (σ.ev ch x)
 | .mkI t x=>Boa t (σ.ev ch x)
 | .nchk x=>Bge (σ.ev ch x)
 | .isNil neg x=>Bob neg (σ.ev ch x)
 |_=> .no
theorem Ays{P:Program}{T:Tab}(hT:To P T)(hI:Inv σ)(hc:Bp σ ch){d:Nat}{ty ty2:Ty}{op:AOp}{e:TV×List (Key×TO)}(h:(Bka T σ ch d ty ty2 op).gives e):A8a P σ d op e∧Bik σ e.1:=by
 have one: ∀{op:AOp},(Does σ d op e∧e.1.tame=true)→A8a P σ d op e∧Bik σ e.1:=fun h=>⟨h.1.one,Ajx h.2⟩
 cases op<;>simp only[Bka] at h
 case mov=>exact one (A90 hI hc h)
 case pick=>exact one (A22 hI hc h)
 case alloc=>exact one (Aug h)
 case box=>exact one (A8s hI hc h)
 case load=>exact one (Aqk hI hc h)
 case bin=>exact one (A8q hI hc h)
 case eqs=>exact one (A83 hI hc h)
 case un=>exact one (Bie hI hc h)
 case conv=>exact one (A16 hI hc h)
 case fld=>obtain⟨h1,h2⟩:=Blv (d:=d) hI hc h;exact⟨h1.one,h2⟩
 case part=>exact one (A2z hI hc h)
 case idx=>obtain⟨h1,h2⟩:=Bmh (d:=d) hI hc h;exact⟨h1.one,h2⟩
 case sidx=>exact one (A3e hI hc h)
 case aidx=>exact one (A1v hI hc h)
 case b2s=>exact one (A8k hI hc h)
 case ext=>exact one (A84 hI hc h)
 case build=>exact one (Aul hI hc h)
 case lit=>exact one (A9p hI hc h)
 case mk=>exact one (Bho hI hc h)
 case slc=>exact one (Bb4 hI hc h)
 case len=>exact one (A9j hI hc h)
 case mm=>exact one (Bhp hI hc h)
 case mkfn=>exact one (A2q hI hc h)
 case call=>obtain⟨h1,h2⟩:=A13 hT hI hc h;exact⟨h1,Ajx h2⟩
 case mkmap=>exact one (Avl h)
 case mlook=>exact one (Avm hI hc h)
 case mlen=>exact one (A2r hI hc h)
 case mkI=>exact one (A9y hI hc h)
 case nchk=>exact one (A2t hI hc h)
 case isNil=>exact one (Au1 hI hc h)
 all_goals cases h
end
end Go.Av
end
section
namespace Go.Av
section
variable {P:Program} {C:Ctx} {β:Key→Blk} {σ:St} {a:Act} {w:World} {o:Oper}
theorem Bj9{ok:Nat→Prop}{lk:Key→Option Ah}{f':Opd}{g:FuncId}{caps:List SV}(ht:σ.target f'=some (g,caps)){v:Value}(hx:As w ok β lk (σ.ev f') v):
  ∃us:List Value,v= .func (.func g) #[] us.toArray∧caps.length=us.length∧ ∀(j:Nat) (x:SV) (u:Value),caps[j]? =some x→us[j]? =some u→As w ok β lk x u:=by
 unfold St.target at ht
 generalize σ.ev f'=x at ht hx
 cases x with
 |pv p=>
  cases p with
  |fn f=>
   simp only[Option.some.injEq,Prod.mk.injEq] at ht
   obtain⟨rfl,rfl⟩:=ht
   have:=Bb hx
   cases this
   exact⟨[],rfl,rfl,by simp⟩
  |_=>cases ht
 |fn f cs=>
  simp only[Option.some.injEq,Prod.mk.injEq] at ht
  obtain⟨rfl,rfl⟩:=ht
  cases hx with
  |fn _ _ us hl hs=>exact⟨us,rfl,hl,hs⟩
 |_=>cases ht
theorem Api{c:Call}{fo:Operand}{g:FuncId}{us:List Value}(ho:o.op= .call c)(hc:c.callee= .value fo)(hf:a.eval fo= .func (.func g) #[] us.toArray)(hE:Enters P g):
  (execOp a.eval o).run P w= .ok (.enter g (c.args.toList.map a.eval++us).toArray) w:=by
 obtain⟨fn,h1,h2,h3⟩:=hE
 have e:(c.args.toList.map a.eval++us).toArray=c.args.map a.eval++us.toArray:=by
  apply Array.ext'
  simp
 rw[e]
 simp only[execOp,ho,Sem.run_bind,resolve,hc,hf,Deferred.ofValue,Sem.run_pure,Result.andThen_ok,invoke,callFunc,run_program,h1,h2,h3,Bool.false_eq_true,if_false,Array.empty_append]
theorem Aui(h:RR C β σ a w){c:Call}{fo:Operand}{f':Opd}{args':List Opd}{g:FuncId}{caps:List SV}(hf:Ak fo f'=true)(ha:Cu Ak c.args.toList args'=true)(ht:σ.target f'=some (g,caps)):
  ∃us:List Value,a.eval fo= .func (.func g) #[] us.toArray∧(args'.map σ.ev++caps).length=(c.args.toList.map a.eval++us).length∧
   ∀(j:Nat) (x:SV) (v:Value),(args'.map σ.ev++caps)[j]? =some x→(c.args.toList.map a.eval++us)[j]? =some v→As w (okB C β σ.look w) β σ.look x v:=by
 obtain⟨us,h1,h2,h3⟩:=Bj9 ht (h.ev hf)
 obtain⟨e1,e2⟩:=h.evs ha
 refine⟨us,h1,by simp only[List.length_append,e1,h2],fun j x v hx hv=>?_⟩
 rw[List.getElem?_append] at hx hv
 rw[←e1] at hv
 split at hx
 ·rename_i hlt;rw[if_pos hlt] at hv;exact e2 j x v hx hv
 ·rename_i hlt;rw[if_neg hlt] at hv;exact h3 _ x v hx hv
theorem Bow{x:SV}: ∀(f:Key→Option Key),x.bare=true→x.nm f=x:=by
 intro f
 have gen: ∀x:SV,x.bare=true→x.nm f=x:=fun x=>SV.rec (motive_1:=fun x=>x.bare=true→x.nm f=x) (motive_2:=fun cs=>SV.bare.bareL cs=true→SV.nm.nmL f cs=cs)
  (fun _ _=>rfl) (fun _=>rfl) (fun _ _ h=>by simp[SV.bare] at h) (fun _ h=>by simp[SV.bare] at h) (fun _ h=>by simp[SV.bare] at h) (fun _ _ _ h=>by simp[SV.bare] at h) (fun _ _ _=>rfl)
  (fun cs ih h=>by simp only[SV.nm];rw[ih (by simpa [SV.bare] using h)]) (fun cs ih h=>by simp only[SV.nm];rw[ih (by simpa [SV.bare] using h)]) (fun g cs ih h=>by simp only[SV.nm];rw[ih (by simpa [SV.bare] using h)]) (fun _=>rfl)
  (fun _=>rfl) (fun c cs ih1 ih2 h=>by simp only[SV.bare.bareL,Bool.and_eq_true] at h;simp only[SV.nm.nmL];rw[ih1 h.1,ih2 h.2]) x
 exact gen x
theorem Zq{ok:Nat→Prop}{lk:Key→Option Ah}{x:SV}{v:Value}(hx:As w ok β lk x v):As w ok β lk x.tidy v:=by
 unfold SV.tidy
 split
 ·rename_i p hp;exact .pv _ _ (Auo hx p hp)
 ·exact hx
theorem Bgi{m:Nat}{ok:Nat→Prop}{lk:Key→Option Ah}{x:SV}{v:Value}(hx:As w ok β lk x v):As w ok β lk (Ayu m x) v:=by
 unfold Ayu
 cases hm:(m==2) with
 |true=>exact Zq hx
 |false=>exact hx
theorem Bju(h:RR C β σ a w){x:SV}{v:Value}(hx:As w (okB C β σ.look w) β σ.look x v):As w (okP w) β σ.look (σ.seen x) v:=by
 unfold St.seen
 split
 ·rename_i p hp;exact .pv _ _ (Bjk h hx p hp)
 ·exact(Zq hx).mono (fun b _ off u hu=>hu) A42 (fun k o hk=>⟨o,hk,o.sim_refl,rfl⟩)
theorem Bim{ok:Nat→Prop}{lk lk':Key→Option Ah}{β':Key→Blk}{x:SV}{v:Value}(hx:As w ok β lk x v)(hb:x.bare=true):As w ok β' lk' x v:=by
 have:=hx.nm' (lk':=lk') (β':=β') (fun _=>none) (fun b _ off u hu=>hu) (fun b hb=>hb) (fun k o k' _ _ e=>by cases e)
 rwa [Bow _ hb] at this
theorem Ar6{cl:Callee}(hS:Oc P cl)(h:RR C β σ a w)(hd: ∀i,o.dst=some i→i<C.nt){c:Call}{fo:Operand}{f':Opd}{args':List Opd}{g:FuncId}{caps:List SV}(ho:o.op= .call c)(hc:c.callee= .value fo)
  (hf:Ak fo f'=true)(ha:Cu Ak c.args.toList args'=true)(ht:σ.target f'=some (g,caps))(tr:SV→SV){okX:Nat→Prop}(htr: ∀x v,As w (okB C β σ.look w) β σ.look x v→As w okX β σ.look (tr x) v)(hlt: ∀b,okX b→b<w.heap.size)(hG:GOK w okX)
  (hbare:((args'.map σ.ev++caps).map tr).all SV.bare=true){r:Res}{dd:Nat}(hr:cl dd g ((args'.map σ.ev++caps).map tr) []=some r)(hok:(okX=okB C β σ.look w)∨(r.v.scalar=true∧r.rows=[])){d keep:Nat}{e:Eff}(htook:took [] d keep r=some e)
  (hfresh: ∀i,i<keep→σ.look (.loc d i)=none):Ax P C ((σ.insAll e.ins).put o.dst e.v) o a w:=by
 obtain⟨us,hfe,hlen,hargs⟩:=Aui h hf ha ht
 obtain⟨hE,hcon⟩:=hS dd g _ [] r hr
 have hcall:=hcon w (c.args.toList.map a.eval++us) (Ss β []) okX (fun b hb=>⟨hlt b hb,by intro i hi;simp at hi⟩) hG (by intro i j b hi;simp at hi) (by intro i xs hx;simp at hx) (by rw[List.length_map,hlen])
  (fun j x v hx hv=>by
   have hbx:=List.all_eq_true.1 hbare x (List.mem_of_getElem? hx)
   simp only[List.getElem?_map,Option.map_eq_some_iff] at hx
   obtain⟨y,hy,rfl⟩:=hx
   exact Bim (htr y v (hargs j y v hy hv)) hbx)
 intro K hK Q
 unfold Oper.wp
 rw[Api ho hc hfe hE,Oper.upon_enter]
 refine hcall.mono fun en w' hen=>?_
 obtain⟨v,δ,rfl,haft⟩:=hen
 have hx0:r.ext=[]:=List.eq_nil_of_length_eq_zero haft.len
 rcases hok with rfl|⟨hs,hr0⟩
 ·obtain⟨β',h',hs⟩:=h.took (ln:=[]) (ext:=[]) rfl (by simp) haft htook hfresh (σ2:=σ) (by rw[hx0];rfl)
  exact hK β' _ _ (h'.put o.dst e.v v hd hs)
 ·have h':=h.grow haft.size haft.quiet (fun b hb=>haft.frame b hb (by rintro⟨i,hi,_⟩;simp at hi))
  have hv:As w' (fun _=>False) (fun _=>⟨none,0⟩) (fun _=>none) r.v v:=Apl haft.val hs
  have:e.ins=[]∧As w' (okB C β σ.look w') β σ.look e.v v:=by
   simp only[Av.took] at htook
   by_cases hk:(keep==0)=true
   ·rw[hk] at htook
    simp only[cond_true,Option.map_eq_some_iff] at htook
    obtain⟨y,hy,rfl⟩:=htook
    refine⟨rfl,?_⟩
    have h0:As w' (fun _=>False) (Fb (fun _=>⟨none,0⟩) (fun _=>⟨none,0⟩)) (Ci [] r.rows) r.v v:=Apl haft.val hs
    exact A2b (fun b hb=>hb.elim) (fun i o b ho hb=>by simp[Ci,hr0] at ho) (fun i o ho=>by simp[Ci,hr0] at ho) h0 y hy
   ·simp only[Bool.not_eq_true] at hk
    rw[hk] at htook
    simp only[cond_false] at htook
    cases hle:decide (r.rows.length≤keep) with
    |false=>rw[hle] at htook;cases htook
    |true=>
     rw[hle] at htook
     simp only[cond_true,Option.some.injEq] at htook
     subst htook
     refine⟨by rw[hr0];rfl,?_⟩
     exact hv.nm' _ (fun b _ off u hu=>hu) (fun b hb=>hb.elim) (fun k o k' _ hk _=>by cases hk)
  refine hK β _ _ ?_
  rw[this.1]
  exact h'.put o.dst e.v v hd this.2
theorem Aoj(k:Key)(x:PV)(l:List (Key×Ah))(k':Key):
  Ay ((l.filter fun p=>decide (p.1≠k)).map fun p=>(p.1,p.2.freeze k x)) k'=if k'=k then none else(Ay l k').map (Ah.freeze k x):=Avc (Ah.freeze k x) k l k'
theorem Om(k:Key)(x:PV): ∀(cs:List SV),(SV.freeze.freezeL k x cs).length=cs.length∧ ∀(j:Nat) (y:SV),(SV.freeze.freezeL k x cs)[j]? =some y→ ∃z,cs[j]? =some z∧y=z.freeze k x
 |[]=>by simp[SV.freeze.freezeL]
 |c::cs=>by
  obtain⟨h1,h2⟩:=Om k x cs
  refine⟨by simp[SV.freeze.freezeL,h1],fun j y hy=>?_⟩
  cases j with
  |zero=>simp[SV.freeze.freezeL] at hy;exact⟨c,rfl,hy.symm⟩
  |succ j=>simp[SV.freeze.freezeL] at hy;simpa using h2 j y hy
theorem Be.one_of{w:World}{ok:Nat→Prop}{x:PV}{v:Value}(h:Be w ok x v)(h1:v.oneCell'=true):x.one=true:=by
 cases h<;>first|rfl|(simp[Value.oneCell'] at h1)
theorem RR.freeze(h:RR C β σ a w)(k:Key):RR C β (σ.freeze k) a w:=by
 unfold St.freeze
 cases hk:σ.look k with
 |none=>exact h
 |some o=>
  cases hz:o.frozen with
  |none=>simp only[Option.bind_some,hz];exact h
  |some x=>
   simp only[Option.bind_some,hz]
   generalize hσ:({sl:=σ.sl.map fun p=>(p.1,p.2.freeze k x),hp:=(σ.hp.filter fun p=>decide (p.1≠k)).map fun p=>(p.1,p.2.freeze k x)}:St)=σ'
   have hlook: ∀k',σ'.look k'=if k'=k then none else(σ.look k').map (Ah.freeze k x):=fun k'=>by
    rw[←hσ];exact Aoj k x σ.hp k'
   have hget: ∀t,σ'.get t=(σ.get t).freeze k x:=fun t=>by
    rw[←hσ];exact A89 (SV.freeze k x) rfl σ.sl t
   have hsome: ∀k' o',σ'.look k'=some o'→k'≠k∧ ∃o2,σ.look k'=some o2∧o'=o2.freeze k x:=fun k' o' ho=>by
    rw[hlook] at ho
    by_cases e:k'=k
    ·simp[e] at ho
    ·simp only[e,if_false,Option.map_eq_some_iff] at ho
     obtain⟨o2,h1,h2⟩:=ho
     exact⟨e,o2,h1,h2.symm⟩
   have hok: ∀b,okB C β σ.look w b→okB C β σ'.look w b:=fun b hb=>
    ⟨hb.1,fun k' o' ho=>by obtain⟨_,o2,h1,_⟩:=hsome k' o' ho;exact hb.2.1 k' o2 h1,hb.2.2⟩
   have hkb: ∀b,(β k).b=some b→okB C β σ'.look w b:=fun b hb=>⟨h.blk_lt hk hb,fun k' o' ho e=>by
    obtain⟨hne,o2,h1,_⟩:=hsome k' o' ho
    exact hne (h.inj k' k _ _ b h1 hk e hb),fun hlt=>by
     rcases h.lo k _ b hk hb with q|q
     ·omega
     ·exact .inr q⟩
   have hsim: ∀o2:Ah,o2.sim (o2.freeze k x):=fun o2=>by cases o2<;>simp[Ah.freeze,Ah.sim]
   have hl: ∀k' o',k'≠k→σ.look k'=some o'→σ'.look k'=some (o'.freeze k x):=fun k' o' hne ho=>by rw[hlook,if_neg hne,ho];rfl
   have mono: ∀{x0:SV} {v:Value},As w (okB C β σ.look w) β σ.look x0 v→As w (okB C β σ'.look w) β σ'.look (x0.freeze k x) v:=by
    intro x0 v hx
    induction hx with
    |pv x1 v h=>exact .pv _ _ (h.mono (fun b _ off u hu=>hu) hok)
    |nils=>exact .nils _
    |ptr k' off cs b hk' hb=>
     simp only[SV.freeze]
     by_cases e:k'=k
     ·subst e
      rw[hk] at hk';cases hk'
      rw[if_pos rfl]
      simp only[Ah.frozen,Option.map_eq_some_iff] at hz
      obtain⟨ys,hys,rfl⟩:=hz
      obtain⟨b2,arr,T,e0,e1,e2,e3,e4⟩:=h.objs k' _ hk
      rw[hb] at e0;cases e0
      obtain⟨p1,p2⟩:=Aqx (us:=arr.toList) hys ⟨by simpa using e2.symm,fun u hu=>e3 u (by simpa using hu),fun j y u hy hu=>e4 j y u hy (by simpa using hu)⟩
      have hat: ∀j,j<ys.length→arr[j]? =some ((arr[j]?).getD default):=fun j hj=>by
       have:j<arr.size:=by rw[p1] at hj;simpa using hj
       rw[Array.getElem?_eq_getElem this];rfl
      have:=As.ipv (w:=w) (ok:=okB C β σ'.look w) (β:=β) (lk:=σ'.look) (.agg ys) off b 0 (fun j=>(arr[j]?).getD default) (hkb b hb) (fun y hy=>?_) (fun j hj=>?_) (fun j y hy=>?_)
      ·simpa using this
      ·obtain⟨j,hj,rfl⟩:=List.getElem_of_mem hy
       have hj':j<ys.length:=hj
       have hL:=p2 j _ _ (List.getElem?_eq_getElem hj') (by rw[Array.getElem?_toList];exact hat j hj')
       refine hL.one_of (e3 _ ?_)
       exact Array.mem_of_getElem? (hat j hj')
      ·have hj':j<ys.length:=hj
       simp only[World.cell?,e1]
       simpa using hat j hj'
      ·have hy:ys[j]? =some y:=hy
       have hj':=(List.getElem?_eq_some_iff.1 hy).1
       exact(p2 j y _ hy (by rw[Array.getElem?_toList];exact hat j hj')).mono (fun b _ off u hu=>hu) hok
     ·rw[if_neg e]
      exact .ptr k' off _ b (hl k' _ e hk') hb
    |own k' sz' xs' b hk' hb=>
     simp only[SV.freeze]
     by_cases e:k'=k
     ·subst e
      rw[hk] at hk';cases hk'
      rw[if_pos rfl]
      cases hz
      exact .pv _ _ (Ax9 (h.objs k' _ hk) hok hb (hkb b hb))
     ·rw[if_neg e]
      exact .own k' sz' xs' b (hl k' _ e hk') hb
    |ownN k' sz' ad hk' hb=>
     simp only[SV.freeze]
     by_cases e:k'=k
     ·subst e
      rw[hk] at hk';cases hk'
      rw[if_pos rfl]
      cases hz
      exact .pv _ _ (Ahf _)
     ·rw[if_neg e]
      exact .ownN k' sz' ad (hl k' _ e hk') hb
    |mp k' kk es b hk' hb=>
     simp only[SV.freeze]
     by_cases e:k'=k
     ·rw[if_pos e];exact .dead _
     ·rw[if_neg e];exact .mp k' kk es b (hl k' _ e hk') hb
    |iown k' i off sz' xs' b hk' hb hi=>
     simp only[SV.freeze]
     by_cases e:k'=k
     ·rw[if_pos e];exact .dead _
     ·rw[if_neg e];exact .iown k' i off sz' xs' b (hl k' _ e hk') hb hi
    |ipv x1 off b o us hb h1 hat h=>exact .ipv x1 off b o us (hok _ hb) h1 hat (fun j y hy=>(h j y hy).mono (fun b _ off u hu=>hu) hok)
    |agg cs us hl' _ h1 ih=>
     obtain⟨e1,e2⟩:=Om k x cs
     exact .agg _ us (by rw[e1,hl']) (fun j x1 u hx hu=>by obtain⟨z,hz',rfl⟩:=e2 j x1 hx;exact ih j z u hz' hu) h1
    |tup cs us hl' _ ih=>
     obtain⟨e1,e2⟩:=Om k x cs
     exact .tup _ us (by rw[e1,hl']) (fun j x1 u hx hu=>by obtain⟨z,hz',rfl⟩:=e2 j x1 hx;exact ih j z u hz' hu)
    |fn f cs us hl' _ ih=>
     obtain⟨e1,e2⟩:=Om k x cs
     exact .fn f _ us (by rw[e1,hl']) (fun j x1 u hx hu=>by obtain⟨z,hz',rfl⟩:=e2 j x1 hx;exact ih j z u hz' hu)
    |dead v=>exact .dead v
   refine⟨h.tsz,h.dfs,?_,?_,?_,?_,?_,h.size,h.frame,h.quiet,h.gw⟩
   ·intro k1 k2 o1 o2 b h1 h2 e1 e2
    obtain⟨_,o1',h1',_⟩:=hsome k1 o1 h1
    obtain⟨_,o2',h2',_⟩:=hsome k2 o2 h2
    exact h.inj k1 k2 _ _ b h1' h2' e1 e2
   ·intro k' o' ho
    obtain⟨hne,o2,h1,rfl⟩:=hsome k' o' ho
    have:=h.objs k' o2 h1
    cases o2 with
    |box cs=>
     obtain⟨b,arr,T,e0,e1,e2,e3,e4⟩:=this
     refine⟨b,arr,T,e0,e1,by simpa using e2,e3,fun j x u hx hu=>?_⟩
     simp only[List.getElem?_map,Option.map_eq_some_iff] at hx
     obtain⟨x',hx',rfl⟩:=hx
     exact mono (e4 j x' u hx' hu)
    |row sz' xs'=>
     rcases this with hb|⟨b,arr,T,e0,e1,e2,e3,e4,e5⟩
     ·exact .inl hb
     ·refine .inr ⟨b,arr,T,e0,e1,e2,e3,e4,fun i j x y hx hy=>?_⟩
      obtain⟨u,hu,hl⟩:=e5 i j x y hx hy
      exact⟨u,hu,hl.mono (fun b _ off u hu=>hu) hok⟩
    |map kk es=>
     obtain⟨b,ents,clock,e0,e1,e2⟩:=this
     exact⟨b,ents,clock,e0,e1,e2.mono (fun b _ off u hu=>hu) hok⟩
   ·intro k' o' b ho hx
    obtain⟨_,o2,h1,_⟩:=hsome k' o' ho
    exact h.lo k' o2 b h1 hx
   ·intro i o' ho
    obtain⟨_,o2,h1,rfl⟩:=hsome _ o' ho
    obtain⟨o0,q1,q2,q3⟩:=h.ext2 i o2 h1
    exact⟨o0,q1,A9 q2 (hsim o2),q3⟩
   ·intro t
    rw[hget]
    exact mono (h.slots t)
theorem RR.freezeAll(ks:List Key): ∀{σ:St},RR C β σ a w→RR C β (σ.freezeAll ks) a w:=by
 induction ks with
 |nil=>intro σ h;exact h
 |cons k ks ih=>intro σ h;exact ih (h.freeze k)
theorem Bb9{cl:Callee}(hS:Oc P cl)(h:RR C β σ a w)(hd: ∀i,o.dst=some i→i<C.nt){c:Call}{fo:Operand}{f':Opd}{args':List Opd}(ho:o.op= .call c)(hc:c.callee= .value fo)
  (hf:Ak fo f'=true)(ha:Cu Ak c.args.toList args'=true){keep m:Nat}{fz ln:List Key}(hnd:ln.Nodup){σ':St}(hb:Fm cl σ o.dst (.call keep m f' args' fz ln)=some σ'):Ax P C σ' o a w:=by
 unfold Fm at hb
 cases hdst:o.dst with
 |none=>simp only[hdst] at hb;cases hb
 |some d=>
 simp only[hdst] at hb
 have h:=(h.freezeAll fz).killAll ((List.range keep).map (.loc d))
 have hfr: ∀i,i<keep→((σ.freezeAll fz).killAll ((List.range keep).map (.loc d))).look (.loc d i)=none:=fun i hi=>Jt _ _ _ (by simp;exact hi)
 revert h hb hfr
 generalize (σ.freezeAll fz).killAll ((List.range keep).map (.loc d))=σ
 intro hb h hfr
 cases ht:σ.target f' with
 |none=>simp only[ht] at hb;cases hb
 |some p=>
 obtain⟨g,caps⟩:=p
 simp only[ht] at hb
 cases hh:Hr σ ln ln with
 |none=>simp only[hh] at hb;cases hb
 |some ext=>
 simp only[hh] at hb
 cases hr:cl d g ((args'.map σ.ev++caps).map fun v=>(Ayu m v).nm (toX ln)) ext with
 |none=>simp only[hr] at hb;cases hb
 |some r=>
 simp only[hr] at hb
 cases htk:took ln d keep r with
 |none=>simp only[htk] at hb;cases hb
 |some e=>
 simp only[htk] at hb
 cases hbk:C8 (G0 ln d keep) (σ.killAll (C0 ln r.ext)) ln r.ext with
 |none=>simp only[hbk] at hb;cases hb
 |some σ2=>
 simp only[hbk,Option.some.injEq] at hb
 subst hb
 obtain⟨us,hfe,hlen,hargs⟩:=Aui h hf ha ht
 obtain⟨hE,hcon⟩:=hS d g _ ext r hr
 obtain⟨e1,e2⟩:=Jo hh
 have hkx: ∀(i:Nat),i<ext.length→ ∃k o1,ln[i]? =some k∧σ.look k=some o1∧Ss β ln i=β k:=by
  intro i hi
  have g1:ln[i]? =some (ln[i]'(by omega)):=List.getElem?_eq_getElem (by omega)
  obtain⟨o1,q1,q2⟩:=e2 i _ g1
  exact⟨_,o1,g1,q1,Q5 g1⟩
 have hcall:=hcon w (c.args.toList.map a.eval++us) (Ss β ln) (okB C β σ.look w)
  (fun b hb=>⟨hb.1,fun i hi e=>by obtain⟨k,o1,_,g2,g3⟩:=hkx i hi;exact hb.2.1 k _ g2 (g3▸e)⟩) h.gok
  (fun i j b hi hj e1 e2=>by
   obtain⟨k,o1,g1,g2,g3⟩:=hkx i hi
   obtain⟨k',o1',g1',g2',g3'⟩:=hkx j hj
   rw[g3] at e1;rw[g3'] at e2
   have:=h.inj k k' _ _ b g2 g2' e1 e2
   subst this
   exact(List.getElem?_inj (i:=i) (j:=j) (List.getElem?_eq_some_iff.1 g1).1 hnd).1 (g1.trans g1'.symm))
  (fun i o1 hx=>Bi3 h hh hx)
  (by rw[List.length_map,hlen])
  (fun j x v hx hv=>by
   simp only[List.getElem?_map,Option.map_eq_some_iff] at hx
   obtain⟨y,hy,rfl⟩:=hx
   exact Bi2 hh (fun b hb=>hb) (Bgi (hargs j y v hy hv)))
 intro K hK Q
 unfold Oper.wp
 rw[Api ho hc hfe hE,Oper.upon_enter]
 refine hcall.mono fun en w' hen=>?_
 obtain⟨v,δ,rfl,haft⟩:=hen
 obtain⟨β',h',hs⟩:=h.took hh hnd haft htk hfr hbk
 have h3:=h'.put o.dst e.v v hd hs
 rw[hdst] at h3
 have h4:=hK β' _ _ h3
 rw[←hdst] at h4
 exact h4
theorem Ajm{σ:St}{k k':Key}{o1:Ah}(h:(σ.kill k).look k'=some o1): ∃o2,σ.look k'=some o2:=by
 rw[B8] at h
 by_cases e:k'=k
 ·simp[e] at h
 ·simp only[e,if_false,Option.map_eq_some_iff] at h
  obtain⟨o2,h1,_⟩:=h
  exact⟨o2,h1⟩
theorem Oq(ks:List Key): ∀{σ:St} {k':Key} {o1:Ah},(σ.killAll ks).look k'=some o1→ ∃o2,σ.look k'=some o2:=by
 induction ks with
 |nil=>intro σ k' o1 h;exact⟨_,h⟩
 |cons k ks ih=>intro σ k' o1 h;obtain⟨o2,h2⟩:=ih h;exact Ajm h2
end
end Go.Av
end
