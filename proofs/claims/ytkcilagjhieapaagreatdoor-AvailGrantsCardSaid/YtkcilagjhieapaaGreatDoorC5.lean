import Derived.MapKept
import Derived.Test.YtkcilagjhieapaaGreatDoorC4
section
set_option linter.unusedVariables false
set_option linter.unusedSimpArgs false
namespace Go.Av
section
variable {P:Program} {C:Ctx} {β:Key→Blk} {σ:St} {a:Act} {w:World} {o:Oper}
def KK.is:KK→TypeDesc→Bool
 | .i k,.int k'=>decide (k=k')
 | .b,.bool=>true
 | .s,.string=>true
 |_,_=>false
theorem Ab0{kk:KK}{d:TypeDesc}(hd:kk.is d=true){x:PV}{v:Value}{ok:Nat→Prop}(hx:x.isKK kk=true)(hl:Cn w ok x v):MapKept.IsKey d v:=by
 cases kk<;>cases x<;>simp only[PV.isKK] at hx<;>try (cases hx;done)
 all_goals
  cases d<;>simp only[KK.is] at hd<;>try (cases hd;done)
  cases hl
 ·simp only[decide_eq_true_eq] at hx hd
  subst hx;subst hd
  rfl
 ·trivial
 ·trivial
theorem Ag9{kk:KK}{d:TypeDesc}(hd:kk.is d=true){x y:PV}{u v:Value}{ok:Nat→Prop}(hx:x.isKK kk=true)(hy:y.isKK kk=true)(hu:Cn w ok x u)(hv:Cn w ok y v):Instr.sameNow d u v=some (H5 x y):=by
 cases kk<;>cases x<;>simp only[PV.isKK] at hx<;>(try (cases hx;done))<;>cases y<;>simp only[PV.isKK] at hy<;>(try (cases hy;done))<;>
  cases d<;>simp only[KK.is] at hd<;>(try (cases hd;done))<;>cases hu<;>cases hv<;>simp only[Instr.sameNow,H5]
 ·simp only[decide_eq_true_eq] at hx hy
  subst hx;subst hy
  simp
 ·rename_i s t
  congr 1
  rw[Bool.eq_iff_iff,MapKept.bytes_beq]
  simp
def Hy:List (PV×PV)→PV→Option Nat
 |[],_=>none
 |e::es,k=>if H5 k e.1 then some 0 else(Hy es k).map (· +1)
theorem Sj: ∀{es:List (PV×PV)} {k:PV},Km es k=(Hy es k).bind (fun i=>(es[i]?).map (·.2))
 |[],k=>rfl
 |e::es,k=>by
  have ih:=Sj (es:=es) (k:=k)
  unfold Km at ih⊢
  simp only[List.find?_cons,Hy]
  cases h:H5 k e.1 with
  |true=>simp
  |false=>
   simp only[Bool.false_eq_true,if_false]
   rw[ih]
   cases Hy es k<;>simp
theorem Xa: ∀{es:List (PV×PV)} {k v:PV},Sk es k v=match Hy es k with
  |some i=>es.modify i (fun e=>(e.1,v))
  |none=>es++[(k,v)]
 |[],k,v=>rfl
 |e::es,k,v=>by
  have ih:=Xa (es:=es) (k:=k) (v:=v)
  simp only[Sk,Hy]
  cases h:H5 k e.1 with
  |true=>simp
  |false=>
   simp only[Bool.false_eq_true,if_false]
   rw[ih]
   cases Hy es k<;>simp
theorem Rb: ∀{es:List (PV×PV)} {k:PV} {i:Nat},Hy es k=some i→i<es.length
 |[],k,i,h=>by cases h
 |e::es,k,i,h=>by
  simp only[Hy] at h
  split at h
  ·simp at h;subst h;simp
  ·simp only[Option.map_eq_some_iff] at h
   obtain⟨j,hj,rfl⟩:=h
   have:=Rb hj
   simp;omega
theorem U6: ∀{es:List (PV×PV)} {k:PV} {i:Nat},Hy es k=some i→ ∃e,es[i]? =some e∧H5 k e.1=true
 |[],k,i,h=>by cases h
 |e::es,k,i,h=>by
  simp only[Hy] at h
  split at h
  ·rename_i hs;simp at h;subst h;exact⟨e,rfl,hs⟩
  ·simp only[Option.map_eq_some_iff] at h
   obtain⟨j,hj,rfl⟩:=h
   obtain⟨e',h1,h2⟩:=U6 hj
   exact⟨e',by simpa using h1,h2⟩
theorem Se{kk:KK}{d:TypeDesc}(hd:kk.is d=true){ok:Nat→Prop}{k:PV}{kv:Value}(hk:k.isKK kk=true)(hkv:Cn w ok k kv): ∀{es:List (PV×PV)} {ents:List MapEntry} (i:Nat),N3 w ok kk es ents→
  Instr.findNow d kv ents i=some ((Hy es k).bind (fun j=>(ents[j]?).map (fun e=>(i+j,e.val))))
 |[],ents,i,h=>by
  have:ents=[]:=List.eq_nil_of_length_eq_zero (by simpa using h.1.symm)
  subst this;rfl
 |e::es,[],i,h=>by have:=h.1;simp at this
 |e::es,u::us,i,h=>by
  obtain⟨h1,h2,h3⟩:=h.2 0 e u rfl rfl
  have hr:N3 w ok kk es us:=⟨by simpa using h.1,fun j e u he hu=>h.2 (j+1) e u (by simpa using he) (by simpa using hu)⟩
  simp only[Instr.findNow,Ag9 hd hk h1 hkv h2,Hy]
  cases hs:H5 k e.1 with
  |true=>simp
  |false=>
   simp only[Bool.false_eq_true,if_false]
   rw[Se hd hk hkv (i+1) hr]
   cases Hy es k with
   |none=>rfl
   |some j=>
    simp only[Option.map_some,Option.bind_some,List.getElem?_cons_succ]
    cases us[j]? with
    |none=>rfl
    |some q=>simp;omega
theorem Acv(h:RR C β σ a w)(hd: ∀i,o.dst=some i→i<C.nt){t:TypeId}(ho:o.op= .makeMap t none)(kk:KK)(k:Key)(hk: ∀i,k≠ .ext i)(hn:σ.look k=none):Bv P C ((σ.insAll [(k,.map kk [])]).put o.dst (.mp k)) o a w:=by
 refine Bv.new h hd k hk hn _ 0 (.map #[] 0) (v:= .map (some w.heap.size)) ?_ (fun β' b1 _ hok=>⟨_,#[],0,rfl,heap_alloc_new w _,rfl,by simp⟩) (fun β' b2=>?_)
 ·simp only[execOp,ho,Option.map_none,Sem.run_bind,Instr.makeMap,run_newObj_alloc,Result.andThen_ok,Sem.run_pure]
 ·exact Br.mp k kk [] w.heap.size (by rw[St.look_ins];simp) (by rw[b2])
theorem Acw(h:RR C β σ a w)(hd: ∀i,o.dst=some i→i<C.nt){t kt et:TypeId}{x i:Operand}{ok:Bool}{x' i':Opd}(ho:o.op= .lookup t x i ok)(hx:Bi x x'=true)(hi:Bi i i'=true)
  {d:TypeDesc}{kk:KK}(ht:P.underlying t=some (.map kt et))(hkt:P.underlying kt=some d)(hkd:kk.is d=true){it:TypeInfo}{z:Value}{zero:PV}(hit:P.info? et=some it)(hz:it.zero=some z)(hzl: ∀(w:World) (ok:Nat→Prop),Cn w ok zero z)
  {k:Key}{es:List (PV×PV)}{kv:PV}(ex:σ.ev x'= .mp k)(hk:σ.look k=some (.map kk es))(ei:σ.ev i'= .pv kv)(hkv:kv.isKK kk=true):
  Bv P C ((σ.insAll []).put o.dst (bif ok then .tup [.pv ((Km es kv).getD zero),.pv (.bool (Km es kv).isSome)] else .pv ((Km es kv).getD zero))) o a w:=by
 have hxl:=h.ev hx
 have hil:=h.ev hi
 rw[ex] at hxl;rw[ei] at hil
 have hil:=Cl hil
 obtain⟨b,ents,clock,g0,g1,g2⟩:=h.objs k _ hk
 have hxe:a.eval x= .map (some b):=by
  generalize a.eval x=xv at hxl
  cases hxl with|mp _ kk' es' b' hk' hb'=>rw[g0] at hb';cases hb';rfl
 have hkey:=Ab0 hkd hkv hil
 have hfind:=Se hkd hkv hil 0 g2
 have hget: ∃u q,(Hy es kv).bind (fun j=>(ents.toList[j]?).map (fun e=>(0+j,e.val)))=q∧(q.map (·.2)).getD z=u∧q.isSome=(Km es kv).isSome∧Cn w (okB C β σ.look w) ((Km es kv).getD zero) u:=by
  refine⟨_,_,rfl,rfl,?_,?_⟩
  ·rw[Sj]
   cases hm:Hy es kv with
   |none=>rfl
   |some j=>
    have:=Rb hm
    have h2:j<ents.toList.length:=by rw[←g2.1];exact this
    simp only[Option.bind_some,List.getElem?_eq_getElem this,List.getElem?_eq_getElem h2];rfl
  ·rw[Sj]
   cases hm:Hy es kv with
   |none=>exact hzl _ _
   |some j=>
    have:=Rb hm
    have h2:j<ents.toList.length:=by rw[←g2.1];exact this
    simp only[Option.bind_some,List.getElem?_eq_getElem this,List.getElem?_eq_getElem h2,Option.map_some,Option.getD_some]
    exact(g2.2 j _ _ (List.getElem?_eq_getElem this) (List.getElem?_eq_getElem h2)).2.2
 obtain⟨u,q,hq,hu,hsome,hlie⟩:=hget
 rw[hq] at hfind
 have hrun:(Instr.lookup t (a.eval x) (a.eval i) ok).run P w= .ok (if ok then .tuple #[u,.bool (Km es kv).isSome] else u) w:=by
  rw[hxe]
  simp only[Instr.lookup,Sem.run_bind,run_underlying ht,Result.andThen_ok,MapKept.run_getObj_map g1,Sem.run_pure,MapKept.run_checkKey hkt hkey _ 9999,MapKept.run_findKey hkt hfind]
  cases q with
  |none=>
   simp only[Option.map_none,Option.getD_none] at hu
   simp only[Option.isSome_none] at hsome
   subst hu
   rw[←hsome]
   simp only[zeroValue,typeInfo,run_program,Sem.run_bind,hit,hz,Sem.run_pure,Result.andThen_ok]
  |some p=>
   simp only[Option.map_some,Option.getD_some] at hu
   simp only[Option.isSome_some] at hsome
   obtain⟨p1,p2⟩:=p
   rw[←hsome,←hu]
   cases ok<;>simp only[Sem.run_bind,Sem.run_pure,Result.andThen_ok,if_true,Bool.false_eq_true,if_false]
 refine Bv.value h hd (v:=if ok then .tuple #[u,.bool (Km es kv).isSome] else u) ?_ ?_
 ·simp only[execOp,ho,Sem.run_bind,hrun,Result.andThen_ok,Sem.run_pure]
 ·cases ok with
  |false=>exact .pv _ _ hlie
  |true=>
   refine Br.tup [_,_] [u,.bool (Km es kv).isSome] rfl (fun j y q hy hq=>?_)
   match j,hy,hq with
   |0,hy,hq=>simp at hy hq;subst hy;subst hq;exact .pv _ _ hlie
   |1,hy,hq=>simp at hy hq;subst hy;subst hq;exact .pv _ _ (.bool _)
theorem Aes(h:RR C β σ a w)(hd: ∀i,o.dst=some i→i<C.nt){c:Call}{x:Operand}{x':Opd}{t:TypeId}(ho:o.op= .call c)(hc:c.callee= .builtin .len)(hca:c.args= #[x])(hct:c.argTypes= #[t])
  (hx:Bi x x'=true){kt et:TypeId}(ht:P.underlying t=some (.map kt et)){k:Key}{kk:KK}{es:List (PV×PV)}(ex:σ.ev x'= .mp k)(hk:σ.look k=some (.map kk es)):
  Bv P C ((σ.insAll []).put o.dst (.pv (.int .i64 es.length))) o a w:=by
 have hxl:=h.ev hx
 rw[ex] at hxl
 obtain⟨b,ents,clock,g0,g1,g2⟩:=h.objs k _ hk
 have hxe:a.eval x= .map (some b):=by
  generalize a.eval x=xv at hxl
  cases hxl with|mp _ kk' es' b' hk' hb'=>rw[g0] at hb';cases hb';rfl
 have hl:ents.size=es.length:=by have:=g2.1;simp at this;exact this.symm
 refine Bv.value h hd (v:= .int .i64 es.length) ?_ (.pv _ _ (.int _ _))
 simp only[execOp,ho,resolve,hc,hca,hct,List.map_toArray,List.map_cons,List.map_nil,Sem.run_bind,Sem.run_pure,Result.andThen_ok,invoke,builtin,Builtin.len_,hxe,List.getElem?_toArray,List.getElem?_cons_zero,run_underlying ht,goInt,MapKept.run_getObj_map g1,hl]
theorem Acm{kk:KK}{x y:PV}{u v:Value}{ok:Nat→Prop}(hx:x.isKK kk=true)(hy:y.isKK kk=true)(hu:Cn w ok x u)(hv:Cn w ok y v)(hs:H5 x y=true)(n:Nat):Instr.sameBits n v u=true∧x=y:=by
 cases kk<;>cases x<;>simp only[PV.isKK] at hx<;>(try (cases hx;done))<;>cases y<;>simp only[PV.isKK] at hy<;>(try (cases hy;done))<;>cases hu<;>cases hv<;>simp only[H5,beq_iff_eq] at hs
 ·simp only[decide_eq_true_eq] at hx hy
  subst hx;subst hy;subst hs
  cases n<;>simp[Instr.sameBits]
 ·subst hs;cases n<;>simp[Instr.sameBits]
 ·subst hs
  cases n<;>simp only[Instr.sameBits,MapKept.bytes_beq,and_self]
theorem Aet(h:RR C β σ a w)(hd: ∀i,o.dst=some i→i<C.nt){t kt et:TypeId}{x i y:Operand}{x' i' y':Opd}(ho:o.op= .mapUpdate t x i y∨o.op= .insert t x i y)(hx:Bi x x'=true)(hi:Bi i i'=true)(hy:Bi y y'=true)
  {d:TypeDesc}{kk:KK}(ht:P.underlying t=some (.map kt et))(hkt:P.underlying kt=some d)(hkd:kk.is d=true)
  {k:Key}{es:List (PV×PV)}{kv vv:PV}(ex:σ.ev x'= .mp k)(hk:σ.look k=some (.map kk es))(ei:σ.ev i'= .pv kv)(ey:σ.ev y'= .pv vv)(hkv:kv.isKK kk=true):
  Bv P C ((σ.over k (.map kk (Sk es kv vv))).put o.dst .dead) o a w:=by
 have hxl:=h.ev hx
 have hil:=h.ev hi
 have hyl:=h.ev hy
 rw[ex] at hxl;rw[ei] at hil;rw[ey] at hyl
 have hil:=Cl hil
 have hyl:=Cl hyl
 obtain⟨b,ents,clock,g0,g1,g2⟩:=h.objs k _ hk
 have hxe:a.eval x= .map (some b):=by
  generalize a.eval x=xv at hxl
  cases hxl with|mp _ kk' es' b' hk' hb'=>rw[g0] at hb';cases hb';rfl
 have hkey:=Ab0 hkd hkv hil
 have hfind:=Se hkd hkv hil 0 g2
 have hrun: ∃ents' clock',(Instr.mapUpdate t (a.eval x) (a.eval i) (a.eval y)).run P w= .ok () {w with heap:=w.heap.setIfInBounds b (.map ents' clock')}∧N3 w (okB C β σ.look w) kk (Sk es kv vv) ents'.toList:=by
  rw[hxe,Xa]
  cases hm:Hy es kv with
  |none=>
   rw[hm] at hfind
   refine⟨ents.push {key:=a.eval i,val:=a.eval y,born:=clock},clock+1,?_,?_⟩
   ·simp only[Instr.mapUpdate,Sem.run_bind,run_underlying ht,Result.andThen_ok,MapKept.run_getObj_map g1,MapKept.run_checkKey hkt hkey _ 9999,MapKept.run_findKey hkt hfind,Option.bind_none,MapKept.run_setObj_map _ g1]
   ·refine⟨by simp[g2.1],fun j e u he hu=>?_⟩
    simp only[Array.toList_push,List.getElem?_append] at he hu
    rw[←g2.1] at hu
    split at he
    ·rename_i hlt;rw[if_pos hlt] at hu;exact g2.2 j e u he hu
    ·rename_i hlt
     rw[if_neg hlt] at hu
     have hj:j-es.length=0:=by
      have:=(List.getElem?_eq_some_iff.1 he).1
      simpa using this
     rw[hj] at he hu
     simp at he hu
     subst he;subst hu
     exact⟨hkv,hil,hyl⟩
  |some j=>
   rw[hm] at hfind
   have hj:=Rb hm
   have hj2:j<ents.toList.length:=by rw[←g2.1];exact hj
   have hj3:j<ents.size:=by simpa using hj2
   simp only[Option.bind_some,List.getElem?_eq_getElem hj2,Option.map_some,Nat.zero_add] at hfind
   obtain⟨e0,he0,hs0⟩:=U6 hm
   obtain⟨q1,q2,q3⟩:=g2.2 j e0 _ he0 (List.getElem?_eq_getElem hj2)
   obtain⟨hsb,hke⟩:=Acm hkv q1 hil q2 hs0 10000
   refine⟨ents.modify j fun e=>{e with key:=a.eval i,val:=a.eval y},clock,?_,?_⟩
   ·have hkk:((ents[j]?).map (·.key)).getD (a.eval i)=(ents.toList[j]).key:=by simp[hj3]
    simp only[Instr.mapUpdate,Sem.run_bind,run_underlying ht,Result.andThen_ok,MapKept.run_getObj_map g1,MapKept.run_checkKey hkt hkey _ 9999,MapKept.run_findKey hkt hfind,Instr.keyThatStays,hkk,hsb,if_true,Sem.run_pure,MapKept.run_setObj_map _ g1]
   ·refine⟨by simp[g2.1],fun j' e u he hu=>?_⟩
    rw[List.getElem?_modify] at he
    rw[Array.getElem?_toList,Array.getElem?_modify] at hu
    by_cases hjj:j=j'
    ·subst hjj
     rw[he0] at he
     rw[if_pos rfl,Array.getElem?_eq_getElem hj3] at hu
     simp at he hu
     subst he;subst hu
     exact⟨by rw[←hke];exact hkv,by rw[←hke];exact hil,hyl⟩
    ·rw[if_neg hjj] at hu
     have he:es[j']? =some e:=by
      cases hq:es[j']? with
      |none=>rw[hq] at he;simp at he
      |some e1=>rw[hq] at he;simp[hjj] at he;rw[he]
     exact g2.2 j' e u he (by simpa using hu)
 obtain⟨ents',clock',hr,hents⟩:=hrun
 obtain⟨s1,s2⟩:=MapKept.heap_set (o':= .map ents' clock') g1
 intro K hK Q
 refine X3 (w':={w with heap:=w.heap.setIfInBounds b (.map ents' clock')}) ?_ (hK β _ _ (RR.put (h.over hk (o':= .map kk (Sk es kv vv)) (w':={w with heap:=w.heap.setIfInBounds b (.map ents' clock')}) trivial g0 (by simp) (fun b' hne=>s2 b' hne) ⟨rfl,rfl,rfl⟩ ?_) o.dst .dead undef hd (.dead _)))
 ·rcases ho with ho|ho<;>simp only[execOp,ho,Sem.run_bind,hr,Result.andThen_ok,Sem.run_pure]
 ·exact⟨b,ents',clock',g0,s1,hents.mono (M3 hk g0 s2) (fun b' hb'=>(V1 hk (by simp) b').2 hb')⟩
end
end Go.Av
end
section
set_option linter.unusedVariables false
set_option linter.unusedSimpArgs false
namespace Go.Av
def SV.killZ(Z:List Key)(v:SV):SV:=if Z.any (fun k=>v.names k) then .dead else v
def Ba.killZ(Z:List Key):Ba→Ba
 | .box cs=> .box (cs.map (SV.killZ Z))
 | .row sz xs=> .row sz xs
 | .map kk es=> .map kk es
def Ba.names(k:Key):Ba→Bool
 | .box cs=>SV.names.namesL k cs
 |_=>false
theorem SV.killZ_nil(v:SV):v.killZ []=v:=by simp[SV.killZ]
theorem SV.killZ_cons(k:Key)(Z:List Key)(v:SV):(v.kill k).killZ Z=v.killZ (k::Z):=by
 unfold SV.kill SV.killZ
 cases h:v.names k with
 |true=>simp[h,SV.names]
 |false=>simp[h]
theorem SV.killZ_snoc(k:Key)(Z:List Key)(v:SV):(v.killZ Z).kill k=v.killZ (Z++[k]):=by
 unfold SV.kill SV.killZ
 by_cases h:Z.any (fun k=>v.names k)=true
 ·simp only[h,if_true,List.any_append,Bool.true_or]
  simp[SV.names]
 ·have h:Z.any (fun k=>v.names k)=false:=by simpa using h
  simp only[h,List.any_append,Bool.false_or,List.any_cons,List.any_nil,Bool.or_false,Bool.false_eq_true,if_false]
  cases v.names k<;>simp
theorem SV.killZ_none{Z:List Key}{v:SV}(h: ∀k∈Z,v.names k=false):v.killZ Z=v:=by
 unfold SV.killZ
 rw[if_neg]
 simp only[List.any_eq_true,not_exists,not_and]
 intro k hk e
 rw[h k hk] at e;cases e
theorem Aax(Z:List Key)(v:SV):v.killZ Z= .dead∨(v.killZ Z=v∧ ∀k∈Z,v.names k=false):=by
 unfold SV.killZ
 by_cases h:Z.any (fun k=>v.names k)=true
 ·rw[if_pos h];exact .inl rfl
 ·rw[if_neg h]
  refine .inr ⟨rfl,fun k hk=>?_⟩
  cases hn:v.names k with
  |false=>rfl
  |true=>exact absurd (List.any_eq_true.2 ⟨k,hk,hn⟩) h
theorem SV.killZ_congr{Z Z':List Key}(h: ∀k,k∈Z↔k∈Z')(v:SV):v.killZ Z=v.killZ Z':=by
 unfold SV.killZ
 have:Z.any (fun k=>v.names k)=Z'.any (fun k=>v.names k):=by
  rw[Bool.eq_iff_iff]
  simp only[List.any_eq_true]
  constructor
  ·rintro⟨k,h1,h2⟩;exact⟨k,(h k).1 h1,h2⟩
  ·rintro⟨k,h1,h2⟩;exact⟨k,(h k).2 h1,h2⟩
 rw[this]
theorem Ba.killZ_nil(o:Ba):o.killZ []=o:=by
 cases o with
 |box cs=>simp only[Ba.killZ];congr 1;rw[List.map_congr_left (fun v _=>SV.killZ_nil v)];simp
 |row _ _=>rfl
 |map _ _=>rfl
theorem Ba.killZ_cons(k:Key)(Z:List Key)(o:Ba):(o.kill k).killZ Z=o.killZ (k::Z):=by
 cases o with
 |box cs=>simp only[Ba.killZ,Ba.kill,List.map_map];congr 1;exact List.map_congr_left (fun v _=>SV.killZ_cons k Z v)
 |row _ _=>rfl
 |map _ _=>rfl
theorem Ba.killZ_snoc(k:Key)(Z:List Key)(o:Ba):(o.killZ Z).kill k=o.killZ (Z++[k]):=by
 cases o with
 |box cs=>simp only[Ba.killZ,Ba.kill,List.map_map];congr 1;exact List.map_congr_left (fun v _=>SV.killZ_snoc k Z v)
 |row _ _=>rfl
 |map _ _=>rfl
theorem Xc{k:Key}{cs:List SV}(h:SV.names.namesL k cs=false){v:SV}(hv:v∈cs):v.names k=false:=by
 induction cs with
 |nil=>simp at hv
 |cons c cs ih=>
  simp only[SV.names.namesL,Bool.or_eq_false_iff] at h
  rcases List.mem_cons.1 hv with rfl|hv
  ·exact h.1
  ·exact ih h.2 hv
theorem Ba.killZ_none{Z:List Key}{o:Ba}(h: ∀k∈Z,o.names k=false):o.killZ Z=o:=by
 cases o with
 |box cs=>
  simp only[Ba.killZ];congr 1
  have:cs.map (SV.killZ Z)=cs.map (fun v=>v):=List.map_congr_left (fun v hv=>SV.killZ_none (fun k hk=>Xc (h k hk) hv))
  rw[this];simp
 |row _ _=>rfl
 |map _ _=>rfl
theorem Ba.killZ_congr{Z Z':List Key}(h: ∀k,k∈Z↔k∈Z')(o:Ba):o.killZ Z=o.killZ Z':=by
 cases o with
 |box cs=>simp only[Ba.killZ];congr 1;exact List.map_congr_left (fun v _=>SV.killZ_congr h v)
 |row _ _=>rfl
 |map _ _=>rfl
theorem Ba.killZ_sim(Z:List Key)(o:Ba):o.sim (o.killZ Z):=by cases o<;>simp[Ba.killZ,Ba.sim]
theorem Hj(Z:List Key): ∀(σ:St) (t:Nat),(σ.killAll Z).get t=(σ.get t).killZ Z:=by
 induction Z with
 |nil=>intro σ t;rw[SV.killZ_nil];rfl
 |cons k Z ih=>intro σ t;rw[show σ.killAll (k::Z)=(σ.kill k).killAll Z from rfl,ih,He,SV.killZ_cons]
theorem D2(Z:List Key): ∀(σ:St) (k:Key),(σ.killAll Z).look k=if k∈Z then none else(σ.look k).map (Ba.killZ Z):=by
 induction Z with
 |nil=>
  intro σ k
  rw[show σ.killAll []=σ from rfl]
  simp only[List.not_mem_nil,if_false]
  cases σ.look k with
  |none=>rfl
  |some o=>simp[Ba.killZ_nil]
 |cons k' Z ih=>
  intro σ k
  rw[show σ.killAll (k'::Z)=(σ.kill k').killAll Z from rfl,ih,Dx]
  by_cases e:k=k'
  ·subst e;simp
  ·by_cases e2:k∈Z
   ·simp[e2]
   ·rw[if_neg e2,if_neg e,if_neg (by simp[e,e2])]
    cases σ.look k with
    |none=>rfl
    |some o=>simp[Ba.killZ_cons]
def O5(γ:Nat→Blk):Key→Blk
 | .ext i=>γ i
 |_=>⟨none,0⟩
def O4(ext:List Ba):Key→Option Ba:=Bu (I9 0 ext)
def Gh(γ δ:Nat→Blk):Key→Blk
 | .ext i=>γ i
 | .res i=>δ i
 | .loc _ _=>⟨none,0⟩
def D1(ext rows:List (Option Ba)):Key→Option Ba
 | .ext i=>(ext[i]?).join
 | .res i=>(rows[i]?).join
 | .loc _ _=>none
structure Ss (C:Ctx) (w':World) (r:Res) (v:Value) (δ:Nat→Blk):Prop where
 size:C.w0.heap.size≤w'.heap.size
 frame: ∀b,b<C.w0.heap.size→ ¬C.lent b→w'.heap[b]? =C.w0.heap[b]?
 inj: ∀k k' o o' b,D1 r.ext r.rows k=some o→D1 r.ext r.rows k'=some o'→(Gh C.γ δ k).b=some b→(Gh C.γ δ k').b=some b→k=k'
 lo: ∀k o b,D1 r.ext r.rows k=some o→(Gh C.γ δ k).b=some b→C.w0.heap.size≤b∨C.lent b
 len:r.ext.length=C.ext.length
 exts: ∀i o,D1 r.ext r.rows (.ext i)=some o→ ∃o0,C.ext[i]? =some o0∧o0.sim o
 objs: ∀k o,D1 r.ext r.rows k=some o→Gz w' (okB C (Gh C.γ δ) (D1 r.ext r.rows) w') (Gh C.γ δ) (D1 r.ext r.rows) o (Gh C.γ δ k)
 val:Br w' (okB C (Gh C.γ δ) (D1 r.ext r.rows) w') (Gh C.γ δ) (D1 r.ext r.rows) r.v v
 quiet:C8 C.w0 w'
def Enters(P:Program)(f:FuncId):Prop:= ∃fn,P.funcs[f]? =some fn∧(fn.name=="runtime.NumGoroutine")=false∧fn.body.isNone=false
def A3(P:Program)(f:FuncId)(args:List SV)(ext:List Ba)(r:Res):Prop:=
 Enters P f∧ ∀(w:World) (vs:List Value) (γ:Nat→Blk) (ok:Nat→Prop),(∀b,ok b→b<w.heap.size∧ ∀i,i<ext.length→(γ i).b≠some b)→GOK w ok→
  (∀i j b,i<ext.length→j<ext.length→(γ i).b=some b→(γ j).b=some b→i=j)→(∀i o,ext[i]? =some o→Gz w ok (O5 γ) (O4 ext) o (γ i))→
  args.length=vs.length→(∀(j:Nat) (x:SV) (v:Value),args[j]? =some x→vs[j]? =some v→Br w ok (O5 γ) (O4 ext) x v)→
  Calls P f vs.toArray w fun e w'=> ∃v δ,e= .returned v∧Ss ⟨w,ext,γ,0,ok,[]⟩ w' r v δ
def H6(P:Program)(cl:Cv):Prop:= ∀g args ext r,cl g args ext=some r→A3 P g args ext r
section
variable {P:Program} {C:Ctx} {β:Key→Blk} {σ:St} {a:Act} {w:World} {o:Oper}
theorem Sg{ks:List Key}{k:Key}{i:Nat}(h:ks.idxOf? k=some i):ks[i]? =some k:=by
 induction ks generalizing i with
 |nil=>simp[List.idxOf?] at h
 |cons k' ks ih=>
  simp only[List.idxOf?,List.findIdx?_cons] at h ih
  by_cases e:(k'==k)=true
  ·rw[if_pos e] at h;simp at h;subst h;simp at e;subst e;rfl
  ·rw[if_neg e] at h
   simp only[Option.map_eq_some_iff] at h
   obtain⟨j,hj,rfl⟩:=h
   simpa using ih hj
theorem Ac4{ks:List Key}{k k':Key}(h:toX ks k=some k'): ∃i,k'= .ext i∧ks[i]? =some k:=by
 unfold toX at h
 simp only[Option.map_eq_some_iff] at h
 obtain⟨i,hi,rfl⟩:=h
 exact⟨i,rfl,Sg hi⟩
theorem Gt{ks:List Key}: ∀{l:List Key} {ext:List Ba},Gg σ ks l=some ext→ext.length=l.length∧ ∀(i:Nat) (k:Key),l[i]? =some k→ ∃o,σ.look k=some o∧ext[i]? =some (o.nm (toX ks))
 |[],ext,h=>by simp[Gg] at h;subst h;simp
 |k::l,ext,h=>by
  simp only[Gg] at h
  cases hk:σ.look k with
  |none=>rw[hk] at h;cases h
  |some o=>
   cases hr:Gg σ ks l with
   |none=>rw[hk,hr] at h;cases h
   |some os=>
    rw[hk,hr] at h;cases h
    obtain⟨e1,e2⟩:=Gt hr
    refine⟨by simp[e1],fun i k' hk'=>?_⟩
    cases i with
    |zero=>simp at hk';subst hk';exact⟨o,hk,rfl⟩
    |succ i=>simpa using e2 i k' (by simpa using hk')
theorem U4: ∀(ext:List Ba) (i0 i:Nat),Bu (I9 i0 ext) (.ext (i0+i))=ext[i]?
 |[],_,_=>by simp[I9,Bu]
 |y::ext,i0,i=>by
  cases i with
  |zero=>simp[I9,Bu]
  |succ i=>
   have:=U4 ext (i0+1) i
   have hne:Key.ext i0≠Key.ext (i0+(i+1)):=by intro e;injection e with e;omega
   simp only[I9,Bu,if_neg hne]
   rw[show i0+(i+1)=i0+1+i by omega]
   simpa using this
theorem Yz(ext:List Ba)(i:Nat):O4 ext (.ext i)=ext[i]? :=by
 have:=U4 ext 0 i
 simpa [O4] using this
theorem P7: ∀(ext:List Ba) (i0:Nat) (k:Key) (o:Ba),Bu (I9 i0 ext) k=some o→ ∃i,k= .ext (i0+i)∧ext[i]? =some o
 |[],_,k,o,h=>by simp[I9,Bu] at h
 |y::ext,i0,k,o,h=>by
  simp only[I9,Bu] at h
  split at h
  ·rename_i e
   simp only[Option.some.injEq] at h
   exact⟨0,e.symm,by simp[h]⟩
  ·obtain⟨i,h1,h2⟩:=P7 ext (i0+1) k o h
   exact⟨i+1,by rw[h1];congr 1;omega,by simpa using h2⟩
def Hk(β:Key→Blk)(ks:List Key)(i:Nat):Blk:=β (ks.getD i (.res 0))
theorem Ia{ks:List Key}{i:Nat}{k:Key}(h:ks[i]? =some k):Hk β ks i=β k:=by simp[Hk,List.getD,h]
theorem Zb{ks:List Key}{ext:List Ba}(hx:Gg σ ks ks=some ext){ok ok':Nat→Prop}(hok: ∀b,ok b→ok' b){x:SV}{v:Value}(h:Br w ok β σ.look x v):Br w ok' (O5 (Hk β ks)) (O4 ext) (x.nm (toX ks)) v:=by
 refine h.nm' (toX ks) (fun b _ off u hu=>hu) hok (fun k o k' _ hk hf=>?_)
 obtain⟨i,rfl,hi⟩:=Ac4 hf
 obtain⟨o',h1,h2⟩:=(Gt hx).2 i k hi
 rw[hk] at h1;cases h1
 exact⟨_,by rw[Yz];exact h2,o.nm_sim _,Ia hi⟩
theorem Zc(h:RR C β σ a w){ks:List Key}{ext:List Ba}(hx:Gg σ ks ks=some ext){i:Nat}{o':Ba}(ho:ext[i]? =some o'):Gz w (okB C β σ.look w) (O5 (Hk β ks)) (O4 ext) o' (Hk β ks i):=by
 obtain⟨e1,e2⟩:=Gt hx
 have hlt:=(List.getElem?_eq_some_iff.1 ho).1
 have hi:ks[i]? =some (ks[i]'(by omega)):=List.getElem?_eq_getElem (by omega)
 obtain⟨o,h1,h2⟩:=e2 i _ hi
 rw[ho] at h2;cases h2
 rw[Ia hi]
 refine(h.objs _ _ h1).nm' (toX ks) (fun b _ off u hu=>hu) (fun b hb=>hb) (fun _ _=>rfl) (fun k o2 k' _ hk hf=>?_)
 obtain⟨j,rfl,hj⟩:=Ac4 hf
 obtain⟨o3,h3,h4⟩:=e2 j k hj
 rw[hk] at h3;cases h3
 exact⟨_,by rw[Yz];exact h4,o2.nm_sim _,Ia hj⟩
theorem Oy{f:Key→Option Key}: ∀{ks:List Key} {ext:List (Option Ba)} {σ σ':St},Eg f σ ks ext=some σ'→ks.length=ext.length∧(∀t,σ'.get t=σ.get t)∧(∀k,k∉ks→σ'.look k=σ.look k)∧
  (ks.Nodup→ ∀(i:Nat) (k:Key),ks[i]? =some k→(ext[i]? =some none→σ'.look k=σ.look k)∧ ∀o,ext[i]? =some (some o)→σ'.look k=(σ.look k).map fun _=>o.nm f)
 |[],[],σ,σ',h=>by simp[Eg] at h;subst h;simp
 |[],_::_,_,_,h=>by simp[Eg] at h
 |_::_,[],_,_,h=>by simp[Eg] at h
 |k::ks,none::r,σ,σ',h=>by
  simp only[Eg] at h
  obtain⟨e1,e2,e3,e4⟩:=Oy h
  refine⟨by simp[e1],e2,fun k' hk'=>e3 k' (fun hm=>hk' (by simp[hm])),fun hnd i k' hk'=>?_⟩
  rw[List.nodup_cons] at hnd
  cases i with
  |zero=>simp at hk';subst hk';exact⟨fun _=>e3 k hnd.1,fun o ho=>by simp at ho⟩
  |succ i=>simpa using e4 hnd.2 i k' (by simpa using hk')
 |k::ks,some o::r,σ,σ',h=>by
  simp only[Eg] at h
  obtain⟨e1,e2,e3,e4⟩:=Oy h
  refine⟨by simp[e1],fun t=>by rw[e2];rfl,fun k' hk'=>?_,fun hnd i k' hk'=>?_⟩
  ·simp at hk'
   rw[e3 k' hk'.2,Dd,if_neg hk'.1]
  ·rw[List.nodup_cons] at hnd
   cases i with
   |zero=>
    simp at hk';subst hk'
    refine⟨fun h=>by simp at h,fun o' ho=>?_⟩
    simp at ho;subst ho
    rw[e3 k hnd.1,Dd,if_pos rfl]
   |succ i=>
    simp at hk'
    obtain⟨q1,q2⟩:=e4 hnd.2 i k' hk'
    have hne:k'≠k:=fun e=>by subst e;exact hnd.1 (List.mem_of_getElem? hk')
    rw[Dd,if_neg hne] at q1 q2
    exact⟨by simpa using q1,by simpa using q2⟩
theorem Uq: ∀{ks:List Key} {ext:List (Option Ba)} {k:Key},k∈Ea ks ext→ ∃i:Nat,ks[i]? =some k∧ext[i]? =some none
 |[],ext,k,h=>by cases ext<;>simp[Ea] at h
 |_::_,[],k,h=>by simp[Ea] at h
 |k1::ks,none::r,k,h=>by
  simp only[Ea,List.mem_cons] at h
  rcases h with rfl|h
  ·exact⟨0,rfl,rfl⟩
  ·obtain⟨i,h1,h2⟩:=Uq h
   exact⟨i+1,by simpa using h1,by simpa using h2⟩
 |k1::ks,some _::r,k,h=>by
  simp only[Ea] at h
  obtain⟨i,h1,h2⟩:=Uq h
  exact⟨i+1,by simpa using h1,by simpa using h2⟩
theorem Ta: ∀{ks:List Key} {ext:List (Option Ba)} {k:Key} {i:Nat},ks[i]? =some k→ext[i]? =some none→k∈Ea ks ext
 |[],ext,k,i,h,_=>by simp at h
 |_::_,[],k,i,_,h=>by simp at h
 |k1::ks,none::r,k,i,h1,h2=>by
  cases i with
  |zero=>simp at h1;subst h1;simp[Ea]
  |succ i=>simp only[Ea,List.mem_cons];exact .inr (Ta (by simpa using h1) (by simpa using h2))
 |k1::ks,some _::r,k,i,h1,h2=>by
  cases i with
  |zero=>simp at h2
  |succ i=>simp only[Ea];exact Ta (by simpa using h1) (by simpa using h2)
theorem M5(f:Key→Option Key)(d:Nat): ∀(rows:List (Option Ba)) (i0:Nat) (k:Key),Bu (Ko f d i0 rows) k=match k with
  | .loc d' i=>if d'=d∧i0≤i then((rows[i-i0]?).join).map (Ba.nm f) else none
  |_=>none
 |[],i0,k=>by
  cases k<;>simp[Ko,Bu]
 |none::r,i0,k=>by
  have ih:=M5 f d r (i0+1) k
  simp only[Ko,ih]
  cases k with
  |loc d' i=>
   simp only
   by_cases h2:d'=d∧i0≤i
   ·rw[if_pos h2]
    by_cases h3:i=i0
    ·subst h3;rw[if_neg (by omega)];simp
    ·rw[if_pos ⟨h2.1,by omega⟩,show i-i0=(i-(i0+1))+1 by omega,List.getElem?_cons_succ]
   ·rw[if_neg h2,if_neg (by omega)]
  |ext i=>rfl
  |res i=>rfl
 |some o::r,i0,k=>by
  have ih:=M5 f d r (i0+1) k
  simp only[Ko,Bu,ih]
  cases k with
  |loc d' i=>
   simp only[Key.loc.injEq]
   by_cases h:d=d'∧i0=i
   ·obtain⟨rfl,rfl⟩:=h
    simp
   ·rw[if_neg h]
    by_cases h2:d'=d∧i0≤i
    ·obtain⟨rfl,h2⟩:=h2
     have hne:i0≠i:=fun e=>h ⟨rfl,e⟩
     rw[if_pos ⟨rfl,by omega⟩,if_pos ⟨rfl,h2⟩]
     rw[show i-i0=(i-(i0+1))+1 by omega,List.getElem?_cons_succ]
    ·rw[if_neg (by omega),if_neg h2]
  |ext i=>simp
  |res i=>simp
theorem Lz(f:Key→Option Key)(d:Nat)(rows:List (Option Ba))(k:Key):(σ.insAll (Ko f d 0 rows)).look k=(match k with
  | .loc d' i=>if d'=d then((rows[i]?).join).map (Ba.nm f) else none
  |_=>none:Option Ba).or (σ.look k):=by
 unfold St.insAll St.look
 simp only[Fy,M5]
 cases k<;>simp
theorem RR.grow(h:RR C β σ a w){w':World}(hsz:w.heap.size≤w'.heap.size)(hq:C8 w w')(hfr: ∀b,b<w.heap.size→w'.heap[b]? =w.heap[b]?):RR C β σ a w':=by
 have hok: ∀b,okB C β σ.look w b→okB C β σ.look w' b:=fun b hb=>⟨by have:=hb.1;omega,hb.2⟩
 have hkp:Iy (okB C β σ.look w) w w':=by
  intro b hb off u hu
  simp only[World.cell?,hfr b hb.1]
  exact hu
 refine⟨h.tsz,h.dfs,h.inj,fun k o hk=>?_,h.lo,h.ext2,fun t=>?_,Nat.le_trans h.size hsz,fun b hb hx=>?_,h.quiet.trans hq,h.gw⟩
 ·exact(h.objs k o hk).mono hkp hok rfl (fun b hb=>hfr b (h.blk_lt hk hb)) (fun k2 o2 _ h2=>⟨o2,h2,o2.sim_refl,rfl⟩)
 ·exact(h.slots t).mono hkp hok (fun k2 o2 h2=>⟨o2,h2,o2.sim_refl,rfl⟩)
 ·have hs:=h.size
  rw[hfr b (by omega)];exact h.frame b hb hx
theorem L7{α:Type}{x:Option (Option α)}{o:α}(h:x.join=some o):x=some (some o):=by
 cases x with
 |none=>cases h
 |some y=>cases y with
  |none=>cases h
  |some z=>simp at h;subst h;rfl
theorem RR.back(h:RR C β σ a w){ln:List Key}{ext:List Ba}(hext:Gg σ ln ln=some ext)(hnd:ln.Nodup){w':World}{r:Res}{v:Value}{δ:Nat→Blk}{d keep:Nat}{rows':List (Option Ba)}
  (ha:Ss ⟨w,ext,Hk β ln,0,okB C β σ.look w,[]⟩ w' r v δ)(hrows:(rows'=r.rows∧r.rows.length≤keep)∨(rows'=[]∧keep=0))(hfresh: ∀i,i<keep→σ.look (.loc d i)=none)
  {σ2:St}(hb:Eg (Hi ln d keep) (σ.killAll (Ea ln r.ext)) ln r.ext=some σ2):
  ∃β',RR C β' (σ2.insAll (Ko (Hi ln d keep) d 0 rows')) a w'∧
   (∀b,okB ⟨w,ext,Hk β ln,0,okB C β σ.look w,[]⟩ (Gh (Hk β ln) δ) (D1 r.ext r.rows) w' b→okB C β' (σ2.insAll (Ko (Hi ln d keep) d 0 rows')).look w' b)∧
   (keep=0→ ∀i o b,D1 r.ext r.rows (.res i)=some o→(δ i).b=some b→okB C β' (σ2.insAll (Ko (Hi ln d keep) d 0 rows')).look w' b)∧
   ∀k o k',D1 r.ext r.rows k=some o→Hi ln d keep k=some k'→(σ2.insAll (Ko (Hi ln d keep) d 0 rows')).look k'=some (o.nm (Hi ln d keep))∧β' k'=Gh (Hk β ln) δ k:=by
 obtain⟨x1,x2⟩:=Gt hext
 obtain⟨v1,v2,v3,v4⟩:=Oy hb
 have v4:=v4 hnd
 have hrl:rows'.length≤keep:=by
  rcases hrows with⟨e,hl⟩|⟨e,hl⟩
  ·rw[e];exact hl
  ·rw[e];exact Nat.zero_le _
 generalize hf:Hi ln d keep=f at*
 generalize hτ:σ2.insAll (Ko f d 0 rows')=τ
 have hsz:=ha.size
 have hs0:=h.size
 have hsz:w.heap.size≤w'.heap.size:=hsz
 let β':Key→Blk:=fun k=>match k with
  | .loc d' i=>if d'=d∧i<keep then δ i else β k
  |_=>β k
 have bl: ∀i,i<keep→β' (.loc d i)=δ i:=fun i hi=>by simp[β',hi]
 have bo: ∀k:Key,(∀i,i<keep→k≠Key.loc d i)→β' k=β k:=by
  intro k hk
  cases k with
  |loc d' i=>
   have: ¬(d'=d∧i<keep):=fun e=>hk i e.2 (by rw[e.1])
   simp[β',this]
  |ext i=>rfl
  |res i=>rfl
 have hlive: ∀(i:Nat) (k:Key),ln[i]? =some k→ ∃o,σ.look k=some o:=fun i k hi=>by obtain⟨o,h1,_⟩:=x2 i k hi;exact⟨o,h1⟩
 have hnl: ∀(i:Nat) (k:Key),ln[i]? =some k→ ∀j,j<keep→k≠Key.loc d j:=fun i k hi j hj e=>by
  obtain⟨o,ho⟩:=hlive i k hi
  rw[e,hfresh j hj] at ho;cases ho
 have hlent: ∀b,Ctx.lent ⟨w,ext,Hk β ln,0,okB C β σ.look w,[]⟩ b→ ∃(i:Nat) (k:Key) (o:Ba),ln[i]? =some k∧σ.look k=some o∧(β k).b=some b:=by
  rintro b ⟨i,hi,he⟩
  have hi:i<ext.length:=hi
  have hk:ln[i]? =some (ln[i]'(by omega)):=List.getElem?_eq_getElem (by omega)
  obtain⟨o,ho⟩:=hlive i _ hk
  have he:(Hk β ln i).b=some b:=he
  rw[Ia hk] at he
  exact⟨i,_,o,hk,ho,he⟩
 have T1: ∀k o,τ.look k=some o→(∃K o1,D1 r.ext r.rows K=some o1∧f K=some k∧o=o1.nm f∧β' k=Gh (Hk β ln) δ K)∨
   (k∉ln∧(∀i,i<keep→k≠ .loc d i)∧ ∃o2,σ.look k=some o2∧o=o2.killZ (Ea ln r.ext)∧β' k=β k):=by
  intro k o hk
  rw[←hτ,Lz] at hk
  by_cases hm:k∈ln
  ·obtain⟨i,hi,hik⟩:=List.getElem_of_mem hm
   have hg:ln[i]? =some k:=by rw[List.getElem?_eq_getElem hi,hik]
   have hk2:σ2.look k=some o:=by
    cases k with
    |loc d' j=>
     simp only at hk
     by_cases e:d'=d
     ·subst e
      rw[if_pos rfl] at hk
      cases hr:rows'[j]? with
      |none=>rw[hr] at hk;simpa using hk
      |some q=>
       have:=(List.getElem?_eq_some_iff.1 hr).1
       exact absurd rfl (hnl i _ hg j (by omega))
     ·rw[if_neg e] at hk;simpa using hk
    |ext j=>simpa using hk
    |res j=>simpa using hk
   obtain⟨w1,w2⟩:=v4 i k hg
   have hil:i<r.ext.length:=by rw[←v1];exact hi
   cases hre:r.ext[i] with
   |none=>
    have hre':r.ext[i]? =some none:=by rw[List.getElem?_eq_getElem hil,hre]
    rw[w1 hre',D2,if_pos (Ta hg hre')] at hk2
    cases hk2
   |some o1=>
    have hre':r.ext[i]? =some (some o1):=by rw[List.getElem?_eq_getElem hil,hre]
    rw[w2 o1 hre'] at hk2
    cases hkk:(σ.killAll (Ea ln r.ext)).look k with
    |none=>rw[hkk] at hk2;cases hk2
    |some o2=>
     rw[hkk] at hk2;simp at hk2
     refine .inl ⟨.ext i,o1,by simp[D1,hre'],?_,hk2.symm,?_⟩
     ·rw[←hf];exact hg
     ·rw[bo k (hnl i k hg)];exact(Ia hg).symm
  ·by_cases hc: ∃i,i<keep∧k= .loc d i
   ·obtain⟨i,hi,rfl⟩:=hc
    simp only[if_true] at hk
    rw[v3 _ hm,D2,hfresh i hi] at hk
    have hk:((rows'[i]?).join).map (Ba.nm f)=some o:=by
     have:(if Key.loc d i∈Ea ln r.ext then none else Option.map (Ba.killZ (Ea ln r.ext)) none)=none:=by split<;>rfl
     rw[this] at hk
     simpa using hk
    simp only[Option.map_eq_some_iff] at hk
    obtain⟨o1,hj,rfl⟩:=hk
    have hkp:rows'=r.rows:=by
     rcases hrows with⟨e,_⟩|⟨e,_⟩
     ·exact e
     ·rw[e] at hj;simp at hj
    rw[hkp] at hj
    exact .inl ⟨.res i,o1,hj,by rw[←hf];simp[Hi,hi],rfl,bl i hi⟩
   ·have hne: ∀i,i<keep→k≠ .loc d i:=fun i hi e=>hc ⟨i,hi,e⟩
    have hk2:σ2.look k=some o:=by
     cases k with
     |loc d' j=>
      simp only at hk
      by_cases e:d'=d
      ·subst e
       rw[if_pos rfl] at hk
       cases hr:rows'[j]? with
       |none=>rw[hr] at hk;simpa using hk
       |some q=>
        have:=(List.getElem?_eq_some_iff.1 hr).1
        exact absurd rfl (hne j (by omega))
      ·rw[if_neg e] at hk;simpa using hk
     |ext j=>simpa using hk
     |res j=>simpa using hk
    rw[v3 k hm,D2] at hk2
    split at hk2
    ·cases hk2
    ·simp only[Option.map_eq_some_iff] at hk2
     obtain⟨o2,h1,h2⟩:=hk2
     exact .inr ⟨hm,hne,o2,h1,h2.symm,bo k hne⟩
 have T2: ∀k o k',D1 r.ext r.rows k=some o→f k=some k'→τ.look k'=some (o.nm f)∧β' k'=Gh (Hk β ln) δ k:=by
  intro k o k' hk hfk
  rw[←hf] at hfk
  cases k with
  |loc _ _=>cases hk
  |ext i=>
   simp only[Hi] at hfk
   simp only[D1] at hk
   have hre:=L7 hk
   obtain⟨o2,ho2⟩:=hlive i k' hfk
   have hng:k'∉Ea ln r.ext:=fun hm=>by
    obtain⟨j,g1,g2⟩:=Uq hm
    have hjl:j<ln.length:=(List.getElem?_eq_some_iff.1 g1).1
    have:=(List.getElem?_inj (i:=j) (j:=i) hjl hnd).1 (g1.trans hfk.symm)
    subst this
    rw[hre] at g2;cases g2
   have hl2:=(v4 i k' hfk).2 o hre
   rw[D2,if_neg hng,ho2] at hl2
   simp only[Option.map_some] at hl2
   refine⟨?_,by rw[bo k' (hnl i k' hfk)];exact(Ia hfk).symm⟩
   rw[←hτ,Lz]
   cases k' with
   |loc d' j=>
    simp only
    by_cases e:d'=d
    ·subst e
     rw[if_pos rfl]
     cases hr:rows'[j]? with
     |none=>simpa using hl2
     |some q=>
      have:=(List.getElem?_eq_some_iff.1 hr).1
      exact absurd rfl (hnl i _ hfk j (by omega))
    ·rw[if_neg e];simpa using hl2
   |ext j=>simpa using hl2
   |res j=>simpa using hl2
  |res i=>
   simp only[Hi] at hfk
   split at hfk
   ·rename_i hi
    cases hfk
    have hkp:rows'=r.rows:=by
     rcases hrows with⟨e,_⟩|⟨_,e⟩
     ·exact e
     ·omega
    refine⟨?_,bl i hi⟩
    rw[←hτ,Lz]
    simp only[D1] at hk
    simp only[if_true,hkp,hk]
    rfl
   ·cases hfk
 have hblk: ∀k o b,k∉ln→σ.look k=some o→(β k).b=some b→ ¬Ctx.lent ⟨w,ext,Hk β ln,0,okB C β σ.look w,[]⟩ b:=by
  intro k o b hm ho hb hl
  obtain⟨i,k2,o2,g1,g2,g3⟩:=hlent b hl
  have:=h.inj k k2 _ _ b ho g2 hb g3
  subst this
  exact hm (List.mem_of_getElem? g1)
 have hsome: ∀k o,σ.look k=some o→k∉Ea ln r.ext→ ∃o',τ.look k=some o'∧o.sim o'∧β' k=β k:=by
  intro k o ho hng
  have hne: ∀i,i<keep→k≠ .loc d i:=fun i hi e=>by rw[e,hfresh i hi] at ho;cases ho
  by_cases hm:k∈ln
  ·obtain⟨i,hi,hik⟩:=List.getElem_of_mem hm
   have hg:ln[i]? =some k:=by rw[List.getElem?_eq_getElem hi,hik]
   have hil:i<r.ext.length:=by rw[←v1];exact hi
   cases hre:r.ext[i] with
   |none=>exact absurd (Ta hg (by rw[List.getElem?_eq_getElem hil,hre])) hng
   |some o1=>
    have hre':r.ext[i]? =some (some o1):=by rw[List.getElem?_eq_getElem hil,hre]
    have hlk:D1 r.ext r.rows (.ext i)=some o1:=by simp[D1,hre']
    obtain⟨t1,t2⟩:=T2 (.ext i) o1 k hlk (by rw[←hf];exact hg)
    obtain⟨o0,q1,q2⟩:=ha.exts i o1 hlk
    obtain⟨o3,q3,q4⟩:=x2 i k hg
    rw[ho] at q3;cases q3
    have q1:ext[i]? =some o0:=q1
    rw[q4] at q1;cases q1
    exact⟨_,t1,Cg (o.nm_sim _) (Cg q2 (o1.nm_sim _)),bo k hne⟩
  ·refine⟨o.killZ (Ea ln r.ext),?_,o.killZ_sim _,bo k hne⟩
   have hl2:σ2.look k=some (o.killZ (Ea ln r.ext)):=by rw[v3 k hm,D2,if_neg hng,ho];rfl
   rw[←hτ,Lz]
   cases k with
   |loc d' j=>
    simp only
    by_cases e:d'=d
    ·subst e
     rw[if_pos rfl]
     cases hr:rows'[j]? with
     |none=>simpa using hl2
     |some q=>
      have:=(List.getElem?_eq_some_iff.1 hr).1
      exact absurd rfl (hne j (by omega))
    ·rw[if_neg e];simpa using hl2
   |ext j=>simpa using hl2
   |res j=>simpa using hl2
 have hokT: ∀b,b<w'.heap.size→(∀k o,τ.look k=some o→(β' k).b≠some b)→(b<w.heap.size→okB C β σ.look w b∨Ctx.lent ⟨w,ext,Hk β ln,0,okB C β σ.look w,[]⟩ b)→okB C β' τ.look w' b:=by
  intro b h1 h2 h3
  refine⟨h1,h2,fun hlt=>?_⟩
  rcases h3 (by omega) with h4|h4
  ·exact h4.2.2 hlt
  ·obtain⟨i,k,o,g1,g2,g3⟩:=hlent b h4
   rcases h.lo k o b g2 g3 with g|g
   ·omega
   ·exact .inr g
 have hokA: ∀b,okB ⟨w,ext,Hk β ln,0,okB C β σ.look w,[]⟩ (Gh (Hk β ln) δ) (D1 r.ext r.rows) w' b→okB C β' τ.look w' b:=by
  intro b hb'
  refine hokT b hb'.1 (fun k o hk e=>?_) (fun hlt=>hb'.2.2 hlt)
  rcases T1 k o hk with⟨K,o1,g1,g2,_,g3⟩|⟨hm,hne,o2,g1,_,g3⟩
  ·rw[g3] at e;exact hb'.2.1 K o1 g1 e
  ·rw[g3] at e
   have hlt:=h.blk_lt g1 e
   rcases hb'.2.2 hlt with q|q
   ·exact q.2.1 k o2 g1 e
   ·exact hblk k o2 b hm g1 e q
 have hokO: ∀b,okB C β σ.look w b→okB C β' τ.look w' b:=by
  intro b hb'
  refine hokT b (by have:=hb'.1;omega) (fun k o hk e=>?_) (fun _=> .inl hb')
  rcases T1 k o hk with⟨K,o1,g1,g2,_,g3⟩|⟨hm,hne,o2,g1,_,g3⟩
  ·rw[g3] at e
   rcases ha.lo K o1 b g1 e with q|q
   ·have q:w.heap.size≤b:=q
    have:=hb'.1;omega
   ·obtain⟨i,k2,o2,q1,q2,q3⟩:=hlent b q
    exact hb'.2.1 k2 o2 q2 q3
  ·rw[g3] at e;exact hb'.2.1 k o2 g1 e
 have hkp:Iy (okB C β σ.look w) w w':=by
  intro b hb' off u hu
  have:w'.heap[b]? =w.heap[b]? :=ha.frame b hb'.1 (fun hl=>by
   obtain⟨i,k,o,g1,g2,g3⟩:=hlent b hl
   exact hb'.2.1 k o g2 g3)
  simp only[World.cell?,this]
  exact hu
 have mono: ∀{x:SV} {v:Value},Br w (okB C β σ.look w) β σ.look x v→Br w' (okB C β' τ.look w') β' τ.look (x.killZ (Ea ln r.ext)) v:=by
  intro x v hx
  rcases Aax (Ea ln r.ext) x with e|⟨e,hn⟩
  ·rw[e];exact .dead v
  ·rw[e]
   exact hx.mono' hkp hokO (fun k o hk hl=>hsome k o hl (fun hm=>by rw[hn k hm] at hk;cases hk))
 have hget: ∀t,τ.get t=(σ.get t).killZ (Ea ln r.ext):=fun t=>by rw[←hτ,Fz,v2,Hj]
 refine⟨β',⟨h.tsz,h.dfs,?_,?_,?_,?_,fun t=>by rw[hget];exact mono (h.slots t),Nat.le_trans h.size hsz,?_,h.quiet.trans ha.quiet,h.gw⟩,hokA,?_,T2⟩
 ·intro k1 k2 o1 o2 b h1 h2 e1 e2
  rcases T1 k1 o1 h1 with⟨K1,p1,g1,g2,_,g3⟩|⟨hm1,hn1,p1,g1,_,g3⟩<;>rcases T1 k2 o2 h2 with⟨K2,p2,q1,q2,_,q3⟩|⟨hm2,hn2,p2,q1,_,q3⟩
  ·rw[g3] at e1;rw[q3] at e2
   have:=ha.inj K1 K2 _ _ b g1 q1 e1 e2
   subst this
   rw[g2] at q2;cases q2;rfl
  ·rw[g3] at e1;rw[q3] at e2
   exfalso
   rcases ha.lo K1 p1 b g1 e1 with q|q
   ·have q:w.heap.size≤b:=q
    have:=h.blk_lt q1 e2;omega
   ·exact hblk k2 p2 b hm2 q1 e2 q
  ·rw[g3] at e1;rw[q3] at e2
   exfalso
   rcases ha.lo K2 p2 b q1 e2 with q|q
   ·have q:w.heap.size≤b:=q
    have:=h.blk_lt g1 e1;omega
   ·exact hblk k1 p1 b hm1 g1 e1 q
  ·rw[g3] at e1;rw[q3] at e2
   exact h.inj k1 k2 _ _ b g1 q1 e1 e2
 ·intro k o hk
  rcases T1 k o hk with⟨K,o1,g1,g2,rfl,g3⟩|⟨hm,hne,o2,g1,rfl,g3⟩
  ·rw[g3]
   refine(ha.objs K o1 g1).nm' f (fun b _ off u hu=>hu) hokA (fun _ _=>rfl) (fun k2 o2 k2' _ h2 hf2=>?_)
   obtain⟨t1,t2⟩:=T2 k2 o2 k2' h2 hf2
   exact⟨_,t1,o2.nm_sim _,t2⟩
  ·rw[g3]
   have hfr: ∀b,(β k).b=some b→w'.heap[b]? =w.heap[b]? :=fun b hb=>ha.frame b (h.blk_lt g1 hb) (hblk k o2 b hm g1 hb)
   have:=h.objs k o2 g1
   cases o2 with
   |box cs=>
    obtain⟨b,arr,T,e0,e1,e2,e3,e4⟩:=this
    refine⟨b,arr,T,e0,(hfr b e0).trans e1,by simpa using e2,e3,fun j x u hx hu=>?_⟩
    simp only[List.getElem?_map,Option.map_eq_some_iff] at hx
    obtain⟨x2,hx',rfl⟩:=hx
    exact mono (e4 j x2 u hx' hu)
   |row sz xs=>
    rcases this with hb'|⟨b,arr,T,e0,e1,e2,e3,e4,e5⟩
    ·exact .inl hb'
    ·refine .inr ⟨b,arr,T,e0,(hfr b e0).trans e1,e2,e3,e4,fun i j x y hx hy=>?_⟩
     obtain⟨u,hu,hl⟩:=e5 i j x y hx hy
     exact⟨u,hu,hl.mono hkp hokO⟩
   |map kk es=>
    obtain⟨b,ents,clock,e0,e1,e2⟩:=this
    exact⟨b,ents,clock,e0,(hfr b e0).trans e1,e2.mono hkp hokO⟩
 ·intro k o b hk hx
  have fin: ∀K o1,D1 r.ext r.rows K=some o1→(Gh (Hk β ln) δ K).b=some b→C.w0.heap.size≤b∨C.lent b:=by
   intro K o1 g1 g2
   rcases ha.lo K o1 b g1 g2 with q|q
   ·have q:w.heap.size≤b:=q
    exact .inl (by omega)
   ·obtain⟨i,k2,o2,q1,q2,q3⟩:=hlent b q
    exact h.lo k2 o2 b q2 q3
  rcases T1 k o hk with⟨K,o1,g1,g2,_,g3⟩|⟨hm,hne,o2,g1,_,g3⟩
  ·rw[g3] at hx;exact fin K o1 g1 hx
  ·rw[g3] at hx;exact h.lo k o2 b g1 hx
 ·intro i o hk
  rcases T1 _ o hk with⟨K,o1,g1,g2,rfl,g3⟩|⟨hm,hne,o2,g1,rfl,g3⟩
  ·rw[←hf] at g2
   cases K with
   |loc _ _=>cases g2
   |res j=>simp only[Hi] at g2;split at g2<;>cases g2
   |ext j=>
    simp only[Hi] at g2
    obtain⟨o3,ho3⟩:=hlive j _ g2
    obtain⟨o0,q1,q2,q3⟩:=h.ext2 i o3 ho3
    obtain⟨o0',q4,q5⟩:=ha.exts j o1 g1
    obtain⟨o4,q6,q7⟩:=x2 j _ g2
    rw[ho3] at q6;cases q6
    have q4:ext[j]? =some o0':=q4
    rw[q7] at q4;cases q4
    exact⟨o0,q1,Cg q2 (Cg (o3.nm_sim _) (Cg q5 (o1.nm_sim _))),(bo (Key.ext i) (fun _ _ e=>by cases e)).trans q3⟩
  ·obtain⟨o0,q1,q2,q3⟩:=h.ext2 i o2 g1
   exact⟨o0,q1,Cg q2 (o2.killZ_sim _),by rw[g3];exact q3⟩
 ·intro b hb' hx
  have hs:=h.size
  have:w'.heap[b]? =w.heap[b]? :=ha.frame b (by show b<w.heap.size;omega) (fun hl=>by
   obtain⟨i,k,o,g1,g2,g3⟩:=hlent b hl
   rcases h.lo k o b g2 g3 with q|q
   ·omega
   ·exact hx q)
  rw[this];exact h.frame b hb' hx
 ·intro hk0 i o b hres hδ
  have hlt:b<w'.heap.size:=(ha.objs _ _ hres).lt hδ
  refine hokT b hlt (fun k o' hk e=>?_) (fun hlt'=>?_)
  ·rcases T1 k o' hk with⟨K,o1,g1,g2,_,g3⟩|⟨hm,hne,o2,g1,_,g3⟩
   ·rw[g3] at e
    have:=ha.inj K (.res i) _ _ b g1 hres e hδ
    subst this
    rw[←hf] at g2
    simp only[Hi] at g2
    split at g2
    ·omega
    ·cases g2
   ·rw[g3] at e
    rcases ha.lo _ _ b hres hδ with q|q
    ·have q:w.heap.size≤b:=q
     have:=h.blk_lt g1 e;omega
    ·exact hblk k o2 b hm g1 e q
  ·rcases ha.lo _ _ b hres hδ with q|q
   ·have q:w.heap.size≤b:=q
    omega
   ·exact .inr q
theorem Qm{ok ok':Nat→Prop}{w':World}{x:PV}{v:Value}(h:Cn w ok x v):x.scalar=true→Cn w' ok' x v:=by
 induction h with
 |int k n=>intro _;exact .int k n
 |bool b=>intro _;exact .bool b
 |str s=>intro _;exact .str s
 |fn f=>intro _;exact .fn f
 |nilFn=>intro _;exact .nilFn
 |yld l=>intro _;exact .yld l
 |hdl t b u=>intro _;exact .hdl t b u
 |nilI=>intro _;exact .nilI
 |iface t x v _ ih=>intro hs;exact .iface t x v (ih (by simpa [PV.scalar] using hs))
 |agg cs us hl h1 _ ih=>
  intro hs
  simp only[PV.scalar] at hs
  exact .agg cs us hl h1 (fun j x u hx hu=>ih j x u hx hu (scal hs (List.mem_of_getElem? hx)))
 |slice xs a n c sz us hn hc hsz h1 hat hp _ _=>
  intro hs
  cases xs with
  |cons _ _=>simp[PV.scalar] at hs
  |nil=>
   simp at hn;subst hn
   exact .slice [] a 0 c sz us rfl hc (by simp) (by simp) (by intro i j hi;omega) (by omega) (by simp)
where
 scal {cs:List PV} {x:PV} (h:PV.scalar.scalarL cs=true) (hx:x∈cs):x.scalar=true:=by
  induction cs with
  |nil=>simp at hx
  |cons c cs ih=>
   simp only[PV.scalar.scalarL,Bool.and_eq_true] at h
   simp at hx
   rcases hx with rfl|hx
   ·exact h.1
   ·exact ih h.2 hx
theorem Tu{ok ok':Nat→Prop}{w':World}{β β':Key→Blk}{lk lk':Key→Option Ba}{x:SV}{v:Value}(h:Br w ok β lk x v):x.scalar=true→Br w' ok' β' lk' x v:=by
 induction h with
 |pv x v h=>intro hs;exact .pv _ _ (Qm h (by simpa [SV.scalar] using hs))
 |nils=>intro _;exact .nils _
 |tup cs us hl _ ih=>intro hs;exact .tup cs us hl (fun j x u hx hu=>ih j x u hx hu (scal (by simpa [SV.scalar] using hs) (List.mem_of_getElem? hx)))
 |ptr k off cs b hk hb=>intro hs;simp[SV.scalar] at hs
 |own k sz xs b hk hb=>intro hs;simp[SV.scalar] at hs
 |ownN k sz ad hk hb=>intro hs;simp[SV.scalar] at hs
 |mp k kk es b hk hb=>intro hs;simp[SV.scalar] at hs
 |iown k i off sz xs b hk hb hi=>intro hs;simp[SV.scalar] at hs
 |ipv x off b o us hb h1 hat h=>intro hs;simp[SV.scalar] at hs
 |agg cs us hl _ h1 _=>intro hs;simp[SV.scalar] at hs
 |fn f cs us hl _ _=>intro hs;simp[SV.scalar] at hs
 |dead v=>intro hs;simp[SV.scalar] at hs
where
 scal {cs:List SV} {x:SV} (h:SV.scalar.scalarT cs=true) (hx:x∈cs):x.scalar=true:=by
  induction cs with
  |nil=>simp at hx
  |cons c cs ih=>
   simp only[SV.scalar.scalarT,Bool.and_eq_true] at h
   simp at hx
   rcases hx with rfl|hx
   ·exact h.1
   ·exact ih h.2 hx
theorem Sf{rows:List (Option Ba)}: ∀{cs cs':List SV},SV.flatR.flatL rows cs=some cs'→cs'.length=cs.length∧ ∀(j:Nat) (x:SV),cs'[j]? =some x→ ∃y,cs[j]? =some y∧y.flatR rows=some x
 |[],cs',h=>by simp[SV.flatR.flatL] at h;subst h;simp
 |c::cs,cs',h=>by
  simp only[SV.flatR.flatL] at h
  cases h1:c.flatR rows with
  |none=>rw[h1] at h;cases h
  |some c1=>
   cases h2:SV.flatR.flatL rows cs with
   |none=>rw[h1,h2] at h;cases h
   |some c2=>
    rw[h1,h2] at h;cases h
    obtain⟨e1,e2⟩:=Sf h2
    refine⟨by simp[e1],fun j x hx=>?_⟩
    cases j with
    |zero=>simp at hx;subst hx;exact⟨c,rfl,h1⟩
    |succ j=>simpa using e2 j x (by simpa using hx)
theorem Y6{w':World}{ok ok':Nat→Prop}{γ δ:Nat→Blk}{ext rows:List (Option Ba)}{β':Key→Blk}{lk':Key→Option Ba}(hok: ∀b,ok b→ok' b)(hδ: ∀i o b,D1 ext rows (.res i)=some o→(δ i).b=some b→ok' b)
  (hrows: ∀i o,D1 ext rows (.res i)=some o→Gz w' ok (Gh γ δ) (D1 ext rows) o (δ i)){x:SV}{v:Value}(h:Br w' ok (Gh γ δ) (D1 ext rows) x v): ∀y,x.flatR rows=some y→Br w' ok' β' lk' y v:=by
 induction h with
 |pv x v h=>intro y hy;simp[SV.flatR] at hy;subst hy;exact .pv _ _ (h.mono (fun b _ off u hu=>hu) hok)
 |nils=>intro y hy;simp[SV.flatR] at hy;subst hy;exact .pv _ _ (Qi _)
 |ptr k off cs b hk hb=>intro y hy;simp[SV.flatR] at hy
 |own k sz xs b hk hb=>
  intro y hy
  cases k with
  |loc d i=>cases hk
  |ext i=>simp[SV.flatR] at hy
  |res i=>
   have hk':=hk
   simp only[D1] at hk
   have hp:=L7 hk
   simp only[SV.flatR,hp,Option.some.injEq] at hy
   subst hy
   exact .pv _ _ (Xk (hrows i _ hk') hok hb (hδ i _ b hk' hb))
 |ownN k sz ad hk hb=>
  intro y hy
  cases k with
  |loc d i=>cases hk
  |ext i=>simp[SV.flatR] at hy
  |res i=>
   simp only[D1] at hk
   have hp:=L7 hk
   simp only[SV.flatR,hp,Option.some.injEq] at hy
   subst hy
   exact .pv _ _ (Qi _)
 |mp k kk es b hk hb=>intro y hy;simp[SV.flatR] at hy
 |iown k i off sz xs b hk hb hi=>intro y hy;simp[SV.flatR] at hy
 |ipv x off b o us hb h1 hat h=>intro y hy;simp[SV.flatR] at hy
 |agg cs us hl _ h1 ih=>
  intro y hy
  simp only[SV.flatR] at hy
  cases hf:SV.flatR.flatL rows cs with
  |none=>rw[hf] at hy;cases hy
  |some cs'=>
   rw[hf] at hy
   simp only at hy
   obtain⟨e1,e2⟩:=Sf hf
   obtain⟨u,hu,hs⟩:=Jh (w:=w') (ok:=ok') (β:=β') (lk:=lk') (us:=us) hy ⟨by rw[e1,hl],h1,fun j x u hx hu=>by obtain⟨z,hz,hzx⟩:=e2 j x hx;exact ih j z u hz hu x hzx⟩
   simp only[Mo,cond_true,Option.some.injEq] at hu
   subst hu
   exact hs
 |tup cs us hl _ ih=>
  intro y hy
  simp only[SV.flatR,Option.map_eq_some_iff] at hy
  obtain⟨cs',hf,rfl⟩:=hy
  obtain⟨e1,e2⟩:=Sf hf
  exact .tup cs' us (by rw[e1,hl]) (fun j x u hx hu=>by obtain⟨z,hz,hzx⟩:=e2 j x hx;exact ih j z u hz hu x hzx)
 |fn f cs us hl _ ih=>intro y hy;simp[SV.flatR] at hy
 |dead v=>intro y hy;simp[SV.flatR] at hy
theorem RR.took(h:RR C β σ a w){ln:List Key}{ext:List Ba}(hext:Gg σ ln ln=some ext)(hnd:ln.Nodup){w':World}{r:Res}{v:Value}{δ:Nat→Blk}{d keep:Nat}{e:Eff}
  (ha:Ss ⟨w,ext,Hk β ln,0,okB C β σ.look w,[]⟩ w' r v δ)(ht:Av.took ln d keep r=some e)(hfresh: ∀i,i<keep→σ.look (.loc d i)=none)
  {σ2:St}(hb:Eg (Hi ln d keep) (σ.killAll (Ea ln r.ext)) ln r.ext=some σ2): ∃β',RR C β' (σ2.insAll e.ins) a w'∧Br w' (okB C β' (σ2.insAll e.ins).look w') β' (σ2.insAll e.ins).look e.v v:=by
 simp only[Av.took] at ht
 by_cases hk:(keep==0)=true
 ·rw[hk] at ht
  simp only[cond_true,Option.map_eq_some_iff] at ht
  obtain⟨y,hy,rfl⟩:=ht
  have hk0:keep=0:=by simpa using hk
  obtain⟨β',h',hok,hδ,_⟩:=h.back hext hnd ha (rows':=[]) (.inr ⟨rfl,hk0⟩) hfresh hb
  exact⟨β',h',Y6 hok (fun i o b h1 h2=>hδ hk0 i o b h1 h2) (fun i o ho=>ha.objs _ _ ho) ha.val y hy⟩
 ·simp only[Bool.not_eq_true] at hk
  rw[hk] at ht
  simp only[cond_false] at ht
  cases hle:decide (r.rows.length≤keep) with
  |false=>rw[hle] at ht;cases ht
  |true=>
   rw[hle] at ht
   simp only[cond_true,Option.some.injEq] at ht
   subst ht
   obtain⟨β',h',hok,_,hT⟩:=h.back hext hnd ha (rows':=r.rows) (.inl ⟨rfl,by simpa using hle⟩) hfresh hb
   refine⟨β',h',ha.val.nm' _ (fun b _ off u hu=>hu) hok (fun k o k' _ hk hf=>?_)⟩
   obtain⟨t1,t2⟩:=hT k o k' hk hf
   exact⟨_,t1,o.nm_sim _,t2⟩
end
end Go.Av
end
section
set_option linter.unusedVariables false
set_option linter.unusedSimpArgs false
namespace Go.Av
section
variable {P:Program} {C:Ctx} {β:Key→Blk} {σ:St} {a:Act} {w:World} {o:Oper}
theorem Zs{ok:Nat→Prop}{lk:Key→Option Ba}{f':Opd}{g:FuncId}{caps:List SV}(ht:σ.target f'=some (g,caps)){v:Value}(hx:Br w ok β lk (σ.ev f') v):
  ∃us:List Value,v= .func (.func g) #[] us.toArray∧caps.length=us.length∧ ∀(j:Nat) (x:SV) (u:Value),caps[j]? =some x→us[j]? =some u→Br w ok β lk x u:=by
 unfold St.target at ht
 generalize σ.ev f'=x at ht hx
 cases x with
 |pv p=>
  cases p with
  |fn f=>
   simp only[Option.some.injEq,Prod.mk.injEq] at ht
   obtain⟨rfl,rfl⟩:=ht
   have:=Cl hx
   cases this
   exact⟨[],rfl,rfl,by simp⟩
  |_=>cases ht
 |fn f cs=>
  simp only[Option.some.injEq,Prod.mk.injEq] at ht
  obtain⟨rfl,rfl⟩:=ht
  cases hx with
  |fn _ _ us hl hs=>exact⟨us,rfl,hl,hs⟩
 |_=>cases ht
theorem Ts{c:Call}{fo:Operand}{g:FuncId}{us:List Value}(ho:o.op= .call c)(hc:c.callee= .value fo)(hf:a.eval fo= .func (.func g) #[] us.toArray)(hE:Enters P g):
  (execOp a.eval o).run P w= .ok (.enter g (c.args.toList.map a.eval++us).toArray) w:=by
 obtain⟨fn,h1,h2,h3⟩:=hE
 have e:(c.args.toList.map a.eval++us).toArray=c.args.map a.eval++us.toArray:=by
  apply Array.ext'
  simp
 rw[e]
 simp only[execOp,ho,Sem.run_bind,resolve,hc,hf,Deferred.ofValue,Sem.run_pure,Result.andThen_ok,invoke,callFunc,run_program,h1,h2,h3,Bool.false_eq_true,if_false,Array.empty_append]
theorem Wh(h:RR C β σ a w){c:Call}{fo:Operand}{f':Opd}{args':List Opd}{g:FuncId}{caps:List SV}(hf:Bi fo f'=true)(ha:Dk Bi c.args.toList args'=true)(ht:σ.target f'=some (g,caps)):
  ∃us:List Value,a.eval fo= .func (.func g) #[] us.toArray∧(args'.map σ.ev++caps).length=(c.args.toList.map a.eval++us).length∧
   ∀(j:Nat) (x:SV) (v:Value),(args'.map σ.ev++caps)[j]? =some x→(c.args.toList.map a.eval++us)[j]? =some v→Br w (okB C β σ.look w) β σ.look x v:=by
 obtain⟨us,h1,h2,h3⟩:=Zs ht (h.ev hf)
 obtain⟨e1,e2⟩:=h.evs ha
 refine⟨us,h1,by simp only[List.length_append,e1,h2],fun j x v hx hv=>?_⟩
 rw[List.getElem?_append] at hx hv
 rw[←e1] at hv
 split at hx
 ·rename_i hlt;rw[if_pos hlt] at hv;exact e2 j x v hx hv
 ·rename_i hlt;rw[if_neg hlt] at hv;exact h3 _ x v hx hv
theorem Alb{x:SV}: ∀(f:Key→Option Key),x.bare=true→x.nm f=x:=by
 intro f
 have gen: ∀x:SV,x.bare=true→x.nm f=x:=fun x=>SV.rec (motive_1:=fun x=>x.bare=true→x.nm f=x) (motive_2:=fun cs=>SV.bare.bareL cs=true→SV.nm.nmL f cs=cs)
  (fun _ _=>rfl) (fun _=>rfl) (fun _ _ h=>by simp[SV.bare] at h) (fun _ h=>by simp[SV.bare] at h) (fun _ h=>by simp[SV.bare] at h) (fun _ _ _ h=>by simp[SV.bare] at h) (fun _ _ _=>rfl)
  (fun cs ih h=>by simp only[SV.nm];rw[ih (by simpa [SV.bare] using h)]) (fun cs ih h=>by simp only[SV.nm];rw[ih (by simpa [SV.bare] using h)]) (fun g cs ih h=>by simp only[SV.nm];rw[ih (by simpa [SV.bare] using h)]) (fun _=>rfl)
  (fun _=>rfl) (fun c cs ih1 ih2 h=>by simp only[SV.bare.bareL,Bool.and_eq_true] at h;simp only[SV.nm.nmL];rw[ih1 h.1,ih2 h.2]) x
 exact gen x
theorem Ma{ok:Nat→Prop}{lk:Key→Option Ba}{x:SV}{v:Value}(hx:Br w ok β lk x v):Br w ok β lk x.tidy v:=by
 unfold SV.tidy
 split
 ·rename_i p hp;exact .pv _ _ (Ws hx p hp)
 ·exact hx
theorem Ae2{m:Nat}{ok:Nat→Prop}{lk:Key→Option Ba}{x:SV}{v:Value}(hx:Br w ok β lk x v):Br w ok β lk (Zt m x) v:=by
 unfold Zt
 cases hm:(m==2) with
 |true=>exact Ma hx
 |false=>exact hx
theorem Aha(h:RR C β σ a w){x:SV}{v:Value}(hx:Br w (okB C β σ.look w) β σ.look x v):Br w (okP w) β σ.look (σ.seen x) v:=by
 unfold St.seen
 split
 ·rename_i p hp;exact .pv _ _ (Agt h hx p hp)
 ·exact(Ma hx).mono (fun b _ off u hu=>hu) Aaj (fun k o hk=>⟨o,hk,o.sim_refl,rfl⟩)
theorem Uj{ok:Nat→Prop}{lk lk':Key→Option Ba}{β':Key→Blk}{x:SV}{v:Value}(hx:Br w ok β lk x v)(hb:x.bare=true):Br w ok β' lk' x v:=by
 have:=hx.nm' (lk':=lk') (β':=β') (fun _=>none) (fun b _ off u hu=>hu) (fun b hb=>hb) (fun k o k' _ _ e=>by cases e)
 rwa [Alb _ hb] at this
theorem Ve{cl:Cv}(hS:H6 P cl)(h:RR C β σ a w)(hd: ∀i,o.dst=some i→i<C.nt){c:Call}{fo:Operand}{f':Opd}{args':List Opd}{g:FuncId}{caps:List SV}(ho:o.op= .call c)(hc:c.callee= .value fo)
  (hf:Bi fo f'=true)(ha:Dk Bi c.args.toList args'=true)(ht:σ.target f'=some (g,caps))(tr:SV→SV){okX:Nat→Prop}(htr: ∀x v,Br w (okB C β σ.look w) β σ.look x v→Br w okX β σ.look (tr x) v)(hlt: ∀b,okX b→b<w.heap.size)(hG:GOK w okX)
  (hbare:((args'.map σ.ev++caps).map tr).all SV.bare=true){r:Res}(hr:cl g ((args'.map σ.ev++caps).map tr) []=some r)(hok:(okX=okB C β σ.look w)∨(r.v.scalar=true∧r.rows=[])){d keep:Nat}{e:Eff}(htook:took [] d keep r=some e)
  (hfresh: ∀i,i<keep→σ.look (.loc d i)=none):Bv P C ((σ.insAll e.ins).put o.dst e.v) o a w:=by
 obtain⟨us,hfe,hlen,hargs⟩:=Wh h hf ha ht
 obtain⟨hE,hcon⟩:=hS g _ [] r hr
 have hcall:=hcon w (c.args.toList.map a.eval++us) (Hk β []) okX (fun b hb=>⟨hlt b hb,by intro i hi;simp at hi⟩) hG (by intro i j b hi;simp at hi) (by intro i xs hx;simp at hx) (by rw[List.length_map,hlen])
  (fun j x v hx hv=>by
   have hbx:=List.all_eq_true.1 hbare x (List.mem_of_getElem? hx)
   simp only[List.getElem?_map,Option.map_eq_some_iff] at hx
   obtain⟨y,hy,rfl⟩:=hx
   exact Uj (htr y v (hargs j y v hy hv)) hbx)
 intro K hK Q
 unfold Oper.wp
 rw[Ts ho hc hfe hE,Oper.upon_enter]
 refine hcall.mono fun en w' hen=>?_
 obtain⟨v,δ,rfl,haft⟩:=hen
 have hx0:r.ext=[]:=List.eq_nil_of_length_eq_zero haft.len
 rcases hok with rfl|⟨hs,hr0⟩
 ·obtain⟨β',h',hs⟩:=h.took (ln:=[]) (ext:=[]) rfl (by simp) haft htook hfresh (σ2:=σ) (by rw[hx0];rfl)
  exact hK β' _ _ (h'.put o.dst e.v v hd hs)
 ·have h':=h.grow haft.size haft.quiet (fun b hb=>haft.frame b hb (by rintro⟨i,hi,_⟩;simp at hi))
  have hv:Br w' (fun _=>False) (fun _=>⟨none,0⟩) (fun _=>none) r.v v:=Tu haft.val hs
  have:e.ins=[]∧Br w' (okB C β σ.look w') β σ.look e.v v:=by
   simp only[Av.took] at htook
   by_cases hk:(keep==0)=true
   ·rw[hk] at htook
    simp only[cond_true,Option.map_eq_some_iff] at htook
    obtain⟨y,hy,rfl⟩:=htook
    refine⟨rfl,?_⟩
    have h0:Br w' (fun _=>False) (Gh (fun _=>⟨none,0⟩) (fun _=>⟨none,0⟩)) (D1 [] r.rows) r.v v:=Tu haft.val hs
    exact Y6 (fun b hb=>hb.elim) (fun i o b ho hb=>by simp[D1,hr0] at ho) (fun i o ho=>by simp[D1,hr0] at ho) h0 y hy
   ·simp only[Bool.not_eq_true] at hk
    rw[hk] at htook
    simp only[cond_false] at htook
    cases hle:decide (r.rows.length≤keep) with
    |false=>rw[hle] at htook;cases htook
    |true=>
     rw[hle] at htook
     simp only[cond_true,Option.some.injEq] at htook
     subst htook
     refine⟨by rw[hr0];rfl,?_⟩
     exact hv.nm' _ (fun b _ off u hu=>hu) (fun b hb=>hb.elim) (fun k o k' _ hk _=>by cases hk)
  refine hK β _ _ ?_
  rw[this.1]
  exact h'.put o.dst e.v v hd this.2
theorem Tj(k:Key)(x:PV)(l:List (Key×Ba))(k':Key):
  Bu ((l.filter fun p=>decide (p.1≠k)).map fun p=>(p.1,p.2.freeze k x)) k'=if k'=k then none else(Bu l k').map (Ba.freeze k x):=W8 (Ba.freeze k x) k l k'
theorem Ls(k:Key)(x:PV): ∀(cs:List SV),(SV.freeze.freezeL k x cs).length=cs.length∧ ∀(j:Nat) (y:SV),(SV.freeze.freezeL k x cs)[j]? =some y→ ∃z,cs[j]? =some z∧y=z.freeze k x
 |[]=>by simp[SV.freeze.freezeL]
 |c::cs=>by
  obtain⟨h1,h2⟩:=Ls k x cs
  refine⟨by simp[SV.freeze.freezeL,h1],fun j y hy=>?_⟩
  cases j with
  |zero=>simp[SV.freeze.freezeL] at hy;exact⟨c,rfl,hy.symm⟩
  |succ j=>simp[SV.freeze.freezeL] at hy;simpa using h2 j y hy
theorem Cn.one_of{w:World}{ok:Nat→Prop}{x:PV}{v:Value}(h:Cn w ok x v)(h1:v.oneCell'=true):x.one=true:=by
 cases h<;>first|rfl|(simp[Value.oneCell'] at h1)
theorem RR.freeze(h:RR C β σ a w)(k:Key):RR C β (σ.freeze k) a w:=by
 unfold St.freeze
 cases hk:σ.look k with
 |none=>exact h
 |some o=>
  cases hz:o.frozen with
  |none=>simp only[Option.bind_some,hz];exact h
  |some x=>
   simp only[Option.bind_some,hz]
   generalize hσ:({sl:=σ.sl.map fun p=>(p.1,p.2.freeze k x),hp:=(σ.hp.filter fun p=>decide (p.1≠k)).map fun p=>(p.1,p.2.freeze k x)}:St)=σ'
   have hlook: ∀k',σ'.look k'=if k'=k then none else(σ.look k').map (Ba.freeze k x):=fun k'=>by
    rw[←hσ];exact Tj k x σ.hp k'
   have hget: ∀t,σ'.get t=(σ.get t).freeze k x:=fun t=>by
    rw[←hσ];exact Abr (SV.freeze k x) rfl σ.sl t
   have hsome: ∀k' o',σ'.look k'=some o'→k'≠k∧ ∃o2,σ.look k'=some o2∧o'=o2.freeze k x:=fun k' o' ho=>by
    rw[hlook] at ho
    by_cases e:k'=k
    ·simp[e] at ho
    ·simp only[e,if_false,Option.map_eq_some_iff] at ho
     obtain⟨o2,h1,h2⟩:=ho
     exact⟨e,o2,h1,h2.symm⟩
   have hok: ∀b,okB C β σ.look w b→okB C β σ'.look w b:=fun b hb=>
    ⟨hb.1,fun k' o' ho=>by obtain⟨_,o2,h1,_⟩:=hsome k' o' ho;exact hb.2.1 k' o2 h1,hb.2.2⟩
   have hkb: ∀b,(β k).b=some b→okB C β σ'.look w b:=fun b hb=>⟨h.blk_lt hk hb,fun k' o' ho e=>by
    obtain⟨hne,o2,h1,_⟩:=hsome k' o' ho
    exact hne (h.inj k' k _ _ b h1 hk e hb),fun hlt=>by
     rcases h.lo k _ b hk hb with q|q
     ·omega
     ·exact .inr q⟩
   have hsim: ∀o2:Ba,o2.sim (o2.freeze k x):=fun o2=>by cases o2<;>simp[Ba.freeze,Ba.sim]
   have hl: ∀k' o',k'≠k→σ.look k'=some o'→σ'.look k'=some (o'.freeze k x):=fun k' o' hne ho=>by rw[hlook,if_neg hne,ho];rfl
   have mono: ∀{x0:SV} {v:Value},Br w (okB C β σ.look w) β σ.look x0 v→Br w (okB C β σ'.look w) β σ'.look (x0.freeze k x) v:=by
    intro x0 v hx
    induction hx with
    |pv x1 v h=>exact .pv _ _ (h.mono (fun b _ off u hu=>hu) hok)
    |nils=>exact .nils _
    |ptr k' off cs b hk' hb=>
     simp only[SV.freeze]
     by_cases e:k'=k
     ·subst e
      rw[hk] at hk';cases hk'
      rw[if_pos rfl]
      simp only[Ba.frozen,Option.map_eq_some_iff] at hz
      obtain⟨ys,hys,rfl⟩:=hz
      obtain⟨b2,arr,T,e0,e1,e2,e3,e4⟩:=h.objs k' _ hk
      rw[hb] at e0;cases e0
      obtain⟨p1,p2⟩:=Ur (us:=arr.toList) hys ⟨by simpa using e2.symm,fun u hu=>e3 u (by simpa using hu),fun j y u hy hu=>e4 j y u hy (by simpa using hu)⟩
      have hat: ∀j,j<ys.length→arr[j]? =some ((arr[j]?).getD default):=fun j hj=>by
       have:j<arr.size:=by rw[p1] at hj;simpa using hj
       rw[Array.getElem?_eq_getElem this];rfl
      have:=Br.ipv (w:=w) (ok:=okB C β σ'.look w) (β:=β) (lk:=σ'.look) (.agg ys) off b 0 (fun j=>(arr[j]?).getD default) (hkb b hb) (fun y hy=>?_) (fun j hj=>?_) (fun j y hy=>?_)
      ·simpa using this
      ·obtain⟨j,hj,rfl⟩:=List.getElem_of_mem hy
       have hj':j<ys.length:=hj
       have hL:=p2 j _ _ (List.getElem?_eq_getElem hj') (by rw[Array.getElem?_toList];exact hat j hj')
       refine hL.one_of (e3 _ ?_)
       exact Array.mem_of_getElem? (hat j hj')
      ·have hj':j<ys.length:=hj
       simp only[World.cell?,e1]
       simpa using hat j hj'
      ·have hy:ys[j]? =some y:=hy
       have hj':=(List.getElem?_eq_some_iff.1 hy).1
       exact(p2 j y _ hy (by rw[Array.getElem?_toList];exact hat j hj')).mono (fun b _ off u hu=>hu) hok
     ·rw[if_neg e]
      exact .ptr k' off _ b (hl k' _ e hk') hb
    |own k' sz' xs' b hk' hb=>
     simp only[SV.freeze]
     by_cases e:k'=k
     ·subst e
      rw[hk] at hk';cases hk'
      rw[if_pos rfl]
      cases hz
      exact .pv _ _ (Xk (h.objs k' _ hk) hok hb (hkb b hb))
     ·rw[if_neg e]
      exact .own k' sz' xs' b (hl k' _ e hk') hb
    |ownN k' sz' ad hk' hb=>
     simp only[SV.freeze]
     by_cases e:k'=k
     ·subst e
      rw[hk] at hk';cases hk'
      rw[if_pos rfl]
      cases hz
      exact .pv _ _ (Qi _)
     ·rw[if_neg e]
      exact .ownN k' sz' ad (hl k' _ e hk') hb
    |mp k' kk es b hk' hb=>
     simp only[SV.freeze]
     by_cases e:k'=k
     ·rw[if_pos e];exact .dead _
     ·rw[if_neg e];exact .mp k' kk es b (hl k' _ e hk') hb
    |iown k' i off sz' xs' b hk' hb hi=>
     simp only[SV.freeze]
     by_cases e:k'=k
     ·rw[if_pos e];exact .dead _
     ·rw[if_neg e];exact .iown k' i off sz' xs' b (hl k' _ e hk') hb hi
    |ipv x1 off b o us hb h1 hat h=>exact .ipv x1 off b o us (hok _ hb) h1 hat (fun j y hy=>(h j y hy).mono (fun b _ off u hu=>hu) hok)
    |agg cs us hl' _ h1 ih=>
     obtain⟨e1,e2⟩:=Ls k x cs
     exact .agg _ us (by rw[e1,hl']) (fun j x1 u hx hu=>by obtain⟨z,hz',rfl⟩:=e2 j x1 hx;exact ih j z u hz' hu) h1
    |tup cs us hl' _ ih=>
     obtain⟨e1,e2⟩:=Ls k x cs
     exact .tup _ us (by rw[e1,hl']) (fun j x1 u hx hu=>by obtain⟨z,hz',rfl⟩:=e2 j x1 hx;exact ih j z u hz' hu)
    |fn f cs us hl' _ ih=>
     obtain⟨e1,e2⟩:=Ls k x cs
     exact .fn f _ us (by rw[e1,hl']) (fun j x1 u hx hu=>by obtain⟨z,hz',rfl⟩:=e2 j x1 hx;exact ih j z u hz' hu)
    |dead v=>exact .dead v
   refine⟨h.tsz,h.dfs,?_,?_,?_,?_,?_,h.size,h.frame,h.quiet,h.gw⟩
   ·intro k1 k2 o1 o2 b h1 h2 e1 e2
    obtain⟨_,o1',h1',_⟩:=hsome k1 o1 h1
    obtain⟨_,o2',h2',_⟩:=hsome k2 o2 h2
    exact h.inj k1 k2 _ _ b h1' h2' e1 e2
   ·intro k' o' ho
    obtain⟨hne,o2,h1,rfl⟩:=hsome k' o' ho
    have:=h.objs k' o2 h1
    cases o2 with
    |box cs=>
     obtain⟨b,arr,T,e0,e1,e2,e3,e4⟩:=this
     refine⟨b,arr,T,e0,e1,by simpa using e2,e3,fun j x u hx hu=>?_⟩
     simp only[List.getElem?_map,Option.map_eq_some_iff] at hx
     obtain⟨x',hx',rfl⟩:=hx
     exact mono (e4 j x' u hx' hu)
    |row sz' xs'=>
     rcases this with hb|⟨b,arr,T,e0,e1,e2,e3,e4,e5⟩
     ·exact .inl hb
     ·refine .inr ⟨b,arr,T,e0,e1,e2,e3,e4,fun i j x y hx hy=>?_⟩
      obtain⟨u,hu,hl⟩:=e5 i j x y hx hy
      exact⟨u,hu,hl.mono (fun b _ off u hu=>hu) hok⟩
    |map kk es=>
     obtain⟨b,ents,clock,e0,e1,e2⟩:=this
     exact⟨b,ents,clock,e0,e1,e2.mono (fun b _ off u hu=>hu) hok⟩
   ·intro k' o' b ho hx
    obtain⟨_,o2,h1,_⟩:=hsome k' o' ho
    exact h.lo k' o2 b h1 hx
   ·intro i o' ho
    obtain⟨_,o2,h1,rfl⟩:=hsome _ o' ho
    obtain⟨o0,q1,q2,q3⟩:=h.ext2 i o2 h1
    exact⟨o0,q1,Cg q2 (hsim o2),q3⟩
   ·intro t
    rw[hget]
    exact mono (h.slots t)
theorem RR.freezeAll(ks:List Key): ∀{σ:St},RR C β σ a w→RR C β (σ.freezeAll ks) a w:=by
 induction ks with
 |nil=>intro σ h;exact h
 |cons k ks ih=>intro σ h;exact ih (h.freeze k)
theorem Acr{cl:Cv}(hS:H6 P cl)(h:RR C β σ a w)(hd: ∀i,o.dst=some i→i<C.nt){c:Call}{fo:Operand}{f':Opd}{args':List Opd}(ho:o.op= .call c)(hc:c.callee= .value fo)
  (hf:Bi fo f'=true)(ha:Dk Bi c.args.toList args'=true){keep m:Nat}{fz ln:List Key}(hnd:ln.Nodup){σ':St}(hb:Ir cl σ o.dst (.call keep m f' args' fz ln)=some σ'):Bv P C σ' o a w:=by
 unfold Ir at hb
 cases hdst:o.dst with
 |none=>simp only[hdst] at hb;cases hb
 |some d=>
 simp only[hdst] at hb
 have h:=(h.freezeAll fz).killAll ((List.range keep).map (.loc d))
 have hfr: ∀i,i<keep→((σ.freezeAll fz).killAll ((List.range keep).map (.loc d))).look (.loc d i)=none:=fun i hi=>Jt _ _ _ (by simp;exact hi)
 revert h hb hfr
 generalize (σ.freezeAll fz).killAll ((List.range keep).map (.loc d))=σ
 intro hb h hfr
 cases ht:σ.target f' with
 |none=>simp only[ht] at hb;cases hb
 |some p=>
 obtain⟨g,caps⟩:=p
 simp only[ht] at hb
 cases hh:Gg σ ln ln with
 |none=>simp only[hh] at hb;cases hb
 |some ext=>
 simp only[hh] at hb
 cases hr:cl g ((args'.map σ.ev++caps).map fun v=>(Zt m v).nm (toX ln)) ext with
 |none=>simp only[hr] at hb;cases hb
 |some r=>
 simp only[hr] at hb
 cases htk:took ln d keep r with
 |none=>simp only[htk] at hb;cases hb
 |some e=>
 simp only[htk] at hb
 cases hbk:Eg (Hi ln d keep) (σ.killAll (Ea ln r.ext)) ln r.ext with
 |none=>simp only[hbk] at hb;cases hb
 |some σ2=>
 simp only[hbk,Option.some.injEq] at hb
 subst hb
 obtain⟨us,hfe,hlen,hargs⟩:=Wh h hf ha ht
 obtain⟨hE,hcon⟩:=hS g _ ext r hr
 obtain⟨e1,e2⟩:=Gt hh
 have hkx: ∀(i:Nat),i<ext.length→ ∃k o1,ln[i]? =some k∧σ.look k=some o1∧Hk β ln i=β k:=by
  intro i hi
  have g1:ln[i]? =some (ln[i]'(by omega)):=List.getElem?_eq_getElem (by omega)
  obtain⟨o1,q1,q2⟩:=e2 i _ g1
  exact⟨_,o1,g1,q1,Ia g1⟩
 have hcall:=hcon w (c.args.toList.map a.eval++us) (Hk β ln) (okB C β σ.look w)
  (fun b hb=>⟨hb.1,fun i hi e=>by obtain⟨k,o1,_,g2,g3⟩:=hkx i hi;exact hb.2.1 k _ g2 (g3▸e)⟩) h.gok
  (fun i j b hi hj e1 e2=>by
   obtain⟨k,o1,g1,g2,g3⟩:=hkx i hi
   obtain⟨k',o1',g1',g2',g3'⟩:=hkx j hj
   rw[g3] at e1;rw[g3'] at e2
   have:=h.inj k k' _ _ b g2 g2' e1 e2
   subst this
   exact(List.getElem?_inj (i:=i) (j:=j) (List.getElem?_eq_some_iff.1 g1).1 hnd).1 (g1.trans g1'.symm))
  (fun i o1 hx=>Zc h hh hx)
  (by rw[List.length_map,hlen])
  (fun j x v hx hv=>by
   simp only[List.getElem?_map,Option.map_eq_some_iff] at hx
   obtain⟨y,hy,rfl⟩:=hx
   exact Zb hh (fun b hb=>hb) (Ae2 (hargs j y v hy hv)))
 intro K hK Q
 unfold Oper.wp
 rw[Ts ho hc hfe hE,Oper.upon_enter]
 refine hcall.mono fun en w' hen=>?_
 obtain⟨v,δ,rfl,haft⟩:=hen
 obtain⟨β',h',hs⟩:=h.took hh hnd haft htk hfr hbk
 have h3:=h'.put o.dst e.v v hd hs
 rw[hdst] at h3
 have h4:=hK β' _ _ h3
 rw[←hdst] at h4
 exact h4
theorem Qx{σ:St}{k k':Key}{o1:Ba}(h:(σ.kill k).look k'=some o1): ∃o2,σ.look k'=some o2:=by
 rw[Dx] at h
 by_cases e:k'=k
 ·simp[e] at h
 ·simp only[e,if_false,Option.map_eq_some_iff] at h
  obtain⟨o2,h1,_⟩:=h
  exact⟨o2,h1⟩
theorem Lx(ks:List Key): ∀{σ:St} {k':Key} {o1:Ba},(σ.killAll ks).look k'=some o1→ ∃o2,σ.look k'=some o2:=by
 induction ks with
 |nil=>intro σ k' o1 h;exact⟨_,h⟩
 |cons k ks ih=>intro σ k' o1 h;obtain⟨o2,h2⟩:=ih h;exact Qx h2
end
end Go.Av
end
