import Derived.Laws.StructEq
import Derived.Test.YtgmiodjnojkdkaaGreatDoorC6
set_option linter.all false
section
namespace Go.Av
def Aur(P:Program)(t:TypeId):Option TypeInfo:=match P.underlying t with
 |some (.slice e)=>P.info? e
 |_=>none
theorem Q8{P:Program}{t:TypeId}{i:TypeInfo}(h:Aur P t=some i): ∃e,P.underlying t=some (.slice e)∧P.info? e=some i:=by
 unfold Aur at h
 split at h
 ·rename_i e he;exact⟨e,he,h⟩
 ·cases h
def agreeV:Value→PV→Bool
 | .agg us,.agg xs=>Cu Agp us.toList xs&&xs.all PV.one
 | .slice none 0 0,.slice []=>true
 |v,x=>Agp v x
theorem Bss{w:World}{ok:Nat→Prop}{vs:List Value}{xs:List PV}(h:Cu Agp vs xs=true):xs.length=vs.length∧ ∀(j:Nat) (x:PV) (v:Value),xs[j]? =some x→vs[j]? =some v→Be w ok x v:=by
 induction vs generalizing xs with
 |nil=>cases xs with
  |nil=>simp
  |cons _ _=>simp[Cu] at h
 |cons v vs ih=>cases xs with
  |nil=>simp[Cu] at h
  |cons x xs=>
   simp only[Cu,Bool.and_eq_true] at h
   obtain⟨i1,i2⟩:=ih h.2
   refine⟨by simp[i1],fun j y u hy hu=>?_⟩
   cases j with
   |zero=>simp at hy hu;subst hy;subst hu;exact Tr h.1
   |succ j=>exact i2 j y u (by simpa using hy) (by simpa using hu)
theorem Arc{v:Value}{x:PV}(h:agreeV v x=true)(w:World)(ok:Nat→Prop):Be w ok x v:=by
 unfold agreeV at h
 split at h
 ·rename_i us xs
  simp only[Bool.and_eq_true,List.all_eq_true] at h
  obtain⟨e1,e2⟩:=Bss (w:=w) (ok:=ok) h.1
  have:=Be.agg (w:=w) (ok:=ok) xs us.toList e1 h.2 e2
  simpa using this
 ·exact .slice [] none 0 0 0 (fun _ _=>undef) rfl (Nat.le_refl _) (by simp) (by simp) (by intro i j hi;omega) (by omega) (by simp)
 ·exact Tr h
def Bk0(x':Opd):Op→Bool
 | .move x=>Ak x x'
 | .assign x=>Ak x x'
 |_=>false
def Bc4(c' x' y':Opd):Op→Bool
 | .pick c x y=>Ak c c'&&Ak x x'&&Ak y y'
 |_=>false
def A32(P:Program)(zero:List SV):Op→Bool
 | .alloc t=>match P.info? t with
  |some i=>match i.zero with
   |some z=>Cu Zw z.cells.toList zero
   |none=>false
  |none=>false
 |_=>false
def Bks(x':Opd):Op→Bool
 | .box _ x=>Ak x x'
 |_=>false
def Bcz(P:Program)(agg:Bool)(n:Nat)(x':Opd):Op→Bool
 | .load t x=>Alz P t==some (agg,n)&&Ak x x'
 |_=>false
def A37(P:Program)(n:Nat)(x' y':Opd):Op→Bool
 | .store t x y=>match P.info? t with
  |some i=>i.size==n&&Ak x x'&&Ak y y'
  |none=>false
 |_=>false
def Bkr(P:Program)(bl:Bool)(op':BinOp)(x' y':Opd):Op→Bool
 | .binOp op t x y _=>op==op'&&Ak x x'&&Ak y y'&&(match P.underlying t with|some .bool=>bl|some (.int _)|some .string=> !bl|_=>false)
 |_=>false
def Aaa(P:Program)(inner:List Field→Option (List EK)):Nat→List Field→Option (List EK)
 |_,[]=>some []
 |n,f::fs=>
  bif f.name !="_"&&f.offset==n then
   (match Alz P f.type,P.underlying f.type with
    |some (false,1),some (.int _)=>(Aaa P inner (n+1) fs).map (EK.i:: ·)
    |some (false,1),some .bool=>(Aaa P inner (n+1) fs).map (EK.b:: ·)
    |some (false,1),some .string=>(Aaa P inner (n+1) fs).map (EK.s:: ·)
    |some (true,k),some (.struct gs)=>match inner gs.toList,Aaa P inner (n+k) fs with
     |some a,some b=>bif !P.stoodInHeld f.type&&a.length==k then some (a++b) else none
     |_,_=>none
    |_,_=>none) else none
def Bg5(P:Program):Nat→List Field→Option (List EK)
 |0=>fun _=>none
 |d+1=>fun fs=>Aaa P (Bg5 P d) 0 fs
def Bkt(P:Program)(neg:Bool)(ks:List EK)(x' y':Opd):Op→Bool
 | .binOp op t x y _=>(bif neg then op== .neq else op== .eql)&&(match P.underlying t with
  |some (.struct fs)=> !P.stoodInHeld t&& !P.eqGuardType P.depth t&&Bg5 P 8 fs.toList==some ks
  |_=>false)&&Ak x x'&&Ak y y'
 |_=>false
def Brf(op':UnOp)(x':Opd):Op→Bool
 | .unOp op _ x=>op==op'&&Ak x x'
 |_=>false
def Bcy(P:Program)(k:IntKind)(x':Opd):Op→Bool
 | .convert s t x=>(P.underlying s).isSome&&(match P.underlying t with|some (.int k')=>decide (k=k')|_=>false)&&Ak x x'
 |_=>false
def Bc2(x':Opd):Op→Bool
 | .nilCheck x=>Ak x x'
 |_=>false
def Bkz(P:Program)(t:TypeId)(x':Opd):Op→Bool
 | .makeInterface t' x=>t==t'&&(match P.underlying t with|some (.interface _)=>false|some _=>true|none=>false)&&Ak x x'
 |_=>false
def A34(P:Program)(neg:Bool)(x':Opd):Op→Bool
 | .binOp op t x (.const .nilIface) _=>(op==(bif neg then .neq else .eql))&&(match P.underlying t with|some (.interface _)=>true|_=>false)&&Ak x x'
 |_=>false
def Bkv(P:Program)(off:Nat)(x':Opd):Op→Bool
 | .fieldAddr s x f=>match P.underlying s with
  |some (.struct fs)=>match fs[f]? with
   |some fd=>match P.info? fd.type with
    |some i=>fd.offset==off&&i.size !=0&&Ak x x'
    |none=>false
   |none=>false
  |_=>false
 |_=>false
def Bc3(P:Program)(agg:Bool)(off n:Nat)(x':Opd):Op→Bool
 | .field s x f=>match P.underlying s with
  |some (.struct fs)=>match fs[f]? with
   |some fd=>fd.offset==off&&Alz P fd.type==some (agg,n)&&Ak x x'
   |none=>false
  |_=>false
 |_=>false
def Bkw(P:Program)(sz:Nat)(x' i':Opd):Op→Bool
 | .indexAddr t x i=>match Aur P t with
  |some it=>it.size==sz&&sz !=0&&Ak x x'&&Ak i i'
  |none=>false
 |_=>false
def Bc5(P:Program)(x' i':Opd):Op→Bool
 | .index t x i=>(match P.underlying t with|some .string=>true|_=>false)&&Ak x x'&&Ak i i'
 |_=>false
def Bkq(P:Program)(x':Opd):Op→Bool
 | .convert s t x=>(match P.underlying s with|some (.slice e)=>(match P.underlying e with|some (.int .u8)=>true|_=>false)|_=>false)&&(match P.underlying t with|some .string=>true|_=>false)&&Ak x x'
 |_=>false
def Bcx(P:Program)(len n:Nat)(x' i':Opd):Op→Bool
 | .index t x i=>(match P.underlying t with|some (.array l e)=>l==len&&(match Alz P e with|some (ag,m)=>ag&&m==n|none=>false)|_=>false)&&Ak x x'&&Ak i i'
 |_=>false
def Bku(i':Nat)(x':Opd):Op→Bool
 | .extract x i=>i==i'&&Ak x x'
 |_=>false
def A33(P:Program)(zero:List SV)(parts':List (Nat×Nat×Opd)):Op→Bool
 | .build t parts=>match P.info? t,P.underlying t with
  |some it,some (.struct fields)=>match it.zero,fields.toList.mapM (fun f=>(P.info? f.type).map fun i=>(f.offset,i.size)) with
   |some z,some places=>Cu Zw z.cells.toList zero&&Anv (Qn (fun i:Nat=>places[i]?)) parts.toList parts'
   |_,_=>false
  |some it,some (.array _ e)=>match it.zero,P.info? e with
   |some z,some ie=>Cu Zw z.cells.toList zero&&Anv (Qn fun i=>some (i*ie.size,ie.size)) parts.toList parts'
   |_,_=>false
  |_,_=>false
 |_=>false
def Bky(P:Program)(sz:Nat)(xs:List Opd):Op→Bool
 | .buildSlice t len parts=>match Aur P t with
  |some it=>it.zero.isSome&&it.size==sz&&sz !=0&&len==xs.length&&decide (len*sz≤2^24)&&H6 0 parts.toList xs
  |none=>false
 |_=>false
def Brd(P:Program)(sz bytes:Nat)(zero:PV)(n' c':Opd):Op→Bool
 | .makeSlice t n c=>match Aur P t with
  |some it=>match it.zero with
   |some z=>it.size==sz&&it.bytes==bytes&&sz !=0&&agreeV z zero&&zero.cells.length==sz&&Ak n n'&&Ak c c'
   |none=>false
  |none=>false
 |_=>false
def Bk1(P:Program)(s:Bool)(sz:Nat)(x':Opd)(lo' hi':Option Opd):Op→Bool
 | .slice t x lo hi none=>(bif s then(match P.underlying t with|some .string=>true|_=>false) else(match Aur P t with|some i=>i.size==sz|none=>false))&&
   Ak x x'&&Gl Ak lo lo'&&Gl Ak hi hi'
 |_=>false
def Bkx(P:Program)(s:Bool)(x':Opd):Op→Bool
 | .call c=>match c.callee,c.args.toList,c.argTypes.toList with
  | .builtin .len,[x],[t]=>(match P.underlying t with|some .string=>s|some (.slice _)=> !s|_=>false)&&Ak x x'
  |_,_,_=>false
 |_=>false
def Bre(mx:Bool)(x':Opd)(xs':List Opd):Op→Bool
 | .call c=>match c.callee,c.args.toList with
  | .builtin b,x::xs=>(b==(bif mx then .max else .min))&&Ak x x'&&Cu Ak xs xs'
  |_,_=>false
 |_=>false
def Brc(f':FuncId)(caps':List Opd):Op→Bool
 | .makeFunc (.func f) first caps=>f==f'&&first.isEmpty&&Cu Ak caps.toList caps'
 |_=>false
def Aub(f':Opd)(args':List Opd):Op→Bool
 | .call c=>match c.callee with
  | .value fo=>Ak fo f'&&Cu Ak c.args.toList args'
  |_=>false
 |_=>false
def Bkp(P:Program)(sz bytes:Nat)(x' y':Opd):Op→Bool
 | .call c=>match c.callee,c.args.toList,c.argTypes.toList with
  | .builtin .append,[x,y],[t,t']=>t==t'&&(match Aur P t with
   |some i=>match i.zero with
    |some z=>i.size==sz&&i.bytes==bytes&&z.cells.size==sz&&sz !=0
    |none=>false
   |none=>false)&&Ak x x'&&Ak y y'
  |_,_,_=>false
 |_=>false
def mapOf(P:Program)(t:TypeId):Option (TypeDesc×TypeInfo):=match P.underlying t with
 |some (.map kt et)=>(match P.underlying kt,P.info? et with|some d,some it=>some (d,it)|_,_=>none)
 |_=>none
theorem Avj{P:Program}{t:TypeId}{d:TypeDesc}{it:TypeInfo}(h:mapOf P t=some (d,it)): ∃kt et,P.underlying t=some (.map kt et)∧P.underlying kt=some d∧P.info? et=some it:=by
 unfold mapOf at h
 split at h
 ·rename_i kt et ht
  split at h
  ·rename_i d' it' h1 h2
   simp only[Option.some.injEq,Prod.mk.injEq] at h
   obtain⟨rfl,rfl⟩:=h
   exact⟨kt,et,ht,h1,h2⟩
  ·cases h
 ·cases h
def A35:Op→Bool
 | .makeMap _ none=>true
 |_=>false
def A36(P:Program)(kk:KK)(ok:Bool)(zero:PV)(x' k':Opd):Op→Bool
 | .lookup t x k o=>match mapOf P t with
  |some (d,it)=>match it.zero with
   |some z=>kk.is d&&agreeV z zero&&o==ok&&Ak x x'&&Ak k k'
   |none=>false
  |none=>false
 |_=>false
def Bc1(P:Program)(kk:KK)(x' k' v':Opd):Op→Bool
 | .mapUpdate t x k v=>match mapOf P t with
  |some (d,_)=>kk.is d&&Ak x x'&&Ak k k'&&Ak v v'
  |none=>false
 | .insert t x k v=>match mapOf P t with
  |some (d,_)=>kk.is d&&Ak x x'&&Ak k k'&&Ak v v'
  |none=>false
 |_=>false
def Bc0(P:Program)(x':Opd):Op→Bool
 | .call c=>match c.callee,c.args.toList,c.argTypes.toList with
  | .builtin .len,[x],[t]=>(match P.underlying t with|some (.map _ _)=>true|_=>false)&&Ak x x'
  |_,_,_=>false
 |_=>false
def agree(P:Program):AOp→Op→Bool
 | .mov x=>Bk0 x
 | .pick c a b=>Bc4 c a b
 | .alloc z=>A32 P z
 | .box x=>Bks x
 | .load agg n x=>Bcz P agg n x
 | .store n a v=>A37 P n a v
 | .bin bl op x y=>Bkr P bl op x y
 | .eqs neg ks x y=>Bkt P neg ks x y
 | .un op x=>Brf op x
 | .conv k x=>Bcy P k x
 | .fld off x=>Bkv P off x
 | .nchk x=>Bc2 x
 | .mkI t x=>Bkz P t x
 | .isNil neg x=>A34 P neg x
 | .part agg off n x=>Bc3 P agg off n x
 | .idx sz x i=>Bkw P sz x i
 | .sidx x i=>Bc5 P x i
 | .aidx len n x i=>Bcx P len n x i
 | .b2s x=>Bkq P x
 | .ext i x=>Bku i x
 | .build z ps=>A33 P z ps
 | .lit _ sz xs=>Bky P sz xs
 | .mk sz by' z n c=>Brd P sz by' z n c
 | .slc s sz x lo hi=>Bk1 P s sz x lo hi
 | .len s x=>Bkx P s x
 | .mm mx x xs=>Bre mx x xs
 | .mkfn f caps=>Brc f caps
 | .call _ _ f args _ ln=>fun o=>decide ln.Nodup&&Aub f args o
 | .append _ sz by' x y=>Bkp P sz by' x y
 | .ins .. =>fun _=>false
 | .mkmap _=>A35
 | .mlook kk ok zero x k=>A36 P kk ok zero x k
 | .mset kk x k v=>Bc1 P kk x k v
 | .mlen x=>Bc0 P x
 | .stuck=>fun _=>true
section
variable {P:Program} {C:Ctx} {β:Key→Blk} {σ:St} {a:Act} {w:World} {o:Oper}
theorem Qj: ∀{ka kb:List EK} {as bs:List PV} {r:Bool},C5 (ka++kb) as bs=some r→ ∃ra rb,C5 ka (as.take ka.length) (bs.take ka.length)=some ra∧C5 kb (as.drop ka.length) (bs.drop ka.length)=some rb∧r=(ra&&rb)∧ka.length≤as.length∧ka.length≤bs.length
 |[],kb,as,bs,r,h=>⟨true,r,by simp[C5],by simpa using h,by simp,Nat.zero_le _,Nat.zero_le _⟩
 |k::ka,kb,as,bs,r,h=>by
  simp only[List.cons_append] at h
  cases k with
  |i=>
   cases as with
   |nil=>simp[C5] at h
   |cons x as=>cases bs with
    |nil=>cases x<;>simp[C5] at h
    |cons y bs=>
     cases x<;>cases y<;>simp only[C5] at h<;>try (cases h;done)
     split at h
     ·rename_i hk
      simp only[Option.map_eq_some_iff] at h
      obtain⟨q,hq,rfl⟩:=h
      obtain⟨ra,rb,h1,h2,h3,h4,h5⟩:=Qj hq
      exact⟨_,rb,by simp only[List.length_cons,List.take_succ_cons,C5,if_pos hk,h1,Option.map_some];rfl,by simpa using h2,by rw[h3,Bool.and_assoc],by simpa using h4,by simpa using h5⟩
     ·cases h
  |b=>
   cases as with
   |nil=>simp[C5] at h
   |cons x as=>cases bs with
    |nil=>cases x<;>simp[C5] at h
    |cons y bs=>
     cases x<;>cases y<;>simp only[C5] at h<;>try (cases h;done)
     simp only[Option.map_eq_some_iff] at h
     obtain⟨q,hq,rfl⟩:=h
     obtain⟨ra,rb,h1,h2,h3,h4,h5⟩:=Qj hq
     exact⟨_,rb,by simp only[List.length_cons,List.take_succ_cons,C5,h1,Option.map_some];rfl,by simpa using h2,by rw[h3,Bool.and_assoc],by simpa using h4,by simpa using h5⟩
  |s=>
   cases as with
   |nil=>simp[C5] at h
   |cons x as=>cases bs with
    |nil=>cases x<;>simp[C5] at h
    |cons y bs=>
     cases x<;>cases y<;>simp only[C5] at h<;>try (cases h;done)
     simp only[Option.map_eq_some_iff] at h
     obtain⟨q,hq,rfl⟩:=h
     obtain⟨ra,rb,h1,h2,h3,h4,h5⟩:=Qj hq
     exact⟨_,rb,by simp only[List.length_cons,List.take_succ_cons,C5,h1,Option.map_some];rfl,by simpa using h2,by rw[h3,Bool.and_assoc],by simpa using h4,by simpa using h5⟩
theorem T8{d:Nat}{us vs:List Value}{f:Field}{fs:List Field}{u v:Value}{q r:Bool}(hn:f.name≠"_")(hu:(part f.type us.toArray f.offset).run P w= .ok u w)(hv:(part f.type vs.toArray f.offset).run P w= .ok v w)
  (he:(Op.equalIn d f.type u v).run P w= .ok q w)(hr:(Op.eqFields d us.toArray vs.toArray fs).run P w= .ok r w):(Op.eqFields d us.toArray vs.toArray (f::fs)).run P w= .ok (q&&r) w:=by
 simp only[Op.eqFields,ne_eq,hn,not_false_eq_true,if_true,Sem.run_bind,hu,hv,Result.andThen_ok,he]
 cases q with
 |true=>simpa using hr
 |false=>simp
def Bsr(P:Program)(ok:Nat→Prop)(w:World)(d:Nat)(inner:List Field→Option (List EK)):Prop:=
 ∀(t:TypeId) (gs:Array Field) (ka:List EK) (as bs:List PV) (r:Bool) (us vs:List Value),P.underlying t=some (.struct gs)→P.stoodInHeld t=false→inner gs.toList=some ka→C5 ka as bs=some r→
  as.length=us.length→bs.length=vs.length→(∀(j:Nat) (x:PV) (u:Value),as[j]? =some x→us[j]? =some u→Be w ok x u)→(∀(j:Nat) (x:PV) (u:Value),bs[j]? =some x→vs[j]? =some u→Be w ok x u)→
  (Op.equalIn (d+1) t (.agg us.toArray) (.agg vs.toArray)).run P w= .ok r w
theorem Bfj{ok:Nat→Prop}{d:Nat}{inner:List Field→Option (List EK)}(hin:Bsr P ok w d inner): ∀(fs:List Field) (n:Nat) (ks:List EK) (as bs:List PV) (r:Bool) (us vs:List Value),Aaa P inner n fs=some ks→C5 ks as bs=some r→
  as.length+n=us.length→bs.length+n=vs.length→(∀(j:Nat) (x:PV) (u:Value),as[j]? =some x→us[n+j]? =some u→Be w ok x u)→(∀(j:Nat) (x:PV) (u:Value),bs[j]? =some x→vs[n+j]? =some u→Be w ok x u)→
  (Op.eqFields (d+1) us.toArray vs.toArray fs).run P w= .ok r w:=by
 intro fs
 induction fs with
 |nil=>
  intro n ks as bs r us vs hf hs _ _ _ _
  simp only[Aaa,Option.some.injEq] at hf;subst hf
  cases as<;>cases bs<;>simp only[C5] at hs<;>try (cases hs;done)
  cases hs
  simp[Op.eqFields]
 |cons f fs ih=>
  intro n ks as bs r us vs hf hs h1 h2 l1 l2
  simp only[Aaa] at hf
  cases hc:(f.name !="_"&&f.offset==n) with
  |false=>rw[hc] at hf;cases hf
  |true=>
   rw[hc,cond_true] at hf
   simp only[Bool.and_eq_true,bne_iff_ne,beq_iff_eq] at hc
   obtain⟨hn,hoff⟩:=hc
   have hpart:Alz P f.type=some (false,1)→ ∀(us:List Value) (u:Value),us[n]? =some u→(part f.type us.toArray f.offset).run P w= .ok u w:=fun hagg us u hu=>by
    have hlt:=(List.getElem?_eq_some_iff.1 hu).1
    refine Apk (agg:=false) (n:=1) hagg (by omega) ?_
    rw[hoff,List.drop_eq_getElem_cons hlt]
    have:=(List.getElem?_eq_some_iff.1 hu).2
    simp[N8,this]
   have one:Alz P f.type=some (false,1)→ ∀(x y:PV) (as' bs':List PV) (ks':List EK) (q q':Bool),as=x::as'→bs=y::bs'→Aaa P inner (n+1) fs=some ks'→C5 ks' as' bs'=some q'→r=(q&&q')→
     (∀u v,Be w ok x u→Be w ok y v→(Op.equalIn (d+1) f.type u v).run P w= .ok q w)→(Op.eqFields (d+1) us.toArray vs.toArray (f::fs)).run P w= .ok r w:=by
    intro hagg x y as' bs' ks' q q' ea eb hk hq hr heq
    subst ea;subst eb;subst hr
    have hu:us[n]? =some (us[n]'(by simp at h1;omega)):=List.getElem?_eq_getElem _
    have hv:vs[n]? =some (vs[n]'(by simp at h2;omega)):=List.getElem?_eq_getElem _
    refine T8 hn (hpart hagg us _ hu) (hpart hagg vs _ hv) (heq _ _ (l1 0 x _ rfl hu) (l2 0 y _ rfl hv)) ?_
    exact ih (n+1) ks' as' bs' q' us vs hk hq (by simp at h1;omega) (by simp at h2;omega) (fun j x u hx hu=>l1 (j+1) x u (by simpa using hx) (by rw[show n+(j+1)=n+1+j by omega];exact hu))
     (fun j x u hx hu=>l2 (j+1) x u (by simpa using hx) (by rw[show n+(j+1)=n+1+j by omega];exact hu))
   split at hf
   ·rename_i k0 hagg ht
    simp only[Option.map_eq_some_iff] at hf
    obtain⟨ks',hk,rfl⟩:=hf
    cases as with
    |nil=>simp[C5] at hs
    |cons x as'=>cases bs with
     |nil=>cases x<;>simp[C5] at hs
     |cons y bs'=>
      cases x<;>cases y<;>simp only[C5] at hs<;>try (cases hs;done)
      split at hs
      ·rename_i hk'
       subst hk'
       simp only[Option.map_eq_some_iff] at hs
       obtain⟨q',hq,rfl⟩:=hs
       refine one hagg _ _ as' bs' ks' _ q' rfl rfl hk hq rfl (fun u v hu hv=>?_)
       cases hu;cases hv
       exact run_equalIn_int w d f.type _ k0 _ _ ht
      ·cases hs
   ·rename_i hagg ht
    simp only[Option.map_eq_some_iff] at hf
    obtain⟨ks',hk,rfl⟩:=hf
    cases as with
    |nil=>simp[C5] at hs
    |cons x as'=>cases bs with
     |nil=>cases x<;>simp[C5] at hs
     |cons y bs'=>
      cases x<;>cases y<;>simp only[C5] at hs<;>try (cases hs;done)
      simp only[Option.map_eq_some_iff] at hs
      obtain⟨q',hq,rfl⟩:=hs
      refine one hagg _ _ as' bs' ks' _ q' rfl rfl hk hq rfl (fun u v hu hv=>?_)
      cases hu;cases hv
      exact run_equalIn_bool' w d f.type _ _ ht
   ·rename_i hagg ht
    simp only[Option.map_eq_some_iff] at hf
    obtain⟨ks',hk,rfl⟩:=hf
    cases as with
    |nil=>simp[C5] at hs
    |cons x as'=>cases bs with
     |nil=>cases x<;>simp[C5] at hs
     |cons y bs'=>
      cases x<;>cases y<;>simp only[C5] at hs<;>try (cases hs;done)
      simp only[Option.map_eq_some_iff] at hs
      obtain⟨q',hq,rfl⟩:=hs
      refine one hagg _ _ as' bs' ks' _ q' rfl rfl hk hq rfl (fun u v hu hv=>?_)
      cases hu;cases hv
      rw[run_equalIn_string w d f.type _ _ ht,Zy,Zy]
   ·rename_i k gs hagg ht
    split at hf
    ·rename_i ka kb ha hb
     cases hc2:(!P.stoodInHeld f.type&&ka.length==k) with
     |false=>rw[hc2] at hf;cases hf
     |true=>
      rw[hc2,cond_true] at hf
      simp only[Bool.and_eq_true,Bool.not_eq_true',beq_iff_eq] at hc2
      obtain⟨hst,rfl⟩:=hc2
      simp only[Option.some.injEq] at hf;subst hf
      obtain⟨ra,rb,s1,s2,rfl,s4,s5⟩:=Qj hs
      have hp: ∀us:List Value,n+ka.length≤us.length→(part f.type us.toArray f.offset).run P w= .ok (.agg ((us.drop n).take ka.length).toArray) w:=fun us hle=>
       Apk (agg:=true) (n:=ka.length) hagg (by rw[hoff];exact hle) (by rw[hoff];rfl)
      refine T8 hn (hp us (by omega)) (hp vs (by omega)) (hin f.type gs ka _ _ ra _ _ ht hst ha s1 (by simp;omega) (by simp;omega) (fun j x u hx hu=>?_) (fun j x u hx hu=>?_)) ?_
      ·simp only[List.getElem?_take,List.getElem?_drop] at hx hu
       split at hx
       ·rename_i hj;rw[if_pos hj] at hu;exact l1 j x u hx hu
       ·cases hx
      ·simp only[List.getElem?_take,List.getElem?_drop] at hx hu
       split at hx
       ·rename_i hj;rw[if_pos hj] at hu;exact l2 j x u hx hu
       ·cases hx
      ·exact ih (n+ka.length) kb _ _ rb us vs hb s2 (by simp;omega) (by simp;omega) (fun j x u hx hu=>l1 (ka.length+j) x u (by simpa using hx) (by rw[show n+(ka.length+j)=n+ka.length+j by omega];exact hu))
        (fun j x u hx hu=>l2 (ka.length+j) x u (by simpa using hx) (by rw[show n+(ka.length+j)=n+ka.length+j by omega];exact hu))
    ·cases hf
   ·cases hf
theorem Bsx{ok:Nat→Prop}: ∀(D d:Nat),D≤d→Bsr P ok w d (Bg5 P D)
 |0,d,_=>fun t gs ka as bs r us vs _ _ h=>by cases h
 |D+1,d+1,hle=>fun t gs ka as bs r us vs ht hst h hs h1 h2 l1 l2=>by
  have hfo:P.fieldsOf t=gs:=by simp[Program.fieldsOf,ht]
  rw[run_equalIn_agg (P:=P) w (d+1) t us.toArray vs.toArray (by rw[hfo];exact ht) hst,hfo]
  exact Bfj (Bsx D d (by omega)) gs.toList 0 ka as bs r us vs h hs (by omega) (by omega) (fun j x u hx hu=>l1 j x u hx (by simpa using hu)) (fun j x u hx hu=>l2 j x u hx (by simpa using hu))
 |D+1,0,hle=>by omega
theorem Bj2(h:RR C β σ a w)(hd: ∀i,o.dst=some i→i<C.nt){op:BinOp}{t t2:TypeId}{x y:Operand}{x' y':Opd}{neg:Bool}{ks:List EK}(ho:o.op= .binOp op t x y t2)(hop:(bif neg then op== .neq else op== .eql)=true){fs:Array Field}
  (hs:P.underlying t=some (.struct fs))(hst:P.stoodInHeld t=false)(hg:P.eqGuardType P.depth t=false)(hf:Bg5 P 8 fs.toList=some ks)(hx:Ak x x'=true)(hy:Ak y y'=true){as bs:List PV}(ex:σ.ev x'= .pv (.agg as))(ey:σ.ev y'= .pv (.agg bs)){b:Bool}(hb:C5 ks as bs=some b):
  Ax P C ((σ.insAll []).put o.dst (.pv (.bool (bif neg then !b else b)))) o a w:=by
 have hxl:=h.ev hx
 have hyl:=h.ev hy
 rw[ex] at hxl
 rw[ey] at hyl
 have hxl:=Bb hxl
 have hyl:=Bb hyl
 obtain⟨us,hxe,u1,u2⟩: ∃us:List Value,a.eval x= .agg us.toArray∧as.length=us.length∧ ∀(j:Nat) (x:PV) (u:Value),as[j]? =some x→us[j]? =some u→Be w (okB C β σ.look w) x u:=by
  generalize a.eval x=xv at hxl
  cases hxl with
  |agg _ us hl _ hh=>exact⟨us,rfl,hl,hh⟩
 obtain⟨vs,hye,v1,v2⟩: ∃us:List Value,a.eval y= .agg us.toArray∧bs.length=us.length∧ ∀(j:Nat) (x:PV) (u:Value),bs[j]? =some x→us[j]? =some u→Be w (okB C β σ.look w) x u:=by
  generalize a.eval y=xv at hyl
  cases hyl with
  |agg _ us hl _ hh=>exact⟨us,rfl,hl,hh⟩
 have heq:=Bsx (P:=P) (w:=w) (ok:=okB C β σ.look w) 8 9999 (by omega) t fs ks as bs b us vs hs hst hf hb u1 v1 u2 v2
 have hgd:=run_eqGuard_agg (P:=P) w op t x y us.toArray vs.toArray hg
 refine Ax.value h hd (v:= .bool (bif neg then !b else b)) ?_ (.pv _ _ (.bool _))
 cases neg with
 |true=>
  simp only[cond_true,beq_iff_eq] at hop
  subst hop
  have hr:=run_neq_struct (P:=P) w t us.toArray vs.toArray
  rw[heq] at hr
  simp only[execOp,ho,Sem.run_bind,hxe,hye,hgd,Result.andThen_ok,hr,Sem.run_pure,cond_true]
 |false=>
  simp only[cond_false,beq_iff_eq] at hop
  subst hop
  have hr:=run_eql_struct (P:=P) w t us.toArray vs.toArray
  rw[heq] at hr
  simp only[execOp,ho,Sem.run_bind,hxe,hye,hgd,Result.andThen_ok,hr,Sem.run_pure,cond_false]
theorem Bfu(h:RR C β σ a w)(hd: ∀i,o.dst=some i→i<C.nt){t e:TypeId}{len:Nat}{parts:Array (Nat×Operand)}(ho:o.op= .buildSlice t len parts)(ht:P.underlying t=some (.slice e)){it:TypeInfo}(hit:P.info? e=some it)(hlen:len=0)
  (hag:H6 0 parts.toList []=true):Ax P C ((σ.insAll []).put o.dst .nils) o a w:=by
 subst hlen
 have hp:parts= #[]:=by
  cases hl:parts.toList with
  |nil=>simpa using hl
  |cons _ _=>rw[hl] at hag;simp[H6] at hag
 subst hp
 refine Ax.bare h hd (.cells #[] e) (v:= .slice (some ⟨w.heap.size,0,none⟩) 0 0) ?_ ?_
 ·simp[execOp,ho,Instr.buildSlice,run_underlying ht,sizeOf,typeInfo,hit,Instr.fill,newRow,run_newObj_alloc]
  congr 2
  apply Array.eq_empty_of_size_eq_zero
  simp
 ·intros;exact .nils _
theorem Ar8{cl:Callee}(hS:Oc P cl)(h:RR C β σ a w)(hd: ∀i,o.dst=some i→i<C.nt){op:AOp}(hag:agree P op o.op=true){d:Nat}{e:Eff}(he:Au cl σ d op=some e)(hfr: ∀k∈op.keys d,σ.look k=none):
  Ax P C ((σ.insAll e.ins).put o.dst e.v) o a w:=by
 cases op with
 |mov x=>
  simp only[Au,Option.some.injEq] at he;subst he
  simp only[agree] at hag
  unfold Bk0 at hag
  split at hag
  ·rename_i ho;exact A3i h hd (.inl ho) hag
  ·rename_i ho;exact A3i h hd (.inr ho) hag
  ·cases hag
 |pick c x y=>
  simp only[Au] at he
  simp only[agree] at hag
  unfold Bc4 at hag
  split at hag
  ·rename_i ho
   simp only[Bool.and_eq_true] at hag
   split at he
   ·rename_i t ht
    simp only[Option.some.injEq] at he;subst he
    exact Bf2 h hd ho hag.1.1 hag.1.2 hag.2 ht
   ·cases he
  ·cases hag
 |alloc zero=>
  simp only[Au,Option.some.injEq] at he;subst he
  simp only[agree] at hag
  unfold A32 at hag
  split at hag
  ·rename_i ho
   split at hag
   ·rename_i i hi
    split at hag
    ·rename_i z hz
     exact Bb7 h hd ho hi hz hag (.loc d 0) (by intro i e;cases e) (hfr _ (by simp[AOp.keys]))
    ·cases hag
   ·cases hag
  ·cases hag
 |box x=>
  simp only[agree] at hag
  unfold Bks at hag
  split at hag
  ·rename_i ho
   simp only[Au] at he
   split at he
   ·cases he
   ·cases he
   ·rename_i v n1 n2
    simp only[Option.some.injEq] at he;subst he
    exact Bj1 h hd ho hag n1 n2 (.loc d 0) (by intro i e;cases e) (hfr _ (by simp[AOp.keys]))
  ·cases hag
 |load agg n x=>
  simp only[agree] at hag
  unfold Bcz at hag
  split at hag
  ·rename_i ho
   simp only[Bool.and_eq_true,beq_iff_eq] at hag
   have:Lc σ agg n (σ.ev x)=some e.v∧e.ins=[]:=by
    revert he
    simp only[Au,Lc]
    generalize σ.ev x=xv
    intro he
    cases xv<;>simp only at he<;>try (cases he;done)
    ·split at he
     ·split at he
      ·rename_i heq hle;simp only[Option.map_eq_some_iff] at he;obtain⟨v,hv,rfl⟩:=he;simp only[heq,hle,if_true];exact⟨hv,trivial⟩
      ·cases he
     ·cases he
    ·split at he
     ·rename_i sz1 xs1 hk1
      split at he
      ·rename_i e2 he2
       split at he
       ·rename_i hle;simp only[Option.map_eq_some_iff] at he;obtain⟨v,hv,rfl⟩:=he;simp only[hk1,he2,hle,if_true];exact⟨hv,trivial⟩
       ·cases he
      ·cases he
     ·cases he
    ·split at he
     ·rename_i hle;simp only[Option.map_eq_some_iff] at he;obtain⟨v,hv,rfl⟩:=he;simp only[hle,if_true];exact⟨hv,trivial⟩
     ·cases he
   rw[this.2]
   exact Bfv h hd ho hag.1 hag.2 this.1
  ·cases hag
 |store n x y=>simp[Au] at he
 |bin bl op x y=>
  simp only[agree] at hag
  unfold Bkr at hag
  split at hag
  ·rename_i ho
   simp only[Bool.and_eq_true] at hag
   obtain⟨⟨⟨h1,h2⟩,h3⟩,h4⟩:=hag
   have:=Bri h1;subst this
   simp only[Au] at he
   split at he
   ·rename_i p q hp hq
    cases hb:(p.isB==bl) with
    |false=>rw[hb] at he;cases he
    |true=>
     rw[hb,cond_true] at he
     have hb:=eq_of_beq hb
     simp only[Option.map_eq_some_iff] at he
     obtain⟨v,hv,rfl⟩:=he
     refine Bj0 h hd ho h2 h3 (fun _=>?_) hp hq hv
     cases bl with
     |true=>
      split at h4
      ·rename_i ht;exact .inl ht
      ·cases h4
      ·cases h4
      ·cases h4
     |false=>
      refine .inr (fun b e=>?_)
      rw[hp] at e;cases e;cases hb
   ·cases he
  ·cases hag
 |eqs neg ks x y=>
  simp only[agree] at hag
  unfold Bkt at hag
  split at hag
  ·rename_i op t x1 y1 t2 ho
   simp only[Bool.and_eq_true] at hag
   obtain⟨⟨⟨g1,g2⟩,g3⟩,g4⟩:=hag
   split at g2
   ·rename_i fs hs
    simp only[Bool.and_eq_true,Bool.not_eq_true',beq_iff_eq] at g2
    simp only[Au] at he
    split at he
    ·rename_i as bs hx hy
     simp only[Option.map_eq_some_iff] at he
     obtain⟨b,hb,rfl⟩:=he
     exact Bj2 h hd ho g1 hs g2.1.1 g2.1.2 g2.2 g3 g4 hx hy hb
    ·cases he
   ·cases g2
  ·cases hag
 |un op x=>
  simp only[agree] at hag
  unfold Brf at hag
  split at hag
  ·rename_i ho
   simp only[Bool.and_eq_true] at hag
   have he1:_=_:=eq_of_beq hag.1;subst he1
   simp only[Au] at he
   split at he
   ·rename_i p hp
    simp only[Option.map_eq_some_iff] at he
    obtain⟨v,hv,rfl⟩:=he
    exact Bnw h hd ho hag.2 hp hv
   ·cases he
  ·cases hag
 |conv k x=>
  simp only[agree] at hag
  unfold Bcy at hag
  split at hag
  ·rename_i ho
   simp only[Bool.and_eq_true] at hag
   obtain⟨⟨h1,h2⟩,h3⟩:=hag
   split at h2
   ·rename_i k' hk
    simp only[decide_eq_true_eq] at h2;subst h2
    simp only[Au] at he
    split at he
    ·rename_i k2 n hp
     simp only[Option.some.injEq] at he;subst he
     exact Bfs h hd ho h3 h1 hk hp
    ·cases he
   ·cases h2
  ·cases hag
 |fld off x=>
  simp only[agree] at hag
  unfold Bkv at hag
  split at hag
  ·rename_i ho
   split at hag
   ·rename_i fs hs
    split at hag
    ·rename_i fd hf
     split at hag
     ·rename_i i hi
      simp only[Bool.and_eq_true,beq_iff_eq,bne_iff_ne] at hag
      have:(match σ.ev x with| .ptr k o=>some (SV.ptr k (o+off))| .ipv e o=>some (.ipv e (o+off))| .iown k i o=>some (.iown k i (o+off))|_=>none)=some e.v∧e.ins=[]:=by
       simp only[Au] at he
       generalize σ.ev x=xv at he⊢
       cases xv<;>simp only[Option.some.injEq] at he<;>first|(cases he;done)|(subst he;exact⟨rfl,rfl⟩)
      rw[this.2]
      exact Bj4 h hd ho hag.2 hs hf hag.1.1 hi hag.1.2 this.1
     ·cases hag
    ·cases hag
   ·cases hag
  ·cases hag
 |part agg off n x=>
  simp only[agree] at hag
  unfold Bc3 at hag
  split at hag
  ·rename_i ho
   split at hag
   ·rename_i fs hs
    split at hag
    ·rename_i fd hf
     simp only[Bool.and_eq_true,beq_iff_eq] at hag
     have:(match σ.ev x with
       | .pv (.agg cs)=>if off+n≤cs.length then SV.ofCells agg (((cs.drop off).take n).map .pv) else none
       | .agg cs=>if off+n≤cs.length then SV.ofCells agg ((cs.drop off).take n) else none
       |_=>none)=some e.v∧e.ins=[]:=by
      simp only[Au] at he
      generalize σ.ev x=xv at he⊢
      split at he
      ·split at he
       ·rename_i hle;simp only[Option.map_eq_some_iff] at he;obtain⟨v,hv,rfl⟩:=he;simp only[hle,if_true];exact⟨hv,trivial⟩
       ·cases he
      ·split at he
       ·rename_i hle;simp only[Option.map_eq_some_iff] at he;obtain⟨v,hv,rfl⟩:=he;simp only[hle,if_true];exact⟨hv,trivial⟩
       ·cases he
      ·cases he
     rw[this.2]
     exact Bf1 h hd ho hag.2 hs hf hag.1.1 hag.1.2 this.1
    ·cases hag
   ·cases hag
  ·cases hag
 |idx sz x i=>
  simp only[agree] at hag
  unfold Bkw at hag
  split at hag
  ·rename_i ho
   split at hag
   ·rename_i it hit
    obtain⟨e1,ht,hi1⟩:=Q8 hit
    simp only[Bool.and_eq_true,beq_iff_eq,bne_iff_ne] at hag
    obtain⟨⟨⟨g1,g2⟩,g3⟩,g4⟩:=hag
    simp only[Au] at he
    split at he
    ·rename_i xs k n hx hn
     split at he
     ·rename_i h0
      split at he
      ·rename_i e2 he2
       split at he
       ·rename_i hl
        simp only[Option.some.injEq] at he;subst he
        exact A3g h hd ho g3 g4 ht hi1 g1 g2 hn h0 (.inl ⟨xs,e2,hx,he2,hl,rfl⟩)
       ·cases he
      ·cases he
     ·cases he
    ·rename_i k1 k n hx hn
     split at he
     ·rename_i sz' xs hk
      split at he
      ·rename_i hc
       obtain⟨h0,hlt,rfl⟩:=hc
       simp only[Option.some.injEq] at he;subst he
       exact A3g h hd ho g3 g4 ht hi1 g1 g2 hn h0 (.inr ⟨k1,xs,hx,hk,hlt,rfl⟩)
      ·cases he
     ·cases he
    ·cases he
   ·cases hag
  ·cases hag
 |b2s x=>
  simp only[agree] at hag
  unfold Bkq at hag
  split at hag
  ·rename_i ho
   simp only[Bool.and_eq_true] at hag
   obtain⟨⟨g1,g2⟩,g3⟩:=hag
   split at g1
   ·rename_i e hs
    split at g1
    ·rename_i he'
     split at g2
     ·rename_i ht
      simp only[Au] at he
      split at he
      ·rename_i ps hx
       simp only[Option.map_eq_some_iff] at he
       obtain⟨b,hb,rfl⟩:=he
       exact Bjz h hd ho g3 hs he' ht hx hb
      ·cases he
     ·cases g2
    ·cases g1
   ·cases g1
  ·cases hag
 |aidx len n x i=>
  simp only[agree] at hag
  unfold Bcx at hag
  split at hag
  ·rename_i ho
   simp only[Bool.and_eq_true] at hag
   obtain⟨⟨g1,g2⟩,g3⟩:=hag
   split at g1
   ·rename_i l e ht
    simp only[Bool.and_eq_true,beq_iff_eq] at g1
    obtain⟨rfl,g1⟩:=g1
    split at g1
    ·rename_i ag m ha
     simp only[Bool.and_eq_true,beq_iff_eq] at g1
     obtain⟨rfl,rfl⟩:=g1
     simp only[Au] at he
     split at he
     ·rename_i cs k m hx hn
      split at he
      ·rename_i hc
       simp only[Option.map_eq_some_iff] at he
       obtain⟨v,hv,rfl⟩:=he
       exact Bfr h hd ho g2 g3 ht ha hn hc.1 hc.2.1 hx hc.2.2 hv
      ·cases he
     ·cases he
    ·cases g1
   ·cases g1
  ·cases hag
 |sidx x i=>
  simp only[agree] at hag
  unfold Bc5 at hag
  split at hag
  ·rename_i ho
   simp only[Bool.and_eq_true] at hag
   obtain⟨⟨g1,g2⟩,g3⟩:=hag
   split at g1
   ·rename_i ht
    simp only[Au] at he
    split at he
    ·rename_i s k n hx hn
     split at he
     ·rename_i h0
      split at he
      ·rename_i b hb
       simp only[Option.some.injEq] at he;subst he
       exact Bf3 h hd ho g2 g3 ht hn h0 hx hb
      ·cases he
     ·cases he
    ·cases he
   ·cases g1
  ·cases hag
 |ext i x=>
  simp only[agree] at hag
  unfold Bku at hag
  split at hag
  ·rename_i ho
   simp only[Bool.and_eq_true,beq_iff_eq] at hag
   obtain⟨rfl,g2⟩:=hag
   simp only[Au] at he
   split at he
   ·rename_i vs hx
    split at he
    ·rename_i v hv
     simp only[Option.some.injEq] at he;subst he
     exact Bj3 h hd ho g2 hx hv
    ·cases he
   ·cases he
  ·cases hag
 |build zero parts=>
  simp only[agree] at hag
  unfold A33 at hag
  split at hag
  ·rename_i ho
   split at hag
   ·rename_i it fields hi hu
    split at hag
    ·rename_i z places hz hpl
     simp only[Bool.and_eq_true] at hag
     simp only[Au] at he
     cases hall:parts.all (fun p=>(σ.ev p.2.2).solid) with
     |false=>rw[hall] at he;cases he
     |true=>
      rw[hall,cond_true] at he
      split at he
      ·rename_i cs hcs
       simp only[Option.map_eq_some_iff] at he
       obtain⟨v,hv,rfl⟩:=he
       refine Bb8 h hd ho hi hz hu hpl hag.1 hag.2 (fun q hq=>?_) hcs hv
       have:=List.all_eq_true.1 hall q hq
       constructor
       ·intro vs e;rw[e] at this;cases this
       ·intro e;rw[e] at this;cases this
      ·cases he
    ·cases hag
   ·rename_i it len e hi hu
    split at hag
    ·rename_i z ie hz hpl
     simp only[Bool.and_eq_true] at hag
     simp only[Au] at he
     cases hall:parts.all (fun p=>(σ.ev p.2.2).solid) with
     |false=>rw[hall] at he;cases he
     |true=>
      rw[hall,cond_true] at he
      split at he
      ·rename_i cs hcs
       simp only[Option.map_eq_some_iff] at he
       obtain⟨v,hv,rfl⟩:=he
       refine A7z h hd ho hi hz hu hpl hag.1 hag.2 (fun q hq=>?_) hcs hv
       have:=List.all_eq_true.1 hall q hq
       constructor
       ·intro vs e;rw[e] at this;cases this
       ·intro e;rw[e] at this;cases this
      ·cases he
    ·cases hag
   ·cases hag
  ·cases hag
 |lit keep sz xs=>
  simp only[agree] at hag
  unfold Bky at hag
  split at hag
  ·rename_i ho
   split at hag
   ·rename_i it hit
    obtain⟨e1,ht,hi1⟩:=Q8 hit
    simp only[Bool.and_eq_true,beq_iff_eq,bne_iff_ne,decide_eq_true_eq] at hag
    obtain⟨⟨⟨⟨⟨g1,g2⟩,g3⟩,g4⟩,g6⟩,g7⟩:=hag
    obtain⟨z,hz⟩:=Option.isSome_iff_exists.1 g1
    cases xs with
    |nil=>
     simp only[Au,Option.some.injEq] at he;subst he
     simp only[List.length_nil] at g4
     exact Bfu h hd ho ht hi1 g4 g7
    |cons x xs=>
    simp only[Au] at he
    split at he
    ·rename_i ps hps
     split at he
     ·rename_i hl
      have:=Bj6 h hd (keep:=keep) ho ht hi1 g2 hz g3 g4 (by simp) g6 g7 hps hl (.loc d 0) (by intro i e;cases e) (fun hk=>hfr _ (by simp[AOp.keys,hk]))
      cases keep with
      |true=>simp only[if_true,Option.some.injEq] at he this;subst he;exact this
      |false=>simp only[Bool.false_eq_true,if_false,Option.some.injEq] at he this;subst he;exact this
     ·cases he
    ·cases he
   ·cases hag
  ·cases hag
 |mk sz bytes zero n c=>
  simp only[agree] at hag
  unfold Brd at hag
  split at hag
  ·rename_i ho
   split at hag
   ·rename_i it hit
    obtain⟨e1,ht,hi1⟩:=Q8 hit
    split at hag
    ·rename_i z hz
     simp only[Bool.and_eq_true,beq_iff_eq,bne_iff_ne] at hag
     obtain⟨⟨⟨⟨⟨⟨g1,g2⟩,g3⟩,g4⟩,g5⟩,g6⟩,g7⟩:=hag
     simp only[Au] at he
     split at he
     ·rename_i n1 c1 hn hc
      split at he
      ·rename_i hcond
       obtain⟨q1,q2,q3,q4⟩:=hcond
       simp only[Option.some.injEq] at he;subst he
       exact Bnu h hd ho ht hi1 g1 g2 hz g3 (fun w ok=>Arc g4 w ok) g5 g6 g7 hn hc q1 q2 q3 q4 (.loc d 0) (by intro i e;cases e) (hfr _ (by simp[AOp.keys]))
      ·cases he
     ·cases he
    ·cases hag
   ·cases hag
  ·cases hag
 |slc s sz x lo hi=>
  simp only[agree] at hag
  unfold Bk1 at hag
  split at hag
  ·rename_i ho
   simp only[Bool.and_eq_true] at hag
   obtain⟨⟨⟨g1,g2⟩,g3⟩,g4⟩:=hag
   cases s with
   |true=>
    simp only[cond_true] at g1
    split at g1
    ·rename_i ht
     simp only[Au] at he
     split at he
     ·rename_i s hx
      split at he
      ·rename_i r hr
       split at he
       ·rename_i l hl
        simp only[Option.some.injEq] at he;subst he
        exact Bf4 h hd ho g2 g3 g4 ht hx hr hl
       ·cases he
      ·cases he
     ·cases he
    ·cases g1
   |false=>
    simp only[cond_false] at g1
    split at g1
    ·rename_i it hit
     obtain⟨e1,ht,hi1⟩:=Q8 hit
     simp only[Au] at he
     split at he
     ·rename_i xs hx
      split at he
      ·rename_i r hr
       split at he
       ·rename_i l hl
        split at he
        ·rename_i hal
         simp only[Option.some.injEq] at he;subst he
         exact Bj8 h hd ho g2 g3 g4 ht hi1 (by simpa using g1) hx hr hl hal
        ·cases he
       ·cases he
      ·cases he
     ·cases he
    ·cases g1
  ·cases hag
 |len s x=>
  simp only[agree] at hag
  unfold Bkx at hag
  split at hag
  ·rename_i c ho
   split at hag
   ·rename_i x1 t1 hc hca hct
    simp only[Bool.and_eq_true] at hag
    obtain⟨g1,g2⟩:=hag
    have hca:c.args= #[x1]:=by rw[←Array.toArray_toList (xs:=c.args),hca]
    have hct:c.argTypes= #[t1]:=by rw[←Array.toArray_toList (xs:=c.argTypes),hct]
    split at g1
    ·rename_i ht
     subst g1
     simp only[Au] at he
     split at he
     ·rename_i s hx
      simp only[Option.some.injEq] at he;subst he
      exact A3h h hd ho hc hca hct g2 (.inl ⟨ht,s,hx,rfl⟩)
     ·cases he
    ·rename_i e1 ht
     simp only[Bool.not_eq_true'] at g1;subst g1
     simp only[Au] at he
     split at he
     ·rename_i xs hx
      simp only[Option.some.injEq] at he;subst he
      exact A3h h hd ho hc hca hct g2 (.inr ⟨e1,xs,ht,hx,rfl⟩)
     ·cases he
    ·cases g1
   ·cases hag
  ·cases hag
 |mm mx x xs=>
  simp only[agree] at hag
  unfold Bre at hag
  split at hag
  ·rename_i c ho
   split at hag
   ·rename_i b x1 xs1 hc hca
    simp only[Bool.and_eq_true,beq_iff_eq] at hag
    obtain⟨⟨g1,g2⟩,g3⟩:=hag
    subst g1
    simp only[Au] at he
    split at he
    ·rename_i p hp
     simp only[Option.map_eq_some_iff] at he
     obtain⟨v,hv,rfl⟩:=he
     exact Bnv h hd ho hc hca g2 g3 hp hv
    ·cases he
   ·cases hag
  ·cases hag
 |mkfn f caps=>
  simp only[agree] at hag
  unfold Brc at hag
  split at hag
  ·rename_i f1 first caps1 ho
   simp only[Bool.and_eq_true,beq_iff_eq,Array.isEmpty_iff] at hag
   obtain⟨⟨rfl,rfl⟩,g3⟩:=hag
   have:=Bfw (P:=P) h hd ho g3
   simp only[Au] at he
   split at he
   ·rename_i hc
    simp only[Option.some.injEq] at he;subst he
    rw[hc] at this;exact this
   ·rename_i hc
    simp only[Option.some.injEq] at he;subst he
    split at this
    ·rename_i hc2;exact absurd hc2 hc
    ·exact this
  ·cases hag
 |call keep m f args fz ln=>
  simp only[agree,Bool.and_eq_true] at hag
  replace hag:=hag.2
  unfold Aub at hag
  split at hag
  ·rename_i c ho
   split at hag
   ·rename_i fo hc
    simp only[Bool.and_eq_true] at hag
    have hf2: ∀i,i<keep→σ.look (.loc d i)=none:=fun i hi=>hfr _ (by simp[AOp.keys];exact hi)
    simp only[Au] at he
    cases hcond:(decide (2≤m)|| !fz.isEmpty|| !ln.isEmpty) with
    |true=>rw[hcond] at he;cases he
    |false=>
    rw[hcond,cond_false] at he
    split at he
    ·rename_i g caps ht
     cases hm:(m==0) with
     |true=>
      rw[hm] at he
      simp only[cond_true,Bool.true_or] at he
      cases hbare:(List.map (fun v=>SV.tidy v) (List.map σ.ev args++caps)).all SV.bare with
      |false=>rw[hbare] at he;cases he
      |true=>
       rw[hbare,cond_true] at he
       split at he
       ·rename_i r hr
        exact Ar6 hS h hd ho hc hag.1 hag.2 ht SV.tidy (okX:=okB C β σ.look w) (fun x v hx=>Zq hx) (fun b hb=>hb.1) h.gok hbare hr (.inl rfl) he hf2
       ·cases he
     |false=>
      rw[hm] at he
      simp only[cond_false,Bool.false_or] at he
      cases hbare:(List.map (fun v=>σ.seen v) (List.map σ.ev args++caps)).all SV.bare with
      |false=>rw[hbare] at he;cases he
      |true=>
       rw[hbare,cond_true] at he
       split at he
       ·rename_i r hr
        cases hsc:(r.v.scalar&&r.rows.isEmpty) with
        |false=>rw[hsc] at he;cases he
        |true=>
         rw[hsc,cond_true] at he
         simp only[Bool.and_eq_true,List.isEmpty_iff] at hsc
         exact Ar6 hS h hd ho hc hag.1 hag.2 ht σ.seen (okX:=okP w) (fun x v hx=>Bju h hx) (fun b hb=>hb) (Auy h.gok fun b hb _=>⟨rfl,hb.1⟩) hbare hr (.inr hsc) he hf2
       ·cases he
    ·cases he
   ·cases hag
  ·cases hag
 |append kd sz bytes x y=>simp[Au] at he
 |ins f sz bytes x i y=>cases hag
 |mkmap kk=>
  simp only[agree] at hag
  unfold A35 at hag
  split at hag
  ·rename_i t ho
   simp only[Au,Option.some.injEq] at he;subst he
   exact Bcc h hd ho kk (.loc d 0) (by intro i e;cases e) (hfr _ (by simp[AOp.keys]))
  ·cases hag
 |mlook kk ok zero x k=>
  simp only[agree] at hag
  unfold A36 at hag
  split at hag
  ·rename_i t x1 k1 ok1 ho
   split at hag
   ·rename_i ds it hmo
    obtain⟨kt,et,ht,hkt,hit⟩:=Avj hmo
    split at hag
    ·rename_i z hz
     simp only[Bool.and_eq_true,beq_iff_eq] at hag
     obtain⟨⟨⟨⟨g1,g2⟩,g3⟩,g4⟩,g5⟩:=hag
     subst g3
     simp only[Au] at he
     split at he
     ·rename_i key kv hx hk
      split at he
      ·rename_i kk' es hlk
       cases hc:(decide (kk'=kk)&&kv.isKK kk) with
       |false=>rw[hc] at he;cases he
       |true=>
        rw[hc,cond_true] at he
        simp only[Bool.and_eq_true,decide_eq_true_eq] at hc
        obtain⟨rfl,hkv⟩:=hc
        simp only[Option.some.injEq] at he;subst he
        exact Bcd h hd ho g4 g5 ht hkt g1 hit hz (fun w ok=>Arc g2 w ok) hx hlk hk hkv
      ·cases he
     ·cases he
    ·cases hag
   ·cases hag
  ·cases hag
 |nchk x=>
  simp only[agree] at hag
  unfold Bc2 at hag
  split at hag
  ·rename_i ho
   simp only[Au] at he
   split at he
   ·rename_i k off hp
    simp only[Option.some.injEq] at he;subst he
    exact Bfz h hd ho hag hp
   ·cases he
  ·cases hag
 |mkI t x=>
  simp only[agree] at hag
  unfold Bkz at hag
  split at hag
  ·rename_i ho
   simp only[Bool.and_eq_true] at hag
   obtain⟨⟨h1,h2⟩,h3⟩:=hag
   have he1:_=_:=eq_of_beq h1;subst he1
   simp only[Au] at he
   split at he
   ·rename_i v hp
    simp only[Option.some.injEq] at he;subst he
    split at h2
    ·cases h2
    ·rename_i dd hne hu
     exact Bj7 h hd ho h3 hu (fun ms e=>hne ms e) hp
    ·cases h2
   ·cases he
  ·cases hag
 |isNil neg x=>
  simp only[agree] at hag
  unfold A34 at hag
  split at hag
  ·rename_i ho
   simp only[Bool.and_eq_true] at hag
   obtain⟨⟨h1,h2⟩,h3⟩:=hag
   have he1:_=_:=eq_of_beq h1
   split at h2
   ·rename_i ms hu
    simp only[Au] at he
    split at he
    ·rename_i hp
     simp only[Option.some.injEq] at he;subst he
     have:=Ar7 h hd ho he1 h3 hu (r:=true) (.inl ⟨hp,rfl⟩)
     cases neg<;>exact this
    ·rename_i u p hp
     simp only[Option.some.injEq] at he;subst he
     have:=Ar7 h hd ho he1 h3 hu (r:=false) (.inr ⟨⟨u,p,hp⟩,rfl⟩)
     cases neg<;>exact this
    ·cases he
   ·cases h2
  ·cases hag
 |mset kk x k v=>simp[Au] at he
 |mlen x=>
  simp only[agree] at hag
  unfold Bc0 at hag
  split at hag
  ·rename_i c ho
   split at hag
   ·rename_i x1 t1 hc hca hct
    simp only[Bool.and_eq_true] at hag
    obtain⟨g1,g2⟩:=hag
    have hca:c.args= #[x1]:=by rw[←Array.toArray_toList (xs:=c.args),hca]
    have hct:c.argTypes= #[t1]:=by rw[←Array.toArray_toList (xs:=c.argTypes),hct]
    split at g1
    ·rename_i kt et ht
     simp only[Au] at he
     split at he
     ·rename_i key hx
      split at he
      ·rename_i kk es hlk
       simp only[Option.some.injEq] at he;subst he
       exact Bfx h hd ho hc hca hct g2 ht hx hlk
      ·cases he
     ·cases he
    ·cases g1
   ·cases hag
  ·cases hag
 |stuck=>simp[Au] at he
end
end Go.Av
end
section
namespace Go.Av
section
variable {P:Program} {C:Ctx} {β:Key→Blk} {σ:St} {a:Act} {w:World} {o:Oper}
theorem A8t{cl:Callee}(hS:Oc P cl)(h:RR C β σ a w)(hd: ∀i,o.dst=some i→i<C.nt){op:AOp}(hag:agree P op o.op=true){σ':St}(hb:Fm cl σ o.dst op=some σ'):
  Ax P C σ' o a w:=by
 cases op with
 |store n x y=>
  simp only[agree] at hag
  unfold A37 at hag
  split at hag
  ·rename_i ho
   split at hag
   ·rename_i i hi
    simp only[Bool.and_eq_true,beq_iff_eq] at hag
    obtain⟨⟨g1,g2⟩,g3⟩:=hag
    simp only[Fm] at hb
    split at hb
    ·rename_i k off hx
     split at hb
     ·rename_i cs hk
      split at hb
      ·cases hb
      ·cases hb
      ·rename_i v n1 n2
       split at hb
       ·rename_i hc
        simp only[Option.some.injEq] at hb;subst hb
        exact Atw h hd ho hi g1 g2 g3 hx hk n1 n2 hc.1 hc.2
       ·cases hb
     ·cases hb
    ·rename_i k i off hx
     split at hb
     ·rename_i sz xs v hk hv
      split at hb
      ·rename_i e he
       split at hb
       ·rename_i hc
        split at hb
        ·rename_i e' he'
         simp only[Option.some.injEq] at hb;subst hb
         exact Atx h hd ho hi g1 g2 g3 hx hv hk he hc.1 hc.2 he'
        ·cases hb
       ·cases hb
      ·cases hb
     ·cases hb
    ·cases hb
   ·cases hag
  ·cases hag
 |append kd sz bytes x y=>
  simp only[agree] at hag
  unfold Bkp at hag
  split at hag
  ·rename_i c ho
   split at hag
   ·rename_i x1 y1 t t' hc hca hct
    have hca:c.args= #[x1,y1]:=by rw[←Array.toArray_toList (xs:=c.args),hca]
    have hct:c.argTypes= #[t,t']:=by rw[←Array.toArray_toList (xs:=c.argTypes),hct]
    simp only[Bool.and_eq_true,beq_iff_eq] at hag
    obtain⟨⟨⟨rfl,g1⟩,g2⟩,g3⟩:=hag
    split at g1
    ·rename_i i hi0
     obtain⟨e1,ht,hi⟩:=Q8 hi0
     split at g1
     ·rename_i z hz
      simp only[Bool.and_eq_true,beq_iff_eq,bne_iff_ne] at g1
      obtain⟨⟨⟨q1,q2⟩,q3⟩,q4⟩:=g1
      simp only[Fm] at hb
      split at hb
      ·cases hb
      ·rename_i d hdst
       split at hb
       ·cases hb
       ·rename_i ys hy
        split at hb
        ·rename_i hx
         split at hb
         ·rename_i hcond
          simp only[Option.some.injEq] at hb;subst hb
          have:=Aq5 h hd ho hc hca hct ht hi hz q1 q2 q3 q4 g2 g3 hx (k:= .loc kd 0) (by intro i e;cases e) hy hcond.1 hcond.2.1 hcond.2.2
          rw[hdst] at this
          exact this
         ·cases hb
        ·rename_i k hx
         split at hb
         ·rename_i sz' xs hk
          split at hb
          ·rename_i hcond
           obtain⟨c1,rfl,c3,c4⟩:=hcond
           simp only[Option.some.injEq] at hb;subst hb
           have:=Aq6 h hd ho hc hca hct ht hi hz q1 q2 q3 q4 g2 g3 hx hk (k2:= .loc kd 0) (by intro i e;cases e) hy c1 c3 c4
           rw[hdst] at this
           exact this
          ·cases hb
         ·cases hb
        ·cases hb
     ·cases g1
    ·cases g1
   ·cases hag
  ·cases hag
 |call keep m f args fz ln=>
  simp only[agree,Bool.and_eq_true,decide_eq_true_eq] at hag
  obtain⟨hnd,hag⟩:=hag
  unfold Aub at hag
  split at hag
  ·rename_i c ho
   split at hag
   ·rename_i fo hc
    simp only[Bool.and_eq_true] at hag
    exact Bb9 hS h hd ho hc hag.1 hag.2 hnd hb
   ·cases hag
  ·cases hag
 |mset kk x k v=>
  simp only[agree] at hag
  have hop: ∃t x1 k1 v1,(o.op= .mapUpdate t x1 k1 v1∨o.op= .insert t x1 k1 v1)∧(match mapOf P t with|some (d,_)=>kk.is d&&Ak x1 x&&Ak k1 k&&Ak v1 v|none=>false)=true:=by
   unfold Bc1 at hag
   split at hag
   ·rename_i t x1 k1 v1 ho;exact⟨t,x1,k1,v1,.inl ho,hag⟩
   ·rename_i t x1 k1 v1 ho;exact⟨t,x1,k1,v1,.inr ho,hag⟩
   ·cases hag
  obtain⟨t,x1,k1,v1,ho,hag⟩:=hop
  split at hag
  ·rename_i ds it hmo
   obtain⟨kt,et,ht,hkt,hit⟩:=Avj hmo
   simp only[Bool.and_eq_true] at hag
   obtain⟨⟨⟨g1,g2⟩,g3⟩,g4⟩:=hag
   simp only[Fm] at hb
   split at hb
   ·rename_i key kv vv hx hk hv
    split at hb
    ·rename_i kk' es hlk
     cases hc:(decide (kk'=kk)&&kv.isKK kk) with
     |false=>rw[hc] at hb;cases hb
     |true=>
      rw[hc,cond_true] at hb
      simp only[Bool.and_eq_true,decide_eq_true_eq] at hc
      obtain⟨rfl,hkv⟩:=hc
      simp only[Option.some.injEq] at hb;subst hb
      exact Bfy h hd ho g2 g3 g4 ht hkt g1 hx hlk hk hv hkv
    ·cases hb
   ·cases hb
  ·cases hag
 |_=>cases hb
def Dh(cl:Callee)(σ:St)(o:GOp):Option Eff:=
 match σ.wants o.g with
 |none=>none
 |some false=>some ⟨o.op.skipV,[]⟩
 |some true=>Au cl σ (o.d.getD 0) o.op
def Zv(ops:Array Oper):Option (Nat×Bool)→Option (Nat×Bool)→Bool
 |none,none=>true
 |some (q,b),some (t,b')=>b==b'&&(match (ops[q]?).bind (·.dst) with|some t'=>t'==t|none=>false)
 |_,_=>false
def G6(P:Program)(nt:Nat)(ops:Array Oper)(o:Oper)(g:GOp):Bool:=
 agree P g.op o.op&&o.dst==g.d&&(match o.dst with|some i=>decide (i<nt)|none=>true)&&Zv ops o.guard g.g
theorem Mr{nt:Nat}{ops:Array Oper}{g:GOp}(h:G6 P nt ops o g=true):
  agree P g.op o.op=true∧o.dst=g.d∧(∀i,o.dst=some i→i<nt)∧Zv ops o.guard g.g=true:=by
 simp only[G6,Bool.and_eq_true,beq_iff_eq] at h
 refine⟨h.1.1.1,h.1.1.2,fun i hi=>?_,h.2⟩
 have:=h.1.2
 rw[hi] at this
 simpa using this
theorem Qm{ops:Array Oper}{g:GOp}(h:RR C β σ a w)(hg:Zv ops o.guard g.g=true){b:Bool}(hw:σ.wants g.g=some b):Region.wanted o (yielded ops a.tmps)=b:=by
 unfold Zv at hg
 split at hg
 ·rename_i h1 h2
  rw[h2] at hw
  simp only[St.wants,Option.some.injEq] at hw
  subst hw
  unfold Region.wanted
  rw[h1]
 ·rename_i q b1 t b2 h1 h2
  simp only[Bool.and_eq_true,beq_iff_eq] at hg
  obtain⟨rfl,hg⟩:=hg
  split at hg
  ·rename_i t' ht
   simp only[beq_iff_eq] at hg
   subst hg
   rw[h2] at hw
   simp only[St.wants] at hw
   split at hw
   ·rename_i c hc
    simp only[Option.some.injEq] at hw
    subst hw
    have hs:=h.slots t'
    rw[hc] at hs
    have hs:=Ajo (Bb hs)
    have hlt:t'<a.tmps.size:=by
     by_cases hlt:t'<a.tmps.size
     ·exact hlt
     ·simp[Array.getD,hlt,undef] at hs
    have hget:a.tmps[t']? =some (.bool c):=by
     rw[Array.getElem?_eq_getElem hlt]
     simpa [Array.getD,hlt] using hs
    unfold Region.wanted
    rw[h1]
    simp only[yielded,ht,Option.bind_some,hget]
    simp
   ·rename_i hc
    simp only[Option.some.injEq] at hw
    subst hw
    have hs:=h.slots t'
    rw[hc] at hs
    unfold Region.wanted
    rw[h1]
    simp only[yielded,ht,Option.bind_some]
    cases hget:a.tmps[t']? with
    |none=>simp
    |some v=>
     have hv:a.tmps.getD t' undef=v:=by simp[Array.getD_eq_getD_getElem?,hget]
     rw[hv] at hs
     cases hs with
     |tup cs us hl _=>
      simp
   ·cases hw
  ·cases hg
 ·cases hg
def Mh(P:Program)(ops:Array Oper)(o:Oper)(a:Act)(w:World)(K:Act→World→Prop)(Q:Exit→Act→World→Prop):Prop:=
 if Region.wanted o (yielded ops a.tmps) then o.wp P a w K Q else K (a.put o.dst undef) w
theorem Ayj{ok:Nat→Prop}{lk:Key→Option Ah}(op:AOp):As w ok β lk op.skipV undef:=by
 unfold AOp.skipV
 split
 ·exact .dead _
 ·exact .dead _
 ·exact .dead _
 ·exact .tup [] [] rfl (by simp)
theorem Aoc{cl:Callee}(hS:Oc P cl){ops:Array Oper}{g:GOp}(h:RR C β σ a w)(hag:G6 P C.nt ops o g=true){e:Eff}(he:Dh cl σ g=some e)(hfr: ∀k∈g.op.keys (g.d.getD 0),σ.look k=none)
  {K:Act→World→Prop}(hK: ∀β' a' w',RR C β' ((σ.insAll e.ins).put g.d e.v) a' w'→K a' w')(Q:Exit→Act→World→Prop):Mh P ops o a w K Q:=by
 obtain⟨g1,g2,g3,g4⟩:=Mr hag
 unfold Dh at he
 unfold Mh
 cases hw:σ.wants g.g with
 |none=>rw[hw] at he;cases he
 |some b=>
  rw[hw] at he
  rw[Qm h g4 hw]
  cases b with
  |false=>
   simp only[Option.some.injEq] at he;subst he
   simp only[Bool.false_eq_true,if_false]
   have:=h.put o.dst g.op.skipV undef g3 (Ayj _)
   rw[g2] at this⊢
   exact hK β _ _ this
  |true=>
   simp only[if_true]
   have:=Ar8 hS h g3 g1 he hfr K (by rw[g2];exact hK) Q
   exact this
theorem Aod{cl:Callee}(hS:Oc P cl){ops:Array Oper}{g:GOp}(h:RR C β σ a w)(hag:G6 P C.nt ops o g=true){σ':St}(hs:step cl false σ g=some σ')
  {K:Act→World→Prop}(hK: ∀β' a' w',RR C β' σ' a' w'→K a' w')(Q:Exit→Act→World→Prop):Mh P ops o a w K Q:=by
 obtain⟨g1,g2,g3,g4⟩:=Mr hag
 unfold step at hs
 unfold Mh
 cases hw:σ.wants g.g with
 |none=>rw[hw] at hs;cases hs
 |some b=>
  rw[hw] at hs
  rw[Qm h g4 hw]
  cases b with
  |false=>
   simp only[Option.some.injEq] at hs;subst hs
   simp only[Bool.false_eq_true,if_false]
   have:=h.put o.dst g.op.skipV undef g3 (Ayj _)
   rw[g2] at this⊢
   exact hK β _ _ this
  |true=>
   simp only[if_true]
   cases hB:g.op.isB with
   |true=>
    simp only[hB,cond_true] at hs
    rw[←g2] at hs
    exact A8t hS h g3 g1 hs K hK Q
   |false=>
    simp only[hB,cond_false] at hs
    unfold Alt at hs
    split at hs
    ·rename_i e he
     simp only[Option.some.injEq] at hs;subst hs
     have:=Ar8 hS (h.killAll _) g3 g1 he (fun k hk=>Jt _ _ _ hk) K (by rw[g2];exact hK) Q
     exact this
    ·cases hs
end
end Go.Av
end
section
namespace Go.Av
def Bpn:Option Opd→List Opd
 |none=>[]
 |some x=>[x]
def AOp.opds:AOp→List Opd
 | .mov x=>[x]
 | .pick c a b=>[c,a,b]
 | .alloc _=>[]
 | .box x=>[x]
 | .load _ _ x=>[x]
 | .store _ a v=>[a,v]
 | .bin _ _ x y=>[x,y]
 | .eqs _ _ x y=>[x,y]
 | .un _ x=>[x]
 | .conv _ x=>[x]
 | .fld _ x=>[x]
 | .part _ _ _ x=>[x]
 | .idx _ x i=>[x,i]
 | .sidx x i=>[x,i]
 | .aidx _ _ x i=>[x,i]
 | .b2s x=>[x]
 | .ext _ x=>[x]
 | .build _ ps=>ps.map (·.2.2)
 | .lit _ _ xs=>xs
 | .mk _ _ _ n c=>[n,c]
 | .slc _ _ x lo hi=>x::(Bpn lo++Bpn hi)
 | .len _ x=>[x]
 | .mm _ x xs=>x::xs
 | .mkfn _ caps=>caps
 | .call _ _ f args _ _=>f::args
 | .append _ _ _ x y=>[x,y]
 | .ins _ _ _ x i y=>[.tmp x,i,y]
 | .mkmap _=>[]
 | .mlook _ _ _ x k=>[x,k]
 | .mset _ x k v=>[x,k,v]
 | .mlen x=>[x]
 | .mkI _ x=>[x]
 | .nchk x=>[x]
 | .isNil _ x=>[x]
 | .stuck=>[]
section
variable {σ1 σ2:St}
def Q2(σ1 σ2:St)(v:SV):Prop:= ∀k o,v.names k=true→σ1.look k=some o→σ2.look k=some o
theorem Bdi{v:SV}{cs:List SV}(h: ∀k o,SV.names.namesL k cs=true→σ1.look k=some o→σ2.look k=some o){c:SV}(hc:c∈cs):Q2 σ1 σ2 c:=by
 intro k o hn hk
 obtain⟨j,hj,he⟩:=List.getElem_of_mem hc
 exact h k o (Ajr (j:=j) (x:=c) (by rw[List.getElem?_eq_getElem hj,he]) hn) hk
theorem A82{v:SV}{xs:List PV}(hc:Q2 σ1 σ2 v)(h:σ1.elems v=some xs):σ2.elems v=some xs:=by
 cases v with
 |own k=>
  simp only[St.elems] at h⊢
  cases hk:σ1.look k with
  |none=>rw[hk] at h;cases h
  |some o=>
   rw[hc k _ (by simp[SV.names]) hk]
   rw[hk] at h
   exact h
 |pv x=>cases x<;>exact h
 |_=>exact h
theorem Anh{σ:St}{c:SV}{cs:List SV}{xs:List PV}:St.pure.pureL σ (c::cs)=some xs↔(∀l,c≠ .agg l)∧ ∃x ys,σ.pure c=some x∧St.pure.pureL σ cs=some ys∧xs=x::ys:=by
 simp only[St.pure.pureL]
 cases c with
 |agg l=>simp
 |_=>
  generalize St.pure σ _=q
  cases q with
  |none=>simp
  |some x=>
   simp only
   cases St.pure.pureL σ cs with
   |none=>simp
   |some ys=>simp;exact eq_comm
mutual
theorem pure_local: ∀{v:SV} {p:PV},Q2 σ1 σ2 v→σ1.pure v=some p→σ2.pure v=some p
 | .pv x,p,_,h=>h
 | .nils,p,_,h=>h
 | .own k,p,hc,h=>by
  simp only[St.pure] at h⊢
  split at h
  ·rename_i sz ys hk
   rw[hc k _ (by simp[SV.names]) hk]
   exact h
  ·cases h
 | .agg cs,p,hc,h=>by
  simp only[St.pure,Option.map_eq_some_iff] at h⊢
  obtain⟨xs,hx,rfl⟩:=h
  exact⟨xs,pureL_local (fun k o hn=>hc k o (by simpa [SV.names] using hn)) hx,rfl⟩
 | .fn f [],p,_,h=>h
 | .fn f (c::cs),p,_,h=>by simp[St.pure] at h
 | .ptr _ _,p,_,h=>by simp[St.pure] at h
 | .iown _ _ _,p,_,h=>by simp[St.pure] at h
 | .ipv _ _,p,_,h=>by simp[St.pure] at h
 | .tup _,p,_,h=>by simp[St.pure] at h
 | .dead,p,_,h=>by simp[St.pure] at h
theorem pureL_local: ∀{cs:List SV} {xs:List PV},(∀k o,SV.names.namesL k cs=true→σ1.look k=some o→σ2.look k=some o)→St.pure.pureL σ1 cs=some xs→St.pure.pureL σ2 cs=some xs
 |[],xs,_,h=>by simpa [St.pure.pureL] using h
 |c::cs,xs,hc,h=>by
  have h1:Q2 σ1 σ2 c:=fun k o hn=>hc k o (by simp[SV.names.namesL,hn])
  have h2: ∀k o,SV.names.namesL k cs=true→σ1.look k=some o→σ2.look k=some o:=fun k o hn=>hc k o (by simp[SV.names.namesL,hn])
  obtain⟨hne,x,ys,hx,hy,rfl⟩:=Anh.1 h
  exact Anh.2 ⟨hne,x,ys,pure_local h1 hx,pureL_local h2 hy,rfl⟩
end
mutual
theorem clean_pure{σ:St}: ∀{v:SV} {p:PV},v.clean=some p→σ.pure v=some p
 | .pv x,p,h=>h
 | .nils,p,h=>h
 | .agg cs,p,h=>by
  simp only[SV.clean,Option.map_eq_some_iff] at h
  obtain⟨xs,h1,rfl⟩:=h
  simp only[St.pure,cleanL_pure h1,Option.map_some]
 | .fn f [],p,h=>h
 | .fn f (c::cs),p,h=>by simp[SV.clean] at h
 | .ptr _ _,p,h=>by simp[SV.clean] at h
 | .own _,p,h=>by simp[SV.clean] at h
 | .mp _,p,h=>by simp[SV.clean] at h
 | .iown _ _ _,p,h=>by simp[SV.clean] at h
 | .ipv _ _,p,h=>by simp[SV.clean] at h
 | .tup _,p,h=>by simp[SV.clean] at h
 | .dead,p,h=>by simp[SV.clean] at h
theorem cleanL_pure{σ:St}: ∀{cs:List SV} {xs:List PV},SV.clean.cleanL cs=some xs→St.pure.pureL σ cs=some xs
 |[],xs,h=>h
 |c::cs,xs,h=>by
  have key: ∃x r,(∀l,c≠ .agg l)∧c.clean=some x∧SV.clean.cleanL cs=some r∧xs=x::r:=by
   cases hc:c.clean with
   |none=>cases c<;>simp[SV.clean.cleanL,hc] at h
   |some x=>
    cases hr:SV.clean.cleanL cs with
    |none=>cases c<;>simp[SV.clean.cleanL,hc,hr] at h
    |some r=>cases c<;>simp[SV.clean.cleanL,hc,hr] at h<;>exact⟨x,r,by simp,rfl,rfl,h.symm⟩
  obtain⟨x,r,h0,h1,h2,rfl⟩:=key
  exact Anh.2 ⟨h0,x,r,clean_pure h1,cleanL_pure h2,rfl⟩
end
mutual
theorem pure_bare{σ σ':St}: ∀{v:SV},v.bare=true→σ'.pure v=σ.pure v
 | .pv x,_=>rfl
 | .nils,_=>rfl
 | .agg cs,h=>by simp only[St.pure,pureL_bare (σ:=σ) (σ':=σ') (cs:=cs) (by simpa [SV.bare] using h)]
 | .fn f [],_=>rfl
 | .fn f (c::cs),_=>by simp[St.pure]
 | .ptr _ _,h=>by simp[SV.bare] at h
 | .own _,h=>by simp[SV.bare] at h
 | .mp _,h=>by simp[SV.bare] at h
 | .iown _ _ _,h=>by simp[SV.bare] at h
 | .ipv _ _,_=>by simp[St.pure]
 | .tup _,_=>by simp[St.pure]
 | .dead,_=>by simp[St.pure]
theorem pureL_bare{σ σ':St}: ∀{cs:List SV},SV.bare.bareL cs=true→St.pure.pureL σ' cs=St.pure.pureL σ cs
 |[],_=>rfl
 |c::cs,h=>by
  simp only[SV.bare.bareL,Bool.and_eq_true] at h
  simp only[St.pure.pureL,pure_bare (σ:=σ) (σ':=σ') h.1,pureL_bare (σ:=σ) (σ':=σ') h.2]
end
theorem Bfl{v:SV}(hc:Q2 σ1 σ2 v)(hb:(σ1.seen v).bare=true):σ2.seen v=σ1.seen v:=by
 unfold St.seen at hb⊢
 cases h1:σ1.pure v with
 |some p=>rw[pure_local hc h1]
 |none=>
  rw[h1] at hb
  simp only at hb⊢
  have hcl:v.clean=none:=by
   cases h2:v.clean with
   |none=>rfl
   |some p=>rw[clean_pure (σ:=σ1) h2] at h1;cases h1
  unfold SV.tidy at hb
  rw[hcl] at hb
  rw[pure_bare (σ:=σ1) (σ':=σ2) hb,h1]
theorem Amf{xs:List Opd}(h: ∀x∈xs,σ2.ev x=σ1.ev x):xs.map σ2.ev=xs.map σ1.ev:=List.map_congr_left h
theorem Ts{o:Option Opd}{d t:Nat}(h: ∀x∈Bpn o,σ2.ev x=σ1.ev x):bound σ2 d t o=bound σ1 d t o:=by
 cases o with
 |none=>rfl
 |some x=>simp only[bound,h x (by simp[Bpn])]
theorem Aly{cl:Callee}{d:Nat}{op:AOp}{e:Eff}(hev: ∀x∈op.opds,σ2.ev x=σ1.ev x)(hlk: ∀x∈op.opds,Q2 σ1 σ2 (σ1.ev x))(h:Au cl σ1 d op=some e):Au cl σ2 d op=some e:=by
 cases op with
 |load agg n x=>
  have e1:=hev x (by simp[AOp.opds])
  have c1:=hlk x (by simp[AOp.opds])
  simp only[Au,e1] at h⊢
  revert h c1
  generalize σ1.ev x=xv
  intro h c1
  cases xv<;>simp only at h⊢ <;>try (first|exact h|cases h;done)
  ·split at h
   ·rename_i cs hk
    rw[c1 _ _ (by simp[SV.names]) hk]
    exact h
   ·cases h
  ·split at h
   ·rename_i sz xs hk
    rw[c1 _ _ (by simp[SV.names]) hk]
    exact h
   ·cases h
 |idx sz x i=>
  have e1:=hev x (by simp[AOp.opds])
  have e2:=hev i (by simp[AOp.opds])
  have c1:=hlk x (by simp[AOp.opds])
  simp only[Au,e1,e2] at h⊢
  revert h c1
  generalize σ1.ev x=xv
  intro h c1
  split at h
  ·exact h
  ·rename_i k q n hn
   split at h
   ·rename_i sz' xs hk
    rw[c1 _ _ (by simp[SV.names]) hk]
    exact h
   ·cases h
  ·cases h
 |len s x=>
  have e1:=hev x (by simp[AOp.opds])
  have c1:=hlk x (by simp[AOp.opds])
  cases s with
  |true=>simp only[Au,e1] at h⊢;exact h
  |false=>
   simp only[Au,e1] at h⊢
   split at h
   ·rename_i xs hx
    rw[A82 c1 hx];exact h
   ·cases h
 |call keep m f args fz ln=>
  have e1:=hev f (by simp[AOp.opds])
  have e2:args.map σ2.ev=args.map σ1.ev:=Amf (fun x hx=>hev x (by simp[AOp.opds,hx]))
  have et:σ2.target f=σ1.target f:=by simp only[St.target,e1]
  simp only[Au,et,e2] at h⊢
  cases hcond:(decide (2≤m)|| !fz.isEmpty|| !ln.isEmpty) with
  |true=>rw[hcond] at h;cases h
  |false=>
   rw[hcond,cond_false] at h
   rw[cond_false]
   split at h
   ·rename_i g caps ht
    cases hm:(m==0) with
    |true=>rw[hm] at h;exact h
    |false=>
     rw[hm] at h
     simp only[cond_false] at h⊢
     cases hbare:(List.map (fun v=>σ1.seen v) (List.map σ1.ev args++caps)).all SV.bare with
     |false=>rw[hbare] at h;cases h
     |true=>
      have hall:=List.all_eq_true.1 hbare
      have e3:List.map (fun v=>σ2.seen v) (List.map σ1.ev args++caps)=List.map (fun v=>σ1.seen v) (List.map σ1.ev args++caps):=by
       refine List.map_congr_left (fun v hv=>Bfl ?_ (hall _ (List.mem_map.2 ⟨v,hv,rfl⟩)))
       rcases List.mem_append.1 hv with hv|hv
       ·obtain⟨x,hx,rfl⟩:=List.mem_map.1 hv
        exact hlk x (by simp[AOp.opds,hx])
       ·have c1:=hlk f (by simp[AOp.opds])
        unfold St.target at ht
        split at ht
        ·cases ht;simp at hv
        ·rename_i g' caps' hf
         cases ht
         rw[hf] at c1
         exact Bdi (v:= .dead) (fun k o hn=>c1 k o (by simpa [SV.names] using hn)) hv
        ·cases ht
      rw[e3]
      exact h
   ·cases h
 |mkmap kk=>exact h
 |mset kk x k v=>cases h
 |mlook kk ok z x k=>
  have e1:=hev x (by simp[AOp.opds])
  have c1:=hlk x (by simp[AOp.opds])
  have e2:=hev k (by simp[AOp.opds])
  simp only[Au,e1,e2] at h⊢
  split at h
  ·rename_i key kv hk hv
   rw[hk] at c1
   split at h
   ·rename_i kk' es hl
    rw[c1 key _ (by simp[SV.names]) hl]
    exact h
   ·cases h
  ·cases h
 |mlen x=>
  have e1:=hev x (by simp[AOp.opds])
  have c1:=hlk x (by simp[AOp.opds])
  simp only[Au,e1] at h⊢
  split at h
  ·rename_i key hk
   rw[hk] at c1
   split at h
   ·rename_i kk' es hl
    rw[c1 key _ (by simp[SV.names]) hl]
    exact h
   ·cases h
  ·cases h
 |build zero ps=>
  have e1: ∀p∈ps,σ2.ev p.2.2=σ1.ev p.2.2:=fun p hp=>hev _ (by simp only[AOp.opds,List.mem_map];exact⟨p,hp,rfl⟩)
  have e2:ps.map (fun p=>(p.1,p.2.1,σ2.ev p.2.2))=ps.map (fun p=>(p.1,p.2.1,σ1.ev p.2.2)):=List.map_congr_left (fun p hp=>by rw[e1 p hp])
  have e3:ps.all (fun p=>(σ2.ev p.2.2).solid)=ps.all (fun p=>(σ1.ev p.2.2).solid):=by
   rw[Bool.eq_iff_iff,List.all_eq_true,List.all_eq_true]
   exact⟨fun h p hp=>by rw[←e1 p hp];exact h p hp,fun h p hp=>by rw[e1 p hp];exact h p hp⟩
  simp only[Au,e2,e3] at h⊢
  exact h
 |lit keep sz xs=>
  cases xs with
  |nil=>exact h
  |cons y ys=>
   have e2:(y::ys).map σ2.ev=(y::ys).map σ1.ev:=Amf (fun x hx=>hev x hx)
   simp only[Au,e2] at h⊢
   exact h
 |mkfn f caps=>
  have e2:caps.map σ2.ev=caps.map σ1.ev:=Amf (fun x hx=>hev x hx)
  simp only[Au,e2] at h⊢
  exact h
 |mm mx x xs=>
  have e1:=hev x (by simp[AOp.opds])
  have e2:xs.map σ2.ev=xs.map σ1.ev:=Amf (fun x hx=>hev x (by simp[AOp.opds,hx]))
  simp only[Au,e1,e2] at h⊢
  exact h
 |slc s sz x lo hi=>
  have e1:=hev x (by simp[AOp.opds])
  have e2: ∀d t,bound σ2 d t lo=bound σ1 d t lo:=fun d t=>Ts (fun y hy=>hev y (by simp[AOp.opds,hy]))
  have e3: ∀d t,bound σ2 d t hi=bound σ1 d t hi:=fun d t=>Ts (fun y hy=>hev y (by simp[AOp.opds,hy]))
  cases s<;>simp only[Au,e1,e2,e3] at h⊢ <;>exact h
 |alloc zero=>exact h
 |store n x y=>cases h
 |append kd s b x y=>cases h
 |ins f sz by' x i y=>
  have e0:σ2.get x=σ1.get x:=hev (.tmp x) (by simp[AOp.opds])
  have c0:Q2 σ1 σ2 (σ1.get x):=hlk (.tmp x) (by simp[AOp.opds])
  have e1:=hev i (by simp[AOp.opds])
  have e2:=hev y (by simp[AOp.opds])
  have c2:=hlk y (by simp[AOp.opds])
  simp only[Au,e0,e1,e2] at h⊢
  split at h
  ·rename_i k n k2 hk hi hk2
   rw[hk] at c0
   rw[hk2] at c2
   split at h
   ·rename_i s1 xs s2 e h1 h2
    rw[c0 k _ (by simp[SV.names]) h1,c2 k2 _ (by simp[SV.names]) h2]
    exact h
   ·cases h
  ·cases h
 |stuck=>cases h
 |pick c x y=>
  have e1:=hev c (by simp[AOp.opds])
  have e2:=hev x (by simp[AOp.opds])
  have e3:=hev y (by simp[AOp.opds])
  simp only[Au,e1,e2,e3] at h⊢
  exact h
 |bin b op x y=>
  have e2:=hev x (by simp[AOp.opds])
  have e3:=hev y (by simp[AOp.opds])
  simp only[Au,e2,e3] at h⊢
  exact h
 |eqs b n x y=>
  have e2:=hev x (by simp[AOp.opds])
  have e3:=hev y (by simp[AOp.opds])
  simp only[Au,e2,e3] at h⊢
  exact h
 |aidx l n x y=>
  have e2:=hev x (by simp[AOp.opds])
  have e3:=hev y (by simp[AOp.opds])
  simp only[Au,e2,e3] at h⊢
  exact h
 |sidx x y=>
  have e2:=hev x (by simp[AOp.opds])
  have e3:=hev y (by simp[AOp.opds])
  simp only[Au,e2,e3] at h⊢
  exact h
 |mk s b z x y=>
  have e2:=hev x (by simp[AOp.opds])
  have e3:=hev y (by simp[AOp.opds])
  simp only[Au,e2,e3] at h⊢
  exact h
 |mov x=>simp only[Au,hev x (by simp[AOp.opds])] at h⊢;exact h
 |box x=>simp only[Au,hev x (by simp[AOp.opds])] at h⊢;exact h
 |un _ x=>simp only[Au,hev x (by simp[AOp.opds])] at h⊢;exact h
 |conv _ x=>simp only[Au,hev x (by simp[AOp.opds])] at h⊢;exact h
 |b2s x=>simp only[Au,hev x (by simp[AOp.opds])] at h⊢;exact h
 |nchk x=>simp only[Au,hev x (by simp[AOp.opds])] at h⊢;exact h
 |mkI _ x=>simp only[Au,hev x (by simp[AOp.opds])] at h⊢;exact h
 |isNil _ x=>simp only[Au,hev x (by simp[AOp.opds])] at h⊢;exact h
 |fld _ x=>simp only[Au,hev x (by simp[AOp.opds])] at h⊢;exact h
 |part _ _ _ x=>simp only[Au,hev x (by simp[AOp.opds])] at h⊢;exact h
 |ext _ x=>simp only[Au,hev x (by simp[AOp.opds])] at h⊢;exact h
end
theorem A3l{ks:List Key}{d keep:Nat}{r:Res}{e:Eff}(h:took ks d keep r=some e){k:Key}{o:Ah}(hk:Ay e.ins k=some o): ∃i,i<keep∧k= .loc d i:=by
 unfold took at h
 cases hb:(keep==0) with
 |true=>
  rw[hb] at h
  simp only[cond_true,Option.map_eq_some_iff] at h
  obtain⟨v,_,rfl⟩:=h
  simp[Ay] at hk
 |false=>
  rw[hb] at h
  simp only[cond_false] at h
  cases hle:decide (r.rows.length≤keep) with
  |false=>rw[hle] at h;cases h
  |true=>
   rw[hle] at h
   simp only[cond_true,Option.some.injEq] at h
   subst h
   simp only[decide_eq_true_eq] at hle
   rw[T7] at hk
   cases k with
   |loc d' i=>
    simp only at hk
    split at hk
    ·rename_i hc
     simp only[Option.map_eq_some_iff] at hk
     obtain⟨p,hp,_⟩:=hk
     have:=(List.getElem?_eq_some_iff.1 (Qp hp)).1
     exact⟨i,by omega,by rw[hc.1]⟩
    ·cases hk
   |ext i=>cases hk
   |res i=>cases hk
theorem A8f{cl:Callee}{σ:St}{d:Nat}{op:AOp}{e:Eff}(h:Au cl σ d op=some e){k:Key}{o:Ah}(hk:Ay e.ins k=some o):k∈op.keys d:=by
 have one: ∀{k1:Key} {o1:Ah},Ay [(k1,o1)] k=some o→k=k1:=fun h=>by
  simp only[Ay] at h
  split at h
  ·rename_i e;exact e.symm
  ·cases h
 have nil: ∀{v:SV},e=⟨v,[]⟩→False:=fun he=>by subst he;simp[Ay] at hk
 have mapnil: ∀{x:Option SV},x.map (fun v=>(⟨v,[]⟩:Eff))=some e→False:=fun he=>by
  simp only[Option.map_eq_some_iff] at he
  obtain⟨v,_,rfl⟩:=he
  simp[Ay] at hk
 have mapnilP: ∀{x:Option PV},x.map (fun v=>(⟨.pv v,[]⟩:Eff))=some e→False:=fun he=>by
  simp only[Option.map_eq_some_iff] at he
  obtain⟨v,_,rfl⟩:=he
  simp[Ay] at hk
 have mapnilB: ∀{x:Option Bool} {f:Bool→SV},x.map (fun v=>(⟨f v,[]⟩:Eff))=some e→False:=fun he=>by
  simp only[Option.map_eq_some_iff] at he
  obtain⟨v,_,rfl⟩:=he
  simp[Ay] at hk
 cases op with
 |alloc zero=>
  simp only[Au,Option.some.injEq] at h;subst h
  simp[AOp.keys,one hk]
 |box x=>
  simp only[Au] at h
  split at h
  ·cases h
  ·cases h
  ·simp only[Option.some.injEq] at h;subst h
   simp[AOp.keys,one hk]
 |lit keep sz xs=>
  cases xs with
  |nil=>simp only[Au,Option.some.injEq] at h;exact(nil h.symm).elim
  |cons y ys=>
  simp only[Au] at h
  split at h
  ·split at h
   ·split at h
    ·rename_i hkeep
     simp only[Option.some.injEq] at h;subst h
     simp[AOp.keys,hkeep,one hk]
    ·simp only[Option.some.injEq] at h;exact(nil h.symm).elim
   ·cases h
  ·cases h
 |mk s b z n c=>
  simp only[Au] at h
  split at h
  ·split at h
   ·simp only[Option.some.injEq] at h;subst h
    simp[AOp.keys,one hk]
   ·cases h
  ·cases h
 |call keep m f args fz ln=>
  have fin: ∀r,took [] d keep r=some e→k∈(AOp.call keep m f args fz ln).keys d:=fun r hr=>by
   obtain⟨i,hi,rfl⟩:=A3l hr hk
   simp[AOp.keys];exact hi
  simp only[Au] at h
  cases hcond:(decide (2≤m)|| !fz.isEmpty|| !ln.isEmpty) with
  |true=>rw[hcond] at h;cases h
  |false=>
   rw[hcond,cond_false] at h
   split at h
   ·rename_i g caps ht
    generalize List.map (fun v=>bif m==0 then v.tidy else σ.seen v) (List.map σ.ev args++caps)=vs at h
    cases hbare:vs.all SV.bare with
    |false=>rw[hbare] at h;cases h
    |true=>
     rw[hbare,cond_true] at h
     split at h
     ·rename_i r hr
      cases hc:(m==0||r.v.scalar&&r.rows.isEmpty) with
      |false=>rw[hc] at h;cases h
      |true=>rw[hc] at h;exact fin _ h
     ·cases h
   ·cases h
 |mkmap kk=>
  simp only[Au,Option.some.injEq] at h;subst h
  simp[AOp.keys,one hk]
 |mset kk x k v=>cases h
 |mlook kk ok z x k=>
  simp only[Au] at h
  split at h
  ·split at h
   ·simp only[cond_eq_ite] at h
    split at h
    ·simp only[Option.some.injEq] at h;exact(nil h.symm).elim
    ·cases h
   ·cases h
  ·cases h
 |mlen x=>
  simp only[Au] at h
  split at h
  ·split at h
   ·simp only[Option.some.injEq] at h;exact(nil h.symm).elim
   ·cases h
  ·cases h
 |store n x y=>cases h
 |append kd s b x y=>cases h
 |ins f sz by' x i y=>
  simp only[Au] at h
  split at h
  ·split at h
   ·rename_i s1 xs s2 e h1 h2
    simp only[cond_eq_ite] at h
    split at h
    ·simp only[Option.some.injEq] at h
     subst h
     simp[AOp.keys,one hk]
    ·cases h
   ·cases h
  ·cases h
 |stuck=>cases h
 |mov x=>simp only[Au,Option.some.injEq] at h;exact(nil h.symm).elim
 |mkfn f caps=>
  simp only[Au] at h
  split at h<;>simp only[Option.some.injEq] at h<;>exact(nil h.symm).elim
 |pick c x y=>
  simp only[Au] at h
  split at h
  ·simp only[Option.some.injEq] at h;exact(nil h.symm).elim
  ·cases h
 |load agg n x=>
  simp only[Au] at h
  split at h
  ·split at h
   ·split at h
    ·exact(mapnil h).elim
    ·cases h
   ·cases h
  ·split at h
   ·exact(mapnil h).elim
   ·cases h
  ·split at h
   ·split at h
    ·split at h
     ·exact(mapnil h).elim
     ·cases h
    ·cases h
   ·cases h
  ·cases h
 |bin b op x y=>
  simp only[Au] at h
  split at h
  ·rename_i p q _ _
   cases hb:(p.isB==b) with
   |true=>rw[hb] at h;exact(mapnilP h).elim
   |false=>rw[hb] at h;cases h
  ·cases h
 |eqs b n x y=>
  simp only[Au] at h
  split at h
  ·exact(mapnilB h).elim
  ·cases h
 |un op x=>
  simp only[Au] at h
  split at h
  ·exact(mapnilP h).elim
  ·cases h
 |nchk x=>
  simp only[Au] at h
  split at h
  ·simp only[Option.some.injEq] at h;exact(nil h.symm).elim
  ·cases h
 |mkI t x=>
  simp only[Au] at h
  split at h
  ·simp only[Option.some.injEq] at h;exact(nil h.symm).elim
  ·cases h
 |isNil n x=>
  simp only[Au] at h
  split at h
  ·simp only[Option.some.injEq] at h;exact(nil h.symm).elim
  ·simp only[Option.some.injEq] at h;exact(nil h.symm).elim
  ·cases h
 |conv k x=>
  simp only[Au] at h
  split at h
  ·simp only[Option.some.injEq] at h;exact(nil h.symm).elim
  ·cases h
 |fld off x=>
  simp only[Au] at h
  split at h<;>first|(simp only[Option.some.injEq] at h;exact(nil h.symm).elim)|cases h
 |part agg off n x=>
  simp only[Au] at h
  split at h
  ·split at h
   ·exact(mapnil h).elim
   ·cases h
  ·split at h
   ·exact(mapnil h).elim
   ·cases h
  ·cases h
 |idx sz x i=>
  simp only[Au] at h
  split at h
  ·split at h
   ·split at h
    ·split at h
     ·simp only[Option.some.injEq] at h;exact(nil h.symm).elim
     ·cases h
    ·cases h
   ·cases h
  ·split at h
   ·split at h
    ·simp only[Option.some.injEq] at h;exact(nil h.symm).elim
    ·cases h
   ·cases h
  ·cases h
 |b2s x=>
  simp only[Au] at h
  split at h
  ·simp only[Option.map_eq_some_iff] at h
   obtain⟨v,hv,h⟩:=h
   exact(nil h.symm).elim
  ·cases h
 |aidx l n x i=>
  simp only[Au] at h
  split at h
  ·split at h
   ·simp only[Option.map_eq_some_iff] at h
    obtain⟨v,hv,h⟩:=h
    exact(nil h.symm).elim
   ·cases h
  ·cases h
 |sidx x i=>
  simp only[Au] at h
  split at h
  ·split at h
   ·split at h
    ·simp only[Option.some.injEq] at h;exact(nil h.symm).elim
    ·cases h
   ·cases h
  ·cases h
 |ext i x=>
  simp only[Au] at h
  split at h
  ·split at h
   ·simp only[Option.some.injEq] at h;exact(nil h.symm).elim
   ·cases h
  ·cases h
 |build z ps=>
  simp only[Au] at h
  cases hb:ps.all (fun p=>(σ.ev p.2.2).solid) with
  |false=>rw[hb] at h;cases h
  |true=>
   rw[hb,cond_true] at h
   split at h
   ·exact(mapnil h).elim
   ·cases h
 |slc s sz x lo hi=>
  cases s with
  |true=>
   simp only[Au] at h
   split at h
   ·split at h
    ·split at h
     ·simp only[Option.some.injEq] at h;exact(nil h.symm).elim
     ·cases h
    ·cases h
   ·cases h
  |false=>
   simp only[Au] at h
   split at h
   ·split at h
    ·split at h
     ·split at h
      ·simp only[Option.some.injEq] at h;exact(nil h.symm).elim
      ·cases h
     ·cases h
    ·cases h
   ·cases h
 |len s x=>
  cases s with
  |true=>
   simp only[Au] at h
   split at h
   ·simp only[Option.some.injEq] at h;exact(nil h.symm).elim
   ·cases h
  |false=>
   simp only[Au] at h
   split at h
   ·simp only[Option.some.injEq] at h;exact(nil h.symm).elim
   ·cases h
 |mm mx x xs=>
  simp only[Au] at h
  split at h
  ·exact(mapnilP h).elim
  ·cases h
end Go.Av
end
section
namespace Go.Av
def AOp.tmps(op:AOp):List Nat:=op.opds.filterMap fun| .tmp t=>some t|_=>none
def GOp.looks(g:GOp):List Nat:=(match g.g with|some (t,_)=>[t]|none=>[])++g.op.tmps
def A4w(acc:List Nat)(o:Oper):Nat:=o.after.toList.foldl (fun m e=>bif Region.binds .any e then m ||| (acc.getD e.on 0 ||| 1 <<< e.on) else m) 0
def Aon(acc:List Nat):List Oper→List Nat
 |[]=>acc
 |o::os=>Aon (acc++[A4w acc o]) os
def Agx(ms:List Nat)(m j t:Nat):Nat→List GOp→Bool
 |_,[]=>true
 |i,g::gs=>(bif g.d==some t then(bif decide (i<j) then m.testBit i else decide (j<i)&&(ms.getD i 0).testBit j) else true)&&Agx ms m j t (i+1) gs
def Ajk:List GOp→Bool
 |[]=>true
 |g::gs=>(match g.d with|none=>true|some d=>gs.all fun g'=>g'.d !=some d)&&Ajk gs
def Aua(g:GOp):Bool:=match g.op with
 | .append kd _ _ _ _=>g.d==some kd
 |_=>true
def distinct(gs:List GOp):Bool:=Ajk gs&&gs.all Aua
def Al4(n:Nat)(ms:List Nat)(gs:List GOp)(ks:List Key)(j:Nat)(o:Oper)(g:GOp):Bool:=
 o.after.toList.all (fun e=> !Region.binds .any e||decide (e.on<j))&&
 (g.op.keys (g.d.getD 0)).all (fun k=>ks.contains k&&g.d.isSome)&&
 g.looks.all (fun t=>Agx ms (ms.getD j 0) j t 0 gs)&&
 (!g.op.isB||(List.range n).all fun i=>i==j||(bif decide (i<j) then(ms.getD j 0).testBit i else(ms.getD i 0).testBit j))
def Ajl(n:Nat)(ms:List Nat)(gs:List GOp)(ks:List Key):Nat→List Oper→List GOp→Bool
 |_,[],[]=>true
 |j,o::os,g::gs'=>Al4 n ms gs ks j o g&&Ajl n ms gs ks (j+1) os gs'
 |_,_,_=>false
def Ap7(ops:List Oper)(gs:List GOp)(ks:List Key):Bool:=
 distinct gs&&ks.all (fun| .ext _=>false|_=>true)&&Ajl ops.length (Aon [] ops) gs ks 0 ops gs
inductive Reach (ops:List Oper):Nat→Nat→Prop
 |edge (j:Nat) (o:Oper) (e:Edge) (ho:ops[j]? =some o) (he:e∈o.after) (hb:Region.binds .any e=true):Reach ops j e.on
 |far (j i:Nat) (o:Oper) (e:Edge) (ho:ops[j]? =some o) (he:e∈o.after) (hb:Region.binds .any e=true) (h:Reach ops e.on i):Reach ops j i
theorem A9x{acc:List Nat}{o:Oper}{i:Nat}(h:(A4w acc o).testBit i=true): ∃e∈o.after,Region.binds .any e=true∧(i=e.on∨(acc.getD e.on 0).testBit i=true):=by
 have gen: ∀(l:List Edge) (m:Nat),(l.foldl (fun m e=>bif Region.binds .any e then m ||| (acc.getD e.on 0 ||| 1 <<< e.on) else m) m).testBit i=true→
   m.testBit i=true∨ ∃e∈l,Region.binds .any e=true∧(i=e.on∨(acc.getD e.on 0).testBit i=true):=by
  intro l
  induction l with
  |nil=>intro m h;exact .inl h
  |cons e l ih=>
   intro m h
   simp only[List.foldl_cons] at h
   rcases ih _ h with h1|⟨e',he',h2⟩
   ·cases hb:Region.binds .any e with
    |false=>rw[hb] at h1;exact .inl h1
    |true=>
     rw[hb,cond_true,Nat.testBit_or,Nat.testBit_or,Bool.or_eq_true,Bool.or_eq_true] at h1
     rcases h1 with h1|h1|h1
     ·exact .inl h1
     ·exact .inr ⟨e,by simp,hb,.inr h1⟩
     ·refine .inr ⟨e,by simp,hb,.inl ?_⟩
      rw[Nat.one_shiftLeft,Nat.testBit_two_pow] at h1
      simpa using(of_decide_eq_true h1).symm
   ·exact .inr ⟨e',by simp[he'],h2⟩
 rcases gen _ _ h with h|⟨e,he,h⟩
 ·simp at h
 ·exact⟨e,by simpa using he,h⟩
theorem Aag{ops:List Oper}: ∀(post pre:List Oper) (acc:List Nat),ops=pre++post→acc.length=pre.length→(∀j i,(acc.getD j 0).testBit i=true→Reach ops j i)→
  ∀j i,((Aon acc post).getD j 0).testBit i=true→Reach ops j i
 |[],pre,acc,_,_,h=>h
 |o::os,pre,acc,hops,hl,h=>by
  refine Aag os (pre++[o]) (acc++[A4w acc o]) (by rw[hops];simp) (by simp[hl]) (fun j i hb=>?_)
  rw[List.getD_eq_getElem?_getD,List.getElem?_append] at hb
  split at hb
  ·exact h j i (by rw[List.getD_eq_getElem?_getD];exact hb)
  ·rename_i hge
   by_cases hj:j=acc.length
   ·subst hj
    simp at hb
    obtain⟨e,he,hbd,h1⟩:=A9x hb
    have ho:ops[acc.length]? =some o:=by rw[hops,hl];simp
    rcases h1 with rfl|h1
    ·exact .edge _ o e ho he hbd
    ·exact .far _ _ o e ho he hbd (h _ _ h1)
   ·have:[A4w acc o][j-acc.length]? =none:=by
     apply List.getElem?_eq_none_iff.2
     simp;omega
    rw[this] at hb
    simp at hb
theorem Ud{ms:List Nat}{m j t:Nat}: ∀{gs:List GOp} {i0:Nat},Agx ms m j t i0 gs=true→ ∀i g,gs[i]? =some g→g.d=some t→(i0+i<j∧m.testBit (i0+i)=true)∨(j<i0+i∧(ms.getD (i0+i) 0).testBit j=true)
 |[],_,_,i,g,hg,_=>by simp at hg
 |g0::gs,i0,h,i,g,hg,hd=>by
  simp only[Agx,Bool.and_eq_true] at h
  cases i with
  |zero=>
   simp at hg;subst hg
   have h1:=h.1
   rw[hd] at h1
   by_cases hlt:i0<j
   ·exact .inl (by simpa [hlt] using h1)
   ·exact .inr (by simpa [hlt] using h1)
  |succ i=>
   have:=Ud h.2 i g (by simpa using hg) hd
   rw[show i0+(i+1)=i0+1+i by omega]
   exact this
theorem Agu: ∀{gs:List GOp},Ajk gs=true→ ∀(i i':Nat) (g g':GOp) (d:Nat),gs[i]? =some g→gs[i']? =some g'→g.d=some d→g'.d=some d→i=i'
 |[],_,i,i',g,g',d,h1,_,_,_=>by simp at h1
 |g0::gs,h,i,i',g,g',d,h1,h2,h3,h4=>by
  simp only[Ajk,Bool.and_eq_true] at h
  have one: ∀(q:GOp) (i:Nat),g0.d=some d→gs[i]? =some q→q.d=some d→False:=fun q i hd hq hqd=>by
   have:=h.1
   rw[hd] at this
   simp only[List.all_eq_true] at this
   have:=this q (List.mem_of_getElem? hq)
   simp[hqd] at this
  cases i with
  |zero=>
   cases i' with
   |zero=>rfl
   |succ i'=>
    simp at h1 h2;subst h1
    exact(one g' i' h3 h2 h4).elim
  |succ i=>
   cases i' with
   |zero=>
    simp at h1 h2;subst h2
    exact(one g i h4 h1 h3).elim
   |succ i'=>
    simp at h1 h2
    rw[Agu h.2 i i' g g' d h1 h2 h3 h4]
theorem Ak9{gs:List GOp}(h:distinct gs=true): ∀(i i':Nat) (g g':GOp) (d:Nat),gs[i]? =some g→gs[i']? =some g'→g.d=some d→g'.d=some d→i=i':=by
 unfold distinct at h
 rw[Bool.and_eq_true] at h
 exact Agu h.1
theorem An4{gs:List GOp}(h:distinct gs=true): ∀(i:Nat) (g:GOp) (kd sz b:Nat) (x y:Opd),gs[i]? =some g→g.op= .append kd sz b x y→g.d=some kd:=by
 intro i g kd sz b x y hg hop
 unfold distinct at h
 rw[Bool.and_eq_true,List.all_eq_true] at h
 have:=h.2 g (List.mem_of_getElem? hg)
 unfold Aua at this
 rw[hop] at this
 simpa using this
structure DrawBase (ops:List Oper) (gs:List GOp) (ks:List Key):Prop where
 len:ops.length=gs.length
 dist: ∀(i i':Nat) (g g':GOp) (d:Nat),gs[i]? =some g→gs[i']? =some g'→g.d=some d→g'.d=some d→i=i'
 app: ∀(i:Nat) (g:GOp) (kd sz b:Nat) (x y:Opd),gs[i]? =some g→g.op= .append kd sz b x y→g.d=some kd
 noext: ∀k∈ks,∀i,k≠ .ext i
 back: ∀j o,ops[j]? =some o→ ∀e∈o.after,Region.binds .any e=true→e.on<j
 keys: ∀(j:Nat) (g:GOp),gs[j]? =some g→ ∀k∈g.op.keys (g.d.getD 0),k∈ks∧ ∃d,g.d=some d
 looks: ∀(j:Nat) (g:GOp),gs[j]? =some g→ ∀t∈g.looks,∀(i:Nat) (g':GOp),gs[i]? =some g'→g'.d=some t→(i<j∧Reach ops j i)∨(j<i∧Reach ops i j)
structure Alw (ops:List Oper) (gs:List GOp) (ks:List Key):Prop extends DrawBase ops gs ks where
 ordB: ∀(j:Nat) (g:GOp),gs[j]? =some g→g.op.isB=true→ ∀i,i<ops.length→(i<j→Reach ops j i)∧(j<i→Reach ops i j)
theorem An5{n:Nat}{ms:List Nat}{gs:List GOp}{ks:List Key}: ∀{os:List Oper} {gs':List GOp} {j0:Nat},Ajl n ms gs ks j0 os gs'=true→
  os.length=gs'.length∧ ∀(j:Nat) (o:Oper) (g:GOp),os[j]? =some o→gs'[j]? =some g→Al4 n ms gs ks (j0+j) o g=true
 |[],[],_,_=>by simp
 |[],_::_,_,h=>by simp[Ajl] at h
 |_::_,[],_,h=>by simp[Ajl] at h
 |o::os,g::gs',j0,h=>by
  simp only[Ajl,Bool.and_eq_true] at h
  obtain⟨e1,e2⟩:=An5 h.2
  refine⟨by simp[e1],fun j o' g' h1 h2=>?_⟩
  cases j with
  |zero=>simp at h1 h2;subst h1;subst h2;exact h.1
  |succ j=>
   rw[show j0+(j+1)=j0+1+j by omega]
   exact e2 j o' g' (by simpa using h1) (by simpa using h2)
theorem Ark{ops:List Oper}{gs:List GOp}{ks:List Key}(h:Ap7 ops gs ks=true):Alw ops gs ks:=by
 simp only[Ap7,Bool.and_eq_true] at h
 obtain⟨⟨h1,h2⟩,h3⟩:=h
 obtain⟨e1,e2⟩:=An5 h3
 have hr: ∀j i,((Aon [] ops).getD j 0).testBit i=true→Reach ops j i:=Aag ops [] [] rfl rfl (by simp)
 have both: ∀(j:Nat) (g:GOp),gs[j]? =some g→ ∃o,ops[j]? =some o∧Al4 ops.length (Aon [] ops) gs ks j o g=true:=fun j g hg=>by
  have hlt:=(List.getElem?_eq_some_iff.1 hg).1
  have ho:ops[j]? =some (ops[j]'(by omega)):=List.getElem?_eq_getElem (by omega)
  exact⟨_,ho,by simpa using e2 j _ g ho hg⟩
 refine⟨⟨e1,Ak9 h1,An4 h1,?_,?_,?_,?_⟩,?_⟩
 ·intro k hk i e
  subst e
  have:=List.all_eq_true.1 h2 _ hk
  simp at this
 ·intro j o ho e he hb
  have hlt:=(List.getElem?_eq_some_iff.1 ho).1
  have hg:gs[j]? =some (gs[j]'(by omega)):=List.getElem?_eq_getElem (by omega)
  have:=e2 j o _ ho hg
  simp only[Al4,Bool.and_eq_true,List.all_eq_true,Nat.zero_add] at this
  have:=this.1.1.1 e (by simpa using he)
  simpa [hb] using this
 ·intro j g hg k hk
  obtain⟨o,ho,hd⟩:=both j g hg
  simp only[Al4,Bool.and_eq_true,List.all_eq_true] at hd
  have:=hd.1.1.2 k hk
  exact⟨by simpa using this.1,Option.isSome_iff_exists.1 this.2⟩
 ·intro j g hg t ht i g' hg' hd'
  obtain⟨o,ho,hd⟩:=both j g hg
  simp only[Al4,Bool.and_eq_true,List.all_eq_true] at hd
  have:=Ud (hd.1.2 t ht) i g' hg' hd'
  simp only[Nat.zero_add] at this
  exact this.imp (fun q=>⟨q.1,hr j i q.2⟩) (fun q=>⟨q.1,hr i j q.2⟩)
 ·intro j g hg hB i hi
  obtain⟨o,ho,hd⟩:=both j g hg
  simp only[Al4,Bool.and_eq_true] at hd
  have:=hd.2
  rw[hB] at this
  simp only[Bool.not_true,Bool.false_or,List.all_eq_true,List.mem_range] at this
  have:=this i hi
  refine⟨fun hlt=>hr j i ?_,fun hlt=>hr i j ?_⟩
  ·have hne:(i==j)=false:=by simp;omega
   simpa [hne,hlt] using this
  ·have hne:(i==j)=false:=by simp;omega
   have hnl: ¬i<j:=by omega
   simpa [hne,hnl] using this
theorem A87{σ:St}{k k':Key}{o:Ah}(h:(σ.freeze k).look k'=some o): ∃o2,σ.look k'=some o2:=by
 unfold St.freeze at h
 split at h
 ·rename_i x hk
  have e:Ay ((σ.hp.filter fun p=>decide (p.1≠k)).map fun p=>(p.1,p.2.freeze k x)) k'=some o:=h
  rw[Aoj] at e
  split at e
  ·cases e
  ·simp only[Option.map_eq_some_iff] at e
   obtain⟨o2,h2,_⟩:=e
   exact⟨o2,h2⟩
 ·exact⟨o,h⟩
theorem Agy: ∀(ks:List Key) {σ:St} {k':Key} {o:Ah},(σ.freezeAll ks).look k'=some o→ ∃o2,σ.look k'=some o2
 |[],_,_,o,h=>⟨o,h⟩
 |k::ks,σ,k',o,h=>by obtain⟨o2,h2⟩:=Agy ks h;exact A87 h2
theorem Qv{σ:St}{k k':Key}{o1 o:Ah}(h:(σ.over k o1).look k'=some o): ∃o2,σ.look k'=some o2:=by
 rw[Bu] at h
 split at h
 ·rename_i e;subst e
  simp only[Option.map_eq_some_iff] at h
  obtain⟨o2,h2,_⟩:=h
  exact⟨o2,h2⟩
 ·exact⟨o,h⟩
theorem Aak{f:Key→Option Key}: ∀{ks:List Key} {ext:List (Option Ah)} {σ σ':St} {k:Key} {o:Ah},C8 f σ ks ext=some σ'→σ'.look k=some o→ ∃o2,σ.look k=some o2
 |[],[],σ,σ',k,o,h,hk=>by simp only[C8,Option.some.injEq] at h;subst h;exact⟨o,hk⟩
 |[],_::_,_,_,_,_,h,_=>by simp[C8] at h
 |_::_,[],_,_,_,_,h,_=>by simp[C8] at h
 |k1::ks,none::r,σ,σ',k,o,h,hk=>Aak (ks:=ks) (ext:=r) (by simpa only[C8] using h) hk
 |k1::ks,some o1::r,σ,σ',k,o,h,hk=>by
  obtain⟨o2,h2⟩:=Aak (ks:=ks) (ext:=r) (by simpa only[C8] using h) hk
  exact Qv h2
theorem Bio{cl:Callee}{σ σ':St}{dst:Option Nat}{op:AOp}(hb:Fm cl σ dst op=some σ'){k:Key}{o:Ah}(hk:σ'.look k=some o):(∃o2,σ.look k=some o2)∨(∃d i,dst=some d∧k= .loc d i)∨ ∃kd sz b x y,op= .append kd sz b x y∧k= .loc kd 0:=by
 cases op with
 |store n x y=>
  simp only[Fm] at hb
  split at hb
  ·split at hb
   ·split at hb
    ·cases hb
    ·cases hb
    ·split at hb
     ·simp only[Option.some.injEq] at hb;subst hb
      rw[St.look_put] at hk
      exact .inl (Qv hk)
     ·cases hb
   ·cases hb
  ·split at hb
   ·split at hb
    ·split at hb
     ·split at hb
      ·simp only[Option.some.injEq] at hb;subst hb
       rw[St.look_put] at hk
       exact .inl (Qv hk)
      ·cases hb
     ·cases hb
    ·cases hb
   ·cases hb
  ·cases hb
 |append kd sz bytes x y=>
  simp only[Fm] at hb
  split at hb
  ·cases hb
  ·rename_i d
   split at hb
   ·cases hb
   ·split at hb
    ·split at hb
     ·simp only[Option.some.injEq] at hb;subst hb
      rw[St.look_put,St.look_ins] at hk
      split at hk
      ·rename_i e;exact .inr (.inr ⟨kd,sz,bytes,x,y,rfl,e.symm⟩)
      ·exact .inl (Ajm hk)
     ·cases hb
    ·rename_i k1 hx
     split at hb
     ·rename_i sz' xs hk1
      split at hb
      ·simp only[Option.some.injEq] at hb;subst hb
       rw[St.look_put,St.look_ins] at hk
       split at hk
       ·rename_i e;exact .inr (.inr ⟨kd,sz,bytes,x,y,rfl,e.symm⟩)
       ·obtain⟨o2,h2⟩:=Ajm hk
        exact .inl (Ajm h2)
      ·cases hb
     ·cases hb
    ·cases hb
 |mset kk x k1 v=>
  simp only[Fm] at hb
  split at hb
  ·split at hb
   ·simp only[cond_eq_ite] at hb
    split at hb
    ·simp only[Option.some.injEq] at hb;subst hb
     rw[St.look_put] at hk
     exact .inl (Qv hk)
    ·cases hb
   ·cases hb
  ·cases hb
 |call keep m f args fz ln=>
  simp only[Fm] at hb
  split at hb
  ·cases hb
  ·rename_i d
   split at hb
   ·cases hb
   ·split at hb
    ·cases hb
    ·split at hb
     ·cases hb
     ·split at hb
      ·cases hb
      ·rename_i e htook
       split at hb
       ·cases hb
       ·rename_i σ2 hback
        simp only[Option.some.injEq] at hb;subst hb
        rw[St.look_put] at hk
        unfold St.insAll St.look at hk
        simp only[D4] at hk
        cases hi:Ay e.ins k with
        |some o2=>
         obtain⟨i,_,rfl⟩:=A3l htook hi
         exact .inr (.inl ⟨d,i,rfl,rfl⟩)
        |none=>
         rw[hi] at hk
         obtain⟨o2,h2⟩:=Aak hback (k:=k) (o:=o) (by simpa [St.look] using hk)
         obtain⟨o3,h3⟩:=Oq _ h2
         obtain⟨o4,h4⟩:=Oq _ h3
         exact .inl (Agy _ h4)
 |_=>cases hb
end Go.Av
end
section
namespace Go.Av
structure Wk (cl:Callee) (gs:List GOp) (S:Nat→St):Prop where
 at': ∀i g,gs[i]? =some g→step cl true (S i) g=some (S (i+1))
theorem At7{cl:Callee}: ∀{gs:List GOp} {σ σ':St},Md cl true gs σ=some σ'→ ∃S,S 0=σ∧S gs.length=σ'∧Wk cl gs S
 |[],σ,σ',h=>by
  simp only[Md,Option.some.injEq] at h
  exact⟨fun _=>σ,rfl,h,⟨by simp⟩⟩
 |g::gs,σ,σ',h=>by
  simp only[Md] at h
  split at h
  ·rename_i σ1 h1
   obtain⟨S,e1,e2,e3⟩:=At7 h
   refine⟨fun i=>match i with|0=>σ|i+1=>S i,rfl,e2,⟨fun i g' hg=>?_⟩⟩
   cases i with
   |zero=>simp at hg;subst hg;simp only[e1];exact h1
   |succ i=>exact e3.at' i g' (by simpa using hg)
  ·cases h
structure Seg (cl:Callee) (gs:List GOp) (S:Nat→St) (m:Nat) (L:Nat→Prop) (σ:St):Prop where
 g1: ∀t,(∀i g,m≤i→L i→gs[i]? =some g→g.d≠some t)→σ.get t=(S m).get t
 g2: ∀i g e t,m≤i→L i→gs[i]? =some g→Dh cl (S i) g=some e→g.d=some t→σ.get t=e.v
 l1: ∀k,(∀i g e,m≤i→L i→gs[i]? =some g→Dh cl (S i) g=some e→Ay e.ins k=none)→σ.look k=(S m).look k
 l2: ∀i g e k o,m≤i→L i→gs[i]? =some g→Dh cl (S i) g=some e→Ay e.ins k=some o→σ.look k=some o
section
variable {cl:Callee} {ops:List Oper} {gs:List GOp} {ks:List Key} {S:Nat→St}
theorem Gh{σ σ':St}{g:GOp}(hs:step cl true σ g=some σ')(hB:g.op.isB=false): ∃e,Dh cl σ g=some e∧σ'=(σ.insAll e.ins).put g.d e.v:=by
 unfold step at hs
 unfold Dh
 split at hs
 ·cases hs
 ·rename_i hw
  simp only[Option.some.injEq] at hs
  exact⟨⟨g.op.skipV,[]⟩,by rw[hw],hs.symm⟩
 ·rename_i hw
  rw[hB] at hs
  simp only[cond_false,cond_true] at hs
  unfold Alt at hs
  split at hs
  ·rename_i e he
   simp only[Option.some.injEq] at hs
   exact⟨e,by rw[hw];exact he,hs.symm⟩
  ·cases hs
theorem Qq{op:AOp}{d:Nat}{k:Key}(h:k∈op.keys d): ∃i,k= .loc d i:=by
 unfold AOp.keys at h
 split at h
 ·simp at h;exact⟨0,h⟩
 ·simp at h;exact⟨0,h⟩
 ·simp at h;exact⟨0,h⟩
 ·simp at h;exact⟨0,h⟩
 ·simp at h;exact⟨0,h⟩
 ·split at h
  ·simp at h;exact⟨0,h⟩
  ·simp at h
 ·simp at h;obtain⟨i,_,e⟩:=h;exact⟨i,e.symm⟩
 ·simp at h
theorem Jq(hD:DrawBase ops gs ks){i:Nat}{g:GOp}{σ:St}{e:Eff}(hg:gs[i]? =some g)(he:Dh cl σ g=some e){k:Key}{o:Ah}(hk:Ay e.ins k=some o):
  k∈g.op.keys (g.d.getD 0)∧ ∃d n,g.d=some d∧k= .loc d n:=by
 unfold Dh at he
 split at he
 ·cases he
 ·simp only[Option.some.injEq] at he;subst he;simp[Ay] at hk
 ·have h1:=A8f he hk
  obtain⟨_,d,hd⟩:=hD.keys i g hg k h1
  obtain⟨n,hn⟩:=Qq h1
  rw[hd] at hn
  exact⟨h1,d,n,hd,hn⟩
theorem fresh(hD:DrawBase ops gs ks)(hR:Wk cl gs S)(h0: ∀k∈ks,(S 0).look k=none){i:Nat}{g:GOp}(hg:gs[i]? =some g){k:Key}(hk:k∈g.op.keys (g.d.getD 0)): ∀m,m≤i→(S m).look k=none:=by
 intro m
 induction m with
 |zero=>intro _;exact h0 k (hD.keys i g hg k hk).1
 |succ m ih=>
  intro hm
  have ih:=ih (by omega)
  have hlt:m<gs.length:=by have:=(List.getElem?_eq_some_iff.1 hg).1;omega
  have hgm:gs[m]? =some gs[m]:=List.getElem?_eq_getElem hlt
  have hs:=hR.at' m _ hgm
  obtain⟨_,d,hd⟩:=hD.keys i g hg k hk
  obtain⟨n,hn⟩:=Qq hk
  rw[hd] at hn
  have hne: ∀d',(gs[m]).d=some d'→d'≠d:=fun d' h1 e=>by subst e;have:=hD.dist m i _ _ d' hgm hg h1 hd;omega
  cases hl:(S (m+1)).look k with
  |none=>rfl
  |some o=>
   exfalso
   cases hB:(gs[m]).op.isB with
   |false=>
    obtain⟨e,he,hS⟩:=Gh hs hB
    rw[hS,St.look_put] at hl
    unfold St.insAll St.look at hl
    simp only[D4] at hl
    cases hi:Ay e.ins k with
    |some o2=>
     obtain⟨_,d',n',hd',hk'⟩:=Jq hD hgm he hi
     rw[hn] at hk'
     injection hk' with e1
     exact hne d' hd' e1.symm
    |none=>
     rw[hi] at hl
     unfold St.look at ih
     rw[ih] at hl
     simp at hl
   |true=>
    unfold step at hs
    split at hs
    ·cases hs
    ·simp only[Option.some.injEq] at hs
     rw[←hs,St.look_put,ih] at hl
     cases hl
    ·rw[hB,cond_true] at hs
     rcases Bio hs hl with⟨o2,h2⟩|⟨d',n',hd',hk'⟩|⟨kd,sz,b,x,y,hop,hk'⟩
     ·rw[ih] at h2;cases h2
     rotate_left
     ·have hd':=hD.app m _ kd sz b x y hgm hop
      rw[hn] at hk'
      injection hk' with e1
      exact hne kd hd' e1.symm
     ·rw[hn] at hk'
      injection hk' with e1
      exact hne d' hd' e1.symm
theorem Wl(m:Nat){L:Nat→Prop}(hL: ∀i,m≤i→i<gs.length→ ¬L i):Seg cl gs S m L (S m):=by
 have no: ∀i g,m≤i→L i→gs[i]? =some g→False:=fun i g hm hl hg=>hL i hm (List.getElem?_eq_some_iff.1 hg).1 hl
 exact⟨fun t _=>rfl,fun i g e t hm hl hg=>(no i g hm hl hg).elim,fun k _=>rfl,fun i g e k o hm hl hg=>(no i g hm hl hg).elim⟩
theorem Seg.more(hD:Alw ops gs ks){m:Nat}{L L':Nat→Prop}{σ:St}(h:Seg cl gs S m L σ){j:Nat}{g:GOp}{e:Eff}(hm:m≤j)(hg:gs[j]? =some g)(he:Dh cl (S j) g=some e)(hLj: ¬L j)(hL': ∀i,L' i↔L i∨i=j):
  Seg cl gs S m L' ((σ.insAll e.ins).put g.d e.v):=by
 have hlook: ∀k,((σ.insAll e.ins).put g.d e.v).look k=(Ay e.ins k).or (σ.look k):=fun k=>by
  rw[St.look_put];unfold St.insAll St.look;simp only[D4]
 have hget: ∀t,((σ.insAll e.ins).put g.d e.v).get t=if g.d=some t then e.v else σ.get t:=fun t=>by
  rw[Cm];rfl
 refine⟨fun t ht=>?_,fun i g' e' t hmi hl hg' he' hd=>?_,fun k hk=>?_,fun i g' e' k o hmi hl hg' he' ho=>?_⟩
 ·rw[hget,if_neg (ht j g hm ((hL' j).2 (.inr rfl)) hg)]
  exact h.g1 t (fun i g' hmi hl hg'=>ht i g' hmi ((hL' i).2 (.inl hl)) hg')
 ·rw[hget]
  rcases(hL' i).1 hl with hl|rfl
  ·rw[if_neg (fun e1=>by have:=hD.dist i j g' g t hg' hg hd e1;subst this;exact hLj hl)]
   exact h.g2 i g' e' t hmi hl hg' he' hd
  ·rw[hg] at hg';cases hg'
   rw[he] at he';cases he'
   rw[if_pos hd]
 ·rw[hlook,hk j g e hm ((hL' j).2 (.inr rfl)) hg he]
  simpa using h.l1 k (fun i g' e' hmi hl hg' he'=>hk i g' e' hmi ((hL' i).2 (.inl hl)) hg' he')
 ·rw[hlook]
  rcases(hL' i).1 hl with hl|rfl
  ·have:Ay e.ins k=none:=by
    cases hi:Ay e.ins k with
    |none=>rfl
    |some o2=>
     obtain⟨_,d1,n1,hd1,hk1⟩:=Jq hD.toDrawBase hg he hi
     obtain⟨_,d2,n2,hd2,hk2⟩:=Jq hD.toDrawBase hg' he' ho
     rw[hk1] at hk2
     injection hk2 with e1
     subst e1
     have:=hD.dist i j g' g d1 hg' hg hd2 hd1
     subst this
     exact(hLj hl).elim
   rw[this]
   simpa using h.l2 i g' e' k o hmi hl hg' he' ho
  ·rw[hg] at hg';cases hg'
   rw[he] at he';cases he'
   rw[ho];rfl
theorem Seg.text(hD:Alw ops gs ks)(hR:Wk cl gs S)(m:Nat): ∀j,m≤j→j≤gs.length→(∀i g,m≤i→i<j→gs[i]? =some g→g.op.isB=false)→Seg cl gs S m (fun i=>i<j) (S j):=by
 intro j
 induction j with
 |zero=>intro hm _ _;have:m=0:=by omega
        subst this;exact Wl 0 (by intro i _ _ h;omega)
 |succ j ih=>
  intro hm hj hB
  by_cases e:m=j+1
  ·subst e;exact Wl _ (by intro i h1 _ h2;omega)
  ·have h:=ih (by omega) (by omega) (fun i g h1 h2=>hB i g h1 (by omega))
   have hg:gs[j]? =some gs[j]:=List.getElem?_eq_getElem (by omega)
   obtain⟨e1,he,hS⟩:=Gh (hR.at' j _ hg) (hB j _ (by omega) (by omega) hg)
   rw[hS]
   exact h.more hD (by omega) hg he (by omega) (fun i=>by constructor<;>intro hh<;>omega)
theorem Seg.same(hR:Wk cl gs S){m:Nat}{L L':Nat→Prop}{σ σ':St}(h:Seg cl gs S m L σ)(h':Seg cl gs S m L' σ')(hL: ∀i,m≤i→i<gs.length→(L i↔L' i))(hB: ∀i g,m≤i→L i→gs[i]? =some g→g.op.isB=false):
  (∀t,σ'.get t=σ.get t)∧(∀k,σ'.look k=σ.look k):=by
 have hex: ∀i g,m≤i→L i→gs[i]? =some g→ ∃e,Dh cl (S i) g=some e:=fun i g hm hl hg=>by
  obtain⟨e,he,_⟩:=Gh (hR.at' i g hg) (hB i g hm hl hg)
  exact⟨e,he⟩
 have hlt: ∀{i g},gs[i]? =some g→i<gs.length:=fun hg=>(List.getElem?_eq_some_iff.1 hg).1
 refine⟨fun t=>?_,fun k=>?_⟩
 ·by_cases hc: ∃i g,m≤i∧L i∧gs[i]? =some g∧g.d=some t
  ·obtain⟨i,g,hm,hl,hg,hd⟩:=hc
   obtain⟨e,he⟩:=hex i g hm hl hg
   rw[h.g2 i g e t hm hl hg he hd,h'.g2 i g e t hm ((hL i hm (hlt hg)).1 hl) hg he hd]
  ·rw[h.g1 t (fun i g hm hl hg hd=>hc ⟨i,g,hm,hl,hg,hd⟩),h'.g1 t (fun i g hm hl hg hd=>hc ⟨i,g,hm,(hL i hm (hlt hg)).2 hl,hg,hd⟩)]
 ·by_cases hc: ∃i g e o,m≤i∧L i∧gs[i]? =some g∧Dh cl (S i) g=some e∧Ay e.ins k=some o
  ·obtain⟨i,g,e,o,hm,hl,hg,he,ho⟩:=hc
   rw[h.l2 i g e k o hm hl hg he ho,h'.l2 i g e k o hm ((hL i hm (hlt hg)).1 hl) hg he ho]
  ·have none': ∀i g e,m≤i→L i→gs[i]? =some g→Dh cl (S i) g=some e→Ay e.ins k=none:=fun i g e hm hl hg he=>by
    cases ho:Ay e.ins k with
    |none=>rfl
    |some o=>exact(hc ⟨i,g,e,o,hm,hl,hg,he,ho⟩).elim
   rw[h.l1 k none',h'.l1 k (fun i g e hm hl hg he=>none' i g e hm ((hL i hm (hlt hg)).2 hl) hg he)]
theorem Seg.eff0(hD:Alw ops gs ks)(hR:Wk cl gs S)(h0: ∀k∈ks,(S 0).look k=none){P:Program}{m:Nat}{L:Nat→Prop}{σ:St}(h:Seg cl gs S m L σ)
  {j:Nat}{g:GOp}{e:Eff}(hr: ∀t∈g.looks,∀k,(σ.get t).names k=true→ ∃o,σ.look k=some o)(hm:m≤j)(hg:gs[j]? =some g)(hB: ∀i g,m≤i→i<j→gs[i]? =some g→g.op.isB=false)(hBL: ∀i g,m≤i→L i→gs[i]? =some g→g.op.isB=false)(hreach: ∀i,Reach ops j i→L i)(hno: ∀i,L i→ ¬Reach ops i j)(he:Dh cl (S j) g=some e):
  Dh cl σ g=some e:=by
 have hlt: ∀{i g},gs[i]? =some g→i<gs.length:=fun hg=>(List.getElem?_eq_some_iff.1 hg).1
 have ht:=Seg.text (cl:=cl) hD hR m j hm (by have:=hlt hg;omega) hB
 have hex: ∀i g,m≤i→i<j→gs[i]? =some g→ ∃e,Dh cl (S i) g=some e:=fun i g hm hl hg=>by
  obtain⟨e,he,_⟩:=Gh (hR.at' i g hg) (hB i g hm hl hg)
  exact⟨e,he⟩
 have hexL: ∀i g,m≤i→L i→gs[i]? =some g→ ∃e,Dh cl (S i) g=some e:=fun i g hm hl hg=>by
  obtain⟨e,he,_⟩:=Gh (hR.at' i g hg) (hBL i g hm hl hg)
  exact⟨e,he⟩
 have hget: ∀t∈g.looks,σ.get t=(S j).get t:=by
  intro t htl
  by_cases hc: ∃i g',m≤i∧gs[i]? =some g'∧g'.d=some t
  ·obtain⟨i,g',hmi,hg',hd⟩:=hc
   rcases hD.looks j g hg t htl i g' hg' hd with⟨q1,q2⟩|⟨q1,q2⟩
   ·obtain⟨e',he'⟩:=hex i g' hmi q1 hg'
    rw[h.g2 i g' e' t hmi (hreach i q2) hg' he' hd,ht.g2 i g' e' t hmi q1 hg' he' hd]
   ·rw[h.g1 t (fun i2 g2 _ hl2 hg2 hd2=>by have:=hD.dist i2 i g2 g' t hg2 hg' hd2 hd;subst this;exact hno _ hl2 q2),
     ht.g1 t (fun i2 g2 _ hl2 hg2 hd2=>by have:=hD.dist i2 i g2 g' t hg2 hg' hd2 hd;omega)]
  ·rw[h.g1 t (fun i g' hmi _ hg' hd=>hc ⟨i,g',hmi,hg',hd⟩),ht.g1 t (fun i g' hmi _ hg' hd=>hc ⟨i,g',hmi,hg',hd⟩)]
 have hlk: ∀t∈g.looks,Q2 (S j) σ ((S j).get t):=by
  intro t htl k o hn hk
  obtain⟨o',ho'⟩:=hr t htl k (by rw[hget t htl];exact hn)
  by_cases hc: ∃i g' e' o1,m≤i∧i<j∧gs[i]? =some g'∧Dh cl (S i) g'=some e'∧Ay e'.ins k=some o1
  ·obtain⟨i,g',e',o1,hmi,hij,hg',he',ho1⟩:=hc
   have e1:=ht.l2 i g' e' k o1 hmi hij hg' he' ho1
   rw[hk] at e1;cases e1
   obtain⟨hkk,d1,n1,hd1,hk1⟩:=Jq hD.toDrawBase hg' he' ho1
   by_cases hc2: ∃i2 g2 e2 o2,m≤i2∧L i2∧gs[i2]? =some g2∧Dh cl (S i2) g2=some e2∧Ay e2.ins k=some o2
   ·obtain⟨i2,g2,e2,o2,hmi2,hl2,hg2,he2,ho2⟩:=hc2
    obtain⟨_,d2,n2,hd2,hk2⟩:=Jq hD.toDrawBase hg2 he2 ho2
    rw[hk1] at hk2
    injection hk2 with e1
    subst e1
    have:=hD.dist i i2 g' g2 d1 hg' hg2 hd1 hd2
    subst this
    exact h.l2 i g' e' k _ hmi hl2 hg' he' ho1
   ·have:=h.l1 k (fun i2 g2 e2 hmi2 hl2 hg2 he2=>by
     cases ho:Ay e2.ins k with
     |none=>rfl
     |some o2=>exact(hc2 ⟨i2,g2,e2,o2,hmi2,hl2,hg2,he2,ho⟩).elim)
    rw[fresh hD.toDrawBase hR h0 hg' hkk m hmi] at this
    rw[this] at ho';cases ho'
  ·have e1:=ht.l1 k (fun i g' e' hmi hij hg' he'=>by
    cases ho:Ay e'.ins k with
    |none=>rfl
    |some o1=>exact(hc ⟨i,g',e',o1,hmi,hij,hg',he',ho⟩).elim)
   rw[hk] at e1
   have e2:=h.l1 k (fun i g' e' hmi hl hg' he'=>by
    cases ho:Ay e'.ins k with
    |none=>rfl
    |some o1=>
     obtain⟨hkk,_⟩:=Jq hD.toDrawBase hg' he' ho
     rw[fresh hD.toDrawBase hR h0 hg' hkk m hmi] at e1
     cases e1)
   rw[e2,←e1]
 have hwants:σ.wants g.g=(S j).wants g.g:=by
  cases hgg:g.g with
  |none=>rfl
  |some p=>
   obtain⟨t,b⟩:=p
   simp only[St.wants]
   rw[hget t (by simp[GOp.looks,hgg])]
 unfold Dh at he⊢
 rw[hwants]
 split at he
 ·cases he
 ·rename_i hw
  exact he
 ·rename_i hw
  have hx: ∀x∈g.op.opds,(σ.ev x=(S j).ev x)∧Q2 (S j) σ ((S j).ev x):=by
   intro x hx
   cases x with
   |tmp t=>
    have hm:t∈g.looks:=by
     simp only[GOp.looks,List.mem_append]
     exact .inr (by simp only[AOp.tmps,List.mem_filterMap];exact⟨_,hx,rfl⟩)
    exact⟨hget t hm,hlk t hm⟩
   |cst p=>exact⟨rfl,fun k o hn=>by simp[St.ev,SV.names] at hn⟩
   |nils=>exact⟨rfl,fun k o hn=>by simp[St.ev,SV.names] at hn⟩
   |junk=>exact⟨rfl,fun k o hn=>by simp[St.ev,SV.names] at hn⟩
  exact Aly (fun x hx'=>(hx x hx').1) (fun x hx'=>(hx x hx').2) he
theorem Seg.eff(hD:Alw ops gs ks)(hR:Wk cl gs S)(h0: ∀k∈ks,(S 0).look k=none){P:Program}{C:Ctx}{β:Key→Blk}{a:Act}{w:World}{m:Nat}{L:Nat→Prop}{σ:St}(h:Seg cl gs S m L σ)(hr:RR C β σ a w)
  {j:Nat}{g:GOp}{e:Eff}(hm:m≤j)(hg:gs[j]? =some g)(hB: ∀i g,m≤i→i<j→gs[i]? =some g→g.op.isB=false)(hBL: ∀i g,m≤i→L i→gs[i]? =some g→g.op.isB=false)(hreach: ∀i,Reach ops j i→L i)(hno: ∀i,L i→ ¬Reach ops i j)(he:Dh cl (S j) g=some e):
  Dh cl σ g=some e:=h.eff0 (P:=P) hD hR h0 (fun t _ k hn=>(hr.slots t).there hn) hm hg hB hBL hreach hno he
end
end Go.Av
end
section
namespace Go.Av
theorem Tw{p q:Nat→Bool}: ∀(l:List Nat) (i:Nat),i∈l→p i=true→q i=false→(∀j,q j=true→p j=true)→(l.filter q).length+1≤(l.filter p).length
 |[],i,h,_,_,_=>by simp at h
 |x::l,i,h,hp,hq,hsub=>by
  have weak: ∀l:List Nat,(l.filter q).length≤(l.filter p).length:=by
   intro l
   induction l with
   |nil=>simp
   |cons y l ih=>
    simp only[List.filter_cons]
    cases hqy:q y with
    |true=>rw[hsub y hqy];simpa using ih
    |false=>cases hpy:p y with
     |true=>simp;omega
     |false=>simpa using ih
  by_cases hx:x=i
  ·subst hx
   simp only[List.filter_cons,hp,hq,if_true,Bool.false_eq_true,if_false,List.length_cons]
   have:=weak l
   omega
  ·have hm:i∈l:=by
    rcases List.mem_cons.1 h with h|h
    ·exact absurd h.symm hx
    ·exact h
   have ih:=Tw l i hm hp hq hsub
   simp only[List.filter_cons]
   cases hqy:q x with
   |true=>rw[hsub x hqy];simpa using ih
   |false=>cases hpy:p x with
    |true=>simp;omega
    |false=>simpa using ih
theorem Ag3(listed:Array Bool)(i j:Nat)(d:Bool):(listed.setIfInBounds i true).getD j d=if i=j∧i<listed.size then true else listed.getD j d:=by
 simp only[Array.getD_eq_getD_getElem?,Array.getElem?_setIfInBounds]
 by_cases h:i=j
 ·subst h
  by_cases h2:i<listed.size
  ·simp[h2]
  ·simp[h2]
 ·simp[h]
section
variable {P:Program} {C:Ctx} {β:Key→Blk} {σ:St} {a:Act} {w:World} {cl:Callee} {ops:Array Oper} {gs:List GOp} {ks:List Key}
theorem Oo{j:Nat}{o:Oper}(ho:ops[j]? =some o){K:Act→World→Prop}{Q:Exit→Act→World→Prop}(h:Mh P ops o a w K Q):wpOp P ops Q j K a w:=by
 unfold wpOp
 unfold Mh at h
 simp only[ho]
 split
 ·rename_i hw;rw[if_pos hw] at h;exact .inl h
 ·rename_i hw;rw[if_neg hw] at h;exact h
theorem Bgp{nt:Nat}: ∀{l:List Oper} {l':List GOp},Cu (G6 P nt ops) l l'=true→ ∀(j:Nat) (o:Oper) (g:GOp),l[j]? =some o→l'[j]? =some g→G6 P nt ops o g=true
 |[],[],_,j,o,g,h,_=>by simp at h
 |[],_::_,h,_,_,_,_,_=>by simp[Cu] at h
 |_::_,[],h,_,_,_,_,_=>by simp[Cu] at h
 |x::l,y::l',h,j,o,g,h1,h2=>by
  simp only[Cu,Bool.and_eq_true] at h
  cases j with
  |zero=>simp at h1 h2;subst h1;subst h2;exact h.1
  |succ j=>exact Bgp h.2 j o g (by simpa using h1) (by simpa using h2)
theorem Ke{L:Nat→Prop}(hcl: ∀i o e,L i→ops.toList[i]? =some o→e∈o.after→Region.binds .any e=true→L e.on){j i:Nat}(hR:Reach ops.toList j i):
  (∀o e,ops.toList[j]? =some o→e∈o.after→Region.binds .any e=true→L e.on)→L i:=by
 induction hR with
 |edge j o e ho he hb=>intro h;exact h o e ho he hb
 |far j i o e ho he hb _ ih=>intro h;exact ih (fun o' e' ho' he' hb'=>hcl _ o' e' (h o e ho he hb) ho' he' hb')
theorem Bft(hm:P.follows .mixedOrders=true)(hS:Oc P cl){Q:Exit→Act→World→Prop}(hck:Ap7 ops.toList gs ks=true)(hag:Cu (G6 P C.nt ops) ops.toList gs=true){σ':St}(h:RR C β σ a w)
  (hr:Md cl true gs (σ.killAll ks)=some σ')(hQ: ∀β' a' w',RR C β' σ' a' w'→Q .normal a' w'):wpAny P .any ops Q ops.size (Array.replicate ops.size false) a {w with drawn:=w.drawn+1}:=by
 have hD:=Ark hck
 obtain⟨S,e1,e2,hR⟩:=At7 hr
 have h0: ∀k∈ks,(S 0).look k=none:=fun k hk=>by rw[e1];exact Jt _ _ _ hk
 have hlen:ops.size=gs.length:=by simpa using hD.len
 have hop: ∀{j:Nat} {o:Oper},ops[j]? =some o→ops.toList[j]? =some o:=fun h=>by rw[Array.getElem?_toList];exact h
 have main: ∀(fuel:Nat) (listed:Array Bool) (a:Act) (w:World) (m:Nat) (β:Key→Blk) (σ:St),listed.size=ops.size→((List.range ops.size).filter fun i=> !listed.getD i false).length≤fuel→
   (∀i o e,listed.getD i false=true→ops.toList[i]? =some o→e∈o.after→Region.binds .any e=true→listed.getD e.on false=true)→m≤ops.size→(∀i,i<m→listed.getD i false=true)→
   (∀i g,m≤i→listed.getD i false=true→gs[i]? =some g→g.op.isB=false)→Seg cl gs S m (fun i=>listed.getD i false=true) σ→RR C β σ a w→wpAny P .any ops Q fuel listed a w:=by
  intro fuel
  induction fuel with
  |zero=>
   intro listed a w m β σ hsz hcnt hcl hmn hlow hBL hseg hr
   have hall: ∀i,i<ops.size→listed.getD i false=true:=by
    intro i hi
    have h1:=List.eq_nil_of_length_eq_zero (Nat.le_zero.1 hcnt)
    have h2:=(List.filter_eq_nil_iff.1 h1) i (List.mem_range.2 hi)
    simpa using h2
   refine⟨?_,?_⟩
   ·rw[List.eq_nil_iff_forall_not_mem]
    intro j hj
    obtain⟨q1,o,q2,_⟩:=mem_ready.1 hj
    have hlt:=(Array.getElem?_eq_some_iff.1 q2).1
    have:=hall j hlt
    have e:listed.getD j true=listed.getD j false:=by simp[Array.getD,hsz,hlt]
    rw[e,this] at q1;cases q1
   ·have ht:=Seg.text (cl:=cl) hD hR m gs.length (by omega) (Nat.le_refl _) (fun i g q1 q2 q3=>hBL i g q1 (hall i (by omega)) q3)
    obtain⟨q1,q2⟩:=Seg.same hR hseg ht (fun i q1 q2=>⟨fun _=>q2,fun _=>hall i (by omega)⟩) hBL
    have:=hr.congr q1 q2
    rw[e2] at this
    exact hQ _ _ _ this
  |succ fuel ih=>
   intro listed a w m β σ hsz hcnt hcl hmn hlow hBL hseg hr
   have hgd: ∀{j:Nat},j<ops.size→listed.getD j true=listed.getD j false:=fun hlt=>by simp[Array.getD,hsz,hlt]
   refine⟨fun hnil=>?_,fun j hj=>?_⟩
   ·have hall: ∀i,i<ops.size→listed.getD i false=true:=by
     intro i
     induction i using Nat.strongRecOn with
     |_ i ih2=>
      intro hi
      cases hc:listed.getD i false with
      |true=>rfl
      |false=>
       have:i∈Region.ready .any ops listed:=by
        refine mem_ready.2 ⟨by rw[hgd hi];exact hc,ops[i],Array.getElem?_eq_getElem hi,fun e he hb=>?_⟩
        have:=hD.back i _ (hop (Array.getElem?_eq_getElem hi)) e he hb
        exact ih2 _ this (by omega)
       rw[hnil] at this
       cases this
    have ht:=Seg.text (cl:=cl) hD hR m gs.length (by omega) (Nat.le_refl _) (fun i g q1 q2 q3=>hBL i g q1 (hall i (by omega)) q3)
    obtain⟨q1,q2⟩:=Seg.same hR hseg ht (fun i q1 q2=>⟨fun _=>q2,fun _=>hall i (by omega)⟩) hBL
    have:=hr.congr q1 q2
    rw[e2] at this
    exact hQ _ _ _ this
   ·obtain⟨hun,o,ho,hafter⟩:=mem_ready.1 hj
    have hlt:=(Array.getElem?_eq_some_iff.1 ho).1
    rw[hgd hlt] at hun
    have hg:gs[j]? =some (gs[j]'(by omega)):=List.getElem?_eq_getElem (by omega)
    have hmj:m≤j:=by
     by_cases hh:m≤j
     ·exact hh
     ·have:=hlow j (by omega);rw[hun] at this;cases this
    have hreach: ∀i,Reach ops.toList j i→listed.getD i false=true:=fun i hR'=>Ke (L:=fun i=>listed.getD i false=true) hcl hR' (fun o' e ho' he hb=>by
     rw[hop ho] at ho';cases ho';exact hafter e he hb)
    have hG:=Bgp hag j o _ (hop ho) hg
    have hset: ∀i,(listed.setIfInBounds j true).getD i false=true↔listed.getD i false=true∨i=j:=by
     intro i
     rw[Ag3]
     by_cases e:j=i
     ·subst e;simp[hsz,hlt]
     ·rw[if_neg (fun h=>e h.1)]
      constructor
      ·exact .inl
      ·rintro(h|h)
       ·exact h
       ·exact absurd h.symm e
    have hcnt':((List.range ops.size).filter fun i=> !(listed.setIfInBounds j true).getD i false).length≤fuel:=by
     have:=Tw (p:=fun i=> !listed.getD i false) (q:=fun i=> !(listed.setIfInBounds j true).getD i false) (List.range ops.size) j (List.mem_range.2 hlt) (by simp[hun]) (by simp[(hset j).2 (.inr rfl)])
      (fun i hi=>by
       simp only[Bool.not_eq_true'] at hi⊢
       cases hc:listed.getD i false with
       |false=>rfl
       |true=>rw[(hset i).2 (.inl hc)] at hi;cases hi)
     omega
    have hcl': ∀i o e,(listed.setIfInBounds j true).getD i false=true→ops.toList[i]? =some o→e∈o.after→Region.binds .any e=true→(listed.setIfInBounds j true).getD e.on false=true:=by
     intro i o' e hi ho' he hb
     rcases(hset i).1 hi with hi|rfl
     ·exact(hset _).2 (.inl (hcl i o' e hi ho' he hb))
     ·rw[hop ho] at ho';cases ho'
      exact(hset _).2 (.inl (hafter e he hb))
    refine Oo ho ?_
    cases hB:(gs[j]'(by omega)).op.isB with
    |false=>
     have hBm: ∀i g,m≤i→i<j→gs[i]? =some g→g.op.isB=false:=by
      intro i g q1 q2 q3
      cases hb:g.op.isB with
      |false=>rfl
      |true=>
       have:=hreach i ((hD.ordB i g q3 hb j (by simpa using hlt)).2 q2)
       rw[hBL i g q1 this q3] at hb;cases hb
     obtain⟨e,he,hSj⟩:=Gh (hR.at' j _ hg) hB
     have he':=hseg.eff (P:=P) hD hR h0 hr hmj hg hBm hBL hreach (fun i hi hR'=>by have:=Ke (L:=fun i=>listed.getD i false=true) hcl hR' (fun o' e ho' he hb=>hcl i o' e hi ho' he hb);rw[hun] at this;cases this) he
     refine Aoc hS hr hG he' (fun k hk=>?_) (fun β' a' w' h'=>?_) Q
     ·
      cases hl:σ.look k with
      |none=>rfl
      |some o2=>
       exfalso
       obtain⟨_,d,hd⟩:=hD.keys j _ hg k hk
       obtain⟨n,hn⟩:=Qq hk
       rw[hd] at hn
       have:=hseg.l1 k (fun i g' e' q1 q2 q3 q4=>by
        cases hi:Ay e'.ins k with
        |none=>rfl
        |some o3=>
         obtain⟨_,d',n',hd',hk'⟩:=Jq hD.toDrawBase q3 q4 hi
         rw[hn] at hk'
         injection hk' with e3
         have e3:d=d':=e3
         subst e3
         have:=hD.dist i j g' _ d q3 hg hd' hd
         subst this
         rw[hun] at q2;cases q2)
       rw[this,fresh hD.toDrawBase hR h0 hg hk m hmj] at hl
       cases hl
     ·refine ih _ a' w' m β' _ (by simpa using hsz) hcnt' hcl' hmn (fun i hi=>(hset i).2 (.inl (hlow i hi))) (fun i g' q1 q2 q3=>?_) (hseg.more hD hmj hg he (by rw[hun];simp) hset) h'
      rcases(hset i).1 q2 with q2|rfl
      ·exact hBL i g' q1 q2 q3
      ·rw[hg] at q3;cases q3;exact hB
    |true=>
     have ho1:=hD.ordB j _ hg hB
     have hlow': ∀i,i<j→listed.getD i false=true:=fun i hi=>hreach i ((ho1 i (by simp;omega)).1 hi)
     have hhigh: ∀i,j≤i→i<ops.size→ ¬listed.getD i false=true:=by
      intro i q1 q2 q3
      by_cases e:i=j
      ·subst e;rw[hun] at q3;cases q3
      ·have:=(ho1 i (by simpa using q2)).2 (by omega)
       have:=Ke (L:=fun i=>listed.getD i false=true) hcl this (fun o' e ho' he hb=>hcl i o' e q3 ho' he hb)
       rw[hun] at this;cases this
     have ht:=Seg.text (cl:=cl) hD hR m j hmj (by omega) (fun i g q1 q2 q3=>hBL i g q1 (hlow' i q2) q3)
     obtain⟨q1,q2⟩:=Seg.same hR hseg ht (fun i q1 q2=>⟨fun q3=>by
      by_cases hh:i<j
      ·exact hh
      ·exact absurd q3 (hhigh i (by omega) (by omega)),fun q3=>hlow' i q3⟩) hBL
     have hrr:=hr.congr q1 q2
     have hst:step cl false (S j) (gs[j]'(by omega))=some (S (j+1)):=by
      have:=hR.at' j _ hg
      unfold step at this⊢
      rw[hB] at this⊢
      exact this
     refine Aod hS hrr hG hst (fun β' a' w' h'=>?_) Q
     refine ih _ a' w' (j+1) β' _ (by simpa using hsz) hcnt' hcl' (by omega) (fun i hi=>(hset i).2 ?_) (fun i g' q1 q2 q3=>?_) (Wl (j+1) (fun i q1 q2 q3=>?_)) h'
     ·by_cases e:i=j
      ·exact .inr e
      ·exact .inl (hlow' i (by omega))
     ·rcases(hset i).1 q2 with q2|rfl
      ·exact absurd q2 (hhigh i (by omega) (by have:=(List.getElem?_eq_some_iff.1 q3).1;omega))
      ·omega
     ·rcases(hset i).1 q3 with q3|rfl
      ·exact hhigh i (by omega) (by omega) q3
      ·omega
 have hk:=(h.killAll ks).heap (w':={w with drawn:=w.drawn+1}) rfl (Quiet.drawn w _)
 have hrep: ∀i,(Array.replicate ops.size false).getD i false=false:=fun i=>by simp only[Array.getD_eq_getD_getElem?,Array.getElem?_replicate];split<;>rfl
 refine main ops.size _ a _ 0 β _ (by simp) ?_ (fun i o e hi=>by rw[hrep] at hi;cases hi) (Nat.zero_le _) (fun i hi=>by omega) (fun i g _ hi=>by rw[hrep] at hi;cases hi) ?_ hk
 ·refine Nat.le_trans (List.length_filter_le _ _) (by simp)
 ·rw[←e1]
  exact Wl 0 (fun i _ _ q=>by rw[hrep] at q;cases q)
end
end Go.Av
end
section
namespace Go.Av
def AOp.reads:AOp→Bool
 | .load .. | .call .. | .ins .. | .mlook .. | .mlen .. =>true
 |_=>false
def AOp.isStore:AOp→Bool
 | .store .. =>true
 |_=>false
def Brb(σ1 σ2:St)(v:SV):Prop:= ∀k o,v.names k=true→σ1.look k=some o→ ∃o',σ2.look k=some o'∧o.sim o'
section
variable {σ1 σ2:St}
theorem Bko{cl:Callee}{d:Nat}{op:AOp}{e:Eff}(hr:op.reads=false)(hev: ∀x∈op.opds,σ2.ev x=σ1.ev x)(hlk: ∀x∈op.opds,Brb σ1 σ2 (σ1.ev x))(h:Au cl σ1 d op=some e):Au cl σ2 d op=some e:=by
 cases op with
 |load agg n x=>cases hr
 |call keep m f args fz ln=>cases hr
 |mlook kk ok z x k=>cases hr
 |mlen x=>cases hr
 |mkmap kk=>exact h
 |mset kk x k v=>cases h
 |idx sz x i=>
  have e1:=hev x (by simp[AOp.opds])
  have e2:=hev i (by simp[AOp.opds])
  have c1:=hlk x (by simp[AOp.opds])
  simp only[Au,e1,e2] at h⊢
  revert h c1
  generalize σ1.ev x=xv
  intro h c1
  split at h
  ·exact h
  ·rename_i k q n hn
   split at h
   ·rename_i sz' xs hk
    obtain⟨o',h1,h2⟩:=c1 _ _ (by simp[SV.names]) hk
    rw[h1]
    cases o' with
    |box _=>simp[Ah.sim] at h2
    |map _ _=>simp[Ah.sim] at h2
    |row sz2 ys=>
     simp only[Ah.sim] at h2
     simp only[←h2.1,←h2.2]
     exact h
   ·cases h
  ·cases h
 |len s x=>
  have e1:=hev x (by simp[AOp.opds])
  have c1:=hlk x (by simp[AOp.opds])
  cases s with
  |true=>simp only[Au,e1] at h⊢;exact h
  |false=>
   simp only[Au,e1] at h⊢
   revert h c1
   generalize σ1.ev x=xv
   intro c1 h
   cases xv with
   |own k=>
    simp only[St.elems] at h⊢
    cases hk:σ1.look k with
    |none=>rw[hk] at h;cases h
    |some o=>
     rw[hk] at h
     cases o with
     |box _=>cases h
     |map _ _=>cases h
     |row sz xs=>
      obtain⟨o',h1,h2⟩:=c1 _ _ (by simp[SV.names]) hk
      rw[h1]
      cases o' with
      |box _=>simp[Ah.sim] at h2
      |map _ _=>simp[Ah.sim] at h2
      |row sz2 ys=>
       simp only[Ah.sim] at h2
       simp only[←h2.2]
       exact h
   |pv p=>cases p<;>exact h
   |_=>exact h
 |build zero ps=>
  have e1: ∀p∈ps,σ2.ev p.2.2=σ1.ev p.2.2:=fun p hp=>hev _ (by simp only[AOp.opds,List.mem_map];exact⟨p,hp,rfl⟩)
  have e2:ps.map (fun p=>(p.1,p.2.1,σ2.ev p.2.2))=ps.map (fun p=>(p.1,p.2.1,σ1.ev p.2.2)):=List.map_congr_left (fun p hp=>by rw[e1 p hp])
  have e3:ps.all (fun p=>(σ2.ev p.2.2).solid)=ps.all (fun p=>(σ1.ev p.2.2).solid):=by
   rw[Bool.eq_iff_iff,List.all_eq_true,List.all_eq_true]
   exact⟨fun h p hp=>by rw[←e1 p hp];exact h p hp,fun h p hp=>by rw[e1 p hp];exact h p hp⟩
  simp only[Au,e2,e3] at h⊢
  exact h
 |lit keep sz xs=>
  cases xs with
  |nil=>exact h
  |cons y ys=>
   have e2:(y::ys).map σ2.ev=(y::ys).map σ1.ev:=Amf (fun x hx=>hev x hx)
   simp only[Au,e2] at h⊢
   exact h
 |mkfn f caps=>
  have e2:caps.map σ2.ev=caps.map σ1.ev:=Amf (fun x hx=>hev x hx)
  simp only[Au,e2] at h⊢
  exact h
 |mm mx x xs=>
  have e1:=hev x (by simp[AOp.opds])
  have e2:xs.map σ2.ev=xs.map σ1.ev:=Amf (fun x hx=>hev x (by simp[AOp.opds,hx]))
  simp only[Au,e1,e2] at h⊢
  exact h
 |slc s sz x lo hi=>
  have e1:=hev x (by simp[AOp.opds])
  have e2: ∀d t,bound σ2 d t lo=bound σ1 d t lo:=fun d t=>Ts (fun y hy=>hev y (by simp[AOp.opds,hy]))
  have e3: ∀d t,bound σ2 d t hi=bound σ1 d t hi:=fun d t=>Ts (fun y hy=>hev y (by simp[AOp.opds,hy]))
  cases s<;>simp only[Au,e1,e2,e3] at h⊢ <;>exact h
 |alloc zero=>exact h
 |store n x y=>cases h
 |append kd s b x y=>cases h
 |ins f sz by' x i y=>cases hr
 |stuck=>cases h
 |pick c x y=>
  have e1:=hev c (by simp[AOp.opds])
  have e2:=hev x (by simp[AOp.opds])
  have e3:=hev y (by simp[AOp.opds])
  simp only[Au,e1,e2,e3] at h⊢
  exact h
 |bin b op x y=>
  have e2:=hev x (by simp[AOp.opds])
  have e3:=hev y (by simp[AOp.opds])
  simp only[Au,e2,e3] at h⊢
  exact h
 |eqs b n x y=>
  have e2:=hev x (by simp[AOp.opds])
  have e3:=hev y (by simp[AOp.opds])
  simp only[Au,e2,e3] at h⊢
  exact h
 |aidx l n x y=>
  have e2:=hev x (by simp[AOp.opds])
  have e3:=hev y (by simp[AOp.opds])
  simp only[Au,e2,e3] at h⊢
  exact h
 |sidx x y=>
  have e2:=hev x (by simp[AOp.opds])
  have e3:=hev y (by simp[AOp.opds])
  simp only[Au,e2,e3] at h⊢
  exact h
 |mk s b z x y=>
  have e2:=hev x (by simp[AOp.opds])
  have e3:=hev y (by simp[AOp.opds])
  simp only[Au,e2,e3] at h⊢
  exact h
 |mov x=>simp only[Au,hev x (by simp[AOp.opds])] at h⊢;exact h
 |box x=>simp only[Au,hev x (by simp[AOp.opds])] at h⊢;exact h
 |un _ x=>simp only[Au,hev x (by simp[AOp.opds])] at h⊢;exact h
 |conv _ x=>simp only[Au,hev x (by simp[AOp.opds])] at h⊢;exact h
 |b2s x=>simp only[Au,hev x (by simp[AOp.opds])] at h⊢;exact h
 |nchk x=>simp only[Au,hev x (by simp[AOp.opds])] at h⊢;exact h
 |mkI _ x=>simp only[Au,hev x (by simp[AOp.opds])] at h⊢;exact h
 |isNil _ x=>simp only[Au,hev x (by simp[AOp.opds])] at h⊢;exact h
 |fld _ x=>simp only[Au,hev x (by simp[AOp.opds])] at h⊢;exact h
 |part _ _ _ x=>simp only[Au,hev x (by simp[AOp.opds])] at h⊢;exact h
 |ext _ x=>simp only[Au,hev x (by simp[AOp.opds])] at h⊢;exact h
end
end Go.Av
end
section
namespace Go.Av
def AOp.tied(op:AOp)(d:Nat):Bool:=op.reads||op.isStore|| !(op.keys d).isEmpty
def ordS(m:Nat)(ms:List Nat)(j:Nat):Nat→List GOp→Bool
 |_,[]=>true
 |i,g::gs=>(i==j|| !(g.op.tied (g.d.getD 0))||(bif decide (i<j) then m.testBit i else(ms.getD i 0).testBit j))&&ordS m ms j (i+1) gs
def Tv(ms:List Nat)(gs:List GOp)(ks:List Key)(j:Nat)(o:Oper)(g:GOp):Bool:=
 o.after.toList.all (fun e=> !Region.binds .any e||decide (e.on<j))&&
 (g.op.keys (g.d.getD 0)).all (fun k=>ks.contains k&&g.d.isSome)&&
 g.looks.all (fun t=>Agx ms (ms.getD j 0) j t 0 gs)&&
 (!g.op.isB||g.op.isStore)&&(!g.op.isStore||ordS (ms.getD j 0) ms j 0 gs)
def Ws(ms:List Nat)(gs:List GOp)(ks:List Key):Nat→List Oper→List GOp→Bool
 |_,[],[]=>true
 |j,o::os,g::gs'=>Tv ms gs ks j o g&&Ws ms gs ks (j+1) os gs'
 |_,_,_=>false
def drawOK2(ops:List Oper)(gs:List GOp)(ks:List Key):Bool:=
 distinct gs&&ks.all (fun| .ext _=>false|_=>true)&&Ws (Aon [] ops) gs ks 0 ops gs
structure Gy (ops:List Oper) (gs:List GOp) (ks:List Key):Prop extends DrawBase ops gs ks where
 onlyS: ∀(j:Nat) (g:GOp),gs[j]? =some g→g.op.isB=true→g.op.isStore=true
 ord: ∀(j:Nat) (g:GOp),gs[j]? =some g→g.op.isStore=true→ ∀(i:Nat) (g':GOp),gs[i]? =some g'→g'.op.tied (g'.d.getD 0)=true→(i<j→Reach ops j i)∧(j<i→Reach ops i j)
theorem A2v{m:Nat}{ms:List Nat}{j:Nat}: ∀{gs:List GOp} {i0:Nat},ordS m ms j i0 gs=true→ ∀(i:Nat) (g:GOp),gs[i]? =some g→g.op.tied (g.d.getD 0)=true→
  (i0+i<j→m.testBit (i0+i)=true)∧(j<i0+i→(ms.getD (i0+i) 0).testBit j=true)
 |[],_,_,i,g,h,_=>by simp at h
 |g0::gs,i0,h,i,g,hg,ht=>by
  simp only[ordS,Bool.and_eq_true] at h
  cases i with
  |zero=>
   simp at hg;subst hg
   have h1:=h.1
   rw[ht] at h1
   simp only[Bool.not_true,Bool.or_false,Bool.or_eq_true] at h1
   simp only[Nat.add_zero]
   refine⟨fun hlt=>?_,fun hlt=>?_⟩
   ·have hne:(i0==j)=false:=by simp;omega
    simpa [hne,hlt] using h1
   ·have hne:(i0==j)=false:=by simp;omega
    have hnl: ¬i0<j:=by omega
    simpa [hne,hnl] using h1
  |succ i=>
   have:=A2v h.2 i g (by simpa using hg) ht
   rw[show i0+(i+1)=i0+1+i by omega]
   exact this
theorem Ala{ms:List Nat}{gs:List GOp}{ks:List Key}: ∀{os:List Oper} {gs':List GOp} {j0:Nat},Ws ms gs ks j0 os gs'=true→
  os.length=gs'.length∧ ∀(j:Nat) (o:Oper) (g:GOp),os[j]? =some o→gs'[j]? =some g→Tv ms gs ks (j0+j) o g=true
 |[],[],_,_=>by simp
 |[],_::_,_,h=>by simp[Ws] at h
 |_::_,[],_,h=>by simp[Ws] at h
 |o::os,g::gs',j0,h=>by
  simp only[Ws,Bool.and_eq_true] at h
  obtain⟨e1,e2⟩:=Ala h.2
  refine⟨by simp[e1],fun j o' g' h1 h2=>?_⟩
  cases j with
  |zero=>simp at h1 h2;subst h1;subst h2;exact h.1
  |succ j=>
   rw[show j0+(j+1)=j0+1+j by omega]
   exact e2 j o' g' (by simpa using h1) (by simpa using h2)
theorem A39{ops:List Oper}{gs:List GOp}{ks:List Key}(h:drawOK2 ops gs ks=true):Gy ops gs ks:=by
 simp only[drawOK2,Bool.and_eq_true] at h
 obtain⟨⟨h1,h2⟩,h3⟩:=h
 obtain⟨e1,e2⟩:=Ala h3
 have hr: ∀j i,((Aon [] ops).getD j 0).testBit i=true→Reach ops j i:=Aag ops [] [] rfl rfl (by simp)
 have both: ∀(j:Nat) (g:GOp),gs[j]? =some g→ ∃o,ops[j]? =some o∧Tv (Aon [] ops) gs ks j o g=true:=fun j g hg=>by
  have hlt:=(List.getElem?_eq_some_iff.1 hg).1
  have ho:ops[j]? =some (ops[j]'(by omega)):=List.getElem?_eq_getElem (by omega)
  exact⟨_,ho,by simpa using e2 j _ g ho hg⟩
 refine⟨⟨e1,Ak9 h1,An4 h1,?_,?_,?_,?_⟩,?_,?_⟩
 ·intro k hk i e
  subst e
  have:=List.all_eq_true.1 h2 _ hk
  simp at this
 ·intro j o ho e he hb
  have hlt:=(List.getElem?_eq_some_iff.1 ho).1
  have hg:gs[j]? =some (gs[j]'(by omega)):=List.getElem?_eq_getElem (by omega)
  have:=e2 j o _ ho hg
  simp only[Tv,Bool.and_eq_true,List.all_eq_true,Nat.zero_add] at this
  have:=this.1.1.1.1 e (by simpa using he)
  simpa [hb] using this
 ·intro j g hg k hk
  obtain⟨o,ho,hd⟩:=both j g hg
  simp only[Tv,Bool.and_eq_true,List.all_eq_true] at hd
  have:=hd.1.1.1.2 k hk
  exact⟨by simpa using this.1,Option.isSome_iff_exists.1 this.2⟩
 ·intro j g hg t ht i g' hg' hd'
  obtain⟨o,ho,hd⟩:=both j g hg
  simp only[Tv,Bool.and_eq_true,List.all_eq_true] at hd
  have:=Ud (hd.1.1.2 t ht) i g' hg' hd'
  simp only[Nat.zero_add] at this
  exact this.imp (fun q=>⟨q.1,hr j i q.2⟩) (fun q=>⟨q.1,hr i j q.2⟩)
 ·intro j g hg hB
  obtain⟨o,ho,hd⟩:=both j g hg
  simp only[Tv,Bool.and_eq_true] at hd
  have:=hd.1.2
  rw[hB] at this
  simpa using this
 ·intro j g hg hS i g' hg' ht
  obtain⟨o,ho,hd⟩:=both j g hg
  simp only[Tv,Bool.and_eq_true] at hd
  have:=hd.2
  rw[hS] at this
  simp only[Bool.not_true,Bool.false_or] at this
  have:=A2v this i g' hg' ht
  simp only[Nat.zero_add] at this
  exact⟨fun h=>hr j i (this.1 h),fun h=>hr i j (this.2 h)⟩
theorem Adm{cl:Callee}{σ1 σ1':St}{d:Option Nat}{op:AOp}(hs:op.isStore=true)(h:Fm cl σ1 d op=some σ1'):
  ∃k o o',σ1.look k=some o∧o.sim o'∧σ1'=(σ1.over k o').put d .dead∧(∃x∈op.opds,(σ1.ev x).names k=true)∧
   ∀σ2:St,(∀x∈op.opds,σ2.ev x=σ1.ev x)→σ2.look k=some o→Fm cl σ2 d op=some ((σ2.over k o').put d .dead):=by
 cases op with
 |store n a x=>
  simp only[Fm] at h
  split at h
  ·rename_i k off ha
   split at h
   ·rename_i cs hk
    split at h
    ·cases h
    ·cases h
    ·rename_i v n1 n2
     split at h
     ·rename_i hc
      simp only[Option.some.injEq] at h;subst h
      refine⟨k,.box cs,.box (Cf cs off (σ1.ev x).cells),hk,trivial,rfl,⟨a,by simp[AOp.opds],by rw[ha];simp[SV.names]⟩,fun σ2 hev hk2=>?_⟩
      have e1:=hev a (by simp[AOp.opds])
      have e2:=hev x (by simp[AOp.opds])
      simp only[Fm,e1,e2,ha,hk2]
      have m1: ∀vs,σ1.ev x≠ .tup vs:=n1
      have m2:σ1.ev x≠ .dead:=n2
      have m3:(σ1.ev x).cells.length=n∧off+n≤cs.length:=hc
      clear hc n1 n2 hev e2
      revert m1 m2 m3
      generalize σ1.ev x=xv
      intro m1 m2 m3
      cases xv with
      |tup vs=>exact absurd rfl (m1 vs)
      |dead=>exact absurd rfl m2
      |_=>simp only[if_pos m3]
     ·cases h
   ·cases h
  ·rename_i k i off ha
   split at h
   ·rename_i sz xs v hk hx
    split at h
    ·rename_i e he
     split at h
     ·rename_i hc
      split at h
      ·rename_i e' he'
       simp only[Option.some.injEq] at h;subst h
       refine⟨k,_,_,hk,?_,rfl,⟨a,by simp[AOp.opds],by rw[ha];simp[SV.names]⟩,fun σ2 hev hk2=>?_⟩
       ·simp[Ah.sim]
       ·have e1:=hev a (by simp[AOp.opds])
        have e2:=hev x (by simp[AOp.opds])
        simp only[Fm,e1,e2,ha,hk2,hx,he,if_pos hc,he']
      ·cases h
     ·cases h
    ·cases h
   ·cases h
  ·cases h
 |_=>cases hs
end Go.Av
end
section
namespace Go.Av
theorem Ak4{x y:Ah}(h:x.sim y):y.sim x:=by
 cases x<;>cases y<;>simp_all [Ah.sim]
section
variable {cl:Callee} {ops:List Oper} {gs:List GOp} {ks:List Key} {S:Nat→St}
theorem look_ins{σ:St}{l:List (Key×Ah)}{d:Option Nat}{v:SV}(k:Key):((σ.insAll l).put d v).look k=(Ay l k).or (σ.look k):=by
 rw[St.look_put];unfold St.insAll St.look;simp only[D4]
theorem Aoa{σ:St}{l:List (Key×Ah)}{d:Option Nat}{v:SV}(t:Nat):((σ.insAll l).put d v).get t=if d=some t then v else σ.get t:=by rw[Cm];rfl
theorem Adl{σ σ':St}{g:GOp}(hs:step cl true σ g=some σ')(hB:g.op.isB=true→g.op.isStore=true):
  (g.op.isStore=false∧ ∃e,Dh cl σ g=some e∧σ'=(σ.insAll e.ins).put g.d e.v)∨(g.op.isStore=true∧σ.wants g.g=some false∧σ'=σ.put g.d .dead)∨
  (g.op.isStore=true∧σ.wants g.g=some true∧Fm cl σ g.d g.op=some σ'):=by
 cases hst:g.op.isStore with
 |false=>
  have:g.op.isB=false:=by cases hb:g.op.isB with
   |false=>rfl
   |true=>rw[hB hb] at hst;cases hst
  exact .inl ⟨rfl,Gh hs this⟩
 |true=>
  have hb:g.op.isB=true:=by
   cases hop:g.op<;>rw[hop] at hst<;>first|rfl|cases hst
  unfold step at hs
  split at hs
  ·cases hs
  ·rename_i hw
   simp only[Option.some.injEq] at hs
   exact .inr (.inl ⟨rfl,hw,by
    rw[←hs]
    cases hop:g.op<;>rw[hop] at hst<;>first|rfl|cases hst⟩)
  ·rename_i hw
   rw[hb,cond_true] at hs
   exact .inr (.inr ⟨rfl,hw,hs⟩)
theorem Bqk(hD:Gy ops gs ks)(hR:Wk cl gs S){i:Nat}{g:GOp}(hg:gs[i]? =some g){t:Nat}(ht:g.d≠some t):(S (i+1)).get t=(S i).get t:=by
 rcases Adl (hR.at' i g hg) (hD.onlyS i g hg) with⟨_,e,_,h⟩|⟨_,_,h⟩|⟨hst,_,hb⟩
 ·rw[h,Aoa,if_neg ht]
 ·rw[h,Cm,if_neg ht]
 ·obtain⟨k,o,o',_,_,h,_⟩:=Adm hst hb
  rw[h,Cm,if_neg ht];rfl
theorem A1t(hD:Gy ops gs ks)(hR:Wk cl gs S){i:Nat}{g:GOp}(hg:gs[i]? =some g){t:Nat}(ht:g.d=some t): ∀m,i+1≤m→m≤gs.length→(S m).get t=(S (i+1)).get t:=by
 intro m
 induction m with
 |zero=>intro h _;omega
 |succ m ih=>
  intro h1 h2
  by_cases e:i=m
  ·subst e;rfl
  ·have hgm:gs[m]? =some (gs[m]'(by omega)):=List.getElem?_eq_getElem (by omega)
   rw[Bqk hD hR hgm (fun hd=>e (hD.dist i m g _ t hg hgm ht hd)),ih (by omega) (by omega)]
theorem Alx(hD:Gy ops gs ks)(hR:Wk cl gs S){t:Nat}: ∀m,m≤gs.length→(∀i g,i<m→gs[i]? =some g→g.d≠some t)→(S m).get t=(S 0).get t:=by
 intro m
 induction m with
 |zero=>intro _ _;rfl
 |succ m ih=>
  intro h1 h2
  have hgm:gs[m]? =some (gs[m]'(by omega)):=List.getElem?_eq_getElem (by omega)
  rw[Bqk hD hR hgm (h2 m _ (by omega) hgm),ih (by omega) (fun i g hi hg=>h2 i g (by omega) hg)]
theorem A8d(hD:Gy ops gs ks)(hR:Wk cl gs S)(h0: ∀k∈ks,(S 0).look k=none){i:Nat}{g:GOp}(hg:gs[i]? =some g){k:Key}{o:Ah}(hk:(S i).look k=some o):
  ∃o',(S (i+1)).look k=some o'∧o.sim o'∧(g.op.isStore=false→o'=o):=by
 rcases Adl (hR.at' i g hg) (hD.onlyS i g hg) with⟨_,e,he,h⟩|⟨_,_,h⟩|⟨hst,_,hb⟩
 ·have:Ay e.ins k=none:=by
   cases hl:Ay e.ins k with
   |none=>rfl
   |some o2=>
    have:=fresh hD.toDrawBase hR h0 hg (Jq hD.toDrawBase hg he hl).1 i (Nat.le_refl _)
    rw[hk] at this;cases this
  exact⟨o,by rw[h,look_ins,this,hk];rfl,o.sim_refl,fun _=>rfl⟩
 ·exact⟨o,by rw[h,St.look_put,hk],o.sim_refl,fun _=>rfl⟩
 ·obtain⟨k1,o1,o',hk1,hsim,h,_⟩:=Adm hst hb
  by_cases e:k=k1
  ·subst e
   rw[hk] at hk1;cases hk1
   exact⟨o',by rw[h,St.look_put,Bu];simp[hk],hsim,fun hc=>by rw[hst] at hc;cases hc⟩
  ·exact⟨o,by rw[h,St.look_put,Bu,if_neg e,hk],o.sim_refl,fun _=>rfl⟩
theorem E8(hD:Gy ops gs ks)(hR:Wk cl gs S)(h0: ∀k∈ks,(S 0).look k=none){i:Nat}{k:Key}{o:Ah}(hk:(S i).look k=some o): ∀m,i≤m→m≤gs.length→
  ∃o',(S m).look k=some o'∧o.sim o'∧((∀q g,i≤q→q<m→gs[q]? =some g→g.op.isStore=false)→o'=o):=by
 intro m
 induction m with
 |zero=>intro h1 _;have:i=0:=by omega
        subst this;exact⟨o,hk,o.sim_refl,fun _=>rfl⟩
 |succ m ih=>
  intro h1 h2
  by_cases e:i=m+1
  ·subst e;exact⟨o,hk,o.sim_refl,fun _=>rfl⟩
  ·obtain⟨o1,q1,q2,q3⟩:=ih (by omega) (by omega)
   have hgm:gs[m]? =some (gs[m]'(by omega)):=List.getElem?_eq_getElem (by omega)
   obtain⟨o2,r1,r2,r3⟩:=A8d hD hR h0 hgm q1
   refine⟨o2,r1,A9 q2 r2,fun hall=>?_⟩
   rw[r3 (hall m _ (by omega) (by omega) hgm),q3 (fun q g a b c=>hall q g a (by omega) c)]
theorem Bkn(hD:Gy ops gs ks)(hR:Wk cl gs S){k:Key}: ∀m,m≤gs.length→ ∀om,(S m).look k=some om→(∃o0,(S 0).look k=some o0)∨ ∃i g o1,i<m∧gs[i]? =some g∧k∈g.op.keys (g.d.getD 0)∧(S (i+1)).look k=some o1:=by
 intro m
 induction m with
 |zero=>intro _ om h;exact .inl ⟨om,h⟩
 |succ m ih=>
  intro h1 om h
  have hgm:gs[m]? =some (gs[m]'(by omega)):=List.getElem?_eq_getElem (by omega)
  have prev:(∃o,(S m).look k=some o)∨k∈(gs[m]'(by omega)).op.keys ((gs[m]'(by omega)).d.getD 0):=by
   rcases Adl (hR.at' m _ hgm) (hD.onlyS m _ hgm) with⟨_,e,he,hS⟩|⟨_,_,hS⟩|⟨hst,_,hb⟩
   ·rw[hS,look_ins] at h
    cases hl:Ay e.ins k with
    |some o2=>exact .inr (Jq hD.toDrawBase hgm he hl).1
    |none=>rw[hl] at h;exact .inl ⟨om,by simpa using h⟩
   ·rw[hS,St.look_put] at h;exact .inl ⟨_,h⟩
   ·obtain⟨k1,o1,o',hk1,hsim,hS,_⟩:=Adm hst hb
    rw[hS,St.look_put] at h
    exact .inl (Qv h)
  rcases prev with⟨o,ho⟩|hk
  ·rcases ih (by omega) o ho with hb|⟨i,g,o1,q1,q2⟩
   ·exact .inl hb
   ·exact .inr ⟨i,g,o1,by omega,q2⟩
  ·exact .inr ⟨m,_,om,by omega,hgm,hk,h⟩
structure Zu (cl:Callee) (gs:List GOp) (S:Nat→St) (L:Nat→Prop) (m:Nat) (σ:St):Prop where
 st: ∀i g,gs[i]? =some g→g.op.isStore=true→(L i↔i<m)
 g1: ∀t,(∀i g,L i→gs[i]? =some g→g.d≠some t)→σ.get t=(S 0).get t
 g2: ∀i g t,L i→gs[i]? =some g→g.d=some t→σ.get t=(S (i+1)).get t
 l0: ∀k o,σ.look k=some o→(∃o0,(S 0).look k=some o0)∨ ∃i g o1,L i∧gs[i]? =some g∧k∈g.op.keys (g.d.getD 0)∧(S (i+1)).look k=some o1
 lS: ∀k o0,(S 0).look k=some o0→ ∃o,σ.look k=some o∧o0.sim o
 lI: ∀i g k o0,L i→gs[i]? =some g→k∈g.op.keys (g.d.getD 0)→(S (i+1)).look k=some o0→ ∃o,σ.look k=some o∧o0.sim o
 eq: ∀k o o',σ.look k=some o→(S m).look k=some o'→o=o'
 new: ∀i g k o,L i→m≤i→gs[i]? =some g→k∈g.op.keys (g.d.getD 0)→(S (i+1)).look k=some o→σ.look k=some o
theorem Ag5(hD:DrawBase ops gs ks){i i':Nat}{g g':GOp}{k:Key}(hg:gs[i]? =some g)(hg':gs[i']? =some g')(hk:k∈g.op.keys (g.d.getD 0))(hk':k∈g'.op.keys (g'.d.getD 0)):i=i':=by
 obtain⟨_,d,hd⟩:=hD.keys i g hg k hk
 obtain⟨_,d',hd'⟩:=hD.keys i' g' hg' k hk'
 obtain⟨n,hn⟩:=Qq hk
 obtain⟨n',hn'⟩:=Qq hk'
 rw[hd] at hn
 rw[hd'] at hn'
 rw[hn] at hn'
 injection hn' with e
 have e:d=d':=e
 subst e
 exact hD.dist i i' g g' d hg hg' hd hd'
theorem Zu.get(hD:Gy ops gs ks)(hR:Wk cl gs S){L:Nat→Prop}{m:Nat}{σ:St}(h:Zu cl gs S L m σ){j:Nat}{g:GOp}(hg:gs[j]? =some g)(hreach: ∀i,Reach ops j i→L i)(hback: ∀i,L i→Reach ops i j→L j)(hLj: ¬L j){t:Nat}(ht:t∈g.looks):σ.get t=(S j).get t:=by
 have hlt:=(List.getElem?_eq_some_iff.1 hg).1
 by_cases hc: ∃(i:Nat) (g':GOp),gs[i]? =some g'∧g'.d=some t
 ·obtain⟨i,g',hg',hd⟩:=hc
  rcases hD.looks j g hg t ht i g' hg' hd with⟨q1,q2⟩|⟨q1,q2⟩
  ·rw[h.g2 i g' t (hreach i q2) hg' hd,A1t hD hR hg' hd j (by omega) (by omega)]
  ·rw[h.g1 t (fun i2 g2 hl2 hg2 hd2=>by have:=hD.dist i2 i g2 g' t hg2 hg' hd2 hd;subst this;exact hLj (hback _ hl2 q2)),
    Alx hD hR j (by omega) (fun i2 g2 hlt2 hg2 hd2=>by have:=hD.dist i2 i g2 g' t hg2 hg' hd2 hd;omega)]
 ·rw[h.g1 t (fun i g' _ hg' hd=>hc ⟨i,g',hg',hd⟩),Alx hD hR j (by omega) (fun i g' _ hg' hd=>hc ⟨i,g',hg',hd⟩)]
theorem Zu.shape(hD:Gy ops gs ks)(hR:Wk cl gs S)(h0: ∀k∈ks,(S 0).look k=none){L:Nat→Prop}{m:Nat}{σ:St}(h:Zu cl gs S L m σ){j:Nat}(hj:j≤gs.length){k:Key}{o oj:Ah}(ho:σ.look k=some o)(hk:(S j).look k=some oj):oj.sim o:=by
 rcases Bkn hD hR j hj oj hk with⟨o0,hb⟩|⟨i,g,o1,q1,q2,q3,q4⟩
 ·obtain⟨o2,r1,r2⟩:=h.lS k o0 hb
  rw[ho] at r1;cases r1
  obtain⟨o3,s1,s2,_⟩:=E8 hD hR h0 hb j (Nat.zero_le _) hj
  rw[hk] at s1;cases s1
  exact A9 (Ak4 s2) r2
 ·have hno:(S 0).look k=none:=h0 k (hD.keys i g q2 k q3).1
  rcases h.l0 k o ho with⟨o0,hb⟩|⟨i',g',o1',p1,p2,p3,p4⟩
  ·rw[hno] at hb;cases hb
  ·have:=Ag5 hD.toDrawBase q2 p2 q3 p3
   subst this
   rw[q2] at p2;cases p2
   obtain⟨o2,r1,r2⟩:=h.lI i g k o1 p1 q2 q3 q4
   rw[ho] at r1;cases r1
   obtain⟨o3,s1,s2,_⟩:=E8 hD hR h0 q4 j (by omega) hj
   rw[hk] at s1;cases s1
   exact A9 (Ak4 s2) r2
theorem Zu.exact(hD:Gy ops gs ks)(hR:Wk cl gs S)(h0: ∀k∈ks,(S 0).look k=none){L:Nat→Prop}{m:Nat}{σ:St}(h:Zu cl gs S L m σ)(hm:m≤gs.length){j:Nat}(hj:j≤gs.length)(hst: ∀i g,gs[i]? =some g→g.op.isStore=true→(i<m↔i<j))
  {k:Key}{o oj:Ah}(ho:σ.look k=some o)(hk:(S j).look k=some oj):o=oj:=by
 have nostore: ∀(lo hi:Nat),(lo=m∧hi=j∨lo=j∧hi=m)→ ∀q g,lo≤q→q<hi→gs[q]? =some g→g.op.isStore=false:=by
  intro lo hi hc q g a b hg
  cases hs:g.op.isStore with
  |false=>rfl
  |true=>
   have:=hst q g hg hs
   rcases hc with⟨rfl,rfl⟩|⟨rfl,rfl⟩
   ·have:=this.2 b;omega
   ·have:=this.1 b;omega
 by_cases hle:j≤m
 ·obtain⟨o',s1,_,s3⟩:=E8 hD hR h0 hk m hle hm
  rw[h.eq k o o' ho s1,s3 (nostore j m (.inr ⟨rfl,rfl⟩))]
 ·cases hkm:(S m).look k with
  |some o'=>
   obtain⟨o2,s1,_,s3⟩:=E8 hD hR h0 hkm j (by omega) hj
   rw[hk] at s1;cases s1
   rw[h.eq k o o' ho hkm,s3 (nostore m j (.inl ⟨rfl,rfl⟩))]
  |none=>
   rcases Bkn hD hR j hj oj hk with⟨o0,hb⟩|⟨i,g,o1,q1,q2,q3,q4⟩
   ·obtain⟨o',s1,_⟩:=E8 hD hR h0 hb m (Nat.zero_le _) hm
    rw[hkm] at s1;cases s1
   ·have him:m≤i:=by
     by_cases hh:m≤i
     ·exact hh
     ·obtain⟨o',s1,_⟩:=E8 hD hR h0 q4 m (by omega) hm
      rw[hkm] at s1;cases s1
    have hno:(S 0).look k=none:=h0 k (hD.keys i g q2 k q3).1
    rcases h.l0 k o ho with⟨o0,hb⟩|⟨i',g',o1',p1,p2,p3,p4⟩
    ·rw[hno] at hb;cases hb
    ·have:=Ag5 hD.toDrawBase q2 p2 q3 p3
     subst this
     rw[q2] at p2;cases p2
     have e1:=h.new i g k o1 p1 him q2 q3 q4
     rw[ho] at e1;cases e1
     obtain⟨o2,s1,_,s3⟩:=E8 hD hR h0 q4 j (by omega) hj
     rw[hk] at s1;cases s1
     exact(s3 (fun q g a b c=>nostore m j (.inl ⟨rfl,rfl⟩) q g (by omega) b c)).symm
end
end Go.Av
end
section
namespace Go.Av
section
variable {cl:Callee} {ops:List Oper} {gs:List GOp} {ks:List Key} {S:Nat→St}
theorem Zu.between(hD:Gy ops gs ks){L:Nat→Prop}{m:Nat}{σ:St}(h:Zu cl gs S L m σ){j:Nat}{g:GOp}(hg:gs[j]? =some g)(hreach: ∀i,Reach ops j i→L i)(hback: ∀i,L i→Reach ops i j→L j)(hLj: ¬L j)(ht:g.op.tied (g.d.getD 0)=true):
  ∀i g',gs[i]? =some g'→g'.op.isStore=true→(i<m↔i<j):=by
 intro i g' hg' hs
 obtain⟨q1,q2⟩:=hD.ord i g' hg' hs j g hg ht
 have hL:=h.st i g' hg' hs
 constructor
 ·intro hi
  have hl:=hL.2 hi
  by_cases h1:i<j
  ·exact h1
  ·by_cases h2:i=j
   ·subst h2;exact absurd hl hLj
   ·exact absurd (hback i hl (q1 (by omega))) hLj
 ·intro hi
  exact hL.1 (hreach i (q2 hi))
theorem Zu.eff(hD:Gy ops gs ks)(hR:Wk cl gs S)(h0: ∀k∈ks,(S 0).look k=none){P:Program}{C:Ctx}{β:Key→Blk}{a:Act}{w:World}{L:Nat→Prop}{m:Nat}{σ:St}(h:Zu cl gs S L m σ)(hm:m≤gs.length)(hr:RR C β σ a w)
  {j:Nat}{g:GOp}{e:Eff}(hg:gs[j]? =some g)(hreach: ∀i,Reach ops j i→L i)(hback: ∀i,L i→Reach ops i j→L j)(hLj: ¬L j)(he:Dh cl (S j) g=some e):Dh cl σ g=some e:=by
 have hlt:=(List.getElem?_eq_some_iff.1 hg).1
 have hget: ∀t∈g.looks,σ.get t=(S j).get t:=fun t ht=>h.get hD hR hg hreach hback hLj ht
 have hthere: ∀t∈g.looks,∀k,((S j).get t).names k=true→ ∃o,σ.look k=some o:=fun t ht k hn=>by
  have hs:=hr.slots t
  rw[hget t ht] at hs
  exact hs.there hn
 have hwants:σ.wants g.g=(S j).wants g.g:=by
  cases hgg:g.g with
  |none=>rfl
  |some p=>
   obtain⟨t,b⟩:=p
   simp only[St.wants]
   rw[hget t (by simp[GOp.looks,hgg])]
 have mem: ∀t,Opd.tmp t∈g.op.opds→t∈g.looks:=fun t hx=>by
  simp only[GOp.looks,List.mem_append]
  exact .inr (by simp only[AOp.tmps,List.mem_filterMap];exact⟨_,hx,rfl⟩)
 have hev: ∀x∈g.op.opds,σ.ev x=(S j).ev x:=fun x hx=>by
  cases x with
  |tmp t=>exact hget t (mem t hx)
  |cst p=>rfl
  |nils=>rfl
  |junk=>rfl
 unfold Dh at he⊢
 rw[hwants]
 split at he
 ·cases he
 ·exact he
 ·cases hrd:g.op.reads with
  |true=>
   have hb:=h.between hD hg hreach hback hLj (by simp[AOp.tied,hrd])
   refine Aly hev (fun x hx k o hn hk=>?_) he
   cases x with
   |tmp t=>
    obtain⟨o',ho'⟩:=hthere t (mem t hx) k hn
    rw[ho',h.exact hD hR h0 hm (by omega) hb ho' hk]
   |cst p=>simp[St.ev,SV.names] at hn
   |nils=>simp[St.ev,SV.names] at hn
   |junk=>simp[St.ev,SV.names] at hn
  |false=>
   refine Bko hrd hev (fun x hx k o hn hk=>?_) he
   cases x with
   |tmp t=>
    obtain⟨o',ho'⟩:=hthere t (mem t hx) k hn
    exact⟨o',ho',h.shape hD hR h0 (by omega) ho' hk⟩
   |cst p=>simp[St.ev,SV.names] at hn
   |nils=>simp[St.ev,SV.names] at hn
   |junk=>simp[St.ev,SV.names] at hn
theorem Zu.moreA(hD:Gy ops gs ks)(hR:Wk cl gs S)(h0: ∀k∈ks,(S 0).look k=none){L L':Nat→Prop}{m:Nat}{σ:St}(h:Zu cl gs S L m σ)(hm:m≤gs.length){j:Nat}{g:GOp}{e:Eff}(hg:gs[j]? =some g)(hreach: ∀i,Reach ops j i→L i)(hback: ∀i,L i→Reach ops i j→L j)(hLj: ¬L j)
  (hns:g.op.isStore=false)(he:Dh cl (S j) g=some e)(hS:S (j+1)=((S j).insAll e.ins).put g.d e.v)(hL': ∀i,L' i↔L i∨i=j):Zu cl gs S L' m ((σ.insAll e.ins).put g.d e.v):=by
 have hlt:=(List.getElem?_eq_some_iff.1 hg).1
 have hkeys: ∀{k o},Ay e.ins k=some o→k∈g.op.keys (g.d.getD 0):=fun hl=>(Jq hD.toDrawBase hg he hl).1
 have hnone: ∀{k},k∉g.op.keys (g.d.getD 0)→Ay e.ins k=none:=fun hk=>by
  cases hl:Ay e.ins _ with
  |none=>rfl
  |some o=>exact absurd (hkeys hl) hk
 have hnext: ∀{k},k∈g.op.keys (g.d.getD 0)→(S (j+1)).look k=Ay e.ins k:=fun hk=>by
  rw[hS,look_ins,fresh hD.toDrawBase hR h0 hg hk j (Nat.le_refl _)]
  simp
 refine⟨fun i g' hg' hs=>?_,fun t ht=>?_,fun i g' t hl hg' hd=>?_,fun k o hk=>?_,fun k o0 hk=>?_,fun i g' k o0 hl hg' hk ho=>?_,fun k o o' hk hk'=>?_,fun i g' k o hl hmi hg' hk ho=>?_⟩
 ·rw[hL']
  constructor
  ·rintro(h1|rfl)
   ·exact(h.st i g' hg' hs).1 h1
   ·rw[hg] at hg';cases hg';rw[hns] at hs;cases hs
  ·intro h1;exact .inl ((h.st i g' hg' hs).2 h1)
 ·rw[Aoa,if_neg (ht j g ((hL' j).2 (.inr rfl)) hg)]
  exact h.g1 t (fun i g' hl hg'=>ht i g' ((hL' i).2 (.inl hl)) hg')
 ·rw[Aoa]
  rcases(hL' i).1 hl with hl|rfl
  ·rw[if_neg (fun e1=>by have:=hD.dist i j g' g t hg' hg hd e1;subst this;exact hLj hl)]
   exact h.g2 i g' t hl hg' hd
  ·rw[hg] at hg';cases hg'
   rw[if_pos hd,hS,Aoa,if_pos hd]
 ·rw[look_ins] at hk
  cases hl:Ay e.ins k with
  |some o1=>
   have:=hkeys hl
   exact .inr ⟨j,g,o1,(hL' j).2 (.inr rfl),hg,this,by rw[hnext this,hl]⟩
  |none=>
   rw[hl] at hk
   rcases h.l0 k o (by simpa using hk) with hb|⟨i,g',o1,p1,p2⟩
   ·exact .inl hb
   ·exact .inr ⟨i,g',o1,(hL' i).2 (.inl p1),p2⟩
 ·have:Ay e.ins k=none:=hnone (fun hm=>by have:=h0 k (hD.keys j g hg k hm).1;rw[hk] at this;cases this)
  obtain⟨o,h1,h2⟩:=h.lS k o0 hk
  exact⟨o,by rw[look_ins,this,h1];rfl,h2⟩
 ·rcases(hL' i).1 hl with hl|rfl
  ·have:Ay e.ins k=none:=hnone (fun hm=>by have:=Ag5 hD.toDrawBase hg' hg hk hm;subst this;exact hLj hl)
   obtain⟨o,h1,h2⟩:=h.lI i g' k o0 hl hg' hk ho
   exact⟨o,by rw[look_ins,this,h1];rfl,h2⟩
  ·rw[hg] at hg';cases hg'
   rw[hnext hk] at ho
   exact⟨o0,by rw[look_ins,ho];rfl,o0.sim_refl⟩
 ·rw[look_ins] at hk
  cases hl:Ay e.ins k with
  |none=>rw[hl] at hk;exact h.eq k o o' (by simpa using hk) hk'
  |some o1=>
   rw[hl] at hk
   have hk:o1=o:=by simpa using hk
   subst hk
   have hkk:=hkeys hl
   have ht:g.op.tied (g.d.getD 0)=true:=by
    have:(g.op.keys (g.d.getD 0)).isEmpty=false:=by
     cases hh:g.op.keys (g.d.getD 0) with
     |nil=>rw[hh] at hkk;cases hkk
     |cons _ _=>rfl
    simp[AOp.tied,this]
   have hb:=h.between hD hg hreach hback hLj ht
   by_cases hmj:m≤j
   ·rw[fresh hD.toDrawBase hR h0 hg hkk m hmj] at hk';cases hk'
   ·have h1:(S (j+1)).look k=some o1:=by rw[hnext hkk,hl]
    obtain⟨o2,s1,_,s3⟩:=E8 hD hR h0 h1 m (by omega) hm
    rw[hk'] at s1;cases s1
    refine(s3 (fun q g' a b c=>?_)).symm
    cases hs:g'.op.isStore with
    |false=>rfl
    |true=>have:=(hb q g' c hs).1 b;omega
 ·rcases(hL' i).1 hl with hl|rfl
  ·have:Ay e.ins k=none:=hnone (fun hm=>by have:=Ag5 hD.toDrawBase hg' hg hk hm;subst this;exact hLj hl)
   rw[look_ins,this,h.new i g' k o hl hmi hg' hk ho];rfl
  ·rw[hg] at hg';cases hg'
   rw[hnext hk] at ho
   rw[look_ins,ho];rfl
theorem Zu.moreS(hD:Gy ops gs ks)(hR:Wk cl gs S)(h0: ∀k∈ks,(S 0).look k=none){L L':Nat→Prop}{m:Nat}{σ σ':St}(h:Zu cl gs S L m σ)(hm:m≤gs.length){j:Nat}{g:GOp}(hg:gs[j]? =some g)(hreach: ∀i,Reach ops j i→L i)(hback: ∀i,L i→Reach ops i j→L j)(hLj: ¬L j)
  (hst:g.op.isStore=true)(hget: ∀t,σ'.get t=if g.d=some t then .dead else σ.get t)(hgetS: ∀t,(S (j+1)).get t=if g.d=some t then .dead else(S j).get t)
  (hlk: ∀k o,σ.look k=some o→ ∃o',σ'.look k=some o'∧o.sim o')(hlk': ∀k o',σ'.look k=some o'→ ∃o,σ.look k=some o)(hex: ∀k o o',σ'.look k=some o→(S (j+1)).look k=some o'→o=o')
  (hL': ∀i,L' i↔L i∨i=j):Zu cl gs S L' (j+1) σ':=by
 have hb:=h.between hD hg hreach hback hLj (by simp[AOp.tied,hst])
 have hstj: ∀i g',gs[i]? =some g'→g'.op.isStore=true→(L i↔i<j):=fun i g' hg' hs=>(h.st i g' hg' hs).trans (hb i g' hg' hs)
 refine⟨fun i g' hg' hs=>?_,fun t ht=>?_,fun i g' t hl hg' hd=>?_,fun k o hk=>?_,fun k o0 hk=>?_,fun i g' k o0 hl hg' hk ho=>?_,hex,fun i g' k o hl hmi hg' hk ho=>?_⟩
 ·rw[hL',hstj i g' hg' hs];omega
 ·rw[hget,if_neg (ht j g ((hL' j).2 (.inr rfl)) hg)]
  exact h.g1 t (fun i g' hl hg'=>ht i g' ((hL' i).2 (.inl hl)) hg')
 ·rw[hget]
  rcases(hL' i).1 hl with hl|rfl
  ·rw[if_neg (fun e1=>by have:=hD.dist i j g' g t hg' hg hd e1;subst this;exact hLj hl)]
   exact h.g2 i g' t hl hg' hd
  ·rw[hg] at hg';cases hg'
   rw[if_pos hd,hgetS,if_pos hd]
 ·obtain⟨o1,h1⟩:=hlk' k o hk
  rcases h.l0 k o1 h1 with hb|⟨i,g',o2,p1,p2⟩
  ·exact .inl hb
  ·exact .inr ⟨i,g',o2,(hL' i).2 (.inl p1),p2⟩
 ·obtain⟨o,h1,h2⟩:=h.lS k o0 hk
  obtain⟨o',h3,h4⟩:=hlk k o h1
  exact⟨o',h3,A9 h2 h4⟩
 ·rcases(hL' i).1 hl with hl|rfl
  ·obtain⟨o,h1,h2⟩:=h.lI i g' k o0 hl hg' hk ho
   obtain⟨o',h3,h4⟩:=hlk k o h1
   exact⟨o',h3,A9 h2 h4⟩
  ·rw[hg] at hg';cases hg'
   cases hop:g.op<;>rw[hop] at hst hk<;>first|(cases hst;done)|(simp[AOp.keys] at hk;done)
 ·rcases(hL' i).1 hl with hl|rfl
  ·have ht:g'.op.tied (g'.d.getD 0)=true:=by
    have:(g'.op.keys (g'.d.getD 0)).isEmpty=false:=by
     cases hh:g'.op.keys (g'.d.getD 0) with
     |nil=>rw[hh] at hk;cases hk
     |cons _ _=>rfl
    simp[AOp.tied,this]
   exact absurd (hback i hl ((hD.ord j g hg hst i g' hg' ht).2 (by omega))) hLj
  ·omega
end
end Go.Av
end
section
namespace Go.Av
section
variable {P:Program} {C:Ctx} {β:Key→Blk} {σ:St} {a:Act} {w:World} {cl:Callee} {ops:Array Oper} {gs:List GOp} {ks:List Key}
theorem Bca(hm:P.follows .mixedOrders=true)(hS:Oc P cl){Q:Exit→Act→World→Prop}(hck:drawOK2 ops.toList gs ks=true)(hag:Cu (G6 P C.nt ops) ops.toList gs=true){σ':St}(h:RR C β σ a w)
  (hr:Md cl true gs (σ.killAll ks)=some σ')(hQ: ∀β' a' w',RR C β' σ' a' w'→Q .normal a' w'):wpAny P .any ops Q ops.size (Array.replicate ops.size false) a {w with drawn:=w.drawn+1}:=by
 have hD:=A39 hck
 obtain⟨S,e1,e2,hR⟩:=At7 hr
 have h0: ∀k∈ks,(S 0).look k=none:=fun k hk=>by rw[e1];exact Jt _ _ _ hk
 have hlen:ops.size=gs.length:=by simpa using hD.len
 have hop: ∀{j:Nat} {o:Oper},ops[j]? =some o→ops.toList[j]? =some o:=fun h=>by rw[Array.getElem?_toList];exact h
 have main: ∀(fuel:Nat) (listed:Array Bool) (a:Act) (w:World) (m:Nat) (β:Key→Blk) (σ:St),listed.size=ops.size→((List.range ops.size).filter fun i=> !listed.getD i false).length≤fuel→
   (∀i o e,listed.getD i false=true→ops.toList[i]? =some o→e∈o.after→Region.binds .any e=true→listed.getD e.on false=true)→m≤gs.length→
   Zu cl gs S (fun i=>listed.getD i false=true) m σ→RR C β σ a w→wpAny P .any ops Q fuel listed a w:=by
  have fin: ∀(listed:Array Bool) (a:Act) (w:World) (m:Nat) (β:Key→Blk) (σ:St),m≤gs.length→(∀i,i<ops.size→listed.getD i false=true)→Zu cl gs S (fun i=>listed.getD i false=true) m σ→RR C β σ a w→Q .normal a w:=by
   intro listed a w m β σ hmn hall hseg hr
   have hst: ∀i g,gs[i]? =some g→g.op.isStore=true→(i<m↔i<gs.length):=fun i g hg hs=>by
    have hlt:=(List.getElem?_eq_some_iff.1 hg).1
    exact⟨fun _=>hlt,fun _=>(hseg.st i g hg hs).1 (hall i (by omega))⟩
   have hg: ∀t,(S gs.length).get t=σ.get t:=by
    intro t
    by_cases hc: ∃(i:Nat) (g':GOp),gs[i]? =some g'∧g'.d=some t
    ·obtain⟨i,g',hg',hd⟩:=hc
     have hlt:=(List.getElem?_eq_some_iff.1 hg').1
     rw[hseg.g2 i g' t (hall i (by omega)) hg' hd,A1t hD hR hg' hd gs.length (by omega) (Nat.le_refl _)]
    ·rw[hseg.g1 t (fun i g' _ hg' hd=>hc ⟨i,g',hg',hd⟩),Alx hD hR gs.length (Nat.le_refl _) (fun i g' _ hg' hd=>hc ⟨i,g',hg',hd⟩)]
   have hl: ∀k,(S gs.length).look k=σ.look k:=by
    intro k
    cases hk:(S gs.length).look k with
    |some oj=>
     have: ∃o,σ.look k=some o:=by
      rcases Bkn hD hR gs.length (Nat.le_refl _) oj hk with⟨o0,hb⟩|⟨i,g,o1,q1,q2,q3,q4⟩
      ·obtain⟨o,h1,_⟩:=hseg.lS k o0 hb;exact⟨o,h1⟩
      ·obtain⟨o,h1,_⟩:=hseg.lI i g k o1 (hall i (by omega)) q2 q3 q4;exact⟨o,h1⟩
     obtain⟨o,ho⟩:=this
     rw[ho,hseg.exact hD hR h0 hmn (Nat.le_refl _) hst ho hk]
    |none=>
     cases ho:σ.look k with
     |none=>rfl
     |some o=>
      rcases hseg.l0 k o ho with⟨o0,hb⟩|⟨i,g,o1,q1,q2,q3,q4⟩
      ·obtain⟨o',s1,_⟩:=E8 hD hR h0 hb gs.length (Nat.zero_le _) (Nat.le_refl _)
       rw[hk] at s1;cases s1
      ·have hlt:=(List.getElem?_eq_some_iff.1 q2).1
       obtain⟨o',s1,_⟩:=E8 hD hR h0 q4 gs.length (by omega) (Nat.le_refl _)
       rw[hk] at s1;cases s1
   have:=hr.congr hg hl
   rw[e2] at this
   exact hQ _ _ _ this
  intro fuel
  induction fuel with
  |zero=>
   intro listed a w m β σ hsz hcnt hcl hmn hseg hr
   have hall: ∀i,i<ops.size→listed.getD i false=true:=by
    intro i hi
    have h1:=List.eq_nil_of_length_eq_zero (Nat.le_zero.1 hcnt)
    have h2:=(List.filter_eq_nil_iff.1 h1) i (List.mem_range.2 hi)
    simpa using h2
   refine⟨?_,?_⟩
   ·rw[List.eq_nil_iff_forall_not_mem]
    intro j hj
    obtain⟨q1,o,q2,_⟩:=mem_ready.1 hj
    have hlt:=(Array.getElem?_eq_some_iff.1 q2).1
    have:=hall j hlt
    have e:listed.getD j true=listed.getD j false:=by simp[Array.getD,hsz,hlt]
    rw[e,this] at q1;cases q1
   ·exact fin listed a w m β σ hmn hall hseg hr
  |succ fuel ih=>
   intro listed a w m β σ hsz hcnt hcl hmn hseg hr
   have hgd: ∀{j:Nat},j<ops.size→listed.getD j true=listed.getD j false:=fun hlt=>by simp[Array.getD,hsz,hlt]
   refine⟨fun hnil=>?_,fun j hj=>?_⟩
   ·have hall: ∀i,i<ops.size→listed.getD i false=true:=by
     intro i
     induction i using Nat.strongRecOn with
     |_ i ih2=>
      intro hi
      cases hc:listed.getD i false with
      |true=>rfl
      |false=>
       have:i∈Region.ready .any ops listed:=by
        refine mem_ready.2 ⟨by rw[hgd hi];exact hc,ops[i],Array.getElem?_eq_getElem hi,fun e he hb=>?_⟩
        have:=hD.back i _ (hop (Array.getElem?_eq_getElem hi)) e he hb
        exact ih2 _ this (by omega)
       rw[hnil] at this
       cases this
    exact fin listed a w m β σ hmn hall hseg hr
   ·obtain⟨hun,o,ho,hafter⟩:=mem_ready.1 hj
    have hlt:=(Array.getElem?_eq_some_iff.1 ho).1
    rw[hgd hlt] at hun
    have hg:gs[j]? =some (gs[j]'(by omega)):=List.getElem?_eq_getElem (by omega)
    have hreach: ∀i,Reach ops.toList j i→listed.getD i false=true:=fun i hR'=>Ke (L:=fun i=>listed.getD i false=true) hcl hR' (fun o' e ho' he hb=>by
     rw[hop ho] at ho';cases ho';exact hafter e he hb)
    have hG:=Bgp hag j o _ (hop ho) hg
    have hset: ∀i,(listed.setIfInBounds j true).getD i false=true↔listed.getD i false=true∨i=j:=by
     intro i
     rw[Ag3]
     by_cases e:j=i
     ·subst e;simp[hsz,hlt]
     ·rw[if_neg (fun h=>e h.1)]
      constructor
      ·exact .inl
      ·rintro(h|h)
       ·exact h
       ·exact absurd h.symm e
    have hcnt':((List.range ops.size).filter fun i=> !(listed.setIfInBounds j true).getD i false).length≤fuel:=by
     have:=Tw (p:=fun i=> !listed.getD i false) (q:=fun i=> !(listed.setIfInBounds j true).getD i false) (List.range ops.size) j (List.mem_range.2 hlt) (by simp[hun]) (by simp[(hset j).2 (.inr rfl)])
      (fun i hi=>by
       simp only[Bool.not_eq_true'] at hi⊢
       cases hc:listed.getD i false with
       |false=>rfl
       |true=>rw[(hset i).2 (.inl hc)] at hi;cases hi)
     omega
    have hcl': ∀i o e,(listed.setIfInBounds j true).getD i false=true→ops.toList[i]? =some o→e∈o.after→Region.binds .any e=true→(listed.setIfInBounds j true).getD e.on false=true:=by
     intro i o' e hi ho' he hb
     rcases(hset i).1 hi with hi|rfl
     ·exact(hset _).2 (.inl (hcl i o' e hi ho' he hb))
     ·rw[hop ho] at ho';cases ho'
      exact(hset _).2 (.inl (hafter e he hb))
    refine Oo ho ?_
    have hLj: ¬listed.getD j false=true:=by rw[hun];simp
    have hback: ∀i,listed.getD i false=true→Reach ops.toList i j→listed.getD j false=true:=fun i hi hR'=>
     Ke (L:=fun i=>listed.getD i false=true) hcl hR' (fun o' e ho' he hb=>hcl i o' e hi ho' he hb)
    have hltj:j<gs.length:=by omega
    have next: ∀(m':Nat) (σ':St),m'≤gs.length→Zu cl gs S (fun i=>(listed.setIfInBounds j true).getD i false=true) m' σ'→ ∀β' a' w',RR C β' σ' a' w'→wpAny P .any ops Q fuel (listed.setIfInBounds j true) a' w':=
     fun m' σ' hm' hs' β' a' w' h'=>ih _ a' w' m' β' σ' (by simpa using hsz) hcnt' hcl' hm' hs' h'
    rcases Adl (hR.at' j _ hg) (hD.onlyS j _ hg) with⟨hns,e,he,hSj⟩|⟨hst,hw,hSj⟩|⟨hst,hw,hb⟩
    ·have he':=hseg.eff (P:=P) hD hR h0 hmn hr hg hreach hback hLj he
     refine Aoc hS hr hG he' (fun k hk=>?_) (fun β' a' w' h'=>next m _ hmn (hseg.moreA hD hR h0 hmn hg hreach hback hLj hns he hSj hset) β' a' w' h') Q
     cases hl:σ.look k with
     |none=>rfl
     |some o2=>
      exfalso
      rcases hseg.l0 k o2 hl with⟨o0,hb⟩|⟨i,g',o1,q1,q2,q3,q4⟩
      ·rw[h0 k (hD.keys j _ hg k hk).1] at hb;cases hb
      ·have:=Ag5 hD.toDrawBase q2 hg q3 hk
       subst this
       exact hLj q1
    ·
     have hwants:σ.wants (gs[j]'hltj).g=some false:=by
      rw[←hw]
      cases hgg:(gs[j]'hltj).g with
      |none=>rfl
      |some p=>
       obtain⟨t,b⟩:=p
       simp only[St.wants]
       rw[hseg.get hD hR hg hreach hback hLj (by simp[GOp.looks,hgg])]
     have he':Dh cl σ (gs[j]'hltj)=some ⟨.dead,[]⟩:=by
      unfold Dh;rw[hwants]
      cases hop:(gs[j]'hltj).op<;>rw[hop] at hst<;>first|rfl|cases hst
     refine Aoc hS hr hG he' (fun k hk=>?_) (fun β' a' w' h'=>next (j+1) _ hltj ?_ β' a' w' h') Q
     ·cases hop:(gs[j]'hltj).op<;>rw[hop] at hst hk<;>first|(cases hst;done)|(simp[AOp.keys] at hk;done)
     ·have hbt:=hseg.between hD hg hreach hback hLj (by simp[AOp.tied,hst])
      refine hseg.moreS hD hR h0 hmn hg hreach hback hLj hst (fun t=>Aoa t) (fun t=>by rw[hSj,Cm]) (fun k o1 hk=>⟨o1,by rw[look_ins];simpa [Ay] using hk,o1.sim_refl⟩) (fun k o1 hk=>⟨o1,by rw[look_ins] at hk;simpa [Ay] using hk⟩) (fun k o1 o2 hk hk'=>?_) hset
      rw[look_ins] at hk
      rw[hSj,St.look_put] at hk'
      exact hseg.exact hD hR h0 hmn (by omega) hbt (by simpa [Ay] using hk) hk'
    ·
     obtain⟨k,o1,o1',hk,hsim,hSj,⟨x,hx,hnx⟩,hall⟩:=Adm hst hb
     have hbt:=hseg.between hD hg hreach hback hLj (by simp[AOp.tied,hst])
     have mem: ∀t,Opd.tmp t∈(gs[j]'hltj).op.opds→t∈(gs[j]'hltj).looks:=fun t hx=>by
      simp only[GOp.looks,List.mem_append]
      exact .inr (by simp only[AOp.tmps,List.mem_filterMap];exact⟨_,hx,rfl⟩)
     have hev: ∀x∈(gs[j]'hltj).op.opds,σ.ev x=(S j).ev x:=fun x hx=>by
      cases x with
      |tmp t=>exact hseg.get hD hR hg hreach hback hLj (mem t hx)
      |cst p=>rfl
      |nils=>rfl
      |junk=>rfl
     have hk2:σ.look k=some o1:=by
      cases x with
      |tmp t=>
       have hs:=hr.slots t
       have e3:σ.get t=(S j).get t:=hev _ hx
       rw[e3] at hs
       obtain⟨o',ho'⟩:=hs.there hnx
       rw[ho',hseg.exact hD hR h0 hmn (by omega) hbt ho' hk]
      |cst p=>simp[St.ev,SV.names] at hnx
      |nils=>simp[St.ev,SV.names] at hnx
      |junk=>simp[St.ev,SV.names] at hnx
     have hb2:=hall σ hev hk2
     have hwants:σ.wants (gs[j]'hltj).g=some true:=by
      rw[←hw]
      cases hgg:(gs[j]'hltj).g with
      |none=>rfl
      |some p=>
       obtain⟨t,b⟩:=p
       simp only[St.wants]
       rw[hseg.get hD hR hg hreach hback hLj (by simp[GOp.looks,hgg])]
     have hB:(gs[j]'hltj).op.isB=true:=by
      cases hop:(gs[j]'hltj).op<;>rw[hop] at hst<;>first|rfl|(cases hst;done)
     have hst2:step cl false σ (gs[j]'hltj)=some ((σ.over k o1').put (gs[j]'hltj).d .dead):=by
      unfold step
      rw[hwants,hB]
      exact hb2
     refine Aod hS hr hG hst2 (fun β' a' w' h'=>next (j+1) _ hltj ?_ β' a' w' h') Q
     refine hseg.moreS hD hR h0 hmn hg hreach hback hLj hst (fun t=>by rw[Cm];rfl) (fun t=>by rw[hSj,Cm];rfl) (fun k2 o2 h2=>?_) (fun k2 o2 h2=>?_) (fun k2 o2 o3 h2 h3=>?_) hset
     ·rw[St.look_put,Bu]
      by_cases e3:k2=k
      ·subst e3;rw[hk2] at h2;cases h2;exact⟨o1',by simp[hk2],hsim⟩
      ·exact⟨o2,by rw[if_neg e3,h2],o2.sim_refl⟩
     ·rw[St.look_put] at h2;exact Qv h2
     ·rw[St.look_put,Bu] at h2
      rw[hSj,St.look_put,Bu] at h3
      by_cases e3:k2=k
      ·subst e3
       simp[hk2] at h2
       simp[hk] at h3
       rw[←h2,←h3]
      ·rw[if_neg e3] at h2 h3
       exact hseg.exact hD hR h0 hmn (by omega) hbt h2 h3
 have hk:=(h.killAll ks).heap (w':={w with drawn:=w.drawn+1}) rfl (Quiet.drawn w _)
 have hrep: ∀i,(Array.replicate ops.size false).getD i false=false:=fun i=>by simp only[Array.getD_eq_getD_getElem?,Array.getElem?_replicate];split<;>rfl
 refine main ops.size _ a _ 0 β _ (by simp) ?_ (fun i o e hi=>by rw[hrep] at hi;cases hi) (Nat.zero_le _) ?_ hk
 ·refine Nat.le_trans (List.length_filter_le _ _) (by simp)
 ·rw[←e1]
  have no: ∀i,¬(Array.replicate ops.size false).getD i false=true:=fun i q=>by rw[hrep] at q;cases q
  exact⟨fun i g _ _=>⟨fun q=>absurd q (no i),fun q=>absurd q (by omega)⟩,fun t _=>rfl,fun i g t q=>absurd q (no i),fun k o h1=> .inl ⟨o,h1⟩,fun k o0 h1=>⟨o0,h1,o0.sim_refl⟩,fun i g k o0 q=>absurd q (no i),
   fun k o o' h1 h2=>by rw[h1] at h2;exact Option.some.inj h2,fun i g k o q=>absurd q (no i)⟩
end
end Go.Av
end
section
namespace Go.Av
def Boo(P:Program)(f:FuncId)(sz by':Nat):Prop:=
 Enters P f∧(∀(w:World) (b vb n c i vc:Nat) (cur vcur:Array Value) (T T2:TypeId),w.heap[b]? =some (.cells cur T (0,0))→w.heap[vb]? =some (.cells vcur T2 (0,0))→vb≠b→cur.size=c*sz→sz≤vcur.size→
  n≤c→i≤n→(n+1)*by'≤140737488355328→(∀v∈cur.toList.take (n*sz),v.oneCell'=true)→(∀v∈vcur.toList.take sz,v.oneCell'=true)→
  Calls P f #[.slice (some ⟨b,0,none⟩) n c,.int .i64 i,.slice (some ⟨vb,0,none⟩) 1 vc] w fun e w'=>
   ∃(g G:Nat) (arr:Array Value) (T':TypeId) (Z:List Value),e= .returned (.slice (some ⟨g,0,none⟩) (n+1) G)∧w'.heap[g]? =some (.cells arr T' (0,0))∧n+1≤G∧arr.size=G*sz∧
    arr.toList=cur.toList.take (i*sz)++vcur.toList.take sz++(cur.toList.drop (i*sz)).take ((n-i)*sz)++Z∧(g=b∨g=w.heap.size)∧w.heap.size≤w'.heap.size∧(∀k,k<w.heap.size→k≠b→w'.heap[k]? =w.heap[k]?)∧Quiet w w')∧
 ∀(w:World) (ax:Option Addr) (vb vc:Nat) (vcur:Array Value) (T2:TypeId),w.heap[vb]? =some (.cells vcur T2 (0,0))→sz≤vcur.size→by'≤140737488355328→(∀v∈vcur.toList.take sz,v.oneCell'=true)→
  Calls P f #[.slice ax 0 0,.int .i64 0,.slice (some ⟨vb,0,none⟩) 1 vc] w fun e w'=>
   ∃(G:Nat) (arr:Array Value) (T':TypeId) (Z:List Value),e= .returned (.slice (some ⟨w.heap.size,0,none⟩) 1 G)∧w'.heap[w.heap.size]? =some (.cells arr T' (0,0))∧1≤G∧arr.size=G*sz∧
    arr.toList=vcur.toList.take sz++Z∧w.heap.size≤w'.heap.size∧(∀k,k<w.heap.size→w'.heap[k]? =w.heap[k]?)∧Quiet w w'
section
variable {P:Program} {C:Ctx} {β:Key→Blk} {σ:St} {a:Act} {w:World}
theorem Aya{ok:Nat→Prop}{sz:Nat}{xs:List PV}{arr:Array Value}(g4: ∀x∈xs,x.cells.length=sz∧x.fine)(g5: ∀(i j:Nat) (x y:PV),xs[i]? =some x→x.cells[j]? =some y→ ∃u,arr[i*sz+j]? =some u∧Be w ok y u):
  ∀v∈arr.toList.take (xs.length*sz),v.oneCell'=true:=by
 intro u hu
 obtain⟨q,hq⟩:=List.mem_iff_getElem?.1 hu
 rw[List.getElem?_take] at hq
 split at hq
 ·rename_i hlt
  have hpos:0<sz:=by
   by_cases h:sz=0
   ·subst h;simp at hlt
   ·omega
  have hi:q/sz<xs.length:=(Nat.div_lt_iff_lt_mul hpos).2 (by omega)
  have hj:q%sz<sz:=Nat.mod_lt _ hpos
  have hm:=List.getElem_mem hi
  have hjl:q%sz<(xs[q/sz]).cells.length:=by rw[(g4 _ hm).1];exact hj
  obtain⟨u',hu',hL⟩:=g5 (q/sz) (q%sz) _ _ (List.getElem?_eq_getElem hi) (List.getElem?_eq_getElem hjl)
  rw[Nat.mul_comm,Nat.div_add_mod,←Array.getElem?_toList,hq] at hu'
  cases hu'
  exact hL.oneCell ((g4 _ hm).2 _ (List.getElem_mem hjl))
 ·cases hq
theorem RR.unnamed(h:RR C β σ a w){k:Key}(hn:σ.look k=none):(∀t,(σ.kill k).get t=σ.get t)∧ ∀k',(σ.kill k).look k'=σ.look k':=by
 have hv: ∀{x:SV} {v:Value},As w (okB C β σ.look w) β σ.look x v→x.kill k=x:=fun {x v} hx=>by
  rcases Zt k x with e|⟨e,_⟩
  ·unfold SV.kill at e⊢
   cases hk:x.names k with
   |false=>rfl
   |true=>obtain⟨o,ho⟩:=hx.there hk;rw[hn] at ho;cases ho
  ·exact e
 refine⟨fun t=>by rw[Fy];exact hv (h.slots t),fun k'=>?_⟩
 rw[B8]
 by_cases e:k'=k
 ·subst e;rw[if_pos rfl,hn]
 ·rw[if_neg e]
  cases hl:σ.look k' with
  |none=>rfl
  |some o=>
   simp only[Option.map_some]
   congr 1
   cases o with
   |row _ _=>rfl
   |map _ _=>rfl
   |box cs=>
    obtain⟨b,arr,T,e0,e1,e2,e3,e4⟩:=h.objs k' _ hl
    simp only[Ah.kill]
    congr 1
    have:cs.map (SV.kill k)=cs.map (fun v=>v):=List.map_congr_left (fun v hv'=>by
     obtain⟨j,hj⟩:=List.mem_iff_getElem?.1 hv'
     have hjl:=(List.getElem?_eq_some_iff.1 hj).1
     exact hv (e4 j v _ hj (Array.getElem?_eq_getElem (by omega))))
    rw[this];simp
theorem Bhc{w':World}{ok ok':Nat→Prop}{β':Key→Blk}{lk':Key→Option Ah}(hk:H5 ok w w')(hok: ∀b,ok b→ok' b){sz n:Nat}{xs:List PV}{e:PV}{old elem:Nat→Option Value}{g G:Nat}{arr:Array Value}{T:TypeId}(hn:n≤xs.length)
  (hg:w'.heap[g]? =some (.cells arr T (0,0)))(hG:xs.length+1≤G)(hs:arr.size=G*sz)(hx: ∀x∈xs,x.cells.length=sz∧x.fine)(he:e.cells.length=sz∧e.fine)
  (h1: ∀q,q<n*sz→arr[q]? =old q)(h2: ∀q,q<sz→arr[n*sz+q]? =elem q)(h3: ∀q,n*sz≤q→q<xs.length*sz→arr[sz+q]? =old q)
  (hold: ∀(i j:Nat) (x y:PV),xs[i]? =some x→x.cells[j]? =some y→ ∃u,old (i*sz+j)=some u∧Be w ok y u)
  (helem: ∀(j:Nat) (y:PV),e.cells[j]? =some y→ ∃u,elem j=some u∧Be w ok y u):Fa w' ok' β' lk' (.row sz (xs.take n++e::xs.drop n)) ⟨some g,G⟩:=by
 refine .inr ⟨g,arr,T,rfl,hg,by simp;omega,hs,?_,?_⟩
 ·intro x' hx'
  rcases List.mem_append.1 hx' with hx'|hx'
  ·exact hx x' (List.mem_of_mem_take hx')
  ·rcases List.mem_cons.1 hx' with rfl|hx'
   ·exact he
   ·exact hx x' (List.mem_of_mem_drop hx')
 ·intro i' j' x' y' hx' hy'
  have hxm:=List.mem_of_getElem? hx'
  have hcl:x'.cells.length=sz:=by
   rcases List.mem_append.1 hxm with hx'|hx'
   ·exact(hx x' (List.mem_of_mem_take hx')).1
   ·rcases List.mem_cons.1 hx' with rfl|hx'
    ·exact he.1
    ·exact(hx x' (List.mem_of_mem_drop hx')).1
  have hj:j'<sz:=by have:=(List.getElem?_eq_some_iff.1 hy').1;omega
  have l0:(xs.take n).length=n:=by simp;omega
  rcases Nat.lt_trichotomy i' n with hlt|heq|hgt
  ·have hx2:xs[i']? =some x':=by
    rw[List.getElem?_append_left (by simp;omega),List.getElem?_take,if_pos hlt] at hx'
    exact hx'
   obtain⟨u,hu,hl⟩:=hold i' j' x' y' hx2 hy'
   have hq:i'*sz+j'<n*sz:=by
    have:(i'+1)*sz≤n*sz:=Nat.mul_le_mul_right _ hlt
    rw[Nat.add_mul] at this;omega
   exact⟨u,by rw[h1 _ hq];exact hu,hl.mono hk hok⟩
  ·subst heq
   rw[List.getElem?_append_right (by omega),l0] at hx'
   simp at hx';subst hx'
   obtain⟨u,hu,hl⟩:=helem j' y' hy'
   exact⟨u,by rw[h2 _ hj];exact hu,hl.mono hk hok⟩
  ·have hx2:xs[i'-1]? =some x':=by
    rw[List.getElem?_append_right (by omega),l0,show i'-n=(i'-n-1)+1 by omega,List.getElem?_cons_succ,List.getElem?_drop,show n+(i'-n-1)=i'-1 by omega] at hx'
    exact hx'
   obtain⟨u,hu,hl⟩:=hold (i'-1) j' x' y' hx2 hy'
   have hil:i'-1<xs.length:=(List.getElem?_eq_some_iff.1 hx2).1
   obtain⟨t,rfl⟩: ∃t,i'=t+1:=⟨i'-1,by omega⟩
   have e1:(t+1)*sz=t*sz+sz:=Nat.succ_mul t sz
   have e2:n*sz≤t*sz:=Nat.mul_le_mul_right _ (by omega)
   have e3:(t+1)*sz≤xs.length*sz:=Nat.mul_le_mul_right _ (by simp at hil;omega)
   refine⟨u,?_,hl.mono hk hok⟩
   rw[show(t+1)*sz+j'=sz+(t*sz+j') by omega,h3 _ (by omega) (by omega)]
   rw[Nat.add_sub_cancel] at hu
   exact hu
theorem Bj5{f:FuncId}{sz by':Nat}(hI:Boo P f sz by'){o:Oper}(h:RR C β σ a w)(hd: ∀i,o.dst=some i→i<C.nt){c:Call}{fo:Operand}{x:Nat}{i y:Opd}(ho:o.op= .call c)(hc:c.callee= .value fo)
  (hf:Ak fo (.cst (.fn f))=true)(ha:Cu Ak c.args.toList [.tmp x,i,y]=true){k k2:Key}{n:Int}{xs:List PV}{e:PV}(hx:σ.get x= .own k)(hi:σ.ev i= .pv (.int .i64 n))(hy:σ.ev y= .own k2)
  (hk:σ.look k=some (.row sz xs))(hk2:σ.look k2=some (.row sz [e]))(hne:k≠k2)(h0:0≤n)(hn:n≤xs.length)(hb:(xs.length+1)*by'≤140737488355328){d:Nat}(hfr:σ.look (.loc d 0)=none):
  Ax P C (((σ.kill k).insAll [(.loc d 0,.row sz (xs.take n.toNat++e::xs.drop n.toNat))]).put o.dst (.own (.loc d 0))) o a w:=by
 obtain⟨us,hfe,hlen,hargs⟩:=Aui h hf ha (g:=f) (caps:=[]) rfl
 obtain⟨hE,hcon1,hcon2⟩:=hI
 obtain⟨v0,v1,v2,hvs⟩: ∃v0 v1 v2,c.args.toList.map a.eval++us=[v0,v1,v2]:=by
  match hq:c.args.toList.map a.eval++us,hlen with
  |[v0,v1,v2],_=>exact⟨v0,v1,v2,rfl⟩
  |[],hl=>simp at hl
  |[_],hl=>simp at hl
  |[_,_],hl=>simp at hl
  |_::_::_::_::_,hl=>simp at hl
 rw[hvs] at hargs
 have s0:As w (okB C β σ.look w) β σ.look (.own k) v0:=hargs 0 _ v0 (by simp[St.ev,hx]) rfl
 have s1:As w (okB C β σ.look w) β σ.look (.pv (.int .i64 n)) v1:=hargs 1 _ v1 (by simp[hi]) rfl
 have s2:As w (okB C β σ.look w) β σ.look (.own k2) v2:=hargs 2 _ v2 (by simp[hy]) rfl
 obtain⟨b2,arr2,T2,q0,q1,q2,q3,q4,q5⟩:=(h.objs k2 _ hk2).resolve_left (fun e1=>by cases e1.2.1)
 have hsz2:sz≤arr2.size:=by rw[q3];exact Nat.le_mul_of_pos_left _ (by simp at q2;omega)
 have helem: ∀(j:Nat) (y:PV),e.cells[j]? =some y→ ∃u,arr2.toList[j]? =some u∧Be w (okB C β σ.look w) y u:=fun j y hy=>by
  obtain⟨u,hu,hl⟩:=q5 0 j e y rfl hy
  exact⟨u,by simpa using hu,hl⟩
 have hmn:n.toNat≤xs.length:=by omega
 have cong: ∀{β':Key→Blk} {w':World} {a':Act} {o1:Ah},RR C β' ((((σ.kill k).kill (.loc d 0)).insAll [(.loc d 0,o1)]).put o.dst (.own (.loc d 0))) a' w'→RR C β' (((σ.kill k).insAll [(.loc d 0,o1)]).put o.dst (.own (.loc d 0))) a' w':=fun {β' w' a' o1} h'=>by
  obtain⟨u1,u2⟩:=(h.kill k).unnamed (k:= .loc d 0) (by rw[B8];split<;>simp[hfr])
  refine h'.congr (fun t=>?_) (fun k'=>?_)
  ·rw[Cm,Cm,D8,D8,u1]
  ·rw[St.look_put,St.look_put,St.look_ins,St.look_ins,u2]
 have own': ∀(β':Key→Blk) (w':World) (g G:Nat),β' (.loc d 0)=⟨some g,G⟩→As w' (okB C β' (((σ.kill k).kill (.loc d 0)).insAll [(.loc d 0,.row sz (xs.take n.toNat++e::xs.drop n.toNat))]).look w') β' (((σ.kill k).kill (.loc d 0)).insAll [(.loc d 0,.row sz (xs.take n.toNat++e::xs.drop n.toNat))]).look (.own (.loc d 0)) (.slice (some ⟨g,0,none⟩) (xs.length+1) G):=by
  intro β' w' g G hB
  have:=As.own (w:=w') (ok:=okB C β' (((σ.kill k).kill (.loc d 0)).insAll [(.loc d 0,.row sz (xs.take n.toNat++e::xs.drop n.toNat))]).look w') (β:=β') (lk:=(((σ.kill k).kill (.loc d 0)).insAll [(.loc d 0,.row sz (xs.take n.toNat++e::xs.drop n.toNat))]).look) (.loc d 0) sz (xs.take n.toNat++e::xs.drop n.toNat) g (by rw[St.look_ins];simp) (by rw[hB])
  have el:(xs.take n.toNat++e::xs.drop n.toNat).length=xs.length+1:=by simp;omega
  rw[hB,el] at this
  exact this
 cases s2 with
 |ownN _ sz3 ad hk3 hb3=>rw[hk2] at hk3;cases hk3
 |own _ sz2 xs2 b2' hk2' hb2'=>
 rw[hk2] at hk2';cases hk2'
 rw[q0] at hb2';cases hb2'
 cases s1 with
 |pv _ _ hl=>
 cases hl
 cases s0 with
 |own _ sz1 xs1 b hk' hbk=>
  rw[hk] at hk';cases hk'
  obtain⟨b',arr,T,g0,g1,g2,g3,g4,g5⟩:=(h.objs k _ hk).resolve_left (fun e1=>by rw[hbk] at e1;cases e1.1)
  rw[hbk] at g0;cases g0
  intro K hK Q
  unfold Oper.wp
  rw[Api ho hc hfe hE,Oper.upon_enter,hvs]
  have hcall:=hcon1 w b b2 xs.length (β k).c n.toNat (β k2).c arr arr2 T T2 g1 q1 (fun e=>by subst e;exact hne (h.inj k k2 _ _ _ hk hk2 hbk q0)) g3 hsz2 g2 hmn hb (Aya g4 g5) (by simpa using Aya q4 q5)
  rw[Int.toNat_of_nonneg h0] at hcall
  refine hcall.mono fun en w' hen=>?_
  obtain⟨g,G,arr',T',Z,rfl,r1,r2,r3,r4,r5,r6,r7,r8⟩:=hen
  have hle:xs.length*sz≤arr.size:=by rw[g3];exact Nat.mul_le_mul_right _ g2
  have hle2:n.toNat*sz≤xs.length*sz:=Nat.mul_le_mul_right _ hmn
  have hsub:(xs.length-n.toNat)*sz=xs.length*sz-n.toNat*sz:=Nat.sub_mul _ _ _
  have l1:(arr.toList.take (n.toNat*sz)).length=n.toNat*sz:=by simp;omega
  have l2:(arr2.toList.take sz).length=sz:=by simp;omega
  have l3:((arr.toList.drop (n.toNat*sz)).take ((xs.length-n.toNat)*sz)).length=(xs.length-n.toNat)*sz:=by simp;omega
  refine Exists.elim (h.move k (.loc d 0) (by simp) (.row sz (xs.take n.toNat++e::xs.drop n.toNat)) ⟨some g,G⟩ w' r6 ?_ ?_ ?_ (fun b' hb' hne'=>r7 b' hb' (fun e1=>by subst e1;exact hne' _ hk hbk)) (fun β' hok hkeep=>?_) r8) fun β' hβ=>?_
  ·intro b' hb'
   simp at hb';subst hb'
   rcases r5 with rfl|rfl
   ·exact h.lo k _ _ hk hbk
   ·exact .inl h.size
  ·intro k3 o3 b' hk3 _ hl3 hb3 e1
   simp at e1;subst e1
   rcases r5 with rfl|rfl
   ·exact hk3 (h.inj k3 k _ _ _ hl3 hk hb3 hbk)
   ·have:=h.blk_lt hl3 hb3;omega
  ·intro b' hb' e1
   simp at e1;subst e1
   rcases r5 with rfl|rfl
   ·exact hb'.2.1 k _ hk hbk
   ·have:=hb'.1;omega
  ·refine Bhc hkeep hok hmn r1 r2 r3 g4 (q4 e (by simp)) (old:=fun q=>arr[q]?) (elem:=fun q=>arr2.toList[q]?) (fun q hq=>?_) (fun q hq=>?_) (fun q hq1 hq2=>?_) g5 helem
   ·rw[←Array.getElem?_toList,r4,List.append_assoc,List.append_assoc,List.getElem?_append_left (by rw[l1];exact hq),List.getElem?_take,if_pos hq,Array.getElem?_toList]
   ·rw[←Array.getElem?_toList,r4,List.append_assoc,List.append_assoc,List.getElem?_append_right (by rw[l1];omega),l1,List.getElem?_append_left (by rw[l2];omega),Nat.add_sub_cancel_left,List.getElem?_take,if_pos hq]
   ·rw[←Array.getElem?_toList,r4,List.append_assoc,List.append_assoc,List.getElem?_append_right (by rw[l1];omega),l1,List.getElem?_append_right (by rw[l2];omega),l2,List.getElem?_append_left (by rw[l3];omega),List.getElem?_take,if_pos (by omega),List.getElem?_drop,Array.getElem?_toList]
    rw[show n.toNat*sz+(sz+q-n.toNat*sz-sz)=q by omega]
  ·obtain⟨hB,h'⟩:=hβ
   exact hK β' _ _ (cong (h'.put o.dst (.own (.loc d 0)) _ hd (own' β' w' g G hB)))
 |ownN _ sz1 ad hk' hbk=>
  rw[hk] at hk';cases hk'
  obtain rfl:n=0:=by simp at hn;omega
  intro K hK Q
  unfold Oper.wp
  rw[Api ho hc hfe hE,Oper.upon_enter,hvs]
  have hcall:=hcon2 w ad b2 (β k2).c arr2 T2 q1 hsz2 (by simpa using hb) (by simpa using Aya q4 q5)
  refine hcall.mono fun en w' hen=>?_
  obtain⟨G,arr',T',Z,rfl,r1,r2,r3,r4,r6,r7,r8⟩:=hen
  have l2:(arr2.toList.take sz).length=sz:=by simp;omega
  refine Exists.elim (h.move k (.loc d 0) (by simp) (.row sz (List.take (0:Int).toNat []++e::List.drop (0:Int).toNat [])) ⟨some w.heap.size,G⟩ w' r6 ?_ ?_ ?_ (fun b' hb' _=>r7 b' hb') (fun β' hok hkeep=>?_) r8) fun β' hβ=>?_
  ·intro b' hb'
   simp at hb';subst hb'
   exact .inl h.size
  ·intro k3 o3 b' hk3 _ hl3 hb3 e1
   simp at e1;subst e1
   have:=h.blk_lt hl3 hb3;omega
  ·intro b' hb' e1
   simp at e1;subst e1
   have:=hb'.1;omega
  ·refine Bhc (n:=0) (xs:=[]) hkeep hok (Nat.le_refl _) r1 r2 r3 (by simp) (q4 e (by simp)) (old:=fun q=>none) (elem:=fun q=>arr2.toList[q]?) (fun q hq=>by omega) (fun q hq=>?_) (fun q hq1 hq2=>by simp at hq2) (by simp) helem
   rw[Nat.zero_mul,Nat.zero_add,←Array.getElem?_toList,r4,List.getElem?_append_left (by rw[l2];omega),List.getElem?_take,if_pos hq]
  ·obtain⟨hB,h'⟩:=hβ
   exact hK β' _ _ (cong (h'.put o.dst (.own (.loc d 0)) _ hd (own' β' w' _ G hB)))
def GOp.plain(g:GOp):GOp:=match g.op with
 | .ins f _ _ x i y=>⟨g.d,g.g,.call 1 0 (.cst (.fn f)) [.tmp x,i,y] [] []⟩
 |_=>g
theorem Bdw{f:FuncId}{sz by' x:Nat}{i y:Opd}(hI:Boo P f sz by'){o:Oper}{ops:Array Oper}{g:GOp}(hop:g.op= .ins f sz by' x i y)(hgg:g.g=none)(h:RR C β σ a w)(hag:G6 P C.nt ops o g.plain=true)
  {cl:Callee}{e:Eff}(he:Au cl σ (g.d.getD 0) g.op=some e)(hfr:σ.look (.loc (g.d.getD 0) 0)=none){K:Act→World→Prop}
  (hK: ∀β' a' w' k,σ.get x= .own k→RR C β' (((σ.kill k).insAll e.ins).put g.d e.v) a' w'→K a' w')(Q:Exit→Act→World→Prop):Mh P ops o a w K Q:=by
 have hpl:g.plain=⟨g.d,g.g,.call 1 0 (.cst (.fn f)) [.tmp x,i,y] [] []⟩:=by unfold GOp.plain;rw[hop]
 rw[hpl] at hag
 obtain⟨g1,g2,g3,g4⟩:=Mr hag
 rw[hop] at he
 simp only[Au] at he
 unfold Mh
 rw[Qm (b:=true) h g4 (by simp[hgg,St.wants])]
 simp only[if_true]
 simp only[agree,Aub] at g1
 replace g1:=(Bool.and_eq_true_iff.1 g1).2
 split at g1
 ·rename_i c ho
  split at g1
  ·rename_i fo hc
   simp only[Bool.and_eq_true] at g1
   split at he
   ·rename_i k n k2 hx hi hy
    split at he
    ·rename_i s1 xs s2 e1 hk hk2
     simp only[cond_eq_ite] at he
     split at he
     ·rename_i hb
      simp only[Bool.and_eq_true,beq_iff_eq,decide_eq_true_eq] at hb
      obtain⟨rfl,rfl,hne,h0,hn,hbb⟩:=hb
      cases he
      have hi':σ.ev i= .pv (.int .i64 n):=by
       unfold intOf at hi
       split at hi
       ·rename_i k' n' e;cases hi;exact e
       ·cases hi
      refine Bj5 hI h g3 ho hc g1.1 g1.2 hx hi' hy hk hk2 hne h0 hn hbb hfr K (fun β' a' w' h'=>hK β' a' w' k hx ?_) Q
      rw[g2] at h'
      exact h'
     ·cases he
    ·cases he
   ·cases he
  ·cases g1
 ·cases g1
end
end Go.Av
end
section
namespace Go.Av
def AOp.insX:AOp→Option Nat
 | .ins _ _ _ x _ _=>some x
 |_=>none
def A79(F:St)(g:GOp):List Key:=match g.op.insX with
 |some x=>(match F.get x with| .own k=>[k]|_=>[])
 |none=>[]
def Bij(F:St)(gs:List GOp):List Key:=gs.flatMap (A79 F)
def Btk(F:St)(g:GOp):Bool:=match g.op.insX with
 |some x=>(match F.get x with
  | .own k=>F.sl.all (fun p=>p.1==x|| !p.2.names k)&&F.hp.all (fun p=> !p.2.names k)
  |_=>false)
 |none=>true
def zOK(F:St)(gs:List GOp):Bool:=gs.all (Btk F)
def A3q(gs:List GOp):Bool:=(List.range gs.length).all fun i=>match gs[i]? with
 |some g=>(!g.op.isB&&g.looks.all fun t=>(List.range gs.length).all fun j=>decide (j<i)||(match gs[j]? with|some g'=> !(g'.d==some t)|none=>true))&&(match g.op.insX with
  |some x=>g.g.isNone&&(List.range gs.length).all (fun j=>i==j||(match gs[j]? with|some g'=> !g'.looks.contains x|none=>true))
  |none=>true)
 |none=>true
theorem Anp{gs:List GOp}(h:A3q gs=true){i:Nat}{g:GOp}(hg:gs[i]? =some g):g.op.isB=false∧ ∀x,g.op.insX=some x→g.g=none∧ ∀j g',j≠i→gs[j]? =some g'→x∉g'.looks:=by
 have hlt:=(List.getElem?_eq_some_iff.1 hg).1
 have:=List.all_eq_true.1 h i (List.mem_range.2 hlt)
 rw[hg] at this
 simp only[Bool.and_eq_true,Bool.not_eq_true'] at this
 refine⟨this.1.1,fun x hx=>?_⟩
 have h2:=this.2
 rw[hx] at h2
 simp only[Bool.and_eq_true,Option.isNone_iff_eq_none] at h2
 refine⟨h2.1,fun j g' hj hg' hm=>?_⟩
 have hlt':=(List.getElem?_eq_some_iff.1 hg').1
 have h3:=List.all_eq_true.1 h2.2 j (List.mem_range.2 hlt')
 rw[hg'] at h3
 have e:(i==j)=false:=by simp;omega
 rw[e] at h3
 simp[hm] at h3
theorem A78{gs:List GOp}(h:A3q gs=true){j:Nat}{g:GOp}(hg:gs[j]? =some g){t:Nat}(ht:t∈g.looks){i:Nat}{g':GOp}(hg':gs[i]? =some g')(hd:g'.d=some t):i<j:=by
 have hlt:=(List.getElem?_eq_some_iff.1 hg).1
 have hlt':=(List.getElem?_eq_some_iff.1 hg').1
 have:=List.all_eq_true.1 h j (List.mem_range.2 hlt)
 rw[hg] at this
 simp only[Bool.and_eq_true] at this
 have h2:=List.all_eq_true.1 (List.all_eq_true.1 this.1.2 t ht) i (List.mem_range.2 hlt')
 rw[hg'] at h2
 simpa [hd] using h2
theorem Aad{ops:List Oper}{gs:List GOp}{ks:List Key}(hD:DrawBase ops gs ks)(hz:A3q gs=true)(j:Nat)(g:GOp)(hg:gs[j]? =some g)(t:Nat)(ht:t∈g.looks)(i:Nat)(g':GOp)(hg':gs[i]? =some g')(hd:g'.d=some t):i<j∧Reach ops j i:=by
 rcases hD.looks j g hg t ht i g' hg' hd with q|⟨q1,_⟩
 ·exact q
 ·have:=A78 hz hg ht hg' hd;omega
theorem Bl7(l:List (Nat×SV))(t:Nat):Uf l t= .dead∨(t,Uf l t)∈l:=by
 induction l with
 |nil=>exact .inl rfl
 |cons p l ih=>
  obtain⟨i,v⟩:=p
  rw[An9]
  by_cases e:i=t
  ·subst e;rw[if_pos rfl];exact .inr (by simp)
  ·rw[if_neg e]
   rcases ih with h|h
   ·exact .inl h
   ·exact .inr (by simp[h])
theorem Bd8{l:List (Key×Ah)}{k:Key}{o:Ah}(h:Ay l k=some o):(k,o)∈l:=by
 induction l with
 |nil=>cases h
 |cons p l ih=>
  obtain⟨k',o'⟩:=p
  simp only[Ay] at h
  split at h
  ·rename_i e;subst e;cases h;simp
  ·simp[ih h]
theorem Bcu{F:St}{gs:List GOp}(h:zOK F gs=true){i:Nat}{g:GOp}(hg:gs[i]? =some g){x:Nat}(hx:g.op.insX=some x){k:Key}(hk:k∈A79 F g):
  F.get x= .own k∧(∀t,t≠x→(F.get t).names k=false)∧ ∀k' o,F.look k'=some o→o.names k=false:=by
 have h:=List.all_eq_true.1 h g (List.mem_of_getElem? hg)
 unfold Btk at h
 unfold A79 at hk
 simp only[hx] at h hk
 cases hF:F.get x with
 |own k0=>
  rw[hF] at h hk
  simp only[List.mem_singleton] at hk
  subst hk
  simp only[Bool.and_eq_true,List.all_eq_true,Bool.or_eq_true,Bool.not_eq_true',beq_iff_eq] at h
  refine⟨rfl,fun t ht=>?_,fun k' o ho=>h.2 _ (Bd8 ho)⟩
  rcases Bl7 F.sl t with e|e
  ·show(Uf F.sl t).names k=false
   rw[e];rfl
  ·rcases h.1 _ e with e2|e2
   ·exact absurd e2 ht
   ·exact e2
 |_=>rw[hF] at h;simp at h
theorem Bcv{F:St}{g:GOp}{k:Key}(h:k∈A79 F g): ∃x,g.op.insX=some x:=by
 unfold A79 at h
 split at h
 ·rename_i x hx;exact⟨x,hx⟩
 ·simp at h
theorem A2g{g:GOp}{x:Nat}(h:g.op.insX=some x):x∈g.looks:=by
 unfold AOp.insX at h
 split at h
 ·rename_i f sz by' y i z hop
  cases h
  simp[GOp.looks,AOp.tmps,hop,AOp.opds]
 ·cases h
section
variable {cl:Callee} {ops:List Oper} {gs:List GOp} {ks:List Key} {S:Nat→St}
theorem Arb(hD:Alw ops gs ks)(hz:A3q gs=true)(hR:Wk cl gs S)(hnB: ∀(i:Nat) (g:GOp),gs[i]? =some g→g.op.isB=false){L:Nat→Prop}{σ F:St}(h:Seg cl gs S 0 L σ)(hF:Seg cl gs S 0 (fun i=>i<gs.length) F)
  {j:Nat}{g:GOp}(hg:gs[j]? =some g)(hreach: ∀i,Reach ops j i→L i){t:Nat}(ht:t∈g.looks):σ.get t=F.get t:=by
 by_cases hc: ∃(i:Nat) (g':GOp),gs[i]? =some g'∧g'.d=some t
 ·obtain⟨i,g',hg',hd⟩:=hc
  obtain⟨q1,q2⟩:=Aad hD.toDrawBase hz j g hg t ht i g' hg' hd
  obtain⟨e',he',_⟩:=Gh (hR.at' i g' hg') (hnB i g' hg')
  rw[h.g2 i g' e' t (Nat.zero_le _) (hreach i q2) hg' he' hd,hF.g2 i g' e' t (Nat.zero_le _) (List.getElem?_eq_some_iff.1 hg').1 hg' he' hd]
 ·rw[h.g1 t (fun i g' _ _ hg' hd=>hc ⟨i,g',hg',hd⟩),hF.g1 t (fun i g' _ _ hg' hd=>hc ⟨i,g',hg',hd⟩)]
theorem A3s(hD:Alw ops gs ks)(hR:Wk cl gs S)(h0: ∀k∈ks,(S 0).look k=none){L:Nat→Prop}{σ F:St}(h:Seg cl gs S 0 L σ)(hF:Seg cl gs S 0 (fun i=>i<gs.length) F){k:Key}{o:Ah}(ho:σ.look k=some o):F.look k=some o:=by
 by_cases hc: ∃i g e o',L i∧gs[i]? =some g∧Dh cl (S i) g=some e∧Ay e.ins k=some o'
 ·obtain⟨i,g,e,o',hl,hg,he,hi⟩:=hc
  rw[h.l2 i g e k o' (Nat.zero_le _) hl hg he hi] at ho
  cases ho
  exact hF.l2 i g e k o (Nat.zero_le _) (List.getElem?_eq_some_iff.1 hg).1 hg he hi
 ·have e1:=h.l1 k (fun i g e _ hl hg he=>by
   cases hi:Ay e.ins k with
   |none=>rfl
   |some o'=>exact(hc ⟨i,g,e,o',hl,hg,he,hi⟩).elim)
  rw[ho] at e1
  rw[hF.l1 k (fun i g e _ hl hg he=>by
   cases hi:Ay e.ins k with
   |none=>rfl
   |some o'=>
    obtain⟨hk,_⟩:=Jq hD.toDrawBase hg he hi
    rw[fresh hD.toDrawBase hR h0 hg hk 0 (Nat.zero_le _)] at e1;cases e1),←e1]
theorem A81{σ τ:St}{g:GOp}{e:Eff}(hget: ∀t∈g.looks,τ.get t=σ.get t)(hlk: ∀t∈g.looks,Q2 σ τ (σ.get t))(he:Dh cl σ g=some e):Dh cl τ g=some e:=by
 have hwants:τ.wants g.g=σ.wants g.g:=by
  cases hgg:g.g with
  |none=>rfl
  |some p=>
   obtain⟨t,b⟩:=p
   simp only[St.wants]
   rw[hget t (by simp[GOp.looks,hgg])]
 unfold Dh at he⊢
 rw[hwants]
 split at he
 ·cases he
 ·rename_i hw
  exact he
 ·rename_i hw
  have hx: ∀x∈g.op.opds,(τ.ev x=σ.ev x)∧Q2 σ τ (σ.ev x):=by
   intro x hx
   cases x with
   |tmp t=>
    have hm:t∈g.looks:=by
     simp only[GOp.looks,List.mem_append]
     exact .inr (by simp only[AOp.tmps,List.mem_filterMap];exact⟨_,hx,rfl⟩)
    exact⟨hget t hm,hlk t hm⟩
   |cst p=>exact⟨rfl,fun k o hn=>by simp[St.ev,SV.names] at hn⟩
   |nils=>exact⟨rfl,fun k o hn=>by simp[St.ev,SV.names] at hn⟩
   |junk=>exact⟨rfl,fun k o hn=>by simp[St.ev,SV.names] at hn⟩
  exact Aly (fun x hx'=>(hx x hx').1) (fun x hx'=>(hx x hx').2) he
end
section
variable {P:Program} {C:Ctx} {β:Key→Blk} {σ:St} {a:Act} {w:World} {cl:Callee} {ops:Array Oper} {gs:List GOp} {ks:List Key}
inductive A3r (P:Program):List GOp→St→St→Prop
 |nil (σ:St):A3r P [] σ σ
 |cons {cl:Callee} {o:GOp} {os:List GOp} {σ σ1 σ':St} (hS:Oc P cl) (h:step cl false σ o=some σ1) (h2:A3r P os σ1 σ'):A3r P (o::os) σ σ'
theorem Adu(n:Nat): ∀m,((List.range m).filter fun i=>decide (n≤i)).length=m-n
 |0=>by simp
 |m+1=>by
  rw[List.range_succ,List.filter_append,List.length_append,Adu n m]
  by_cases h:n≤m
  ·simp[h];omega
  ·simp[h];omega
def A70(ops:List Oper)(n:Nat):Bool:=(List.range ops.length).all fun j=>
 (match ops[j]? with|some o=>o.after.toList.all (fun e=> !Region.binds .any e||decide (e.on<j))|none=>true)&&(decide (j<n)||(List.range j).all fun i=>((Aon [] ops).getD j 0).testBit i)
theorem Ua{ops:List Oper}{n:Nat}(h:A70 ops n=true){j:Nat}{o:Oper}(ho:ops[j]? =some o):(∀e∈o.after,Region.binds .any e=true→e.on<j)∧(n≤j→ ∀i,i<j→Reach ops j i):=by
 have hlt:=(List.getElem?_eq_some_iff.1 ho).1
 have:=List.all_eq_true.1 h j (List.mem_range.2 hlt)
 rw[ho] at this
 simp only[Bool.or_eq_true,decide_eq_true_eq,Bool.and_eq_true,List.all_eq_true,Bool.not_eq_true',List.mem_range] at this
 obtain⟨h1,h2⟩:=this
 refine⟨fun e he hb=>?_,fun hj i hi=>?_⟩
 ·rcases h1 e (by simpa using he) with q|q
  ·rw[hb] at q;cases q
  ·exact q
 ·rcases h2 with q|q
  ·omega
  ·exact Aag ops [] [] rfl rfl (fun j i hb=>by simp at hb) j i (q i hi)
theorem Ia{ops:List Oper}{L:Nat→Prop}(hcl: ∀i o e,L i→ops[i]? =some o→e∈o.after→Region.binds .any e=true→L e.on){j i:Nat}(hR:Reach ops j i):
  (∀o e,ops[j]? =some o→e∈o.after→Region.binds .any e=true→L e.on)→L i:=by
 induction hR with
 |edge j o e ho he hb=>intro h;exact h o e ho he hb
 |far j i o e ho he hb _ ih=>intro h;exact ih (fun o' e' ho' he' hb'=>hcl _ o' e' (h o e ho he hb) ho' he' hb')
theorem Bf5{Q:Exit→Act→World→Prop}{n0:Nat}(ht:A70 ops.toList n0=true){l2:List GOp}{σ σ2:St}(hr:A3r P l2 σ σ2): ∀(n fuel:Nat) (listed:Array Bool) (a:Act) (w:World) (β:Key→Blk),n0≤n→listed.size=ops.size→(∀i,listed.getD i false=true↔i<n)→
  ops.size≤n+fuel→Cu (G6 P C.nt ops) (ops.toList.drop n) l2=true→RR C β σ a w→(∀β' a' w',RR C β' σ2 a' w'→Q .normal a' w')→wpAny P .any ops Q fuel listed a w:=by
 induction hr with
 |nil σ=>
  intro n fuel listed a w β hn hsz hl hf hag h hQ
  have hd:ops.toList.drop n=[]:=by
   cases hd:ops.toList.drop n with
   |nil=>rfl
   |cons o r=>rw[hd] at hag;simp[Cu] at hag
  have hge:ops.size≤n:=by simpa using List.drop_eq_nil_iff.1 hd
  have no: ∀j,j∈Region.ready .any ops listed→False:=by
   intro j hj
   obtain⟨q1,o,q2,_⟩:=mem_ready.1 hj
   have hlt:=(Array.getElem?_eq_some_iff.1 q2).1
   have e:listed.getD j true=listed.getD j false:=by simp[Array.getD,hsz,hlt]
   rw[e,(hl j).2 (by omega)] at q1;cases q1
  cases fuel with
  |zero=>exact⟨List.eq_nil_iff_forall_not_mem.2 (fun j hj=>no j hj),hQ _ _ _ h⟩
  |succ f=>exact⟨fun _=>hQ _ _ _ h,fun j hj=>(no j hj).elim⟩
 | @cons cl g os σ σ1 σ' hS hs _ ih=>
  intro n fuel listed a w β hn hsz hl hf hag h hQ
  cases hd:ops.toList.drop n with
  |nil=>rw[hd] at hag;simp[Cu] at hag
  |cons o rest=>
   rw[hd] at hag
   simp only[Cu,Bool.and_eq_true] at hag
   have hlt:n<ops.size:=by
    have:=congrArg List.length hd
    simp at this;omega
   have ho:ops.toList[n]? =some o:=by
    have:=List.getElem?_drop (xs:=ops.toList) (i:=n) (j:=0)
    rw[hd] at this;simpa using this.symm
   have hrest:ops.toList.drop (n+1)=rest:=by rw[←List.drop_drop,hd];rfl
   have hgd: ∀{j:Nat},j<ops.size→listed.getD j true=listed.getD j false:=fun hlt=>by simp[Array.getD,hsz,hlt]
   cases fuel with
   |zero=>omega
   |succ f=>
    have hnr:n∈Region.ready .any ops listed:=by
     refine mem_ready.2 ⟨?_,o,by rw[←Array.getElem?_toList];exact ho,fun e he hb=>(hl _).2 ((Ua ht ho).1 e he hb)⟩
     rw[hgd hlt]
     cases hc:listed.getD n false with
     |false=>rfl
     |true=>have:=(hl n).1 hc;omega
    refine⟨(fun hnil=>by rw[hnil] at hnr;cases hnr),fun j hj=>?_⟩
    obtain⟨hun,o',ho',hafter⟩:=mem_ready.1 hj
    have hlt':=(Array.getElem?_eq_some_iff.1 ho').1
    rw[hgd hlt'] at hun
    have hge:n≤j:=by
     by_cases hc:n≤j
     ·exact hc
     ·rw[(hl j).2 (by omega)] at hun;cases hun
    have hje:j=n:=by
     by_cases hc:j=n
     ·exact hc
     ·exfalso
      have ho2:ops.toList[j]? =some o':=by rw[Array.getElem?_toList];exact ho'
      have hR:=(Ua ht ho2).2 (by omega) n (by omega)
      have:=Ia (L:=fun i=>i<n) (fun i o3 e hi ho3 he hb=>?_) hR (fun o3 e ho3 he hb=>by
       rw[ho2] at ho3;cases ho3
       exact(hl _).1 (hafter e he hb))
      ·omega
      ·have q:=(Ua ht ho3).1 e he hb
       have hi:i<n:=hi
       show e.on<n
       omega
    subst hje
    rw[←Array.getElem?_toList,ho] at ho'
    cases ho'
    refine Oo (by rw[←Array.getElem?_toList];exact ho) ?_
    refine Aod hS h hag.1 hs (fun β' a' w' h'=>?_) Q
    refine ih (j+1) f _ a' w' β' (by omega) (by simpa using hsz) (fun i=>?_) (by omega) (by rw[hrest];exact hag.2) h' hQ
    rw[Ag3]
    by_cases e:j=i
    ·subst e;simp[hsz,hlt]
    ·rw[if_neg (fun h=>e h.1),hl i];omega
theorem Are{α β:Type}{f:α→β→Bool}: ∀{l:List α} {a b:List β},Cu f l (a++b)=true→Cu f (l.take a.length) a=true∧Cu f (l.drop a.length) b=true
 |l,[],b,h=>by simpa [Cu] using h
 |[],y::a,b,h=>by simp[Cu] at h
 |x::l,y::a,b,h=>by
  simp only[List.cons_append,Cu,Bool.and_eq_true] at h
  obtain⟨h1,h2⟩:=Are h.2
  simp only[List.length_cons,List.take_succ_cons,List.drop_succ_cons,Cu,Bool.and_eq_true]
  exact⟨⟨h.1,h1⟩,h2⟩
theorem Bcb(hm:P.follows .mixedOrders=true)(hS:Oc P cl){Q:Exit→Act→World→Prop}{gs2:List GOp}(hck:Ap7 (ops.toList.take gs.length) gs ks=true)(htl:A70 ops.toList gs.length=true)(hz:A3q gs=true)
  (hI: ∀g∈gs,∀f sz by' x i y,g.op= .ins f sz by' x i y→Boo P f sz by')(hag2:Cu (G6 P C.nt ops) ops.toList (gs.map GOp.plain++gs2)=true){σ' σ2:St}(h:RR C β σ a w)
  (hr:Md cl true gs (σ.killAll ks)=some σ')(hzo:zOK σ' gs=true)(hr2:A3r P gs2 (σ'.killAll (Bij σ' gs)) σ2)(hQ: ∀β' a' w',RR C β' σ2 a' w'→Q .normal a' w'):wpAny P .any ops Q ops.size (Array.replicate ops.size false) a {w with drawn:=w.drawn+1}:=by
 have hD:=Ark hck
 obtain⟨S,e1,e2,hR⟩:=At7 hr
 have h0: ∀k∈ks,(S 0).look k=none:=fun k hk=>by rw[e1];exact Jt _ _ _ hk
 obtain⟨hag,hag3⟩:=Are hag2
 have hle:gs.length≤ops.size:=by
  have:=hD.len
  simp at this;omega
 rw[List.length_map] at hag hag3
 have hop: ∀{j:Nat} {o:Oper},ops[j]? =some o→ops.toList[j]? =some o:=fun h=>by rw[Array.getElem?_toList];exact h
 have hpre: ∀{j:Nat} {o:Oper},ops[j]? =some o→j<gs.length→(ops.toList.take gs.length)[j]? =some o:=fun h hj=>by rw[List.getElem?_take,if_pos hj];exact hop h
 have hpre': ∀{j:Nat} {o:Oper},(ops.toList.take gs.length)[j]? =some o→ops.toList[j]? =some o∧j<gs.length:=fun {j o} h=>by
  rw[List.getElem?_take] at h
  split at h
  ·rename_i hj;exact⟨h,hj⟩
  ·cases h
 have hnB: ∀(i:Nat) (g:GOp),gs[i]? =some g→g.op.isB=false:=fun i g hg=>(Anp hz hg).1
 have hF:Seg cl gs S 0 (fun i=>i<gs.length) σ':=by
  have:=Seg.text (cl:=cl) hD hR 0 gs.length (Nat.zero_le _) (Nat.le_refl _) (fun i g _ _ q3=>hnB i g q3)
  rwa [e2] at this
 have main: ∀(fuel:Nat) (listed:Array Bool) (a:Act) (w:World) (β:Key→Blk) (σ:St) (Z:List Key),listed.size=ops.size→((List.range ops.size).filter fun i=> !listed.getD i false).length≤fuel→
   (∀i o e,listed.getD i false=true→ops.toList[i]? =some o→e∈o.after→Region.binds .any e=true→listed.getD e.on false=true)→(∀i,gs.length≤i→listed.getD i false=false)→
   Seg cl gs S 0 (fun i=>listed.getD i false=true) σ→(∀k,k∈Z↔ ∃i g,listed.getD i false=true∧gs[i]? =some g∧k∈A79 σ' g)→(∀k∈Z,∃o,σ.look k=some o)→RR C β (σ.killAll Z) a w→wpAny P .any ops Q fuel listed a w:=by
  intro fuel
  have fin: ∀(fuel:Nat) (listed:Array Bool) (a:Act) (w:World) (β:Key→Blk) (σ:St) (Z:List Key),listed.size=ops.size→((List.range ops.size).filter fun i=> !listed.getD i false).length≤fuel→(∀i,gs.length≤i→listed.getD i false=false)→(∀i,i<gs.length→listed.getD i false=true)→Seg cl gs S 0 (fun i=>listed.getD i false=true) σ→
    (∀k,k∈Z↔ ∃i g,listed.getD i false=true∧gs[i]? =some g∧k∈A79 σ' g)→RR C β (σ.killAll Z) a w→wpAny P .any ops Q fuel listed a w:=by
   intro fuel listed a w β σ Z hsz hcnt hno hall hseg hZ hr
   obtain⟨q1,q2⟩:=Seg.same hR hseg hF (fun i _ q2=>⟨fun _=>q2,fun _=>hall i (by omega)⟩) (fun i g _ _ q3=>hnB i g q3)
   have hZ': ∀k,k∈Bij σ' gs↔k∈Z:=by
    intro k
    rw[hZ,Bij,List.mem_flatMap]
    constructor
    ·rintro⟨g,hg,hk⟩
     obtain⟨i,hi⟩:=List.mem_iff_getElem?.1 hg
     exact⟨i,g,hall i (List.getElem?_eq_some_iff.1 hi).1,hi,hk⟩
    ·rintro⟨i,g,_,hg,hk⟩
     exact⟨g,List.mem_of_getElem? hg,hk⟩
   have hl: ∀i,listed.getD i false=true↔i<gs.length:=fun i=>by
    constructor
    ·intro h1
     by_cases hc:i<gs.length
     ·exact hc
     ·rw[hno i (by omega)] at h1;cases h1
    ·exact hall i
   have hcnt2:ops.size≤gs.length+fuel:=by
    have e:((List.range ops.size).filter fun i=> !listed.getD i false)=(List.range ops.size).filter fun i=>decide (gs.length≤i):=by
     refine List.filter_congr (fun i _=>?_)
     by_cases hc:i<gs.length
     ·rw[hall i hc];simp;omega
     ·rw[hno i (by omega)];simp;omega
    rw[e] at hcnt
    have:=Adu gs.length ops.size
    omega
   refine Bf5 (C:=C) htl hr2 gs.length fuel listed a w β (Nat.le_refl _) hsz hl hcnt2 hag3 (hr.congr (fun t=>?_) (fun k=>?_)) hQ
   ·rw[F1,F1,q1,SV.killZ_congr hZ']
   ·rw[Cg,Cg,q2]
    by_cases e:k∈Z
    ·rw[if_pos e,if_pos ((hZ' k).2 e)]
    ·rw[if_neg e,if_neg (fun e'=>e ((hZ' k).1 e'))]
     cases σ.look k with
     |none=>rfl
     |some o=>simp[Ah.killZ_congr hZ']
  induction fuel with
  |zero=>
   intro listed a w β σ Z hsz hcnt hcl hno hseg hZ hZ2 hr
   have hall: ∀i,i<ops.size→listed.getD i false=true:=by
    intro i hi
    have h1:=List.eq_nil_of_length_eq_zero (Nat.le_zero.1 hcnt)
    have h2:=(List.filter_eq_nil_iff.1 h1) i (List.mem_range.2 hi)
    simpa using h2
   exact fin 0 listed a w β σ Z hsz hcnt hno (fun i hi=>hall i (by omega)) hseg hZ hr
  |succ fuel ih=>
   intro listed a w β σ Z hsz hcnt hcl hno hseg hZ hZ2 hr
   have hgd: ∀{j:Nat},j<ops.size→listed.getD j true=listed.getD j false:=fun hlt=>by simp[Array.getD,hsz,hlt]
   by_cases hdone: ∀i,i<gs.length→listed.getD i false=true
   ·exact fin _ listed a w β σ Z hsz hcnt hno hdone hseg hZ hr
   refine⟨fun hnil=>?_,fun j hj=>?_⟩
   ·refine absurd ?_ hdone
    intro i
    induction i using Nat.strongRecOn with
    |_ i ih2=>
     intro hi
     cases hc:listed.getD i false with
     |true=>rfl
     |false=>
      have hi':i<ops.size:=by omega
      have:i∈Region.ready .any ops listed:=by
       refine mem_ready.2 ⟨by rw[hgd hi'];exact hc,ops[i],Array.getElem?_eq_getElem hi',fun e he hb=>?_⟩
       have:=hD.back i _ (hpre (Array.getElem?_eq_getElem hi') hi) e he hb
       exact ih2 _ this (by omega)
      rw[hnil] at this
      cases this
   ·obtain⟨hun,o,ho,hafter⟩:=mem_ready.1 hj
    have hlt:=(Array.getElem?_eq_some_iff.1 ho).1
    rw[hgd hlt] at hun
    have hjl:j<gs.length:=by
     by_cases hc:j<gs.length
     ·exact hc
     ·refine absurd (fun i hi=>?_) hdone
      exact Ia (L:=fun i=>listed.getD i false=true) hcl ((Ua htl (hop ho)).2 (by omega) i (by omega)) (fun o' e ho' he hb=>by
       rw[hop ho] at ho';cases ho';exact hafter e he hb)
    obtain⟨g,hg⟩: ∃g,gs[j]? =some g:=⟨gs[j]'hjl,List.getElem?_eq_getElem hjl⟩
    have hclp: ∀i o e,listed.getD i false=true→(ops.toList.take gs.length)[i]? =some o→e∈o.after→Region.binds .any e=true→listed.getD e.on false=true:=fun i o e h1 h2=>hcl i o e h1 (hpre' h2).1
    have hreach: ∀i,Reach (ops.toList.take gs.length) j i→listed.getD i false=true:=fun i hR'=>Ia (L:=fun i=>listed.getD i false=true) hclp hR' (fun o' e ho' he hb=>by
     rw[hpre ho hjl] at ho';cases ho';exact hafter e he hb)
    have hG:G6 P C.nt ops o g.plain=true:=Bgp hag j o _ (hpre ho hjl) (by rw[List.getElem?_map,hg];rfl)
    have hno': ∀i,gs.length≤i→(listed.setIfInBounds j true).getD i false=false:=fun i hi=>by
     rw[Ag3,if_neg (fun h=>by omega)];exact hno i hi
    have hset: ∀i,(listed.setIfInBounds j true).getD i false=true↔listed.getD i false=true∨i=j:=by
     intro i
     rw[Ag3]
     by_cases e:j=i
     ·subst e;simp[hsz,hlt]
     ·rw[if_neg (fun h=>e h.1)]
      constructor
      ·exact .inl
      ·rintro(h|h)
       ·exact h
       ·exact absurd h.symm e
    have hcnt':((List.range ops.size).filter fun i=> !(listed.setIfInBounds j true).getD i false).length≤fuel:=by
     have:=Tw (p:=fun i=> !listed.getD i false) (q:=fun i=> !(listed.setIfInBounds j true).getD i false) (List.range ops.size) j (List.mem_range.2 hlt) (by simp[hun]) (by simp[(hset j).2 (.inr rfl)])
      (fun i hi=>by
       simp only[Bool.not_eq_true'] at hi⊢
       cases hc:listed.getD i false with
       |false=>rfl
       |true=>rw[(hset i).2 (.inl hc)] at hi;cases hi)
     omega
    have hcl': ∀i o e,(listed.setIfInBounds j true).getD i false=true→ops.toList[i]? =some o→e∈o.after→Region.binds .any e=true→(listed.setIfInBounds j true).getD e.on false=true:=by
     intro i o' e hi ho' he hb
     rcases(hset i).1 hi with hi|rfl
     ·exact(hset _).2 (.inl (hcl i o' e hi ho' he hb))
     ·rw[hop ho] at ho';cases ho'
      exact(hset _).2 (.inl (hafter e he hb))
    obtain⟨e,he,hSj⟩:=Gh (hR.at' j _ hg) (hnB j g hg)
    have hwho: ∀k∈Z,∃i g' x,listed.getD i false=true∧gs[i]? =some g'∧g'.op.insX=some x∧σ'.get x= .own k∧(∀t,t≠x→(σ'.get t).names k=false)∧ ∀k' o,σ'.look k'=some o→o.names k=false:=by
     intro k hk
     obtain⟨i,g',q1,q2,q3⟩:=(hZ k).1 hk
     obtain⟨x,hx⟩:=Bcv q3
     obtain⟨q4,q5,q6⟩:=Bcu hzo q2 hx q3
     exact⟨i,g',x,q1,q2,hx,q4,q5,q6⟩
    have hnames: ∀t∈g.looks,∀k∈Z,(σ.get t).names k=false:=by
     intro t ht k hk
     obtain⟨i,g',x,q1,q2,q3,q4,q5,q6⟩:=hwho k hk
     rw[Arb hD hz hR hnB hseg hF hg hreach ht]
     refine q5 t (fun e'=>?_)
     subst e'
     have hij:j≠i:=fun e'=>by subst e';rw[hun] at q1;cases q1
     exact((Anp hz q2).2 t q3).2 j g hij hg ht
    have hget: ∀t∈g.looks,(σ.killAll Z).get t=σ.get t:=fun t ht=>by
     rw[F1];exact SV.killZ_none (hnames t ht)
    have heσ:Dh cl σ g=some e:=by
     refine hseg.eff0 (P:=P) hD hR h0 (fun t ht k hn=>?_) (Nat.zero_le _) hg (fun i g' _ _ q3=>hnB i g' q3) (fun i g' _ _ q3=>hnB i g' q3) hreach (fun i hi hR'=>by have:=Ia (L:=fun i=>listed.getD i false=true) hclp hR' (fun o' e ho' he hb=>hclp i o' e hi ho' he hb);rw[hun] at this;cases this) he
     rw[←hget t ht] at hn
     obtain⟨o',ho'⟩:=(hr.slots t).there hn
     obtain⟨o2,ho2⟩:=Oq _ ho'
     exact⟨o2,ho2⟩
    have hobj: ∀k' o',σ.look k'=some o'→o'.killZ Z=o':=fun k' o' ho'=>Ah.killZ_none (fun k hk=>by
     obtain⟨i,g',x,q1,q2,q3,q4,q5,q6⟩:=hwho k hk
     exact q6 k' o' (A3s hD hR h0 hseg hF ho'))
    have heτ:Dh cl (σ.killAll Z) g=some e:=by
     refine A81 hget (fun t ht k' o' hn ho'=>?_) heσ
     rw[Cg,if_neg (fun hk=>by rw[hnames t ht k' hk] at hn;cases hn),ho']
     simp[hobj k' o' ho']
    have hnew: ∀k∈g.op.keys (g.d.getD 0),σ.look k=none:=by
     intro k hk
     cases hl:σ.look k with
     |none=>rfl
     |some o2=>
      exfalso
      obtain⟨_,d,hd⟩:=hD.keys j _ hg k hk
      obtain⟨n,hn⟩:=Qq hk
      rw[hd] at hn
      have:=hseg.l1 k (fun i g' e' q1 q2 q3 q4=>by
       cases hi:Ay e'.ins k with
       |none=>rfl
       |some o3=>
        obtain⟨_,d',n',hd',hk'⟩:=Jq hD.toDrawBase q3 q4 hi
        rw[hn] at hk'
        injection hk' with e3
        have e3:d=d':=e3
        subst e3
        have:=hD.dist i j g' _ d q3 hg hd' hd
        subst this
        rw[hun] at q2;cases q2)
      rw[this,fresh hD.toDrawBase hR h0 hg hk 0 (Nat.zero_le _)] at hl
      cases hl
    have hnewτ: ∀k∈g.op.keys (g.d.getD 0),(σ.killAll Z).look k=none:=fun k hk=>T0 _ _ _ (hnew k hk)
    have hinsF: ∀k' o',Ay e.ins k'=some o'→σ'.look k'=some o':=fun k' o' hi=>hF.l2 j g e k' o' (Nat.zero_le _) (by omega) hg he hi
    have hevF: ∀d,g.d=some d→σ'.get d=e.v:=fun d hd=>hF.g2 j g e d (Nat.zero_le _) (by omega) hg he hd
    have hseg':=hseg.more hD (Nat.zero_le _) hg he (by rw[hun];simp) hset
    have hlk': ∀k',((σ.insAll e.ins).put g.d e.v).look k'=(Ay e.ins k').or (σ.look k'):=fun k'=>by
     rw[St.look_put];unfold St.insAll St.look;simp only[D4]
    have hnov: ∀d,g.d=some d→ ∀k∈Z,e.v.names k=false:=by
     intro d hd k hk
     obtain⟨i,g',x,q1,q2,q3,q4,q5,q6⟩:=hwho k hk
     rw[←hevF d hd]
     refine q5 d (fun e'=>?_)
     subst e'
     have q7:=(Aad hD.toDrawBase hz i g' q2 d (A2g q3) j g hg hd).2
     have:=Ia (L:=fun i=>listed.getD i false=true) hclp q7 (fun o' e ho' he hb=>hclp i o' e q1 ho' he hb)
     rw[hun] at this;cases this
    have hnok: ∀k' o',Ay e.ins k'=some o'→k'∉Z:=fun k' o' hi hk=>by
     obtain⟨o2,ho2⟩:=hZ2 k' hk
     obtain⟨hkk,_⟩:=Jq hD.toDrawBase hg he hi
     rw[hnew k' hkk] at ho2;cases ho2
    have hnoo: ∀k' o',Ay e.ins k'=some o'→o'.killZ Z=o':=fun k' o' hi=>Ah.killZ_none (fun k hk=>by
     obtain⟨i,g',x,q1,q2,q3,q4,q5,q6⟩:=hwho k hk
     exact q6 k' o' (hinsF k' o' hi))
    have hZ2': ∀k∈Z,∃o,((σ.insAll e.ins).put g.d e.v).look k=some o:=fun k hk=>by
     obtain⟨o2,ho2⟩:=hZ2 k hk
     rw[hlk',ho2]
     cases Ay e.ins k<;>simp
    refine Oo ho ?_
    cases hx:g.op.insX with
    |none=>
     have hpl:g.plain=g:=by
      unfold GOp.plain
      split
      ·rename_i hop';rw[hop'] at hx;cases hx
      ·rfl
     rw[hpl] at hG
     refine Aoc hS hr hG heτ hnewτ (fun β' a' w' h'=>?_) Q
     refine ih _ a' w' β' _ Z (by simpa using hsz) hcnt' hcl' hno' hseg' (fun k=>?_) hZ2' (h'.congr (fun t=>?_) (fun k'=>?_))
     ·rw[hZ k]
      constructor
      ·rintro⟨i,g',q1,q2,q3⟩;exact⟨i,g',(hset i).2 (.inl q1),q2,q3⟩
      ·rintro⟨i,g',q1,q2,q3⟩
       rcases(hset i).1 q1 with q1|rfl
       ·exact⟨i,g',q1,q2,q3⟩
       ·rw[hg] at q2;cases q2
        obtain⟨x,hx'⟩:=Bcv q3
        rw[hx] at hx';cases hx'
     ·rw[F1,Cm,Cm]
      by_cases ed:g.d=some t
      ·rw[if_pos ed,if_pos ed];exact SV.killZ_none (hnov t ed)
      ·rw[if_neg ed,if_neg ed]
       show(σ.get t).killZ Z=(σ.killAll Z).get t
       rw[F1]
     ·rw[Cg,hlk']
      have:(((σ.killAll Z).insAll e.ins).put g.d e.v).look k'=(Ay e.ins k').or ((σ.killAll Z).look k'):=by
       rw[St.look_put];unfold St.insAll St.look;simp only[D4]
      rw[this,Cg]
      cases hi:Ay e.ins k' with
      |none=>simp
      |some o'=>simp[hnok k' o' hi,hnoo k' o' hi]
    |some x=>
     obtain⟨hgn,_⟩:=(Anp hz hg).2 x hx
     obtain⟨f,sz,by',i',y',hop'⟩: ∃f sz by' i' y',g.op= .ins f sz by' x i' y':=by
      unfold AOp.insX at hx
      split at hx
      ·rename_i f sz by' y i z hop'
       cases hx
       exact⟨f,sz,by',i,z,hop'⟩
      ·cases hx
     have haτ:Au cl (σ.killAll Z) (g.d.getD 0) g.op=some e:=by
      unfold Dh at heτ
      rw[hgn] at heτ
      exact heτ
     refine Bdw (hI g (List.mem_of_getElem? hg) _ _ _ _ _ _ hop') hop' hgn hr hG haτ (hnewτ _ (by rw[hop'];simp[AOp.keys])) (fun β' a' w' k hk h'=>?_) Q
     have hxl:x∈g.looks:=A2g hx
     have hkσ:σ.get x= .own k:=by rw[←hget x hxl];exact hk
     have hkF:σ'.get x= .own k:=by rw[←Arb hD hz hR hnB hseg hF hg hreach hxl];exact hkσ
     have hzk:A79 σ' g=[k]:=by unfold A79;rw[hx];simp only[hkF]
     obtain⟨_,z5,z6⟩:=Bcu hzo hg hx (k:=k) (by rw[hzk];simp)
     obtain⟨ok,hok⟩: ∃o,σ.look k=some o:=by
      obtain⟨o',ho'⟩:=(hr.slots x).there (k:=k) (by rw[hk];simp[SV.names])
      exact Oq _ ho'
     have hall: ∀k2∈Z++[k],(∃o,((σ.insAll e.ins).put g.d e.v).look k2=some o):=by
      intro k2 hk2
      rcases List.mem_append.1 hk2 with hk2|hk2
      ·exact hZ2' k2 hk2
      ·simp only[List.mem_singleton] at hk2;subst hk2
       rw[hlk',hok]
       cases Ay e.ins k2<;>simp
     refine ih _ a' w' β' _ (Z++[k]) (by simpa using hsz) hcnt' hcl' hno' hseg' (fun k2=>?_) hall (h'.congr (fun t=>?_) (fun k'=>?_))
     ·rw[List.mem_append,hZ k2]
      constructor
      ·rintro(⟨i,g',q1,q2,q3⟩|hk2)
       ·exact⟨i,g',(hset i).2 (.inl q1),q2,q3⟩
       ·simp only[List.mem_singleton] at hk2;subst hk2
        exact⟨j,g,(hset j).2 (.inr rfl),hg,by rw[hzk];simp⟩
      ·rintro⟨i,g',q1,q2,q3⟩
       rcases(hset i).1 q1 with q1|rfl
       ·exact .inl ⟨i,g',q1,q2,q3⟩
       ·rw[hg] at q2;cases q2
        rw[hzk] at q3;exact .inr q3
     ·rw[F1,Cm,Cm]
      by_cases ed:g.d=some t
      ·rw[if_pos ed,if_pos ed]
       refine SV.killZ_none (fun k2 hk2=>?_)
       rcases List.mem_append.1 hk2 with hk2|hk2
       ·exact hnov t ed k2 hk2
       ·simp only[List.mem_singleton] at hk2;subst hk2
        rw[←hevF t ed]
        refine z5 t (fun e'=>?_)
        subst e'
        have:=(Aad hD.toDrawBase hz j g hg t hxl j g hg ed).1
        omega
      ·rw[if_neg ed,if_neg ed,D8,D8,Fy,F1,SV.killZ_snoc]
     ·rw[Cg,hlk']
      have:((((σ.killAll Z).kill k).insAll e.ins).put g.d e.v).look k'=(Ay e.ins k').or (((σ.killAll Z).kill k).look k'):=by
       rw[St.look_put];unfold St.insAll St.look;simp only[D4]
      rw[this,B8,Cg]
      cases hi:Ay e.ins k' with
      |none=>
       by_cases q1:k'=k
       ·subst q1;simp
       ·by_cases q2:k'∈Z
        ·simp[q2]
        ·simp only[Option.none_or,List.mem_append,List.mem_singleton,q1,q2,or_self,if_false]
         cases σ.look k' with
         |none=>rfl
         |some o'=>simp[Ah.killZ_snoc]
      |some o'=>
       obtain⟨hkk,_⟩:=Jq hD.toDrawBase hg he hi
       have q1:k'≠k:=fun e'=>by subst e';rw[hnew k' hkk] at hok;cases hok
       have q3:o'.killZ (Z++[k])=o':=by
        rw[←Ah.killZ_snoc,hnoo k' o' hi]
        cases o' with
        |box cs=>
         have:=z6 k' _ (hinsF k' _ hi)
         simp only[Ah.kill];congr 1
         have e4:cs.map (SV.kill k)=cs.map (fun v=>v):=List.map_congr_left (fun v hv=>by
          have:=Avn this hv
          unfold SV.kill;rw[this];rfl)
         rw[e4];simp
        |row _ _=>rfl
        |map _ _=>rfl
       simp[hnok k' o' hi,q1,q3]
 have hk:=(h.killAll ks).heap (w':={w with drawn:=w.drawn+1}) rfl (Quiet.drawn w _)
 have hrep: ∀i,(Array.replicate ops.size false).getD i false=false:=fun i=>by simp only[Array.getD_eq_getD_getElem?,Array.getElem?_replicate];split<;>rfl
 refine main ops.size _ a _ β _ [] (by simp) ?_ (fun i o e hi=>by rw[hrep] at hi;cases hi) (fun i _=>hrep i) ?_ (fun k=>?_) (fun k hk=>by simp at hk) hk
 ·refine Nat.le_trans (List.length_filter_le _ _) (by simp)
 ·rw[←e1]
  exact Wl 0 (fun i _ _ q=>by rw[hrep] at q;cases q)
 ·simp only[List.not_mem_nil,false_iff]
  rintro⟨i,g,q1,_⟩
  rw[hrep] at q1;cases q1
end
end Go.Av
end
section
namespace Go.Av
section
variable {C:Ctx} {β:Key→Blk} {σ:St} {a:Act} {w:World}
def Amc(bx:List (Key×Bool))(k:Key)(o:Ah):Ah:=match bx.find? fun p=>decide (p.1=k) with
 |some p=>bif p.2 then o.tidy else o
 |none=>o
theorem A2j(bx:List (Key×Bool))(k:Key)(o:Ah):Amc bx k o=o∨Amc bx k o=o.tidy:=by
 unfold Amc
 split
 ·rename_i p _
  cases p.2 with
  |true=>exact .inr rfl
  |false=>exact .inl rfl
 ·exact .inl rfl
theorem Au4(bx:List (Key×Bool))(k:Key)(o:Ah):o.sim (Amc bx k o):=by
 rcases A2j bx k o with e|e
 ·rw[e];exact o.sim_refl
 ·rw[e];cases o<;>simp[Ah.tidy,Ah.sim]
theorem A4r(l:List (Key×Ah))(bx:List (Key×Bool))(k:Key):Ay (l.filter fun q=> !(bx.any fun p=>decide (p.1=q.1))) k=if (bx.find? fun p=>decide (p.1=k)).isSome then none else Ay l k:=by
 have hany: ∀k,(bx.any fun p=>decide (p.1=k))=(bx.find? fun p=>decide (p.1=k)).isSome:=fun k=>by
  induction bx with
  |nil=>rfl
  |cons p r ih=>
   simp only[List.any_cons,List.find?_cons]
   cases decide (p.1=k) with
   |true=>rfl
   |false=>simpa using ih
 induction l with
 |nil=>simp[Ay]
 |cons q r ih=>
  by_cases e:q.1=k
  ·subst e
   cases h:(bx.find? fun p=>decide (p.1=q.1)).isSome with
   |true=>
    have hf:(!(bx.any fun p=>decide (p.1=q.1)))=false:=by rw[hany,h];rfl
    rw[h] at ih
    rw[List.filter_cons,hf]
    exact ih
   |false=>
    have hf:(!(bx.any fun p=>decide (p.1=q.1)))=true:=by rw[hany,h];rfl
    rw[List.filter_cons,hf]
    simp[Ay]
  ·have hskip:Ay (q::r) k=Ay r k:=by simp[Ay,e]
   rw[hskip,←ih]
   simp only[List.filter_cons]
   split
   ·simp[Ay,e]
   ·rfl
theorem A4s(σ:St)(bx:List (Key×Bool))(k:Key):Ay (bx.filterMap fun p=>(σ.look p.1).map fun o=>(p.1,bif p.2 then o.tidy else o)) k=match bx.find? fun p=>decide (p.1=k) with
  |some p=>(σ.look k).map fun o=>bif p.2 then o.tidy else o
  |none=>none:=by
 induction bx with
 |nil=>rfl
 |cons p r ih=>
  simp only[List.filterMap_cons,List.find?_cons]
  by_cases e:p.1=k
  ·subst e
   simp only[decide_true]
   cases h:σ.look p.1 with
   |none=>
    simp only[Option.map_none]
    rw[ih]
    split
    ·rw[h];rfl
    ·rfl
   |some o=>simp[Ay]
  ·simp only[e,decide_false]
   cases h:σ.look p.1 with
   |none=>simp only[Option.map_none];exact ih
   |some o=>simp only[Option.map_some,Ay,if_neg e];exact ih
theorem A2n(sl:List (Nat×Bool))(bx:List (Key×Bool))(k:Key):(σ.laid sl bx).look k=(σ.look k).map (Amc bx k):=by
 have h1:=A4s σ bx k
 have h2:=A4r σ.hp bx k
 unfold St.laid
 show Ay (_++_) k=_
 rw[D4,h1,h2]
 unfold Amc
 cases hf:bx.find? fun p=>decide (p.1=k) with
 |some p=>
  simp only[Option.isSome_some,if_true]
  cases σ.look k<;>rfl
 |none=>
  simp only[Option.isSome_none]
  show Ay σ.hp k=_
  cases hl:σ.look k with
  |none=>exact hl
  |some o=>exact hl
theorem St.get_laid(σ:St)(sl:List (Nat×Bool))(bx:List (Key×Bool))(t:Nat):(σ.laid sl bx).get t=σ.get t∨(σ.laid sl bx).get t=(σ.get t).tidy∨(σ.laid sl bx).get t= .dead:=by
 unfold St.laid
 simp only[St.get]
 induction sl with
 |nil=>right;right;rfl
 |cons p r ih=>
  simp only[List.map_cons,Uf]
  cases e:p.1==t with
  |true=>
   have e:=beq_iff_eq.1 e
   subst e
   rw[cond_true]
   cases p.2 with
   |true=>right;left;rfl
   |false=>left;rfl
  |false=>rw[cond_false];exact ih
theorem RR.laid(h:RR C β σ a w)(sl:List (Nat×Bool))(bx:List (Key×Bool)):RR C β (σ.laid sl bx) a w:=by
 have hback: ∀k o,(σ.laid sl bx).look k=some o→ ∃o2,σ.look k=some o2∧o=Amc bx k o2:=fun k o ho=>by
  rw[A2n] at ho
  simp only[Option.map_eq_some_iff] at ho
  obtain⟨o2,h1,h2⟩:=ho
  exact⟨o2,h1,h2.symm⟩
 have hfor: ∀k o,σ.look k=some o→ ∃o',(σ.laid sl bx).look k=some o'∧o.sim o'∧β k=β k:=fun k o ho=>⟨_,by rw[A2n,ho];rfl,Au4 bx k o,rfl⟩
 have hok: ∀b,okB C β σ.look w b→okB C β (σ.laid sl bx).look w b:=fun b hb=>
  ⟨hb.1,fun k o ho=>by obtain⟨o2,h1,_⟩:=hback k o ho;exact hb.2.1 k o2 h1,hb.2.2⟩
 have mono: ∀{x:SV} {v:Value},As w (okB C β σ.look w) β σ.look x v→As w (okB C β (σ.laid sl bx).look w) β (σ.laid sl bx).look x v:=fun hx=>hx.mono (fun b _ off u hu=>hu) hok hfor
 refine⟨h.tsz,h.dfs,?_,?_,?_,?_,?_,h.size,h.frame,h.quiet,h.gw⟩
 ·intro k k' o o' b h1 h2 e1 e2
  obtain⟨_,g1,_⟩:=hback k o h1
  obtain⟨_,g2,_⟩:=hback k' o' h2
  exact h.inj k k' _ _ b g1 g2 e1 e2
 ·intro k o ho
  obtain⟨o2,h1,rfl⟩:=hback k o ho
  have:=h.objs k o2 h1
  have base:Fa w (okB C β (σ.laid sl bx).look w) β (σ.laid sl bx).look o2 (β k):=this.mono (fun b _ off u hu=>hu) hok rfl (fun _ _=>rfl) (fun k' o' _ h'=>hfor k' o' h')
  rcases A2j bx k o2 with e|e
  ·rw[e];exact base
  ·rw[e]
   cases o2 with
   |row sz xs=>exact base
   |map kk es=>exact base
   |box cs=>
    obtain⟨b,arr,T,e0,e1,e2,e3,e4⟩:=base
    refine⟨b,arr,T,e0,e1,by simpa using e2,e3,fun j x u hx hu=>?_⟩
    simp only[List.getElem?_map,Option.map_eq_some_iff] at hx
    obtain⟨y,hy,rfl⟩:=hx
    exact Zq (e4 j y u hy hu)
 ·intro k o b ho hx
  obtain⟨o2,h1,_⟩:=hback k o ho
  exact h.lo k o2 b h1 hx
 ·intro i o ho
  obtain⟨o2,h1,rfl⟩:=hback _ o ho
  obtain⟨o0,q1,q2,q3⟩:=h.ext2 i o2 h1
  exact⟨o0,q1,A9 q2 (Au4 bx _ o2),q3⟩
 ·intro t
  rcases σ.get_laid sl bx t with e|e|e
  ·rw[e];exact mono (h.slots t)
  ·rw[e];exact Zq (mono (h.slots t))
  ·rw[e];exact .dead _
theorem RR.newN(h:RR C β σ a w)(k:Key)(hk: ∀i,k≠ .ext i)(hn:σ.look k=none)(sz:Nat): ∃β',β' k=⟨none,0⟩∧(∀k',k'≠k→β' k'=β k')∧RR C β' (σ.insAll [(k,.row sz [])]) a w:=by
 refine⟨fun k'=>if k'=k then⟨none,0⟩ else β k',by simp,fun k' hne=>by simp[hne],?_⟩
 generalize hβ:(fun k'=>if k'=k then(⟨none,0⟩:Blk) else β k')=β'
 have b1: ∀k',k'≠k→β' k'=β k':=fun k' hne=>by rw[←hβ];simp[hne]
 have b2:β' k=⟨none,0⟩:=by rw[←hβ];simp
 have hl: ∀k',k'≠k→(σ.insAll [(k,.row sz [])]).look k'=σ.look k':=fun k' hne=>by rw[St.look_ins,if_neg (fun e=>hne (Eq.symm e))]
 have hlk:(σ.insAll [(k,.row sz [])]).look k=some (.row sz []):=by rw[St.look_ins];simp
 have hne: ∀k' o',σ.look k'=some o'→k'≠k:=fun k' o' h' e=>by subst e;rw[hn] at h';cases h'
 have hback: ∀k' o' b,(σ.insAll [(k,.row sz [])]).look k'=some o'→(β' k').b=some b→σ.look k'=some o'∧(β k').b=some b:=fun k' o' b h1 h2=>by
  by_cases e:k'=k
  ·subst e;rw[b2] at h2;cases h2
  ·rw[hl k' e] at h1;rw[b1 k' e] at h2;exact⟨h1,h2⟩
 have hok: ∀b,okB C β σ.look w b→okB C β' (σ.insAll [(k,.row sz [])]).look w b:=by
  intro b hb
  exact⟨hb.1,fun k' o' h' e=>by obtain⟨q1,q2⟩:=hback k' o' b h' e;exact hb.2.1 k' o' q1 q2,hb.2.2⟩
 have hfor: ∀k2 o2,σ.look k2=some o2→ ∃o',(σ.insAll [(k,.row sz [])]).look k2=some o'∧o2.sim o'∧β' k2=β k2:=fun k2 o2 h2=>⟨o2,by rw[hl k2 (hne k2 o2 h2)];exact h2,o2.sim_refl,b1 k2 (hne k2 o2 h2)⟩
 refine⟨h.tsz,h.dfs,?_,?_,?_,?_,?_,h.size,h.frame,h.quiet,h.gw⟩
 ·intro k1 k2 o1 o2 b h1 h2 e1 e2
  obtain⟨q1,q2⟩:=hback k1 o1 b h1 e1
  obtain⟨q3,q4⟩:=hback k2 o2 b h2 e2
  exact h.inj k1 k2 o1 o2 b q1 q3 q2 q4
 ·intro k' o' h'
  by_cases e:k'=k
  ·subst e;rw[hlk] at h';cases h';rw[b2];exact .inl ⟨rfl,rfl,rfl⟩
  ·rw[hl k' e] at h'
   exact(h.objs k' o' h').mono (fun b _ off u hu=>hu) hok (b1 k' e) (fun _ _=>rfl) (fun k2 o2 _ h2=>hfor k2 o2 h2)
 ·intro k' o' b h' hx
  obtain⟨q1,q2⟩:=hback k' o' b h' hx
  exact h.lo k' o' b q1 q2
 ·intro i o' h'
  have e:Key.ext i≠k:=fun e=>hk i e.symm
  rw[hl _ e] at h';rw[b1 _ e];exact h.ext2 i o' h'
 ·intro t
  exact(h.slots t).mono (fun b _ off u hu=>hu) hok hfor
def Up.key:Up→Key
 | .slot _ k _=>k
 | .cell _ _ k _=>k
theorem RR.up1(h:RR C β σ a w)(u:Up)(hk: ∀i,u.key≠ .ext i): ∃β',RR C β' (σ.up1 u) a w:=by
 cases u with
 |slot t k sz=>
  simp only[St.up1]
  split
  ·rename_i ht hn
   obtain⟨β',e1,e2,h'⟩:=h.newN k hk hn sz
   refine⟨β',h'.slots_of rfl (fun t'=>?_)⟩
   show As w _ β' _ (Uf ((t,.own k)::σ.sl) t') _
   rw[An9]
   by_cases e:t=t'
   ·subst e
    rw[if_pos rfl]
    have:=h.slots t
    rw[ht] at this
    generalize a.tmps.getD t undef=v at this
    cases this
    exact As.ownN k sz _ (by rw[St.look_ins];simp) (by rw[e1])
   ·rw[if_neg e];exact h'.slots t'
  ·exact⟨β,h⟩
 |cell kb i k sz=>
  simp only[St.up1]
  split
  ·rename_i cs hkb hn
   split
   ·rename_i hc
    obtain⟨β',e1,e2,h'⟩:=h.newN k hk hn sz
    have hne:kb≠k:=fun e=>by subst e;rw[hkb] at hn;cases hn
    have hkb':(σ.insAll [(k,.row sz [])]).look kb=some (.box cs):=by rw[St.look_ins,if_neg (fun e=>hne e.symm)];exact hkb
    obtain⟨b,arr,T,g0,g1,g2,g3,g4⟩:=h'.objs kb _ hkb'
    have h2:=h'.over hkb' (o':= .box (cs.set i (.own k))) trivial g0 (w':=w) rfl (fun _ _=>rfl) (Quiet.refl w) (by
     refine⟨b,arr,T,g0,g1,by simpa using g2,g3,fun j x u hx hu=>?_⟩
     have hmono: ∀{x:SV} {v:Value},As w (okB C β' (σ.insAll [(k,.row sz [])]).look w) β' (σ.insAll [(k,.row sz [])]).look x v→As w (okB C β' ((σ.insAll [(k,.row sz [])]).over kb (.box (cs.set i (.own k)))).look w) β' ((σ.insAll [(k,.row sz [])]).over kb (.box (cs.set i (.own k)))).look x v:=fun hx=>
      Ami (o':= .box (cs.set i (.own k))) hkb' trivial g0 rfl (fun _ _=>rfl) hx
     by_cases e:i=j
     ·subst e
      have hil:=(List.getElem?_eq_some_iff.1 hc).1
      rw[List.getElem?_set_self hil] at hx
      simp at hx;subst hx
      have:=g4 i _ u hc hu
      cases this
      refine As.ownN k sz _ ?_ (by rw[e1])
      rw[Bu,if_neg (fun e=>hne e.symm),St.look_ins];simp
     ·rw[List.getElem?_set_ne e] at hx
      exact hmono (g4 j x u hx hu))
    refine⟨β',h2.congr (fun t=>rfl) (fun k'=>?_)⟩
    show Ay ((k,.row sz [])::(σ.over kb (.box (cs.set i (.own k)))).hp) k'=_
    show(if k=k' then some (Ah.row sz []) else(σ.over kb (.box (cs.set i (.own k)))).look k')=_
    rw[Bu,Bu,St.look_ins,St.look_ins]
    by_cases q1:k=k'
    ·subst q1
     simp[fun e=>hne (Eq.symm e)]
     intro e;exact absurd e.symm hne
    ·by_cases q2:k'=kb
     ·subst q2;simp[q1]
     ·simp[q1,q2]
   ·exact⟨β,h⟩
  ·exact⟨β,h⟩
theorem RR.upAll: ∀(us:List Up) {β:Key→Blk} {σ:St},RR C β σ a w→(∀u∈us,∀i,u.key≠ .ext i)→ ∃β',RR C β' (σ.upAll us) a w
 |[],β,σ,h,_=>⟨β,h⟩
 |u::us,β,σ,h,hk=>by
  obtain⟨β',h'⟩:=h.up1 u (hk u (by simp))
  exact RR.upAll us h' (fun u' hu=>hk u' (by simp[hu]))
theorem RR.tidy(h:RR C β σ a w)(fz:List Key)(sl:List (Nat×Bool))(bx:List (Key×Bool))(dead:List Key)(up:List Up)(hu: ∀u∈up,∀i,u.key≠ .ext i): ∃β',RR C β' (σ.tidy fz sl bx dead up) a w:=
 (RR.upAll up ((h.freezeAll fz).killAll dead) hu).imp fun _ h'=>h'.laid sl bx
end
end Go.Av
end
