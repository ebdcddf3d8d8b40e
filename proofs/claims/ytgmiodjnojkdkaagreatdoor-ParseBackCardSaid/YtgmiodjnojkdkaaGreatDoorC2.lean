import Derived.Laws.AppendOwn
import Derived.Test.YtgmiodjnojkdkaaGreatDoorC1
set_option linter.all false
section
namespace Go.Av
inductive Be (w:World) (ok:Nat→Prop):PV→Value→Prop
 |int (k:IntKind) (n:Int):Be w ok (.int k n) (.int k n)
 |bool (b:Bool):Be w ok (.bool b) (.bool b)
 |str (s:List UInt8):Be w ok (.str s) (.string ⟨s.toArray⟩)
 |fn (f:FuncId):Be w ok (.fn f) (.func (.func f) #[] #[])
 |nilFn:Be w ok .nilFn .nilFunc
 |yld (l:Nat):Be w ok (.yld l) (.func (.yield l) #[] #[])
 |hdl (t b u:Nat):Be w ok (.hdl t b u) (.iface t (.agg #[.pointer (some ⟨b,u,none⟩)]))
 |nilI:Be w ok .nilI .nilIface
 |iface (t:TypeId) (x:PV) (v:Value) (h:Be w ok x v):Be w ok (.iface t x) (.iface t v)
 |agg (cs:List PV) (us:List Value) (hl:cs.length=us.length) (h1: ∀x∈cs,x.one=true)
   (h: ∀(j:Nat) (x:PV) (u:Value),cs[j]? =some x→us[j]? =some u→Be w ok x u):Be w ok (.agg cs) (.agg us.toArray)
 |slice (xs:List PV) (a:Option Addr) (n c sz:Nat) (us:Nat→Nat→Value) (hn:n=xs.length) (hc:n≤c)
   (hsz: ∀x∈xs,x.cells.length=sz) (h1: ∀x∈xs,∀y∈x.cells,y.one=true)
   (hat: ∀i j,i<n→j<sz→ ∃b:Addr,a=some b∧b.spot=none∧ok b.block∧w.cell? ⟨b.block,b.off+i*sz+j,none⟩=some (us i j))
   (hp:0<n→ ∃b:Addr,a=some b∧b.spot=none)
   (h: ∀(i j:Nat) (x y:PV),xs[i]? =some x→x.cells[j]? =some y→Be w ok y (us i j)):Be w ok (.slice xs) (.slice a n c)
def H5(p:Nat→Prop)(w w':World):Prop:= ∀b,p b→ ∀off u,w.cell? ⟨b,off,none⟩=some u→w'.cell? ⟨b,off,none⟩=some u
theorem Be.mono{w w':World}{ok ok':Nat→Prop}(hk:H5 ok w w')(ho: ∀b,ok b→ok' b){x:PV}{v:Value}(h:Be w ok x v):Be w' ok' x v:=by
 induction h with
 |int k n=>exact .int k n
 |bool b=>exact .bool b
 |str s=>exact .str s
 |fn f=>exact .fn f
 |nilFn=>exact .nilFn
 |yld l=>exact .yld l
 |hdl t b u=>exact .hdl t b u
 |nilI=>exact .nilI
 |iface t x v _ ih=>exact .iface t x v ih
 |agg cs us hl h1 _ ih=>exact .agg cs us hl h1 ih
 |slice xs a n c sz us hn hc hsz h1 hat hp _ ih=>
  refine .slice xs a n c sz us hn hc hsz h1 (fun i j hi hj=>?_) hp ih
  obtain⟨b,hb,hs,hob,hcell⟩:=hat i j hi hj
  exact⟨b,hb,hs,ho _ hob,hk _ hob _ _ hcell⟩
def PV.fine(x:PV):Prop:= ∀y∈x.cells,y.one=true
theorem Be.fine{w:World}{ok:Nat→Prop}{x:PV}{v:Value}(h:Be w ok x v):x.fine:=by
 cases h with
 |agg cs us hl h1 _=>exact h1
 |_=>intro y hy;simp[PV.cells] at hy;subst hy;rfl
structure Blk where
 b:Option Nat
 c:Nat
inductive As (w:World) (ok:Nat→Prop) (β:Key→Blk) (lk:Key→Option Ah):SV→Value→Prop
 |pv (x:PV) (v:Value) (h:Be w ok x v):As w ok β lk (.pv x) v
 |nils (ad:Option Addr):As w ok β lk .nils (.slice ad 0 0)
 |ptr (k:Key) (off:Nat) (cs:List SV) (b:Nat) (hk:lk k=some (.box cs)) (hb:(β k).b=some b):As w ok β lk (.ptr k off) (.pointer (some ⟨b,off,none⟩))
 |own (k:Key) (sz:Nat) (xs:List PV) (b:Nat) (hk:lk k=some (.row sz xs)) (hb:(β k).b=some b):As w ok β lk (.own k) (.slice (some ⟨b,0,none⟩) xs.length (β k).c)
 |ownN (k:Key) (sz:Nat) (ad:Option Addr) (hk:lk k=some (.row sz [])) (hb:(β k).b=none):As w ok β lk (.own k) (.slice ad 0 0)
 |mp (k:Key) (kk:KK) (es:List (PV×PV)) (b:Nat) (hk:lk k=some (.map kk es)) (hb:(β k).b=some b):As w ok β lk (.mp k) (.map (some b))
 |iown (k:Key) (i off sz:Nat) (xs:List PV) (b:Nat) (hk:lk k=some (.row sz xs)) (hb:(β k).b=some b) (hi:i<xs.length):As w ok β lk (.iown k i off) (.pointer (some ⟨b,i*sz+off,none⟩))
 |ipv (x:PV) (off:Nat) (b o:Nat) (us:Nat→Value) (hb:ok b) (h1:x.fine) (hat: ∀j,j<x.cells.length→w.cell? ⟨b,o+j,none⟩=some (us j))
   (h: ∀(j:Nat) (y:PV),x.cells[j]? =some y→Be w ok y (us j)):As w ok β lk (.ipv x off) (.pointer (some ⟨b,o+off,none⟩))
 |agg (cs:List SV) (us:List Value) (hl:cs.length=us.length)
   (h: ∀(j:Nat) (x:SV) (u:Value),cs[j]? =some x→us[j]? =some u→As w ok β lk x u)
   (h1: ∀u∈us,u.oneCell'=true):As w ok β lk (.agg cs) (.agg us.toArray)
 |tup (cs:List SV) (us:List Value) (hl:cs.length=us.length)
   (h: ∀(j:Nat) (x:SV) (u:Value),cs[j]? =some x→us[j]? =some u→As w ok β lk x u):As w ok β lk (.tup cs) (.tuple us.toArray)
 |fn (f:FuncId) (cs:List SV) (us:List Value) (hl:cs.length=us.length)
   (h: ∀(j:Nat) (x:SV) (u:Value),cs[j]? =some x→us[j]? =some u→As w ok β lk x u):As w ok β lk (.fn f cs) (.func (.func f) #[] us.toArray)
 |dead (v:Value):As w ok β lk .dead v
def Ajc(w:World)(ok:Nat→Prop)(kk:KK)(es:List (PV×PV))(ents:List MapEntry):Prop:=
 es.length=ents.length∧ ∀(j:Nat) (e:PV×PV) (u:MapEntry),es[j]? =some e→ents[j]? =some u→e.1.isKK kk=true∧Be w ok e.1 u.key∧Be w ok e.2 u.val
def At9(l:List MapEntry)(c:Nat):Prop:=(l.map (·.born)).Nodup∧ ∀u∈l,u.born<c
def Agl(w:World)(ok:Nat→Prop)(kk:KK)(es:List (PV×PV))(ents:List MapEntry)(c:Nat):Prop:=Ajc w ok kk es ents∧At9 ents c
def Fa(w:World)(ok:Nat→Prop)(β:Key→Blk)(lk:Key→Option Ah):Ah→Blk→Prop
 | .box cs,B=> ∃(b:Nat) (arr:Array Value) (T:TypeId),B.b=some b∧w.heap[b]? =some (.cells arr T (0,0))∧arr.size=cs.length∧
   (∀u∈arr,u.oneCell'=true)∧
   ∀(j:Nat) (x:SV) (u:Value),cs[j]? =some x→arr[j]? =some u→As w ok β lk x u
 | .row sz xs,B=>(B.b=none∧xs=[]∧B.c=0)∨ ∃(b:Nat) (arr:Array Value) (T:TypeId),B.b=some b∧w.heap[b]? =some (.cells arr T (0,0))∧xs.length≤B.c∧arr.size=B.c*sz∧
   (∀x∈xs,x.cells.length=sz∧x.fine)∧
   ∀(i j:Nat) (x y:PV),xs[i]? =some x→x.cells[j]? =some y→ ∃u,arr[i*sz+j]? =some u∧Be w ok y u
 | .map kk es,B=> ∃(b:Nat) (ents:Array MapEntry) (clock:Nat),B.b=some b∧w.heap[b]? =some (.map ents clock)∧Agl w ok kk es ents.toList clock
def Ah.sim:Ah→Ah→Prop
 | .box _,.box _=>True
 | .row sz xs,.row sz' xs'=>sz=sz'∧xs.length=xs'.length
 | .map _ _,.map _ _=>True
 |_,_=>False
theorem Ah.sim_refl(o:Ah):o.sim o:=by cases o<;>simp[Ah.sim]
theorem A9{a b c:Ah}(h1:a.sim b)(h2:b.sim c):a.sim c:=by
 cases a<;>cases b<;>simp only[Ah.sim] at h1<;>cases c<;>simp only[Ah.sim] at h2⊢
 exact⟨h1.1.trans h2.1,h1.2.trans h2.2⟩
theorem Ah.nm_sim(f:Key→Option Key)(o:Ah):o.sim (o.nm f):=by cases o<;>simp[Ah.nm,Ah.sim]
theorem Bp9{o:Ah}{cs:List SV}(h:(Ah.box cs).sim o): ∃cs',o= .box cs':=by cases o<;>simp[Ah.sim] at h;exact⟨_,rfl⟩
theorem A7u{o:Ah}{sz:Nat}{xs:List PV}(h:(Ah.row sz xs).sim o): ∃xs',o= .row sz xs'∧xs.length=xs'.length:=by
 cases o<;>simp[Ah.sim] at h
 obtain⟨rfl,h⟩:=h
 exact⟨_,rfl,h⟩
theorem Bqa{o:Ah}{kk:KK}{es:List (PV×PV)}(h:(Ah.map kk es).sim o): ∃kk' es',o= .map kk' es':=by cases o<;>simp[Ah.sim] at h;exact⟨_,_,rfl⟩
theorem Ajr{k:Key}{cs:List SV}{x:SV}{j:Nat}(h:cs[j]? =some x)(hx:x.names k=true):SV.names.namesL k cs=true:=by
 induction cs generalizing j with
 |nil=>simp at h
 |cons c cs ih=>
  cases j with
  |zero=>simp at h;subst h;simp[SV.names.namesL,hx]
  |succ j=>simp at h;simp[SV.names.namesL,ih h]
theorem Aoq(f:Key→Option Key): ∀(cs:List SV),(SV.nm.nmL f cs).length=cs.length∧ ∀(j:Nat) (x:SV),(SV.nm.nmL f cs)[j]? =some x→ ∃y,cs[j]? =some y∧x=y.nm f
 |[]=>by simp[SV.nm.nmL]
 |c::cs=>by
  obtain⟨h1,h2⟩:=Aoq f cs
  refine⟨by simp[SV.nm.nmL,h1],fun j x hx=>?_⟩
  cases j with
  |zero=>simp[SV.nm.nmL] at hx;exact⟨c,rfl,hx.symm⟩
  |succ j=>simp[SV.nm.nmL] at hx;simpa using h2 j x hx
theorem As.nm'{w w':World}{ok ok':Nat→Prop}{β β':Key→Blk}{lk lk':Key→Option Ah}(f:Key→Option Key)(hk:H5 ok w w')(ho: ∀b,ok b→ok' b)
  {x:SV}{v:Value}(h:As w ok β lk x v)(hb: ∀k o k',x.names k=true→lk k=some o→f k=some k'→ ∃o',lk' k'=some o'∧o.sim o'∧β' k'=β k):As w' ok' β' lk' (x.nm f) v:=by
 induction h with
 |pv x v h=>exact .pv x v (h.mono hk ho)
 |nils=>exact .nils _
 |ptr k off cs b h hb0=>
  simp only[SV.nm]
  cases hf:f k with
  |none=>exact .dead _
  |some k'=>
   obtain⟨o',h1,h2,h3⟩:=hb k _ k' (by simp[SV.names]) h hf
   obtain⟨cs',rfl⟩:=Bp9 h2
   exact .ptr k' off cs' b h1 (by rw[h3,hb0])
 |own k sz xs b h hb0=>
  simp only[SV.nm]
  cases hf:f k with
  |none=>exact .dead _
  |some k'=>
   obtain⟨o',h1,h2,h3⟩:=hb k _ k' (by simp[SV.names]) h hf
   obtain⟨xs',rfl,h4⟩:=A7u h2
   rw[h4,←h3]
   exact .own k' sz xs' b h1 (by rw[h3,hb0])
 |ownN k sz ad h hb0=>
  simp only[SV.nm]
  cases hf:f k with
  |none=>exact .dead _
  |some k'=>
   obtain⟨o',h1,h2,h3⟩:=hb k _ k' (by simp[SV.names]) h hf
   obtain⟨xs',rfl,h4⟩:=A7u h2
   obtain rfl:xs'=[]:=List.eq_nil_of_length_eq_zero (by simpa using h4.symm)
   exact .ownN k' sz ad h1 (by rw[h3,hb0])
 |mp k kk es b h hb0=>
  simp only[SV.nm]
  cases hf:f k with
  |none=>exact .dead _
  |some k'=>
   obtain⟨o',h1,h2,h3⟩:=hb k _ k' (by simp[SV.names]) h hf
   obtain⟨kk',es',rfl⟩:=Bqa h2
   exact .mp k' kk' es' b h1 (by rw[h3,hb0])
 |iown k i off sz xs b h hb0 hi=>
  simp only[SV.nm]
  cases hf:f k with
  |none=>exact .dead _
  |some k'=>
   obtain⟨o',h1,h2,h3⟩:=hb k _ k' (by simp[SV.names]) h hf
   obtain⟨xs',rfl,h4⟩:=A7u h2
   exact .iown k' i off sz xs' b h1 (by rw[h3,hb0]) (by omega)
 |ipv x off b o us hob h1 hat h=>exact .ipv x off b o us (ho _ hob) h1 (fun j hj=>hk _ hob _ _ (hat j hj)) (fun j y hy=>(h j y hy).mono hk ho)
 |agg cs us hl _ h1 ih=>
  obtain⟨e1,e2⟩:=Aoq f cs
  exact .agg _ us (by rw[e1,hl]) (fun j x u hx hu=>by obtain⟨y,hy,rfl⟩:=e2 j x hx;exact ih j y u hy hu (fun k o k' hn=>hb k o k' (by simpa [SV.names] using Ajr hy hn))) h1
 |tup cs us hl _ ih=>
  obtain⟨e1,e2⟩:=Aoq f cs
  exact .tup _ us (by rw[e1,hl]) (fun j x u hx hu=>by obtain⟨y,hy,rfl⟩:=e2 j x hx;exact ih j y u hy hu (fun k o k' hn=>hb k o k' (by simpa [SV.names] using Ajr hy hn)))
 |fn g cs us hl _ ih=>
  obtain⟨e1,e2⟩:=Aoq f cs
  exact .fn g _ us (by rw[e1,hl]) (fun j x u hx hu=>by obtain⟨y,hy,rfl⟩:=e2 j x hx;exact ih j y u hy hu (fun k o k' hn=>hb k o k' (by simpa [SV.names] using Ajr hy hn)))
 |dead v=>exact .dead v
mutual
theorem SV.nm_id: ∀(x:SV),x.nm some=x
 | .pv _| .nils| .ptr _ _| .own _| .mp _| .iown _ _ _| .ipv _ _| .dead=>rfl
 | .agg cs=>by simp only[SV.nm,SV.nmL_id cs]
 | .tup cs=>by simp only[SV.nm,SV.nmL_id cs]
 | .fn g cs=>by simp only[SV.nm,SV.nmL_id cs]
theorem SV.nmL_id: ∀(cs:List SV),SV.nm.nmL some cs=cs
 |[]=>rfl
 |c::cs=>by simp only[SV.nm.nmL,SV.nm_id c,SV.nmL_id cs]
end
theorem As.mono'{w w':World}{ok ok':Nat→Prop}{β β':Key→Blk}{lk lk':Key→Option Ah}(hk:H5 ok w w')(ho: ∀b,ok b→ok' b)
  {x:SV}{v:Value}(h:As w ok β lk x v)(hb: ∀k o,x.names k=true→lk k=some o→ ∃o',lk' k=some o'∧o.sim o'∧β' k=β k):As w' ok' β' lk' x v:=by
 have:=h.nm' (lk':=lk') (β':=β') some hk ho (fun k o k' hn hl e=>by cases e;exact hb k o hn hl)
 rwa [SV.nm_id] at this
theorem As.mono{w w':World}{ok ok':Nat→Prop}{β β':Key→Blk}{lk lk':Key→Option Ah}(hk:H5 ok w w')(ho: ∀b,ok b→ok' b)
  (hb: ∀k o,lk k=some o→ ∃o',lk' k=some o'∧o.sim o'∧β' k=β k){x:SV}{v:Value}(h:As w ok β lk x v):As w' ok' β' lk' x v:=
 h.mono' hk ho (fun k o _=>hb k o)
theorem As.there{w:World}{ok:Nat→Prop}{β:Key→Blk}{lk:Key→Option Ah}{x:SV}{v:Value}(h:As w ok β lk x v){k:Key}(hn:x.names k=true): ∃o,lk k=some o:=by
 induction h with
 |pv x v h=>simp[SV.names] at hn
 |nils=>simp[SV.names] at hn
 |ptr k' off cs b h=>simp[SV.names] at hn;subst hn;exact⟨_,h⟩
 |own k' sz xs b h=>simp[SV.names] at hn;subst hn;exact⟨_,h⟩
 |ownN k' sz ad h=>simp[SV.names] at hn;subst hn;exact⟨_,h⟩
 |mp k' kk es b h=>simp[SV.names] at hn;subst hn;exact⟨_,h⟩
 |iown k' i off sz xs b h hi=>simp[SV.names] at hn;subst hn;exact⟨_,h⟩
 |ipv x off b o us hob h1 hat h=>simp[SV.names] at hn
 |agg cs us hl _ h1 ih=>obtain⟨j,x,hx,hk⟩:=names_ex (by simpa [SV.names] using hn);exact ih j x us[j]! hx (by rw[getElem!_pos us j (by rw[←hl];exact(List.getElem?_eq_some_iff.1 hx).1)];simp[←hl,(List.getElem?_eq_some_iff.1 hx).1]) hk
 |tup cs us hl _ ih=>obtain⟨j,x,hx,hk⟩:=names_ex (by simpa [SV.names] using hn);exact ih j x us[j]! hx (by rw[getElem!_pos us j (by rw[←hl];exact(List.getElem?_eq_some_iff.1 hx).1)];simp[←hl,(List.getElem?_eq_some_iff.1 hx).1]) hk
 |fn f cs us hl _ ih=>obtain⟨j,x,hx,hk⟩:=names_ex (by simpa [SV.names] using hn);exact ih j x us[j]! hx (by rw[getElem!_pos us j (by rw[←hl];exact(List.getElem?_eq_some_iff.1 hx).1)];simp[←hl,(List.getElem?_eq_some_iff.1 hx).1]) hk
 |dead v=>simp[SV.names] at hn
where
 names_ex {k:Key} {cs:List SV} (h:SV.names.namesL k cs=true): ∃(j:Nat) (x:SV),cs[j]? =some x∧x.names k=true:=by
  induction cs with
  |nil=>simp[SV.names.namesL] at h
  |cons c cs ih=>
   simp only[SV.names.namesL,Bool.or_eq_true] at h
   rcases h with h|h
   ·exact⟨0,c,by simp,h⟩
   ·obtain⟨j,x,hx,hk⟩:=ih h;exact⟨j+1,x,by simpa using hx,hk⟩
structure Ctx where
 w0:World
 ext:List Ah
 γ:Nat→Blk
 nt:Nat
 ok:Nat→Prop
 dfs:List Deferred
def Ctx.free(C:Ctx)(b:Nat):Prop:=C.ok b∨ ∃i,i<C.ext.length∧(C.γ i).b=some b
def Ctx.lent(C:Ctx)(b:Nat):Prop:= ∃i,i<C.ext.length∧(C.γ i).b=some b
def okB(C:Ctx)(β:Key→Blk)(lk:Key→Option Ah)(w:World)(b:Nat):Prop:=b<w.heap.size∧(∀k o,lk k=some o→(β k).b≠some b)∧(b<C.w0.heap.size→C.free b)
structure Quiet (w w':World):Prop where
 os:w'.os=w.os
 tape:w'.tape=w.tape
 out:w'.output=w.output
theorem Quiet.refl(w:World):Quiet w w:=⟨rfl,rfl,rfl⟩
theorem Quiet.trans{w w' w'':World}(h:Quiet w w')(h':Quiet w' w''):Quiet w w'':=⟨h'.os.trans h.os,h'.tape.trans h.tape,h'.out.trans h.out⟩
theorem Quiet.drawn(w:World)(n:Nat):Quiet w {w with drawn:=n}:=⟨rfl,rfl,rfl⟩
theorem Quiet.alloc(w:World)(ob:Obj):Quiet w (w.alloc ob):=⟨rfl,rfl,rfl⟩
theorem Quiet.setRow(w:World)(g:Nat)(cs:Array Value):Quiet w (w.setRow g cs):=⟨rfl,rfl,rfl⟩
structure GW (C:Ctx):Prop where
 g:GOK C.w0 C.ok
 lo: ∀b,C.ok b→b<C.w0.heap.size∧ ¬C.lent b
structure RR (C:Ctx) (β:Key→Blk) (σ:St) (a:Act) (w:World):Prop where
 tsz:a.tmps.size=C.nt
 dfs:a.defers=C.dfs
 inj: ∀k k' o o' b,σ.look k=some o→σ.look k'=some o'→(β k).b=some b→(β k').b=some b→k=k'
 objs: ∀k o,σ.look k=some o→Fa w (okB C β σ.look w) β σ.look o (β k)
 lo: ∀k o b,σ.look k=some o→(β k).b=some b→C.w0.heap.size≤b∨C.lent b
 ext2: ∀i o,σ.look (.ext i)=some o→ ∃o0,C.ext[i]? =some o0∧o0.sim o∧β (.ext i)=C.γ i
 slots: ∀t,As w (okB C β σ.look w) β σ.look (σ.get t) (a.tmps.getD t undef)
 size:C.w0.heap.size≤w.heap.size
 frame: ∀b,b<C.w0.heap.size→ ¬C.lent b→w.heap[b]? =C.w0.heap[b]?
 quiet:Quiet C.w0 w
 gw:GW C
theorem Be.oneCell{w:World}{ok:Nat→Prop}{x:PV}{v:Value}(h:Be w ok x v)(h1:x.one=true):v.oneCell'=true:=by
 cases h<;>first|rfl|(simp[PV.one] at h1)
theorem Ajc.mono{w w':World}{ok ok':Nat→Prop}(hk:H5 ok w w')(ho: ∀b,ok b→ok' b){kk:KK}{es:List (PV×PV)}{ents:List MapEntry}(h:Ajc w ok kk es ents):Ajc w' ok' kk es ents:=
 ⟨h.1,fun j e u he hu=>by obtain⟨h1,h2,h3⟩:=h.2 j e u he hu;exact⟨h1,h2.mono hk ho,h3.mono hk ho⟩⟩
theorem Agl.mono{w w':World}{ok ok':Nat→Prop}(hk:H5 ok w w')(ho: ∀b,ok b→ok' b){kk:KK}{es:List (PV×PV)}{ents:List MapEntry}{c:Nat}(h:Agl w ok kk es ents c):Agl w' ok' kk es ents c:=⟨h.1.mono hk ho,h.2⟩
theorem Fa.nm'{w w':World}{ok ok':Nat→Prop}{β β':Key→Blk}{lk lk':Key→Option Ah}(f:Key→Option Key)(hk:H5 ok w w')(ho: ∀b,ok b→ok' b)
  {o:Ah}{B:Blk}(hw: ∀b,B.b=some b→w'.heap[b]? =w.heap[b]?)(h:Fa w ok β lk o B)
  (hb: ∀k o' k',(∃cs x,o= .box cs∧x∈cs∧x.names k=true)→lk k=some o'→f k=some k'→ ∃o'',lk' k'=some o''∧o'.sim o''∧β' k'=β k):Fa w' ok' β' lk' (o.nm f) B:=by
 cases o with
 |box cs=>
  obtain⟨b,arr,T,h0,h1,h2,h3,h4⟩:=h
  refine⟨b,arr,T,h0,(hw b h0).trans h1,by simpa using h2,h3,fun j x u hx hu=>?_⟩
  simp only[List.getElem?_map,Option.map_eq_some_iff] at hx
  obtain⟨y,hy,rfl⟩:=hx
  exact(h4 j y u hy hu).nm' f hk ho (fun k o' k' hn=>hb k o' k' ⟨cs,y,rfl,List.mem_of_getElem? hy,hn⟩)
 |row sz xs=>
  rcases h with h|⟨b,arr,T,h0,h1,h2,h3,h4,h5⟩
  ·exact .inl h
  ·refine .inr ⟨b,arr,T,h0,(hw b h0).trans h1,h2,h3,h4,fun i j x y hx hy=>?_⟩
   obtain⟨u,hu,hl⟩:=h5 i j x y hx hy
   exact⟨u,hu,hl.mono hk ho⟩
 |map kk es=>
  obtain⟨b,ents,clock,h0,h1,h2⟩:=h
  exact⟨b,ents,clock,h0,(hw b h0).trans h1,h2.mono hk ho⟩
theorem Ah.nm_id(o:Ah):o.nm some=o:=by
 cases o with
 |box cs=>simp only[Ah.nm];congr 1;rw[List.map_congr_left (g:=fun x=>x) (fun v _=>SV.nm_id v)];simp
 |row _ _=>rfl
 |map _ _=>rfl
theorem Fa.mono{w w':World}{ok ok':Nat→Prop}{β β':Key→Blk}{lk lk':Key→Option Ah}(hk:H5 ok w w')(ho: ∀b,ok b→ok' b)
  {o:Ah}{B B':Blk}(hB:B'=B)(hw: ∀b,B.b=some b→w'.heap[b]? =w.heap[b]?)(h:Fa w ok β lk o B)
  (hb: ∀k o',(∃cs x,o= .box cs∧x∈cs∧x.names k=true)→lk k=some o'→ ∃o'',lk' k=some o''∧o'.sim o''∧β' k=β k):Fa w' ok' β' lk' o B':=by
 subst hB
 have:=h.nm' (lk':=lk') (β':=β') some hk ho hw (fun k o' k' hn hl e=>by cases e;exact hb k o' hn hl)
 rwa [Ah.nm_id] at this
theorem Fa.same{w:World}{ok ok':Nat→Prop}{β:Key→Blk}{lk lk':Key→Option Ah}(ho: ∀b,ok b→ok' b){o:Ah}{B:Blk}(h:Fa w ok β lk o B)
  (hb: ∀k o',lk k=some o'→ ∃o'',lk' k=some o''∧o'.sim o''):Fa w ok' β lk' o B:=
 h.mono (fun b _ off u hu=>hu) ho rfl (fun _ _=>rfl) (fun k o' _ hk=>by obtain⟨o'',h1,h2⟩:=hb k o' hk;exact⟨o'',h1,h2,rfl⟩)
theorem An9(l:List (Nat×SV))(d:Nat)(v:SV)(t:Nat):Uf ((d,v)::l) t=if d=t then v else Uf l t:=by
 simp only[Uf]
 by_cases h:d=t
 ·subst h;simp
 ·have:(d==t)=false:=by simpa using h
  simp[this,h]
theorem Cm(σ:St)(d:Option Nat)(v:SV)(t:Nat):(σ.put d v).get t=if d=some t then v else σ.get t:=by
 cases d with
 |none=>simp[St.put]
 |some d=>simp only[St.put,St.get,An9,Option.some.injEq]
@[simp] theorem St.look_put (σ:St) (d:Option Nat) (v:SV) (k:Key):(σ.put d v).look k=σ.look k:=by cases d<;>rfl
@[simp] theorem A3t (σ:St) (d:Option Nat) (v:SV):(σ.put d v).look=σ.look:=funext fun k=>σ.look_put d v k
theorem Boe(a:Act)(d:Option Nat)(v:Value)(t:Nat)(hd: ∀i,d=some i→i<a.tmps.size):
  (a.put d v).tmps.getD t undef=if d=some t then v else a.tmps.getD t undef:=by
 cases d with
 |none=>simp[Act.put]
 |some d=>
  have:=hd d rfl
  by_cases h:d=t
  ·subst h;simp[Act.put,this]
  ·simp[Act.put,h,Array.getElem?_setIfInBounds_ne h]
section
variable {C:Ctx} {β:Key→Blk} {σ:St} {a:Act} {w:World}
theorem RR.gok(h:RR C β σ a w):GOK w (okB C β σ.look w):=
 Auy h.gw.g (fun b hb hlt=>by
  obtain⟨h1,h2⟩:=h.gw.lo b hb
  refine⟨h.frame b h1 h2,Nat.lt_of_lt_of_le h1 h.size,fun k o hk he=>?_,fun _=> .inl hb⟩
  rcases h.lo k o b hk he with q|q
  ·omega
  ·exact h2 q)
theorem RR.put(h:RR C β σ a w)(d:Option Nat)(x:SV)(v:Value)(hd: ∀i,d=some i→i<C.nt)(hs:As w (okB C β σ.look w) β σ.look x v):RR C β (σ.put d x) (a.put d v) w:=by
 refine⟨?_,?_,?_,?_,?_,?_,?_,h.size,h.frame,h.quiet,h.gw⟩
 ·cases d<;>simpa [Act.put] using h.tsz
 ·cases d<;>simpa [Act.put] using h.dfs
 ·simpa using h.inj
 ·simpa using h.objs
 ·simpa using h.lo
 ·simpa using h.ext2
 ·intro t
  rw[Boe a d v t (by rw[h.tsz];exact hd),Cm,A3t]
  split
  ·exact hs
  ·exact h.slots t
theorem RR.skip(h:RR C β σ a w)(d:Option Nat)(v:Value)(hd: ∀i,d=some i→i<C.nt):RR C β (σ.put d .dead) (a.put d v) w:=h.put d .dead v hd (.dead v)
theorem Ara{p:Nat→Prop}{w w':World}(h:w'.heap=w.heap):H5 p w w':=by
 intro b _ off u hu
 simpa [World.cell?,h] using hu
theorem Bmy{lk:Key→Option Ah}{w w':World}(h:w'.heap=w.heap):okB C β lk w'=okB C β lk w:=by funext b;simp[okB,h]
theorem RR.heap(h:RR C β σ a w){w':World}(hw:w'.heap=w.heap)(hq:Quiet w w'):RR C β σ a w':=by
 refine⟨h.tsz,h.dfs,h.inj,?_,h.lo,h.ext2,?_,?_,?_,h.quiet.trans hq,h.gw⟩
 ·intro k o hk
  rw[Bmy hw]
  exact(h.objs k o hk).mono (Ara hw) (fun _ h=>h) rfl (fun _ _=>by rw[hw]) (fun k o _ hk=>⟨o,hk,o.sim_refl,rfl⟩)
 ·intro t
  rw[Bmy hw]
  exact(h.slots t).mono (Ara hw) (fun _ h=>h) (fun k o hk=>⟨o,hk,o.sim_refl,rfl⟩)
 ·rw[hw];exact h.size
 ·rw[hw];exact h.frame
theorem Fa.lt{w:World}{ok:Nat→Prop}{lk:Key→Option Ah}{o:Ah}{B:Blk}(h:Fa w ok β lk o B){b:Nat}(hb:B.b=some b):b<w.heap.size:=by
 cases o with
 |box cs=>obtain⟨b',arr,T,h0,h1,_⟩:=h;rw[hb] at h0;cases h0;exact(Array.getElem?_eq_some_iff.1 h1).1
 |row sz xs=>
  rcases h with h|⟨b',arr,T,h0,h1,_⟩
  ·rw[hb] at h;cases h.1
  ·rw[hb] at h0;cases h0;exact(Array.getElem?_eq_some_iff.1 h1).1
 |map kk es=>obtain⟨b',ents,clock,h0,h1,_⟩:=h;rw[hb] at h0;cases h0;exact(Array.getElem?_eq_some_iff.1 h1).1
theorem RR.blk_lt(h:RR C β σ a w){k:Key}{o:Ah}(hk:σ.look k=some o){b:Nat}(hb:(β k).b=some b):b<w.heap.size:=(h.objs k o hk).lt hb
theorem RR.slots_of(h:RR C β σ a w){σ':St}(hp:σ'.look=σ.look)(hs: ∀t,As w (okB C β σ.look w) β σ.look (σ'.get t) (a.tmps.getD t undef)):RR C β σ' a w:=by
 refine⟨h.tsz,h.dfs,?_,?_,?_,?_,?_,h.size,h.frame,h.quiet,h.gw⟩<;>rw[hp]
 ·exact h.inj
 ·exact h.objs
 ·exact h.lo
 ·exact h.ext2
 ·exact hs
theorem St.get_forget(σ:St)(keep:List Nat)(t:Nat):(σ.forget keep).get t=σ.get t∨(σ.forget keep).get t= .dead:=by
 unfold St.forget St.get
 simp only
 induction keep with
 |nil=>right;rfl
 |cons k ks ih=>
  simp only[St.forget.go,An9]
  by_cases hk:k=t
  ·subst hk;left;simp
  ·simpa [hk] using ih
theorem RR.forget(h:RR C β σ a w)(keep:List Nat):RR C β (σ.forget keep) a w:=by
 refine h.slots_of rfl (fun t=>?_)
 rcases σ.get_forget keep t with e|e
 ·rw[e];exact h.slots t
 ·rw[e];exact .dead _
end
end Go.Av
end
section
namespace Go.Av
theorem A89(f:SV→SV)(hf:f .dead= .dead)(l:List (Nat×SV))(t:Nat):Uf (l.map fun p=>(p.1,f p.2)) t=f (Uf l t):=by
 induction l with
 |nil=>simp[Uf,hf]
 |cons p l ih=>
  obtain⟨i,v⟩:=p
  simp only[List.map_cons,Uf,ih]
  cases i==t<;>rfl
theorem Avc(f:Ah→Ah)(k:Key)(l:List (Key×Ah))(k':Key):
  Ay ((l.filter fun p=>decide (p.1≠k)).map fun p=>(p.1,f p.2)) k'=if k'=k then none else(Ay l k').map f:=by
 induction l with
 |nil=>simp[Ay]
 |cons p l ih=>
  obtain⟨i,v⟩:=p
  by_cases hi:i=k
  ·subst hi
   simp only[List.filter_cons,ne_eq,not_true_eq_false,decide_false,Bool.false_eq_true,if_false,ih,Ay]
   by_cases hk:k'=i
   ·simp[hk]
   ·have: ¬i=k':=fun e=>hk e.symm
    simp[hk,this]
  ·simp only[List.filter_cons,ne_eq,hi,not_false_eq_true,decide_true,if_true,List.map_cons,Ay,ih]
   by_cases hk:i=k'
   ·subst hk;simp[hi]
   ·simp[hk]
theorem Fy(σ:St)(k:Key)(t:Nat):(σ.kill k).get t=(σ.get t).kill k:=A89 (SV.kill k) rfl σ.sl t
theorem B8(σ:St)(k k':Key):(σ.kill k).look k'=if k'=k then none else(σ.look k').map (Ah.kill k):=Avc (Ah.kill k) k σ.hp k'
theorem Zt(k:Key)(x:SV):x.kill k= .dead∨(x.kill k=x∧x.names k=false):=by
 unfold SV.kill
 cases h:x.names k<;>simp
theorem Ah.kill_sim(k:Key)(o:Ah):o.sim (o.kill k):=by
 cases o<;>simp[Ah.kill,Ah.sim]
section
variable {C:Ctx} {β:Key→Blk} {σ:St} {a:Act} {w:World}
theorem As.kill{ok ok':Nat→Prop}(ho: ∀b,ok b→ok' b)(k:Key){x:SV}{v:Value}(h:As w ok β σ.look x v):As w ok' β (σ.kill k).look (x.kill k) v:=by
 rcases Zt k x with e|⟨e,hn⟩
 ·rw[e];exact .dead v
 ·rw[e]
  refine h.mono' (fun b _ off u hu=>hu) ho (fun k' o hk' hl=>?_)
  have hne:k'≠k:=fun e=>by subst e;rw[hn] at hk';cases hk'
  exact⟨o.kill k,by rw[B8];simp[hne,hl],o.kill_sim k,rfl⟩
theorem RR.kill(h:RR C β σ a w)(k:Key):RR C β (σ.kill k) a w:=by
 have hsome: ∀k' o,(σ.kill k).look k'=some o→k'≠k∧ ∃o',σ.look k'=some o'∧o=o'.kill k:=by
  intro k' o ho
  rw[B8] at ho
  by_cases e:k'=k
  ·simp[e] at ho
  ·simp only[e,if_false,Option.map_eq_some_iff] at ho
   obtain⟨o',h1,h2⟩:=ho
   exact⟨e,o',h1,h2.symm⟩
 have hok: ∀b,okB C β σ.look w b→okB C β (σ.kill k).look w b:=by
  intro b hb
  refine⟨hb.1,fun k' o ho=>?_,hb.2.2⟩
  obtain⟨_,o',h1,_⟩:=hsome k' o ho
  exact hb.2.1 k' o' h1
 have hfor: ∀k' o,k'≠k→σ.look k'=some o→(σ.kill k).look k'=some (o.kill k):=fun k' o hne ho=>by rw[B8,if_neg hne,ho];rfl
 refine⟨h.tsz,h.dfs,?_,?_,?_,?_,?_,h.size,h.frame,h.quiet,h.gw⟩
 ·intro k1 k2 o1 o2 b h1 h2 e1 e2
  obtain⟨_,o1',h1',_⟩:=hsome k1 o1 h1
  obtain⟨_,o2',h2',_⟩:=hsome k2 o2 h2
  exact h.inj k1 k2 o1' o2' b h1' h2' e1 e2
 ·intro k' o ho
  obtain⟨hne,o',h1,rfl⟩:=hsome k' o ho
  have:=h.objs k' o' h1
  cases o' with
  |box cs=>
   obtain⟨b,arr,T,e0,e1,e2,e3,e4⟩:=this
   refine⟨b,arr,T,e0,e1,by simpa using e2,e3,fun j x u hx hu=>?_⟩
   simp only[List.getElem?_map,Option.map_eq_some_iff] at hx
   obtain⟨x',hx',rfl⟩:=hx
   exact(e4 j x' u hx' hu).kill hok k
  |row sz xs=>
   rcases this with e|⟨b,arr,T,e0,e1,e2,e3,e4,e5⟩
   ·exact .inl e
   ·refine .inr ⟨b,arr,T,e0,e1,e2,e3,e4,fun i j x y hx hy=>?_⟩
    obtain⟨u,hu,hl⟩:=e5 i j x y hx hy
    exact⟨u,hu,hl.mono (fun b _ off u hu=>hu) hok⟩
  |map kk es=>
   obtain⟨b,ents,clock,e0,e1,e2⟩:=this
   exact⟨b,ents,clock,e0,e1,e2.mono (fun b _ off u hu=>hu) hok⟩
 ·intro k' o b ho hb
  obtain⟨_,o',h1,_⟩:=hsome k' o ho
  exact h.lo k' o' b h1 hb
 ·intro i o ho
  obtain⟨_,o',h1,rfl⟩:=hsome _ o ho
  obtain⟨o0,g1,g2,g3⟩:=h.ext2 i o' h1
  exact⟨o0,g1,A9 g2 (Ah.kill_sim k _),g3⟩
 ·intro t
  rw[Fy]
  exact(h.slots t).kill hok k
theorem RR.killAll(ks:List Key): ∀{σ:St},RR C β σ a w→RR C β (σ.killAll ks) a w:=by
 induction ks with
 |nil=>intro σ h;exact h
 |cons k ks ih=>intro σ h;exact ih (h.kill k)
theorem A9r(σ:St)(k:Key):(σ.kill k).look k=none:=by rw[B8];simp
theorem T0(ks:List Key): ∀(σ:St) (k:Key),σ.look k=none→(σ.killAll ks).look k=none:=by
 induction ks with
 |nil=>intro σ k h;exact h
 |cons k' ks ih=>intro σ k h;exact ih _ k (by rw[B8];split<;>simp[h])
theorem Jt(ks:List Key): ∀(σ:St) (k:Key),k∈ks→(σ.killAll ks).look k=none:=by
 induction ks with
 |nil=>intro σ k h;simp at h
 |cons k' ks ih=>
  intro σ k h
  by_cases e:k∈ks
  ·exact ih _ k e
  ·simp[e] at h;subst h;exact T0 ks _ _ (A9r σ k)
theorem D4(l l':List (Key×Ah))(k:Key):Ay (l++l') k=(Ay l k).or (Ay l' k):=by
 induction l with
 |nil=>simp[Ay]
 |cons p l ih=>
  obtain⟨i,v⟩:=p
  simp only[List.cons_append,Ay,ih]
  split<;>simp
theorem St.look_ins(σ:St)(k:Key)(o:Ah)(k':Key):(σ.insAll [(k,o)]).look k'=if k=k' then some o else σ.look k':=by
 simp[St.insAll,St.look,Ay]
@[simp] theorem D8 (σ:St) (l:List (Key×Ah)) (t:Nat):(σ.insAll l).get t=σ.get t:=rfl
theorem Biq(w:World)(o:Obj){p:Addr}(h:p.block<w.heap.size):(w.alloc o).cell? p=w.cell? p:=by
 simp only[World.cell?,heap_alloc_old w o p.block h]
theorem Ec(o:Obj):H5 (okB C β σ.look w) w (w.alloc o):=by
 intro b hb off u hu
 rw[Biq w o (p:=⟨b,off,none⟩) hb.1]
 exact hu
theorem RR.new(h:RR C β σ a w)(k:Key)(hk: ∀i,k≠ .ext i)(hn:σ.look k=none)(o:Ah)(c:Nat)(ob:Obj)
  (hobj: ∀β':Key→Blk,(∀k',k'≠k→β' k'=β k')→β' k=⟨some w.heap.size,c⟩→(∀b,okB C β σ.look w b→okB C β' (σ.insAll [(k,o)]).look (w.alloc ob) b)→Fa (w.alloc ob) (okB C β' (σ.insAll [(k,o)]).look (w.alloc ob)) β' (σ.insAll [(k,o)]).look o ⟨some w.heap.size,c⟩)(hq:Quiet w (w.alloc ob):=by exact Quiet.alloc _ _):
  ∃β',(∀k',k'≠k→β' k'=β k')∧β' k=⟨some w.heap.size,c⟩∧RR C β' (σ.insAll [(k,o)]) a (w.alloc ob)∧
   (∀b,okB C β σ.look w b→okB C β' (σ.insAll [(k,o)]).look (w.alloc ob) b)∧ ∀k' o',σ.look k'=some o'→(σ.insAll [(k,o)]).look k'=some o':=by
 refine⟨fun k'=>if k'=k then⟨some w.heap.size,c⟩ else β k',fun k' hne=>by simp[hne],by simp,?_⟩
 generalize hβ:(fun k'=>if k'=k then(⟨some w.heap.size,c⟩:Blk) else β k')=β'
 have b1: ∀k',k'≠k→β' k'=β k':=fun k' hne=>by rw[←hβ];simp[hne]
 have b2:β' k=⟨some w.heap.size,c⟩:=by rw[←hβ];simp
 have hl: ∀k',k'≠k→(σ.insAll [(k,o)]).look k'=σ.look k':=fun k' hne=>by rw[St.look_ins,if_neg (fun e=>hne (Eq.symm e))]
 have hlk:(σ.insAll [(k,o)]).look k=some o:=by rw[St.look_ins];simp
 have hkeep: ∀k' o',σ.look k'=some o'→(σ.insAll [(k,o)]).look k'=some o':=fun k' o' h'=>by
  rw[hl k' (fun e=>by subst e;rw[hn] at h';cases h')];exact h'
 have hne: ∀k' o',σ.look k'=some o'→k'≠k:=fun k' o' h' e=>by subst e;rw[hn] at h';cases h'
 have hok: ∀b,okB C β σ.look w b→okB C β' (σ.insAll [(k,o)]).look (w.alloc ob) b:=by
  intro b hb
  refine⟨by have:=hb.1;rw[World.size_alloc];omega,fun k' o' h'=>?_,hb.2.2⟩
  by_cases e:k'=k
  ·subst e;rw[b2];exact fun e=>by have:=hb.1;simp at e;omega
  ·rw[hl k' e] at h';rw[b1 k' e];exact hb.2.1 k' o' h'
 refine⟨?_,hok,hkeep⟩
 refine⟨h.tsz,h.dfs,?_,?_,?_,?_,?_,?_,?_,h.quiet.trans hq,h.gw⟩
 ·intro k1 k2 o1 o2 b h1 h2 e1 e2
  by_cases q1:k1=k
  ·by_cases q2:k2=k
   ·rw[q1,q2]
   ·rw[hl k2 q2] at h2;rw[q1,b2] at e1;rw[b1 k2 q2] at e2;have:=h.blk_lt h2 e2;simp at e1;omega
  ·by_cases q2:k2=k
   ·rw[hl k1 q1] at h1;rw[q2,b2] at e2;rw[b1 k1 q1] at e1;have:=h.blk_lt h1 e1;simp at e2;omega
   ·rw[hl k1 q1] at h1;rw[hl k2 q2] at h2;rw[b1 k1 q1] at e1;rw[b1 k2 q2] at e2;exact h.inj k1 k2 o1 o2 b h1 h2 e1 e2
 ·intro k' o' h'
  by_cases e:k'=k
  ·subst e;rw[hlk] at h';cases h';rw[b2];exact hobj β' b1 b2 hok
  ·rw[hl k' e] at h'
   exact(h.objs k' o' h').mono (Ec ob) hok (b1 k' e) (fun b hb=>heap_alloc_old w ob _ (h.blk_lt h' hb)) (fun k2 o2 _ h2=>⟨o2,hkeep k2 o2 h2,o2.sim_refl,b1 k2 (hne k2 o2 h2)⟩)
 ·intro k' o' b h' hx
  by_cases e:k'=k
  ·subst e;rw[b2] at hx;simp at hx;subst hx;exact .inl h.size
  ·rw[hl k' e] at h';rw[b1 k' e] at hx;exact h.lo k' o' b h' hx
 ·intro i o' h'
  have e:Key.ext i≠k:=fun e=>hk i e.symm
  rw[hl _ e] at h';rw[b1 _ e];exact h.ext2 i o' h'
 ·intro t
  exact(h.slots t).mono (Ec ob) hok (fun k2 o2 h2=>⟨o2,hkeep k2 o2 h2,o2.sim_refl,b1 k2 (hne k2 o2 h2)⟩)
 ·have:=h.size;rw[World.size_alloc];omega
 ·intro b hb hx
  have:=h.frame b hb hx
  have hs:=h.size
  rw[heap_alloc_old w ob b (by omega)]
  exact this
end
end Go.Av
end
section
namespace Go.Av
def Agp:Value→PV→Bool
 | .int k n,.int k' n'=>decide (k=k')&&n==n'
 | .bool b,.bool b'=>b==b'
 | .string s,.str l=>s.data.toList==l
 | .nilIface,.nilI=>true
 | .nilFunc,.nilFn=>true
 |_,_=>false
def Ak:Operand→Opd→Bool
 | .tmp t,.tmp t'=>t==t'
 | .const v,.cst x=>Agp v x
 | .const (.slice none 0 0),.nils=>true
 | .const _,.junk=>true
 | .func f,.cst (.fn f')=>f==f'
 |_,_=>false
theorem Tr{w:World}{ok:Nat→Prop}{v:Value}{x:PV}(h:Agp v x=true):Be w ok x v:=by
 cases v<;>cases x<;>simp only[Agp,Bool.and_eq_true,decide_eq_true_eq,beq_iff_eq] at h<;>try (cases h;done)
 ·subst h;exact .bool _
 ·obtain⟨rfl,rfl⟩:=h;exact .int _ _
 ·rename_i s l;subst h;exact .str _
 ·exact .nilFn
 ·exact .nilI
section
variable {C:Ctx} {β:Key→Blk} {σ:St} {a:Act} {w:World}
theorem RR.ev(h:RR C β σ a w){x:Operand}{x':Opd}(hx:Ak x x'=true):As w (okB C β σ.look w) β σ.look (σ.ev x') (a.eval x):=by
 cases x with
 |tmp t=>
  cases x' with
  |tmp t'=>simp only[Ak,beq_iff_eq] at hx;subst hx;exact h.slots t
  |cst y=>simp[Ak] at hx
  |nils=>simp[Ak] at hx
  |junk=>simp[Ak] at hx
 |const v=>
  cases x' with
  |tmp t'=>cases v<;>simp[Ak] at hx
  |cst y=>exact .pv _ _ (Tr (v:=v) (by simpa [Ak] using hx))
  |nils=>
   cases v<;>simp only[Ak] at hx<;>try (cases hx;done)
   rename_i ad n c
   cases ad<;>(try (simp at hx;done))
   cases n<;>(try (simp at hx;done))
   cases c<;>(try (simp at hx;done))
   exact .nils _
  |junk=>exact .dead _
 |global g=>cases x'<;>simp[Ak] at hx
 |func f=>
  cases x' with
  |tmp t'=>simp[Ak] at hx
  |cst y=>
   cases y<;>simp only[Ak,beq_iff_eq] at hx<;>try (cases hx;done)
   subst hx
   exact .pv _ _ (.fn f)
  |nils=>simp[Ak] at hx
  |junk=>simp[Ak] at hx
end
theorem Bom{P:Program}{o:Oper}{a:Act}{w:World}{K:Act→World→Prop}{Q:Exit→Act→World→Prop}{v:Value}
  (h:(execOp a.eval o).run P w= .ok (.value v) w)(hK:K (a.put o.dst v) w):o.wp P a w K Q:=by
 simp only[Oper.wp,h,Oper.upon]
 exact hK
theorem Q0{P:Program}{o:Oper}{a:Act}{w w':World}{K:Act→World→Prop}{Q:Exit→Act→World→Prop}{v:Value}
  (h:(execOp a.eval o).run P w= .ok (.value v) w')(hK:K (a.put o.dst v) w'):o.wp P a w K Q:=by
 simp only[Oper.wp,h,Oper.upon]
 exact hK
theorem Ay3{P:Program}{o:Oper}{a:Act}{w w':World}{K:Act→World→Prop}{Q:Exit→Act→World→Prop}
  (h:(execOp a.eval o).run P w= .ok .skip w')(hK:K (a.put o.dst undef) w'):o.wp P a w K Q:=by
 simp only[Oper.wp,h,Oper.upon]
 exact hK
def Bdz:TypeDesc→Bool
 | .struct _| .array _ _=>true
 |_=>false
def Alz(P:Program)(t:TypeId):Option (Bool×Nat):=
 match P.underlying t,P.info? t with
 |some d,some i=>some (Bdz d,i.size)
 |_,_=>none
theorem A3a{P:Program}{t:TypeId}{d:TypeDesc}(h:P.underlying t=some d)(w:World):(isAgg t).run P w= .ok (Bdz d) w:=by
 simp only[isAgg,Sem.run_bind,run_underlying h,Result.andThen_ok]
 cases d<;>rfl
theorem Hl{P:Program}{t:TypeId}{i:TypeInfo}(h:P.info? t=some i)(w:World):(sizeOf t).run P w= .ok i.size w:=by
 simp[sizeOf,typeInfo,h]
theorem Ap4{P:Program}{t:TypeId}{b:Bool}{n:Nat}(h:Alz P t=some (b,n)): ∃d i,P.underlying t=some d∧P.info? t=some i∧Bdz d=b∧i.size=n:=by
 unfold Alz at h
 cases hu:P.underlying t with
 |none=>simp[hu] at h
 |some d=>
  cases hi:P.info? t with
  |none=>simp[hu,hi] at h
  |some i=>simp[hu,hi] at h;exact⟨d,i,rfl,rfl,h.1,h.2⟩
def Mq(w:World)(b o:Nat)(us:List Value):Prop:= ∀j u,us[j]? =some u→w.cell? ⟨b,o+j,none⟩=some u
theorem addr_add(b o n:Nat):(⟨b,o,none⟩:Addr).add n=⟨b,o+n,none⟩:=by unfold Addr.add;split<;>simp_all
def N8(agg:Bool)(us:List Value):Option Value:=
 bif agg then some (.agg us.toArray) else match us with
  |[u]=>some u
  |_=>none
theorem Apj{P:Program}{t:TypeId}{agg:Bool}{us:List Value}{v:Value}(h:Alz P t=some (agg,us.length)){w:World}{b o:Nat}
  (hc:Mq w b o us)(hv:N8 agg us=some v):(loadVar t ⟨b,o,none⟩).run P w= .ok v w:=by
 obtain⟨d,i,h1,h2,h3,h4⟩:=Ap4 h
 have hl:=run_loadCells_list (P:=P) w ⟨b,o,none⟩ us (fun j u hu=>by rw[addr_add];exact hc j u hu)
 simp only[loadVar,Sem.run_bind,A3a h1,Result.andThen_ok,h3]
 cases agg with
 |true=>
  simp only[N8,cond_true,Option.some.injEq] at hv
  simp only[if_true,Sem.run_bind,Hl h2,Result.andThen_ok,h4,hl,Sem.run_pure,hv]
 |false=>
  simp only[N8,cond_false] at hv
  cases us with
  |nil=>cases hv
  |cons u r=>
   cases r with
   |cons _ _=>cases hv
   |nil=>
    simp at hv;subst hv
    have:=hc 0 u rfl
    simp only[Nat.add_zero] at this
    simp[this]
def Bk(w:World)(ok:Nat→Prop)(β:Key→Blk)(lk:Key→Option Ah)(cs:List SV)(us:List Value):Prop:=
 cs.length=us.length∧(∀u∈us,u.oneCell'=true)∧ ∀(j:Nat) (x:SV) (u:Value),cs[j]? =some x→us[j]? =some u→As w ok β lk x u
theorem Aqx{w:World}{ok:Nat→Prop}{β:Key→Blk}{lk:Key→Option Ah}: ∀{cs:List SV} {us:List Value} {xs:List PV},SV.ofCells.pures cs=some xs→Bk w ok β lk cs us→
  xs.length=us.length∧ ∀(j:Nat) (x:PV) (u:Value),xs[j]? =some x→us[j]? =some u→Be w ok x u
 |[],us,xs,h,hl=>by
  simp[SV.ofCells.pures] at h;subst h
  exact⟨by simpa using hl.1,by simp⟩
 | .pv x::cs,us,xs,h,hl=>by
  simp only[SV.ofCells.pures,Option.map_eq_some_iff] at h
  obtain⟨xs',h1,rfl⟩:=h
  cases us with
  |nil=>have:=hl.1;simp at this
  |cons u us=>
   have ih:=Aqx (us:=us) h1 ⟨by simpa using hl.1,fun v hv=>hl.2.1 v (by simp[hv]),fun j y v hy hv=>hl.2.2 (j+1) y v (by simpa using hy) (by simpa using hv)⟩
   refine⟨by simp[ih.1],fun j y v hy hv=>?_⟩
   cases j with
   |zero=>
    simp at hy hv;subst hy;subst hv
    have:=hl.2.2 0 (.pv x) u (by simp) (by simp)
    cases this with|pv _ _ h=>exact h
   |succ j=>exact ih.2 j y v (by simpa using hy) (by simpa using hv)
 | .nils::_,_,_,h,_=>by simp[SV.ofCells.pures] at h
 | .ptr _ _::_,_,_,h,_=>by simp[SV.ofCells.pures] at h
 | .own _::_,_,_,h,_=>by simp[SV.ofCells.pures] at h
 | .mp _::_,_,_,h,_=>by simp[SV.ofCells.pures] at h
 | .iown _ _ _::_,_,_,h,_=>by simp[SV.ofCells.pures] at h
 | .ipv _ _::_,_,_,h,_=>by simp[SV.ofCells.pures] at h
 | .agg _::_,_,_,h,_=>by simp[SV.ofCells.pures] at h
 | .tup _::_,_,_,h,_=>by simp[SV.ofCells.pures] at h
 | .fn _ _::_,_,_,h,_=>by simp[SV.ofCells.pures] at h
 | .dead::_,_,_,h,_=>by simp[SV.ofCells.pures] at h
theorem Hf{w:World}{ok:Nat→Prop}{x:PV}{u:Value}(h:Be w ok x u)(hu:u.oneCell'=true):x.one=true:=by
 cases h<;>first|rfl|(simp[Value.oneCell'] at hu)
theorem F4{w:World}{ok:Nat→Prop}{β:Key→Blk}{lk:Key→Option Ah}{agg:Bool}{cs:List SV}{us:List Value}{v:SV}
  (h:SV.ofCells agg cs=some v)(hl:Bk w ok β lk cs us): ∃u,N8 agg us=some u∧As w ok β lk v u:=by
 cases agg with
 |true=>
  refine⟨_,rfl,?_⟩
  simp only[SV.ofCells,cond_true] at h
  cases hp:SV.ofCells.pures cs with
  |none=>rw[hp] at h;simp at h;subst h;exact .agg cs us hl.1 hl.2.2 hl.2.1
  |some xs=>
   rw[hp] at h;simp at h;subst h
   obtain⟨h1,h2⟩:=Aqx hp hl
   refine .pv _ _ (.agg xs us h1 (fun x hx=>?_) h2)
   obtain⟨j,hj⟩:=List.mem_iff_getElem?.1 hx
   have hjl:j<us.length:=by rw[←h1];exact(List.getElem?_eq_some_iff.1 hj).1
   have hu:us[j]? =some us[j]:=by simp[hjl]
   exact Hf (h2 j x _ hj hu) (hl.2.1 _ (List.getElem_mem hjl))
 |false=>
  simp only[SV.ofCells,cond_false] at h
  cases cs with
  |nil=>cases h
  |cons c r=>
   cases r with
   |cons _ _=>cases h
   |nil=>
    simp at h;subst h
    have:=hl.1
    match us,this,hl with
    |[u],_,hl=>exact⟨u,rfl,hl.2.2 0 c u (by simp) (by simp)⟩
theorem Bk.range{w:World}{ok:Nat→Prop}{β:Key→Blk}{lk:Key→Option Ah}{cs:List SV}{us:List Value}(h:Bk w ok β lk cs us)(off n:Nat):
  Bk w ok β lk ((cs.drop off).take n) ((us.drop off).take n):=by
 refine⟨by simp[h.1],fun u hu=>h.2.1 u (List.mem_of_mem_drop (List.mem_of_mem_take hu)),fun j x u hx hu=>?_⟩
 simp only[List.getElem?_take,List.getElem?_drop] at hx hu
 by_cases hj:j<n
 ·simp only[hj,if_true] at hx hu;exact h.2.2 _ _ _ hx hu
 ·simp[hj] at hx
theorem Bk.pv{w:World}{ok:Nat→Prop}{β:Key→Blk}{lk:Key→Option Ah}{xs:List PV}{us:List Value}(hl:xs.length=us.length)(h1: ∀x∈xs,x.one=true)
  (h: ∀(j:Nat) (x:PV) (u:Value),xs[j]? =some x→us[j]? =some u→Be w ok x u):Bk w ok β lk (xs.map .pv) us:=by
 refine⟨by simpa using hl,fun u hu=>?_,fun j x u hx hu=>?_⟩
 ·obtain⟨j,hj⟩:=List.mem_iff_getElem?.1 hu
  have hjl:j<xs.length:=by rw[hl];exact(List.getElem?_eq_some_iff.1 hj).1
  exact(h j _ u (by simp[hjl]) hj).oneCell (h1 _ (List.getElem_mem hjl))
 ·simp only[List.getElem?_map,Option.map_eq_some_iff] at hx
  obtain⟨y,hy,rfl⟩:=hx
  exact .pv _ _ (h j y u hy hu)
end Go.Av
end
section
namespace Go.Av
section
variable {P:Program} {C:Ctx} {β:Key→Blk} {σ:St} {a:Act} {w:World}
theorem Mq.range{w:World}{b o:Nat}{us:List Value}(h:Mq w b o us)(off n:Nat):Mq w b (o+off) ((us.drop off).take n):=by
 intro j u hu
 simp only[List.getElem?_take,List.getElem?_drop] at hu
 by_cases hj:j<n
 ·simp only[hj,if_true] at hu
  rw[show o+off+j=o+(off+j) by omega]
  exact h _ _ hu
 ·simp[hj] at hu
def Lc(σ:St)(agg:Bool)(n:Nat):SV→Option SV
 | .ptr k off=>match σ.look k with
  |some (.box cs)=>if off+n≤cs.length then SV.ofCells agg ((cs.drop off).take n) else none
  |_=>none
 | .ipv e off=>if off+n≤e.cells.length then SV.ofCells agg (((e.cells.drop off).take n).map .pv) else none
 | .iown k i off=>match σ.look k with
  |some (.row _ xs)=>match xs[i]? with
   |some e=>if off+n≤e.cells.length then SV.ofCells agg (((e.cells.drop off).take n).map .pv) else none
   |none=>none
  |_=>none
 |_=>none
theorem behind(h:RR C β σ a w){agg:Bool}{n:Nat}{x v:SV}{xv:Value}(hx:As w (okB C β σ.look w) β σ.look x xv)(hl:Lc σ agg n x=some v):
  ∃b o us,xv= .pointer (some ⟨b,o,none⟩)∧us.length=n∧Mq w b o us∧ ∃u,N8 agg us=some u∧As w (okB C β σ.look w) β σ.look v u:=by
 cases x with
 |ptr k off=>
  cases hx with
  |ptr _ _ cs bk hk hbk=>
   simp only[Lc,hk] at hl
   split at hl
   ·rename_i hle
    obtain⟨bk',arr,T,h0,h1,h2,h3,h4⟩:=h.objs k _ hk
    rw[hbk] at h0;cases h0
    have hcl:Bk w (okB C β σ.look w) β σ.look cs arr.toList:=⟨by simpa using h2.symm,fun u hu=>h3 u (by simpa using hu),fun j y u hy hu=>h4 j y u hy (by simpa using hu)⟩
    obtain⟨u,hu,hs⟩:=F4 hl (hcl.range off n)
    refine⟨_,_,_,rfl,?_,?_,u,hu,hs⟩
    ·simp only[List.length_take,List.length_drop,Array.length_toList];omega
    ·have hc:Mq w bk 0 arr.toList:=by
      intro j u hu
      simp only[World.cell?,h1,Nat.zero_add]
      simpa using hu
     simpa using hc.range off n
   ·cases hl
 |ipv e off=>
  cases hx with
  |ipv _ _ b o us hb h1 hat hlie=>
   simp only[Lc] at hl
   split at hl
   ·rename_i hle
    have hcl:Bk w (okB C β σ.look w) β σ.look (e.cells.map .pv) ((List.range e.cells.length).map us):=by
     refine Bk.pv (by simp) h1 (fun j y u hy hu=>?_)
     have hj:=(List.getElem?_eq_some_iff.1 hy).1
     simp only[List.getElem?_map,List.getElem?_range hj,Option.map_some,Option.some.injEq] at hu
     subst hu
     exact hlie j y hy
    have hr:=hcl.range off n
    rw[←List.map_drop,←List.map_take] at hr
    obtain⟨u,hu,hs⟩:=F4 hl hr
    refine⟨b,o+off,_,rfl,?_,?_,u,hu,hs⟩
    ·simp only[List.length_take,List.length_drop,List.length_map,List.length_range];omega
    ·have hc:Mq w b o ((List.range e.cells.length).map us):=by
      intro j u hu
      simp only[List.getElem?_map,Option.map_eq_some_iff] at hu
      obtain⟨j',hj',rfl⟩:=hu
      have:=List.getElem?_eq_some_iff.1 hj'
      obtain⟨hlt,rfl⟩:=this
      simp only[List.getElem_range]
      exact hat j (by simpa using hlt)
     exact hc.range off n
   ·cases hl
 |iown k i off=>
  cases hx with
  |iown _ _ _ sz xs bk hk hbk hi=>
   simp only[Lc,hk] at hl
   cases he:xs[i]? with
   |none=>rw[he] at hl;cases hl
   |some e=>
    rw[he] at hl
    simp only at hl
    split at hl
    ·rename_i hle
     obtain⟨bk',arr,T,h0,h1,h2,h3,h4,h5⟩:=(h.objs k _ hk).resolve_left (fun e=>by rw[hbk] at e;cases e.1)
     rw[hbk] at h0;cases h0
     have hem:=h4 e (List.mem_of_getElem? he)
     let us:Nat→Value:=fun j=>arr.getD (i*sz+j) undef
     have hus: ∀(j:Nat) (y:PV),e.cells[j]? =some y→arr[i*sz+j]? =some (us j)∧Be w (okB C β σ.look w) y (us j):=by
      intro j y hy
      obtain⟨u,hu,hl⟩:=h5 i j e y he hy
      have:us j=u:=by obtain⟨hlt,rfl⟩:=Array.getElem?_eq_some_iff.1 hu;simp[us,Array.getD,hlt]
      rw[this];exact⟨hu,hl⟩
     have hcl:Bk w (okB C β σ.look w) β σ.look (e.cells.map .pv) ((List.range e.cells.length).map us):=by
      refine Bk.pv (by simp) hem.2 (fun j y u hy hu=>?_)
      have hj:=(List.getElem?_eq_some_iff.1 hy).1
      simp only[List.getElem?_map,List.getElem?_range hj,Option.map_some,Option.some.injEq] at hu
      subst hu
      exact(hus j y hy).2
     have hr:=hcl.range off n
     rw[←List.map_drop,←List.map_take] at hr
     obtain⟨u,hu,hs⟩:=F4 hl hr
     refine⟨bk,i*sz+off,_,rfl,?_,?_,u,hu,hs⟩
     ·simp only[List.length_take,List.length_drop,List.length_map,List.length_range];omega
     ·have hc:Mq w bk (i*sz) ((List.range e.cells.length).map us):=by
       intro j u hu
       simp only[List.getElem?_map,Option.map_eq_some_iff] at hu
       obtain⟨j',hj',rfl⟩:=hu
       obtain⟨hlt,rfl⟩:=List.getElem?_eq_some_iff.1 hj'
       simp only[List.getElem_range]
       have hlt':j<e.cells.length:=by simpa using hlt
       have:=(hus j _ (List.getElem?_eq_getElem hlt')).1
       simp only[World.cell?,h1]
       simpa using this
      exact hc.range off n
    ·cases hl
 |pv x=>simp[Lc] at hl
 |nils=>simp[Lc] at hl
 |own k=>simp[Lc] at hl
 |mp k=>simp[Lc] at hl
 |agg cs=>simp[Lc] at hl
 |tup cs=>simp[Lc] at hl
 |fn f cs=>simp[Lc] at hl
 |dead=>simp[Lc] at hl
theorem Bbv(h:RR C β σ a w){t:TypeId}{agg:Bool}{n:Nat}(ht:Alz P t=some (agg,n)){x v:SV}{xv:Value}(hx:As w (okB C β σ.look w) β σ.look x xv)
  (hl:Lc σ agg n x=some v): ∃u,(Instr.loadAt t xv).run P w= .ok u w∧As w (okB C β σ.look w) β σ.look v u:=by
 obtain⟨b,o,us,rfl,hn,hc,u,hu,hs⟩:=behind h hx hl
 subst hn
 exact⟨u,by simp[Instr.loadAt,Instr.sureAddr,Apj ht hc hu],hs⟩
theorem bytes_append(a b:List UInt8):(⟨a.toArray⟩++⟨b.toArray⟩:ByteArray)=⟨(a++b).toArray⟩:=by
 apply ByteArray.ext
 simp[ByteArray.data_append]
theorem Bcm(bs:ByteArray): ∀(n i:Nat) (r:List UInt8),bs.size-i=n→ByteArray.toList.loop bs i r=r.reverse++bs.data.toList.drop i:=by
 intro n
 induction n with
 |zero=>
  intro i r h
  unfold ByteArray.toList.loop
  have h1: ¬i<bs.size:=by omega
  have h2:bs.data.toList.length≤i:=by
   have:bs.data.toList.length=bs.size:=Array.length_toList
   omega
  simp[h1,List.drop_eq_nil_of_le h2]
 |succ n ih=>
  intro i r h
  unfold ByteArray.toList.loop
  have h1:i<bs.size:=by omega
  rw[if_pos h1,ih (i+1) _ (by omega)]
  have h3:i<bs.data.toList.length:=by rw[Array.length_toList];exact h1
  have h2:bs.data.toList.drop i=bs.get! i::bs.data.toList.drop (i+1):=by
   rw[List.drop_eq_getElem_cons h3]
   congr 1
   simp only[ByteArray.get!,Array.getElem_toList]
   exact(getElem!_pos bs.data i (by simpa using h3)).symm
  rw[h2]
  simp
theorem Zy(a:List UInt8):(⟨a.toArray⟩:ByteArray).toList=a:=by
 have:=Bcm ⟨a.toArray⟩ _ 0 [] rfl
 simpa [ByteArray.toList] using this
theorem G8(a:List UInt8):(⟨a.toArray⟩:ByteArray).size=a.length:=by simp[ByteArray.size]
theorem run_equal_bool{t:TypeId}(ht:P.underlying t=some .bool)(b c:Bool)(w:World):(Op.equal t (.bool b) (.bool c)).run P w= .ok (b==c) w:=by
 have h: ∀d,(Op.equalIn (d+1) t (.bool b) (.bool c)).run P w= .ok (b==c) w:=fun d=>by
  simp only[Op.equalIn,Sem.run_bind,run_underlying ht,Result.andThen_ok,Sem.run_pure]
 exact h 9999
theorem Bp1{op:BinOp}{t:TypeId}{x y v:PV}{xv yv:Value}{ok:Nat→Prop}(ht:(op= .eql∨op= .neq)→P.underlying t=some .bool∨ ∀b,x≠ .bool b)
  (hx:Be w ok x xv)(hy:Be w ok y yv)(h:Arf op x y=some v): ∃u,(Go.binOp op t xv yv).run P w= .ok u w∧Be w ok v u:=by
 cases hx<;>cases hy<;>simp only[Arf] at h<;>try (cases h;done)
 ·
  rename_i k m k' n
  cases op
  case shl=>
   simp only[Ji] at h
   split at h
   ·cases h
   ·rename_i hb;simp only[Option.some.injEq] at h;subst h
    exact⟨_,by simp[Go.binOp,Op.shift,hb],.int _ _⟩
  case shr=>
   simp only[Ji] at h
   split at h
   ·cases h
   ·rename_i hb;simp only[Option.some.injEq] at h;subst h
    exact⟨_,by simp[Go.binOp,Op.shift,hb],.int _ _⟩
  all_goals
   dsimp only at h
   split at h<;>try (cases h;done)
   rename_i hk;subst hk
   simp only[Al2] at h
   first
    |(simp only[Option.some.injEq] at h;subst h
      refine⟨_,(by simp only[Go.binOp,ne_eq,not_true_eq_false,if_false];rfl),?_⟩
      constructor)
    |(split at h<;>try (cases h;done)
      rename_i hb;simp only[Option.some.injEq] at h;subst h
      exact⟨_,by simp[Go.binOp,Op.intDiv,hb],.int _ _⟩)
 ·
  rename_i b c
  cases op<;>simp only at h<;>try (cases h;done)
  ·have:=(ht (.inl rfl)).resolve_right (fun h=>h b rfl)
   simp only[Option.some.injEq] at h;subst h
   exact⟨_,by simp only[Go.binOp,Sem.run_bind,run_equal_bool this,Result.andThen_ok,Sem.run_pure],.bool _⟩
  ·have:=(ht (.inr rfl)).resolve_right (fun h=>h b rfl)
   simp only[Option.some.injEq] at h;subst h
   exact⟨_,by simp only[Go.binOp,Sem.run_bind,run_equal_bool this,Result.andThen_ok,Sem.run_pure],.bool _⟩
 ·
  rename_i s t
  cases op<;>simp only[A38] at h<;>try (cases h;done)
  case add=>
   split at h
   ·rename_i hb;simp only[Option.some.injEq] at h;subst h
    have: ¬((s.length+t.length:Nat):Int)>IntKind.i64.max:=by simp[IntKind.max,IntKind.signed,IntKind.bits];omega
    refine⟨_,by simp only[Go.binOp,Op.stringOp,G8,if_neg this,Sem.run_pure,bytes_append],.str _⟩
   ·cases h
  all_goals
   simp only[Option.some.injEq] at h;subst h
   exact⟨_,by simp only[Go.binOp,Op.stringOp,Zy,Sem.run_pure],.bool _⟩
theorem Bjr{op:BinOp}{t:TypeId}{x y:Operand}{xv yv:Value}(hx:xv.oneCell'=true)(hn:xv≠ .nilIface):(eqGuard op t x y xv yv).run P w= .ok () w:=by
 cases op<;>first
  |rfl
  |(cases xv<;>first|rfl|(exact absurd rfl hn)|(simp[Value.oneCell'] at hx;done)|(cases yv<;>rfl))
theorem Bsh{op:UnOp}{x v:PV}{xv:Value}{ok:Nat→Prop}(hx:Be w ok x xv)(h:Bke op x=some v): ∃u,(Op.unary op xv).run P w= .ok u w∧Be w ok v u:=by
 cases op<;>cases x<;>simp only[Bke] at h<;>try (cases h;done)
 ·cases hx;simp only[Option.some.injEq] at h;subst h
  exact⟨_,by simp only[Op.unary,Op.intArith,Sem.run_pure],.int _ _⟩
 ·cases hx;simp only[Option.some.injEq] at h;subst h
  exact⟨_,by simp only[Op.unary,Sem.run_pure],.bool _⟩
theorem Bp2{s:TypeId}{f off:Nat}{fields:Array Field}{fd:Field}{i:TypeInfo}(hs:P.underlying s=some (.struct fields))(hf:fields[f]? =some fd)(hi:P.info? fd.type=some i)(hz:i.size≠0)
  (ho:fd.offset=off)(b o:Nat):(Instr.fieldAt s (.pointer (some ⟨b,o,none⟩)) f).run P w= .ok (.pointer (some ⟨b,o+off,none⟩)) w:=by
 subst ho
 simp only[Instr.fieldAt,Sem.run_bind,run_underlying hs,Result.andThen_ok,hf,Instr.sureAddr,Sem.run_pure,fieldPlace,Hl hi,if_neg hz,addr_add]
theorem Bp3{t e:TypeId}{sz:Nat}{i:TypeInfo}(ht:P.underlying t=some (.slice e))(hi:P.info? e=some i)(hs:i.size=sz){b:Addr}(hb:b.spot=none)(len cap:Nat)(k:IntKind)(n:Int)(h0:0≤n)(h1:n.toNat<len):
  (Instr.indexAt t (.slice (some b) len cap) (.int k n)).run P w= .ok (.pointer (some ⟨b.block,b.off+n.toNat*sz,none⟩)) w:=by
 subst hs
 obtain⟨bb,bo,bs⟩:=b
 simp at hb;subst hb
 have hc:0≤n∧n<(len:Int):=⟨h0,by omega⟩
 simp only[Instr.indexAt,asIntOf,Sem.run_bind,Sem.run_pure,Result.andThen_ok,run_underlying ht,if_pos hc,Hl hi,addr_add]
end
end Go.Av
end
