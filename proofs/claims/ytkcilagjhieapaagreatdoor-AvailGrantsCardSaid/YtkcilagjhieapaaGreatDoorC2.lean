import Derived.Laws.AppendOwn
import Derived.Test.YtkcilagjhieapaaGreatDoorC1
section
namespace Go.Av
inductive Cn (w:World) (ok:Nat→Prop):PV→Value→Prop
 |int (k:IntKind) (n:Int):Cn w ok (.int k n) (.int k n)
 |bool (b:Bool):Cn w ok (.bool b) (.bool b)
 |str (s:List UInt8):Cn w ok (.str s) (.string ⟨s.toArray⟩)
 |fn (f:FuncId):Cn w ok (.fn f) (.func (.func f) #[] #[])
 |nilFn:Cn w ok .nilFn .nilFunc
 |yld (l:Nat):Cn w ok (.yld l) (.func (.yield l) #[] #[])
 |hdl (t b u:Nat):Cn w ok (.hdl t b u) (.iface t (.agg #[.pointer (some ⟨b,u,none⟩)]))
 |nilI:Cn w ok .nilI .nilIface
 |iface (t:TypeId) (x:PV) (v:Value) (h:Cn w ok x v):Cn w ok (.iface t x) (.iface t v)
 |agg (cs:List PV) (us:List Value) (hl:cs.length=us.length) (h1: ∀x∈cs,x.one=true)
   (h: ∀(j:Nat) (x:PV) (u:Value),cs[j]? =some x→us[j]? =some u→Cn w ok x u):Cn w ok (.agg cs) (.agg us.toArray)
 |slice (xs:List PV) (a:Option Addr) (n c sz:Nat) (us:Nat→Nat→Value) (hn:n=xs.length) (hc:n≤c)
   (hsz: ∀x∈xs,x.cells.length=sz) (h1: ∀x∈xs,∀y∈x.cells,y.one=true)
   (hat: ∀i j,i<n→j<sz→ ∃b:Addr,a=some b∧b.spot=none∧ok b.block∧w.cell? ⟨b.block,b.off+i*sz+j,none⟩=some (us i j))
   (hp:0<n→ ∃b:Addr,a=some b∧b.spot=none)
   (h: ∀(i j:Nat) (x y:PV),xs[i]? =some x→x.cells[j]? =some y→Cn w ok y (us i j)):Cn w ok (.slice xs) (.slice a n c)
def Iy(p:Nat→Prop)(w w':World):Prop:= ∀b,p b→ ∀off u,w.cell? ⟨b,off,none⟩=some u→w'.cell? ⟨b,off,none⟩=some u
theorem Cn.mono{w w':World}{ok ok':Nat→Prop}(hk:Iy ok w w')(ho: ∀b,ok b→ok' b){x:PV}{v:Value}(h:Cn w ok x v):Cn w' ok' x v:=by
 induction h with
 |int k n=>exact .int k n
 |bool b=>exact .bool b
 |str s=>exact .str s
 |fn f=>exact .fn f
 |nilFn=>exact .nilFn
 |yld l=>exact .yld l
 |hdl t b u=>exact .hdl t b u
 |nilI=>exact .nilI
 |iface t x v _ ih=>exact .iface t x v ih
 |agg cs us hl h1 _ ih=>exact .agg cs us hl h1 ih
 |slice xs a n c sz us hn hc hsz h1 hat hp _ ih=>
  refine .slice xs a n c sz us hn hc hsz h1 (fun i j hi hj=>?_) hp ih
  obtain⟨b,hb,hs,hob,hcell⟩:=hat i j hi hj
  exact⟨b,hb,hs,ho _ hob,hk _ hob _ _ hcell⟩
def PV.fine(x:PV):Prop:= ∀y∈x.cells,y.one=true
theorem Cn.fine{w:World}{ok:Nat→Prop}{x:PV}{v:Value}(h:Cn w ok x v):x.fine:=by
 cases h with
 |agg cs us hl h1 _=>exact h1
 |_=>intro y hy;simp[PV.cells] at hy;subst hy;rfl
structure Blk where
 b:Option Nat
 c:Nat
inductive Br (w:World) (ok:Nat→Prop) (β:Key→Blk) (lk:Key→Option Ba):SV→Value→Prop
 |pv (x:PV) (v:Value) (h:Cn w ok x v):Br w ok β lk (.pv x) v
 |nils (ad:Option Addr):Br w ok β lk .nils (.slice ad 0 0)
 |ptr (k:Key) (off:Nat) (cs:List SV) (b:Nat) (hk:lk k=some (.box cs)) (hb:(β k).b=some b):Br w ok β lk (.ptr k off) (.pointer (some ⟨b,off,none⟩))
 |own (k:Key) (sz:Nat) (xs:List PV) (b:Nat) (hk:lk k=some (.row sz xs)) (hb:(β k).b=some b):Br w ok β lk (.own k) (.slice (some ⟨b,0,none⟩) xs.length (β k).c)
 |ownN (k:Key) (sz:Nat) (ad:Option Addr) (hk:lk k=some (.row sz [])) (hb:(β k).b=none):Br w ok β lk (.own k) (.slice ad 0 0)
 |mp (k:Key) (kk:KK) (es:List (PV×PV)) (b:Nat) (hk:lk k=some (.map kk es)) (hb:(β k).b=some b):Br w ok β lk (.mp k) (.map (some b))
 |iown (k:Key) (i off sz:Nat) (xs:List PV) (b:Nat) (hk:lk k=some (.row sz xs)) (hb:(β k).b=some b) (hi:i<xs.length):Br w ok β lk (.iown k i off) (.pointer (some ⟨b,i*sz+off,none⟩))
 |ipv (x:PV) (off:Nat) (b o:Nat) (us:Nat→Value) (hb:ok b) (h1:x.fine) (hat: ∀j,j<x.cells.length→w.cell? ⟨b,o+j,none⟩=some (us j))
   (h: ∀(j:Nat) (y:PV),x.cells[j]? =some y→Cn w ok y (us j)):Br w ok β lk (.ipv x off) (.pointer (some ⟨b,o+off,none⟩))
 |agg (cs:List SV) (us:List Value) (hl:cs.length=us.length)
   (h: ∀(j:Nat) (x:SV) (u:Value),cs[j]? =some x→us[j]? =some u→Br w ok β lk x u)
   (h1: ∀u∈us,u.oneCell'=true):Br w ok β lk (.agg cs) (.agg us.toArray)
 |tup (cs:List SV) (us:List Value) (hl:cs.length=us.length)
   (h: ∀(j:Nat) (x:SV) (u:Value),cs[j]? =some x→us[j]? =some u→Br w ok β lk x u):Br w ok β lk (.tup cs) (.tuple us.toArray)
 |fn (f:FuncId) (cs:List SV) (us:List Value) (hl:cs.length=us.length)
   (h: ∀(j:Nat) (x:SV) (u:Value),cs[j]? =some x→us[j]? =some u→Br w ok β lk x u):Br w ok β lk (.fn f cs) (.func (.func f) #[] us.toArray)
 |dead (v:Value):Br w ok β lk .dead v
def N3(w:World)(ok:Nat→Prop)(kk:KK)(es:List (PV×PV))(ents:List MapEntry):Prop:=
 es.length=ents.length∧ ∀(j:Nat) (e:PV×PV) (u:MapEntry),es[j]? =some e→ents[j]? =some u→e.1.isKK kk=true∧Cn w ok e.1 u.key∧Cn w ok e.2 u.val
def Gz(w:World)(ok:Nat→Prop)(β:Key→Blk)(lk:Key→Option Ba):Ba→Blk→Prop
 | .box cs,B=> ∃(b:Nat) (arr:Array Value) (T:TypeId),B.b=some b∧w.heap[b]? =some (.cells arr T (0,0))∧arr.size=cs.length∧
   (∀u∈arr,u.oneCell'=true)∧
   ∀(j:Nat) (x:SV) (u:Value),cs[j]? =some x→arr[j]? =some u→Br w ok β lk x u
 | .row sz xs,B=>(B.b=none∧xs=[]∧B.c=0)∨ ∃(b:Nat) (arr:Array Value) (T:TypeId),B.b=some b∧w.heap[b]? =some (.cells arr T (0,0))∧xs.length≤B.c∧arr.size=B.c*sz∧
   (∀x∈xs,x.cells.length=sz∧x.fine)∧
   ∀(i j:Nat) (x y:PV),xs[i]? =some x→x.cells[j]? =some y→ ∃u,arr[i*sz+j]? =some u∧Cn w ok y u
 | .map kk es,B=> ∃(b:Nat) (ents:Array MapEntry) (clock:Nat),B.b=some b∧w.heap[b]? =some (.map ents clock)∧N3 w ok kk es ents.toList
def Ba.sim:Ba→Ba→Prop
 | .box _,.box _=>True
 | .row sz xs,.row sz' xs'=>sz=sz'∧xs.length=xs'.length
 | .map _ _,.map _ _=>True
 |_,_=>False
theorem Ba.sim_refl(o:Ba):o.sim o:=by cases o<;>simp[Ba.sim]
theorem Cg{a b c:Ba}(h1:a.sim b)(h2:b.sim c):a.sim c:=by
 cases a<;>cases b<;>simp only[Ba.sim] at h1<;>cases c<;>simp only[Ba.sim] at h2⊢
 exact⟨h1.1.trans h2.1,h1.2.trans h2.2⟩
theorem Ba.nm_sim(f:Key→Option Key)(o:Ba):o.sim (o.nm f):=by cases o<;>simp[Ba.nm,Ba.sim]
theorem Afu{o:Ba}{cs:List SV}(h:(Ba.box cs).sim o): ∃cs',o= .box cs':=by cases o<;>simp[Ba.sim] at h;exact⟨_,rfl⟩
theorem Aap{o:Ba}{sz:Nat}{xs:List PV}(h:(Ba.row sz xs).sim o): ∃xs',o= .row sz xs'∧xs.length=xs'.length:=by
 cases o<;>simp[Ba.sim] at h
 obtain⟨rfl,h⟩:=h
 exact⟨_,rfl,h⟩
theorem Al0{o:Ba}{kk:KK}{es:List (PV×PV)}(h:(Ba.map kk es).sim o): ∃kk' es',o= .map kk' es':=by cases o<;>simp[Ba.sim] at h;exact⟨_,_,rfl⟩
theorem Rc{k:Key}{cs:List SV}{x:SV}{j:Nat}(h:cs[j]? =some x)(hx:x.names k=true):SV.names.namesL k cs=true:=by
 induction cs generalizing j with
 |nil=>simp at h
 |cons c cs ih=>
  cases j with
  |zero=>simp at h;subst h;simp[SV.names.namesL,hx]
  |succ j=>simp at h;simp[SV.names.namesL,ih h]
theorem Tn(f:Key→Option Key): ∀(cs:List SV),(SV.nm.nmL f cs).length=cs.length∧ ∀(j:Nat) (x:SV),(SV.nm.nmL f cs)[j]? =some x→ ∃y,cs[j]? =some y∧x=y.nm f
 |[]=>by simp[SV.nm.nmL]
 |c::cs=>by
  obtain⟨h1,h2⟩:=Tn f cs
  refine⟨by simp[SV.nm.nmL,h1],fun j x hx=>?_⟩
  cases j with
  |zero=>simp[SV.nm.nmL] at hx;exact⟨c,rfl,hx.symm⟩
  |succ j=>simp[SV.nm.nmL] at hx;simpa using h2 j x hx
theorem Br.nm'{w w':World}{ok ok':Nat→Prop}{β β':Key→Blk}{lk lk':Key→Option Ba}(f:Key→Option Key)(hk:Iy ok w w')(ho: ∀b,ok b→ok' b)
  {x:SV}{v:Value}(h:Br w ok β lk x v)(hb: ∀k o k',x.names k=true→lk k=some o→f k=some k'→ ∃o',lk' k'=some o'∧o.sim o'∧β' k'=β k):Br w' ok' β' lk' (x.nm f) v:=by
 induction h with
 |pv x v h=>exact .pv x v (h.mono hk ho)
 |nils=>exact .nils _
 |ptr k off cs b h hb0=>
  simp only[SV.nm]
  cases hf:f k with
  |none=>exact .dead _
  |some k'=>
   obtain⟨o',h1,h2,h3⟩:=hb k _ k' (by simp[SV.names]) h hf
   obtain⟨cs',rfl⟩:=Afu h2
   exact .ptr k' off cs' b h1 (by rw[h3,hb0])
 |own k sz xs b h hb0=>
  simp only[SV.nm]
  cases hf:f k with
  |none=>exact .dead _
  |some k'=>
   obtain⟨o',h1,h2,h3⟩:=hb k _ k' (by simp[SV.names]) h hf
   obtain⟨xs',rfl,h4⟩:=Aap h2
   rw[h4,←h3]
   exact .own k' sz xs' b h1 (by rw[h3,hb0])
 |ownN k sz ad h hb0=>
  simp only[SV.nm]
  cases hf:f k with
  |none=>exact .dead _
  |some k'=>
   obtain⟨o',h1,h2,h3⟩:=hb k _ k' (by simp[SV.names]) h hf
   obtain⟨xs',rfl,h4⟩:=Aap h2
   obtain rfl:xs'=[]:=List.eq_nil_of_length_eq_zero (by simpa using h4.symm)
   exact .ownN k' sz ad h1 (by rw[h3,hb0])
 |mp k kk es b h hb0=>
  simp only[SV.nm]
  cases hf:f k with
  |none=>exact .dead _
  |some k'=>
   obtain⟨o',h1,h2,h3⟩:=hb k _ k' (by simp[SV.names]) h hf
   obtain⟨kk',es',rfl⟩:=Al0 h2
   exact .mp k' kk' es' b h1 (by rw[h3,hb0])
 |iown k i off sz xs b h hb0 hi=>
  simp only[SV.nm]
  cases hf:f k with
  |none=>exact .dead _
  |some k'=>
   obtain⟨o',h1,h2,h3⟩:=hb k _ k' (by simp[SV.names]) h hf
   obtain⟨xs',rfl,h4⟩:=Aap h2
   exact .iown k' i off sz xs' b h1 (by rw[h3,hb0]) (by omega)
 |ipv x off b o us hob h1 hat h=>exact .ipv x off b o us (ho _ hob) h1 (fun j hj=>hk _ hob _ _ (hat j hj)) (fun j y hy=>(h j y hy).mono hk ho)
 |agg cs us hl _ h1 ih=>
  obtain⟨e1,e2⟩:=Tn f cs
  exact .agg _ us (by rw[e1,hl]) (fun j x u hx hu=>by obtain⟨y,hy,rfl⟩:=e2 j x hx;exact ih j y u hy hu (fun k o k' hn=>hb k o k' (by simpa [SV.names] using Rc hy hn))) h1
 |tup cs us hl _ ih=>
  obtain⟨e1,e2⟩:=Tn f cs
  exact .tup _ us (by rw[e1,hl]) (fun j x u hx hu=>by obtain⟨y,hy,rfl⟩:=e2 j x hx;exact ih j y u hy hu (fun k o k' hn=>hb k o k' (by simpa [SV.names] using Rc hy hn)))
 |fn g cs us hl _ ih=>
  obtain⟨e1,e2⟩:=Tn f cs
  exact .fn g _ us (by rw[e1,hl]) (fun j x u hx hu=>by obtain⟨y,hy,rfl⟩:=e2 j x hx;exact ih j y u hy hu (fun k o k' hn=>hb k o k' (by simpa [SV.names] using Rc hy hn)))
 |dead v=>exact .dead v
mutual
theorem SV.nm_id: ∀(x:SV),x.nm some=x
 | .pv _| .nils| .ptr _ _| .own _| .mp _| .iown _ _ _| .ipv _ _| .dead=>rfl
 | .agg cs=>by simp only[SV.nm,SV.nmL_id cs]
 | .tup cs=>by simp only[SV.nm,SV.nmL_id cs]
 | .fn g cs=>by simp only[SV.nm,SV.nmL_id cs]
theorem SV.nmL_id: ∀(cs:List SV),SV.nm.nmL some cs=cs
 |[]=>rfl
 |c::cs=>by simp only[SV.nm.nmL,SV.nm_id c,SV.nmL_id cs]
end
theorem Br.mono'{w w':World}{ok ok':Nat→Prop}{β β':Key→Blk}{lk lk':Key→Option Ba}(hk:Iy ok w w')(ho: ∀b,ok b→ok' b)
  {x:SV}{v:Value}(h:Br w ok β lk x v)(hb: ∀k o,x.names k=true→lk k=some o→ ∃o',lk' k=some o'∧o.sim o'∧β' k=β k):Br w' ok' β' lk' x v:=by
 have:=h.nm' (lk':=lk') (β':=β') some hk ho (fun k o k' hn hl e=>by cases e;exact hb k o hn hl)
 rwa [SV.nm_id] at this
theorem Br.mono{w w':World}{ok ok':Nat→Prop}{β β':Key→Blk}{lk lk':Key→Option Ba}(hk:Iy ok w w')(ho: ∀b,ok b→ok' b)
  (hb: ∀k o,lk k=some o→ ∃o',lk' k=some o'∧o.sim o'∧β' k=β k){x:SV}{v:Value}(h:Br w ok β lk x v):Br w' ok' β' lk' x v:=
 h.mono' hk ho (fun k o _=>hb k o)
theorem Br.there{w:World}{ok:Nat→Prop}{β:Key→Blk}{lk:Key→Option Ba}{x:SV}{v:Value}(h:Br w ok β lk x v){k:Key}(hn:x.names k=true): ∃o,lk k=some o:=by
 induction h with
 |pv x v h=>simp[SV.names] at hn
 |nils=>simp[SV.names] at hn
 |ptr k' off cs b h=>simp[SV.names] at hn;subst hn;exact⟨_,h⟩
 |own k' sz xs b h=>simp[SV.names] at hn;subst hn;exact⟨_,h⟩
 |ownN k' sz ad h=>simp[SV.names] at hn;subst hn;exact⟨_,h⟩
 |mp k' kk es b h=>simp[SV.names] at hn;subst hn;exact⟨_,h⟩
 |iown k' i off sz xs b h hi=>simp[SV.names] at hn;subst hn;exact⟨_,h⟩
 |ipv x off b o us hob h1 hat h=>simp[SV.names] at hn
 |agg cs us hl _ h1 ih=>obtain⟨j,x,hx,hk⟩:=names_ex (by simpa [SV.names] using hn);exact ih j x us[j]! hx (by rw[getElem!_pos us j (by rw[←hl];exact(List.getElem?_eq_some_iff.1 hx).1)];simp[←hl,(List.getElem?_eq_some_iff.1 hx).1]) hk
 |tup cs us hl _ ih=>obtain⟨j,x,hx,hk⟩:=names_ex (by simpa [SV.names] using hn);exact ih j x us[j]! hx (by rw[getElem!_pos us j (by rw[←hl];exact(List.getElem?_eq_some_iff.1 hx).1)];simp[←hl,(List.getElem?_eq_some_iff.1 hx).1]) hk
 |fn f cs us hl _ ih=>obtain⟨j,x,hx,hk⟩:=names_ex (by simpa [SV.names] using hn);exact ih j x us[j]! hx (by rw[getElem!_pos us j (by rw[←hl];exact(List.getElem?_eq_some_iff.1 hx).1)];simp[←hl,(List.getElem?_eq_some_iff.1 hx).1]) hk
 |dead v=>simp[SV.names] at hn
where
 names_ex {k:Key} {cs:List SV} (h:SV.names.namesL k cs=true): ∃(j:Nat) (x:SV),cs[j]? =some x∧x.names k=true:=by
  induction cs with
  |nil=>simp[SV.names.namesL] at h
  |cons c cs ih=>
   simp only[SV.names.namesL,Bool.or_eq_true] at h
   rcases h with h|h
   ·exact⟨0,c,by simp,h⟩
   ·obtain⟨j,x,hx,hk⟩:=ih h;exact⟨j+1,x,by simpa using hx,hk⟩
structure Ctx where
 w0:World
 ext:List Ba
 γ:Nat→Blk
 nt:Nat
 ok:Nat→Prop
 dfs:List Deferred
def Ctx.free(C:Ctx)(b:Nat):Prop:=C.ok b∨ ∃i,i<C.ext.length∧(C.γ i).b=some b
def Ctx.lent(C:Ctx)(b:Nat):Prop:= ∃i,i<C.ext.length∧(C.γ i).b=some b
def okB(C:Ctx)(β:Key→Blk)(lk:Key→Option Ba)(w:World)(b:Nat):Prop:=b<w.heap.size∧(∀k o,lk k=some o→(β k).b≠some b)∧(b<C.w0.heap.size→C.free b)
structure C8 (w w':World):Prop where
 os:w'.os=w.os
 tape:w'.tape=w.tape
 out:w'.output=w.output
theorem C8.refl(w:World):C8 w w:=⟨rfl,rfl,rfl⟩
theorem C8.trans{w w' w'':World}(h:C8 w w')(h':C8 w' w''):C8 w w'':=⟨h'.os.trans h.os,h'.tape.trans h.tape,h'.out.trans h.out⟩
theorem C8.drawn(w:World)(n:Nat):C8 w {w with drawn:=n}:=⟨rfl,rfl,rfl⟩
theorem C8.alloc(w:World)(ob:Obj):C8 w (w.alloc ob):=⟨rfl,rfl,rfl⟩
theorem C8.setRow(w:World)(g:Nat)(cs:Array Value):C8 w (w.setRow g cs):=⟨rfl,rfl,rfl⟩
structure GW (C:Ctx):Prop where
 g:GOK C.w0 C.ok
 lo: ∀b,C.ok b→b<C.w0.heap.size∧ ¬C.lent b
structure RR (C:Ctx) (β:Key→Blk) (σ:St) (a:Act) (w:World):Prop where
 tsz:a.tmps.size=C.nt
 dfs:a.defers=C.dfs
 inj: ∀k k' o o' b,σ.look k=some o→σ.look k'=some o'→(β k).b=some b→(β k').b=some b→k=k'
 objs: ∀k o,σ.look k=some o→Gz w (okB C β σ.look w) β σ.look o (β k)
 lo: ∀k o b,σ.look k=some o→(β k).b=some b→C.w0.heap.size≤b∨C.lent b
 ext2: ∀i o,σ.look (.ext i)=some o→ ∃o0,C.ext[i]? =some o0∧o0.sim o∧β (.ext i)=C.γ i
 slots: ∀t,Br w (okB C β σ.look w) β σ.look (σ.get t) (a.tmps.getD t undef)
 size:C.w0.heap.size≤w.heap.size
 frame: ∀b,b<C.w0.heap.size→ ¬C.lent b→w.heap[b]? =C.w0.heap[b]?
 quiet:C8 C.w0 w
 gw:GW C
theorem Cn.oneCell{w:World}{ok:Nat→Prop}{x:PV}{v:Value}(h:Cn w ok x v)(h1:x.one=true):v.oneCell'=true:=by
 cases h<;>first|rfl|(simp[PV.one] at h1)
theorem N3.mono{w w':World}{ok ok':Nat→Prop}(hk:Iy ok w w')(ho: ∀b,ok b→ok' b){kk:KK}{es:List (PV×PV)}{ents:List MapEntry}(h:N3 w ok kk es ents):N3 w' ok' kk es ents:=
 ⟨h.1,fun j e u he hu=>by obtain⟨h1,h2,h3⟩:=h.2 j e u he hu;exact⟨h1,h2.mono hk ho,h3.mono hk ho⟩⟩
theorem Gz.nm'{w w':World}{ok ok':Nat→Prop}{β β':Key→Blk}{lk lk':Key→Option Ba}(f:Key→Option Key)(hk:Iy ok w w')(ho: ∀b,ok b→ok' b)
  {o:Ba}{B:Blk}(hw: ∀b,B.b=some b→w'.heap[b]? =w.heap[b]?)(h:Gz w ok β lk o B)
  (hb: ∀k o' k',(∃cs x,o= .box cs∧x∈cs∧x.names k=true)→lk k=some o'→f k=some k'→ ∃o'',lk' k'=some o''∧o'.sim o''∧β' k'=β k):Gz w' ok' β' lk' (o.nm f) B:=by
 cases o with
 |box cs=>
  obtain⟨b,arr,T,h0,h1,h2,h3,h4⟩:=h
  refine⟨b,arr,T,h0,(hw b h0).trans h1,by simpa using h2,h3,fun j x u hx hu=>?_⟩
  simp only[List.getElem?_map,Option.map_eq_some_iff] at hx
  obtain⟨y,hy,rfl⟩:=hx
  exact(h4 j y u hy hu).nm' f hk ho (fun k o' k' hn=>hb k o' k' ⟨cs,y,rfl,List.mem_of_getElem? hy,hn⟩)
 |row sz xs=>
  rcases h with h|⟨b,arr,T,h0,h1,h2,h3,h4,h5⟩
  ·exact .inl h
  ·refine .inr ⟨b,arr,T,h0,(hw b h0).trans h1,h2,h3,h4,fun i j x y hx hy=>?_⟩
   obtain⟨u,hu,hl⟩:=h5 i j x y hx hy
   exact⟨u,hu,hl.mono hk ho⟩
 |map kk es=>
  obtain⟨b,ents,clock,h0,h1,h2⟩:=h
  exact⟨b,ents,clock,h0,(hw b h0).trans h1,h2.mono hk ho⟩
theorem Ba.nm_id(o:Ba):o.nm some=o:=by
 cases o with
 |box cs=>simp only[Ba.nm];congr 1;rw[List.map_congr_left (g:=fun x=>x) (fun v _=>SV.nm_id v)];simp
 |row _ _=>rfl
 |map _ _=>rfl
theorem Gz.mono{w w':World}{ok ok':Nat→Prop}{β β':Key→Blk}{lk lk':Key→Option Ba}(hk:Iy ok w w')(ho: ∀b,ok b→ok' b)
  {o:Ba}{B B':Blk}(hB:B'=B)(hw: ∀b,B.b=some b→w'.heap[b]? =w.heap[b]?)(h:Gz w ok β lk o B)
  (hb: ∀k o',(∃cs x,o= .box cs∧x∈cs∧x.names k=true)→lk k=some o'→ ∃o'',lk' k=some o''∧o'.sim o''∧β' k=β k):Gz w' ok' β' lk' o B':=by
 subst hB
 have:=h.nm' (lk':=lk') (β':=β') some hk ho hw (fun k o' k' hn hl e=>by cases e;exact hb k o' hn hl)
 rwa [Ba.nm_id] at this
theorem Gz.same{w:World}{ok ok':Nat→Prop}{β:Key→Blk}{lk lk':Key→Option Ba}(ho: ∀b,ok b→ok' b){o:Ba}{B:Blk}(h:Gz w ok β lk o B)
  (hb: ∀k o',lk k=some o'→ ∃o'',lk' k=some o''∧o'.sim o''):Gz w ok' β lk' o B:=
 h.mono (fun b _ off u hu=>hu) ho rfl (fun _ _=>rfl) (fun k o' _ hk=>by obtain⟨o'',h1,h2⟩:=hb k o' hk;exact⟨o'',h1,h2,rfl⟩)
theorem S8(l:List (Nat×SV))(d:Nat)(v:SV)(t:Nat):Kh ((d,v)::l) t=if d=t then v else Kh l t:=by
 simp only[Kh]
 by_cases h:d=t
 ·subst h;simp
 ·have:(d==t)=false:=by simpa using h
  simp[this,h]
theorem D6(σ:St)(d:Option Nat)(v:SV)(t:Nat):(σ.put d v).get t=if d=some t then v else σ.get t:=by
 cases d with
 |none=>simp[St.put]
 |some d=>simp only[St.put,St.get,S8,Option.some.injEq]
@[simp] theorem St.look_put (σ:St) (d:Option Nat) (v:SV) (k:Key):(σ.put d v).look k=σ.look k:=by cases d<;>rfl
@[simp] theorem Zy (σ:St) (d:Option Nat) (v:SV):(σ.put d v).look=σ.look:=funext fun k=>σ.look_put d v k
theorem Ajk(a:Act)(d:Option Nat)(v:Value)(t:Nat)(hd: ∀i,d=some i→i<a.tmps.size):
  (a.put d v).tmps.getD t undef=if d=some t then v else a.tmps.getD t undef:=by
 cases d with
 |none=>simp[Act.put]
 |some d=>
  have:=hd d rfl
  by_cases h:d=t
  ·subst h;simp[Act.put,this]
  ·simp[Act.put,h,Array.getElem?_setIfInBounds_ne h]
section
variable {C:Ctx} {β:Key→Blk} {σ:St} {a:Act} {w:World}
theorem RR.gok(h:RR C β σ a w):GOK w (okB C β σ.look w):=
 Nv h.gw.g (fun b hb hlt=>by
  obtain⟨h1,h2⟩:=h.gw.lo b hb
  refine⟨h.frame b h1 h2,Nat.lt_of_lt_of_le h1 h.size,fun k o hk he=>?_,fun _=> .inl hb⟩
  rcases h.lo k o b hk he with q|q
  ·omega
  ·exact h2 q)
theorem RR.put(h:RR C β σ a w)(d:Option Nat)(x:SV)(v:Value)(hd: ∀i,d=some i→i<C.nt)(hs:Br w (okB C β σ.look w) β σ.look x v):RR C β (σ.put d x) (a.put d v) w:=by
 refine⟨?_,?_,?_,?_,?_,?_,?_,h.size,h.frame,h.quiet,h.gw⟩
 ·cases d<;>simpa [Act.put] using h.tsz
 ·cases d<;>simpa [Act.put] using h.dfs
 ·simpa using h.inj
 ·simpa using h.objs
 ·simpa using h.lo
 ·simpa using h.ext2
 ·intro t
  rw[Ajk a d v t (by rw[h.tsz];exact hd),D6,Zy]
  split
  ·exact hs
  ·exact h.slots t
theorem RR.skip(h:RR C β σ a w)(d:Option Nat)(v:Value)(hd: ∀i,d=some i→i<C.nt):RR C β (σ.put d .dead) (a.put d v) w:=h.put d .dead v hd (.dead v)
theorem Uw{p:Nat→Prop}{w w':World}(h:w'.heap=w.heap):Iy p w w':=by
 intro b _ off u hu
 simpa [World.cell?,h] using hu
theorem Ai2{lk:Key→Option Ba}{w w':World}(h:w'.heap=w.heap):okB C β lk w'=okB C β lk w:=by funext b;simp[okB,h]
theorem RR.heap(h:RR C β σ a w){w':World}(hw:w'.heap=w.heap)(hq:C8 w w'):RR C β σ a w':=by
 refine⟨h.tsz,h.dfs,h.inj,?_,h.lo,h.ext2,?_,?_,?_,h.quiet.trans hq,h.gw⟩
 ·intro k o hk
  rw[Ai2 hw]
  exact(h.objs k o hk).mono (Uw hw) (fun _ h=>h) rfl (fun _ _=>by rw[hw]) (fun k o _ hk=>⟨o,hk,o.sim_refl,rfl⟩)
 ·intro t
  rw[Ai2 hw]
  exact(h.slots t).mono (Uw hw) (fun _ h=>h) (fun k o hk=>⟨o,hk,o.sim_refl,rfl⟩)
 ·rw[hw];exact h.size
 ·rw[hw];exact h.frame
theorem Gz.lt{w:World}{ok:Nat→Prop}{lk:Key→Option Ba}{o:Ba}{B:Blk}(h:Gz w ok β lk o B){b:Nat}(hb:B.b=some b):b<w.heap.size:=by
 cases o with
 |box cs=>obtain⟨b',arr,T,h0,h1,_⟩:=h;rw[hb] at h0;cases h0;exact(Array.getElem?_eq_some_iff.1 h1).1
 |row sz xs=>
  rcases h with h|⟨b',arr,T,h0,h1,_⟩
  ·rw[hb] at h;cases h.1
  ·rw[hb] at h0;cases h0;exact(Array.getElem?_eq_some_iff.1 h1).1
 |map kk es=>obtain⟨b',ents,clock,h0,h1,_⟩:=h;rw[hb] at h0;cases h0;exact(Array.getElem?_eq_some_iff.1 h1).1
theorem RR.blk_lt(h:RR C β σ a w){k:Key}{o:Ba}(hk:σ.look k=some o){b:Nat}(hb:(β k).b=some b):b<w.heap.size:=(h.objs k o hk).lt hb
theorem RR.slots_of(h:RR C β σ a w){σ':St}(hp:σ'.look=σ.look)(hs: ∀t,Br w (okB C β σ.look w) β σ.look (σ'.get t) (a.tmps.getD t undef)):RR C β σ' a w:=by
 refine⟨h.tsz,h.dfs,?_,?_,?_,?_,?_,h.size,h.frame,h.quiet,h.gw⟩<;>rw[hp]
 ·exact h.inj
 ·exact h.objs
 ·exact h.lo
 ·exact h.ext2
 ·exact hs
theorem St.get_forget(σ:St)(keep:List Nat)(t:Nat):(σ.forget keep).get t=σ.get t∨(σ.forget keep).get t= .dead:=by
 unfold St.forget St.get
 simp only
 induction keep with
 |nil=>right;rfl
 |cons k ks ih=>
  simp only[St.forget.go,S8]
  by_cases hk:k=t
  ·subst hk;left;simp
  ·simpa [hk] using ih
theorem RR.forget(h:RR C β σ a w)(keep:List Nat):RR C β (σ.forget keep) a w:=by
 refine h.slots_of rfl (fun t=>?_)
 rcases σ.get_forget keep t with e|e
 ·rw[e];exact h.slots t
 ·rw[e];exact .dead _
end
end Go.Av
end
section
namespace Go.Av
theorem Abr(f:SV→SV)(hf:f .dead= .dead)(l:List (Nat×SV))(t:Nat):Kh (l.map fun p=>(p.1,f p.2)) t=f (Kh l t):=by
 induction l with
 |nil=>simp[Kh,hf]
 |cons p l ih=>
  obtain⟨i,v⟩:=p
  simp only[List.map_cons,Kh,ih]
  cases i==t<;>rfl
theorem W8(f:Ba→Ba)(k:Key)(l:List (Key×Ba))(k':Key):
  Bu ((l.filter fun p=>decide (p.1≠k)).map fun p=>(p.1,f p.2)) k'=if k'=k then none else(Bu l k').map f:=by
 induction l with
 |nil=>simp[Bu]
 |cons p l ih=>
  obtain⟨i,v⟩:=p
  by_cases hi:i=k
  ·subst hi
   simp only[List.filter_cons,ne_eq,not_true_eq_false,decide_false,Bool.false_eq_true,if_false,ih,Bu]
   by_cases hk:k'=i
   ·simp[hk]
   ·have: ¬i=k':=fun e=>hk e.symm
    simp[hk,this]
  ·simp only[List.filter_cons,ne_eq,hi,not_false_eq_true,decide_true,if_true,List.map_cons,Bu,ih]
   by_cases hk:i=k'
   ·subst hk;simp[hi]
   ·simp[hk]
theorem He(σ:St)(k:Key)(t:Nat):(σ.kill k).get t=(σ.get t).kill k:=Abr (SV.kill k) rfl σ.sl t
theorem Dx(σ:St)(k k':Key):(σ.kill k).look k'=if k'=k then none else(σ.look k').map (Ba.kill k):=W8 (Ba.kill k) k σ.hp k'
theorem N4(k:Key)(x:SV):x.kill k= .dead∨(x.kill k=x∧x.names k=false):=by
 unfold SV.kill
 cases h:x.names k<;>simp
theorem Ba.kill_sim(k:Key)(o:Ba):o.sim (o.kill k):=by
 cases o<;>simp[Ba.kill,Ba.sim]
section
variable {C:Ctx} {β:Key→Blk} {σ:St} {a:Act} {w:World}
theorem Br.kill{ok ok':Nat→Prop}(ho: ∀b,ok b→ok' b)(k:Key){x:SV}{v:Value}(h:Br w ok β σ.look x v):Br w ok' β (σ.kill k).look (x.kill k) v:=by
 rcases N4 k x with e|⟨e,hn⟩
 ·rw[e];exact .dead v
 ·rw[e]
  refine h.mono' (fun b _ off u hu=>hu) ho (fun k' o hk' hl=>?_)
  have hne:k'≠k:=fun e=>by subst e;rw[hn] at hk';cases hk'
  exact⟨o.kill k,by rw[Dx];simp[hne,hl],o.kill_sim k,rfl⟩
theorem RR.kill(h:RR C β σ a w)(k:Key):RR C β (σ.kill k) a w:=by
 have hsome: ∀k' o,(σ.kill k).look k'=some o→k'≠k∧ ∃o',σ.look k'=some o'∧o=o'.kill k:=by
  intro k' o ho
  rw[Dx] at ho
  by_cases e:k'=k
  ·simp[e] at ho
  ·simp only[e,if_false,Option.map_eq_some_iff] at ho
   obtain⟨o',h1,h2⟩:=ho
   exact⟨e,o',h1,h2.symm⟩
 have hok: ∀b,okB C β σ.look w b→okB C β (σ.kill k).look w b:=by
  intro b hb
  refine⟨hb.1,fun k' o ho=>?_,hb.2.2⟩
  obtain⟨_,o',h1,_⟩:=hsome k' o ho
  exact hb.2.1 k' o' h1
 have hfor: ∀k' o,k'≠k→σ.look k'=some o→(σ.kill k).look k'=some (o.kill k):=fun k' o hne ho=>by rw[Dx,if_neg hne,ho];rfl
 refine⟨h.tsz,h.dfs,?_,?_,?_,?_,?_,h.size,h.frame,h.quiet,h.gw⟩
 ·intro k1 k2 o1 o2 b h1 h2 e1 e2
  obtain⟨_,o1',h1',_⟩:=hsome k1 o1 h1
  obtain⟨_,o2',h2',_⟩:=hsome k2 o2 h2
  exact h.inj k1 k2 o1' o2' b h1' h2' e1 e2
 ·intro k' o ho
  obtain⟨hne,o',h1,rfl⟩:=hsome k' o ho
  have:=h.objs k' o' h1
  cases o' with
  |box cs=>
   obtain⟨b,arr,T,e0,e1,e2,e3,e4⟩:=this
   refine⟨b,arr,T,e0,e1,by simpa using e2,e3,fun j x u hx hu=>?_⟩
   simp only[List.getElem?_map,Option.map_eq_some_iff] at hx
   obtain⟨x',hx',rfl⟩:=hx
   exact(e4 j x' u hx' hu).kill hok k
  |row sz xs=>
   rcases this with e|⟨b,arr,T,e0,e1,e2,e3,e4,e5⟩
   ·exact .inl e
   ·refine .inr ⟨b,arr,T,e0,e1,e2,e3,e4,fun i j x y hx hy=>?_⟩
    obtain⟨u,hu,hl⟩:=e5 i j x y hx hy
    exact⟨u,hu,hl.mono (fun b _ off u hu=>hu) hok⟩
  |map kk es=>
   obtain⟨b,ents,clock,e0,e1,e2⟩:=this
   exact⟨b,ents,clock,e0,e1,e2.mono (fun b _ off u hu=>hu) hok⟩
 ·intro k' o b ho hb
  obtain⟨_,o',h1,_⟩:=hsome k' o ho
  exact h.lo k' o' b h1 hb
 ·intro i o ho
  obtain⟨_,o',h1,rfl⟩:=hsome _ o ho
  obtain⟨o0,g1,g2,g3⟩:=h.ext2 i o' h1
  exact⟨o0,g1,Cg g2 (Ba.kill_sim k _),g3⟩
 ·intro t
  rw[He]
  exact(h.slots t).kill hok k
theorem RR.killAll(ks:List Key): ∀{σ:St},RR C β σ a w→RR C β (σ.killAll ks) a w:=by
 induction ks with
 |nil=>intro σ h;exact h
 |cons k ks ih=>intro σ h;exact ih (h.kill k)
theorem Ab4(σ:St)(k:Key):(σ.kill k).look k=none:=by rw[Dx];simp
theorem M4(ks:List Key): ∀(σ:St) (k:Key),σ.look k=none→(σ.killAll ks).look k=none:=by
 induction ks with
 |nil=>intro σ k h;exact h
 |cons k' ks ih=>intro σ k h;exact ih _ k (by rw[Dx];split<;>simp[h])
theorem Jt(ks:List Key): ∀(σ:St) (k:Key),k∈ks→(σ.killAll ks).look k=none:=by
 induction ks with
 |nil=>intro σ k h;simp at h
 |cons k' ks ih=>
  intro σ k h
  by_cases e:k∈ks
  ·exact ih _ k e
  ·simp[e] at h;subst h;exact M4 ks _ _ (Ab4 σ k)
theorem Fy(l l':List (Key×Ba))(k:Key):Bu (l++l') k=(Bu l k).or (Bu l' k):=by
 induction l with
 |nil=>simp[Bu]
 |cons p l ih=>
  obtain⟨i,v⟩:=p
  simp only[List.cons_append,Bu,ih]
  split<;>simp
theorem St.look_ins(σ:St)(k:Key)(o:Ba)(k':Key):(σ.insAll [(k,o)]).look k'=if k=k' then some o else σ.look k':=by
 simp[St.insAll,St.look,Bu]
@[simp] theorem Fz (σ:St) (l:List (Key×Ba)) (t:Nat):(σ.insAll l).get t=σ.get t:=rfl
theorem Aga(w:World)(o:Obj){p:Addr}(h:p.block<w.heap.size):(w.alloc o).cell? p=w.cell? p:=by
 simp only[World.cell?,heap_alloc_old w o p.block h]
theorem F3(o:Obj):Iy (okB C β σ.look w) w (w.alloc o):=by
 intro b hb off u hu
 rw[Aga w o (p:=⟨b,off,none⟩) hb.1]
 exact hu
theorem RR.new(h:RR C β σ a w)(k:Key)(hk: ∀i,k≠ .ext i)(hn:σ.look k=none)(o:Ba)(c:Nat)(ob:Obj)
  (hobj: ∀β':Key→Blk,(∀k',k'≠k→β' k'=β k')→β' k=⟨some w.heap.size,c⟩→(∀b,okB C β σ.look w b→okB C β' (σ.insAll [(k,o)]).look (w.alloc ob) b)→Gz (w.alloc ob) (okB C β' (σ.insAll [(k,o)]).look (w.alloc ob)) β' (σ.insAll [(k,o)]).look o ⟨some w.heap.size,c⟩)(hq:C8 w (w.alloc ob):=by exact C8.alloc _ _):
  ∃β',(∀k',k'≠k→β' k'=β k')∧β' k=⟨some w.heap.size,c⟩∧RR C β' (σ.insAll [(k,o)]) a (w.alloc ob)∧
   (∀b,okB C β σ.look w b→okB C β' (σ.insAll [(k,o)]).look (w.alloc ob) b)∧ ∀k' o',σ.look k'=some o'→(σ.insAll [(k,o)]).look k'=some o':=by
 refine⟨fun k'=>if k'=k then⟨some w.heap.size,c⟩ else β k',fun k' hne=>by simp[hne],by simp,?_⟩
 generalize hβ:(fun k'=>if k'=k then(⟨some w.heap.size,c⟩:Blk) else β k')=β'
 have b1: ∀k',k'≠k→β' k'=β k':=fun k' hne=>by rw[←hβ];simp[hne]
 have b2:β' k=⟨some w.heap.size,c⟩:=by rw[←hβ];simp
 have hl: ∀k',k'≠k→(σ.insAll [(k,o)]).look k'=σ.look k':=fun k' hne=>by rw[St.look_ins,if_neg (fun e=>hne (Eq.symm e))]
 have hlk:(σ.insAll [(k,o)]).look k=some o:=by rw[St.look_ins];simp
 have hkeep: ∀k' o',σ.look k'=some o'→(σ.insAll [(k,o)]).look k'=some o':=fun k' o' h'=>by
  rw[hl k' (fun e=>by subst e;rw[hn] at h';cases h')];exact h'
 have hne: ∀k' o',σ.look k'=some o'→k'≠k:=fun k' o' h' e=>by subst e;rw[hn] at h';cases h'
 have hok: ∀b,okB C β σ.look w b→okB C β' (σ.insAll [(k,o)]).look (w.alloc ob) b:=by
  intro b hb
  refine⟨by have:=hb.1;rw[World.size_alloc];omega,fun k' o' h'=>?_,hb.2.2⟩
  by_cases e:k'=k
  ·subst e;rw[b2];exact fun e=>by have:=hb.1;simp at e;omega
  ·rw[hl k' e] at h';rw[b1 k' e];exact hb.2.1 k' o' h'
 refine⟨?_,hok,hkeep⟩
 refine⟨h.tsz,h.dfs,?_,?_,?_,?_,?_,?_,?_,h.quiet.trans hq,h.gw⟩
 ·intro k1 k2 o1 o2 b h1 h2 e1 e2
  by_cases q1:k1=k
  ·by_cases q2:k2=k
   ·rw[q1,q2]
   ·rw[hl k2 q2] at h2;rw[q1,b2] at e1;rw[b1 k2 q2] at e2;have:=h.blk_lt h2 e2;simp at e1;omega
  ·by_cases q2:k2=k
   ·rw[hl k1 q1] at h1;rw[q2,b2] at e2;rw[b1 k1 q1] at e1;have:=h.blk_lt h1 e1;simp at e2;omega
   ·rw[hl k1 q1] at h1;rw[hl k2 q2] at h2;rw[b1 k1 q1] at e1;rw[b1 k2 q2] at e2;exact h.inj k1 k2 o1 o2 b h1 h2 e1 e2
 ·intro k' o' h'
  by_cases e:k'=k
  ·subst e;rw[hlk] at h';cases h';rw[b2];exact hobj β' b1 b2 hok
  ·rw[hl k' e] at h'
   exact(h.objs k' o' h').mono (F3 ob) hok (b1 k' e) (fun b hb=>heap_alloc_old w ob _ (h.blk_lt h' hb)) (fun k2 o2 _ h2=>⟨o2,hkeep k2 o2 h2,o2.sim_refl,b1 k2 (hne k2 o2 h2)⟩)
 ·intro k' o' b h' hx
  by_cases e:k'=k
  ·subst e;rw[b2] at hx;simp at hx;subst hx;exact .inl h.size
  ·rw[hl k' e] at h';rw[b1 k' e] at hx;exact h.lo k' o' b h' hx
 ·intro i o' h'
  have e:Key.ext i≠k:=fun e=>hk i e.symm
  rw[hl _ e] at h';rw[b1 _ e];exact h.ext2 i o' h'
 ·intro t
  exact(h.slots t).mono (F3 ob) hok (fun k2 o2 h2=>⟨o2,hkeep k2 o2 h2,o2.sim_refl,b1 k2 (hne k2 o2 h2)⟩)
 ·have:=h.size;rw[World.size_alloc];omega
 ·intro b hb hx
  have:=h.frame b hb hx
  have hs:=h.size
  rw[heap_alloc_old w ob b (by omega)]
  exact this
end
end Go.Av
end
section
namespace Go.Av
def Pr:Value→PV→Bool
 | .int k n,.int k' n'=>decide (k=k')&&n==n'
 | .bool b,.bool b'=>b==b'
 | .string s,.str l=>s.data.toList==l
 | .nilIface,.nilI=>true
 | .nilFunc,.nilFn=>true
 |_,_=>false
def Bi:Operand→Opd→Bool
 | .tmp t,.tmp t'=>t==t'
 | .const v,.cst x=>Pr v x
 | .const (.slice none 0 0),.nils=>true
 | .func f,.cst (.fn f')=>f==f'
 |_,_=>false
theorem Mv{w:World}{ok:Nat→Prop}{v:Value}{x:PV}(h:Pr v x=true):Cn w ok x v:=by
 cases v<;>cases x<;>simp only[Pr,Bool.and_eq_true,decide_eq_true_eq,beq_iff_eq] at h<;>try (cases h;done)
 ·subst h;exact .bool _
 ·obtain⟨rfl,rfl⟩:=h;exact .int _ _
 ·rename_i s l;subst h;exact .str _
 ·exact .nilFn
 ·exact .nilI
section
variable {C:Ctx} {β:Key→Blk} {σ:St} {a:Act} {w:World}
theorem RR.ev(h:RR C β σ a w){x:Operand}{x':Opd}(hx:Bi x x'=true):Br w (okB C β σ.look w) β σ.look (σ.ev x') (a.eval x):=by
 cases x with
 |tmp t=>
  cases x' with
  |tmp t'=>simp only[Bi,beq_iff_eq] at hx;subst hx;exact h.slots t
  |cst y=>simp[Bi] at hx
  |nils=>simp[Bi] at hx
 |const v=>
  cases x' with
  |tmp t'=>cases v<;>simp[Bi] at hx
  |cst y=>exact .pv _ _ (Mv (v:=v) (by simpa [Bi] using hx))
  |nils=>
   cases v<;>simp only[Bi] at hx<;>try (cases hx;done)
   rename_i ad n c
   cases ad<;>(try (simp at hx;done))
   cases n<;>(try (simp at hx;done))
   cases c<;>(try (simp at hx;done))
   exact .nils _
 |global g=>cases x'<;>simp[Bi] at hx
 |func f=>
  cases x' with
  |tmp t'=>simp[Bi] at hx
  |cst y=>
   cases y<;>simp only[Bi,beq_iff_eq] at hx<;>try (cases hx;done)
   subst hx
   exact .pv _ _ (.fn f)
  |nils=>simp[Bi] at hx
end
theorem Ajn{P:Program}{o:Oper}{a:Act}{w:World}{K:Act→World→Prop}{Q:Exit→Act→World→Prop}{v:Value}
  (h:(execOp a.eval o).run P w= .ok (.value v) w)(hK:K (a.put o.dst v) w):o.wp P a w K Q:=by
 simp only[Oper.wp,h,Oper.upon]
 exact hK
theorem Kp{P:Program}{o:Oper}{a:Act}{w w':World}{K:Act→World→Prop}{Q:Exit→Act→World→Prop}{v:Value}
  (h:(execOp a.eval o).run P w= .ok (.value v) w')(hK:K (a.put o.dst v) w'):o.wp P a w K Q:=by
 simp only[Oper.wp,h,Oper.upon]
 exact hK
theorem X3{P:Program}{o:Oper}{a:Act}{w w':World}{K:Act→World→Prop}{Q:Exit→Act→World→Prop}
  (h:(execOp a.eval o).run P w= .ok .skip w')(hK:K (a.put o.dst undef) w'):o.wp P a w K Q:=by
 simp only[Oper.wp,h,Oper.upon]
 exact hK
def Ad4:TypeDesc→Bool
 | .struct _| .array _ _=>true
 |_=>false
def Ui(P:Program)(t:TypeId):Option (Bool×Nat):=
 match P.underlying t,P.info? t with
 |some d,some i=>some (Ad4 d,i.size)
 |_,_=>none
theorem Zo{P:Program}{t:TypeId}{d:TypeDesc}(h:P.underlying t=some d)(w:World):(isAgg t).run P w= .ok (Ad4 d) w:=by
 simp only[isAgg,Sem.run_bind,run_underlying h,Result.andThen_ok]
 cases d<;>rfl
theorem Jj{P:Program}{t:TypeId}{i:TypeInfo}(h:P.info? t=some i)(w:World):(sizeOf t).run P w= .ok i.size w:=by
 simp[sizeOf,typeInfo,h]
theorem Yu{P:Program}{t:TypeId}{b:Bool}{n:Nat}(h:Ui P t=some (b,n)): ∃d i,P.underlying t=some d∧P.info? t=some i∧Ad4 d=b∧i.size=n:=by
 unfold Ui at h
 cases hu:P.underlying t with
 |none=>simp[hu] at h
 |some d=>
  cases hi:P.info? t with
  |none=>simp[hu,hi] at h
  |some i=>simp[hu,hi] at h;exact⟨d,i,rfl,rfl,h.1,h.2⟩
def Kz(w:World)(b o:Nat)(us:List Value):Prop:= ∀j u,us[j]? =some u→w.cell? ⟨b,o+j,none⟩=some u
theorem K3(b o n:Nat):(⟨b,o,none⟩:Addr).add n=⟨b,o+n,none⟩:=by unfold Addr.add;split<;>simp_all
def Mo(agg:Bool)(us:List Value):Option Value:=
 bif agg then some (.agg us.toArray) else match us with
  |[u]=>some u
  |_=>none
theorem Tt{P:Program}{t:TypeId}{agg:Bool}{us:List Value}{v:Value}(h:Ui P t=some (agg,us.length)){w:World}{b o:Nat}
  (hc:Kz w b o us)(hv:Mo agg us=some v):(loadVar t ⟨b,o,none⟩).run P w= .ok v w:=by
 obtain⟨d,i,h1,h2,h3,h4⟩:=Yu h
 have hl:=run_loadCells_list (P:=P) w ⟨b,o,none⟩ us (fun j u hu=>by rw[K3];exact hc j u hu)
 simp only[loadVar,Sem.run_bind,Zo h1,Result.andThen_ok,h3]
 cases agg with
 |true=>
  simp only[Mo,cond_true,Option.some.injEq] at hv
  simp only[if_true,Sem.run_bind,Jj h2,Result.andThen_ok,h4,hl,Sem.run_pure,hv]
 |false=>
  simp only[Mo,cond_false] at hv
  cases us with
  |nil=>cases hv
  |cons u r=>
   cases r with
   |cons _ _=>cases hv
   |nil=>
    simp at hv;subst hv
    have:=hc 0 u rfl
    simp only[Nat.add_zero] at this
    simp[this]
def Cz(w:World)(ok:Nat→Prop)(β:Key→Blk)(lk:Key→Option Ba)(cs:List SV)(us:List Value):Prop:=
 cs.length=us.length∧(∀u∈us,u.oneCell'=true)∧ ∀(j:Nat) (x:SV) (u:Value),cs[j]? =some x→us[j]? =some u→Br w ok β lk x u
theorem Ur{w:World}{ok:Nat→Prop}{β:Key→Blk}{lk:Key→Option Ba}: ∀{cs:List SV} {us:List Value} {xs:List PV},SV.ofCells.pures cs=some xs→Cz w ok β lk cs us→
  xs.length=us.length∧ ∀(j:Nat) (x:PV) (u:Value),xs[j]? =some x→us[j]? =some u→Cn w ok x u
 |[],us,xs,h,hl=>by
  simp[SV.ofCells.pures] at h;subst h
  exact⟨by simpa using hl.1,by simp⟩
 | .pv x::cs,us,xs,h,hl=>by
  simp only[SV.ofCells.pures,Option.map_eq_some_iff] at h
  obtain⟨xs',h1,rfl⟩:=h
  cases us with
  |nil=>have:=hl.1;simp at this
  |cons u us=>
   have ih:=Ur (us:=us) h1 ⟨by simpa using hl.1,fun v hv=>hl.2.1 v (by simp[hv]),fun j y v hy hv=>hl.2.2 (j+1) y v (by simpa using hy) (by simpa using hv)⟩
   refine⟨by simp[ih.1],fun j y v hy hv=>?_⟩
   cases j with
   |zero=>
    simp at hy hv;subst hy;subst hv
    have:=hl.2.2 0 (.pv x) u (by simp) (by simp)
    cases this with|pv _ _ h=>exact h
   |succ j=>exact ih.2 j y v (by simpa using hy) (by simpa using hv)
 | .nils::_,_,_,h,_=>by simp[SV.ofCells.pures] at h
 | .ptr _ _::_,_,_,h,_=>by simp[SV.ofCells.pures] at h
 | .own _::_,_,_,h,_=>by simp[SV.ofCells.pures] at h
 | .mp _::_,_,_,h,_=>by simp[SV.ofCells.pures] at h
 | .iown _ _ _::_,_,_,h,_=>by simp[SV.ofCells.pures] at h
 | .ipv _ _::_,_,_,h,_=>by simp[SV.ofCells.pures] at h
 | .agg _::_,_,_,h,_=>by simp[SV.ofCells.pures] at h
 | .tup _::_,_,_,h,_=>by simp[SV.ofCells.pures] at h
 | .fn _ _::_,_,_,h,_=>by simp[SV.ofCells.pures] at h
 | .dead::_,_,_,h,_=>by simp[SV.ofCells.pures] at h
theorem Ii{w:World}{ok:Nat→Prop}{x:PV}{u:Value}(h:Cn w ok x u)(hu:u.oneCell'=true):x.one=true:=by
 cases h<;>first|rfl|(simp[Value.oneCell'] at hu)
theorem Jh{w:World}{ok:Nat→Prop}{β:Key→Blk}{lk:Key→Option Ba}{agg:Bool}{cs:List SV}{us:List Value}{v:SV}
  (h:SV.ofCells agg cs=some v)(hl:Cz w ok β lk cs us): ∃u,Mo agg us=some u∧Br w ok β lk v u:=by
 cases agg with
 |true=>
  refine⟨_,rfl,?_⟩
  simp only[SV.ofCells,cond_true] at h
  cases hp:SV.ofCells.pures cs with
  |none=>rw[hp] at h;simp at h;subst h;exact .agg cs us hl.1 hl.2.2 hl.2.1
  |some xs=>
   rw[hp] at h;simp at h;subst h
   obtain⟨h1,h2⟩:=Ur hp hl
   refine .pv _ _ (.agg xs us h1 (fun x hx=>?_) h2)
   obtain⟨j,hj⟩:=List.mem_iff_getElem?.1 hx
   have hjl:j<us.length:=by rw[←h1];exact(List.getElem?_eq_some_iff.1 hj).1
   have hu:us[j]? =some us[j]:=by simp[hjl]
   exact Ii (h2 j x _ hj hu) (hl.2.1 _ (List.getElem_mem hjl))
 |false=>
  simp only[SV.ofCells,cond_false] at h
  cases cs with
  |nil=>cases h
  |cons c r=>
   cases r with
   |cons _ _=>cases h
   |nil=>
    simp at h;subst h
    have:=hl.1
    match us,this,hl with
    |[u],_,hl=>exact⟨u,rfl,hl.2.2 0 c u (by simp) (by simp)⟩
theorem Cz.range{w:World}{ok:Nat→Prop}{β:Key→Blk}{lk:Key→Option Ba}{cs:List SV}{us:List Value}(h:Cz w ok β lk cs us)(off n:Nat):
  Cz w ok β lk ((cs.drop off).take n) ((us.drop off).take n):=by
 refine⟨by simp[h.1],fun u hu=>h.2.1 u (List.mem_of_mem_drop (List.mem_of_mem_take hu)),fun j x u hx hu=>?_⟩
 simp only[List.getElem?_take,List.getElem?_drop] at hx hu
 by_cases hj:j<n
 ·simp only[hj,if_true] at hx hu;exact h.2.2 _ _ _ hx hu
 ·simp[hj] at hx
theorem Cz.pv{w:World}{ok:Nat→Prop}{β:Key→Blk}{lk:Key→Option Ba}{xs:List PV}{us:List Value}(hl:xs.length=us.length)(h1: ∀x∈xs,x.one=true)
  (h: ∀(j:Nat) (x:PV) (u:Value),xs[j]? =some x→us[j]? =some u→Cn w ok x u):Cz w ok β lk (xs.map .pv) us:=by
 refine⟨by simpa using hl,fun u hu=>?_,fun j x u hx hu=>?_⟩
 ·obtain⟨j,hj⟩:=List.mem_iff_getElem?.1 hu
  have hjl:j<xs.length:=by rw[hl];exact(List.getElem?_eq_some_iff.1 hj).1
  exact(h j _ u (by simp[hjl]) hj).oneCell (h1 _ (List.getElem_mem hjl))
 ·simp only[List.getElem?_map,Option.map_eq_some_iff] at hx
  obtain⟨y,hy,rfl⟩:=hx
  exact .pv _ _ (h j y u hy hu)
end Go.Av
end
section
namespace Go.Av
section
variable {P:Program} {C:Ctx} {β:Key→Blk} {σ:St} {a:Act} {w:World}
theorem Kz.range{w:World}{b o:Nat}{us:List Value}(h:Kz w b o us)(off n:Nat):Kz w b (o+off) ((us.drop off).take n):=by
 intro j u hu
 simp only[List.getElem?_take,List.getElem?_drop] at hu
 by_cases hj:j<n
 ·simp only[hj,if_true] at hu
  rw[show o+off+j=o+(off+j) by omega]
  exact h _ _ hu
 ·simp[hj] at hu
def J8(σ:St)(agg:Bool)(n:Nat):SV→Option SV
 | .ptr k off=>match σ.look k with
  |some (.box cs)=>if off+n≤cs.length then SV.ofCells agg ((cs.drop off).take n) else none
  |_=>none
 | .ipv e off=>if off+n≤e.cells.length then SV.ofCells agg (((e.cells.drop off).take n).map .pv) else none
 | .iown k i off=>match σ.look k with
  |some (.row _ xs)=>match xs[i]? with
   |some e=>if off+n≤e.cells.length then SV.ofCells agg (((e.cells.drop off).take n).map .pv) else none
   |none=>none
  |_=>none
 |_=>none
theorem Aig(h:RR C β σ a w){agg:Bool}{n:Nat}{x v:SV}{xv:Value}(hx:Br w (okB C β σ.look w) β σ.look x xv)(hl:J8 σ agg n x=some v):
  ∃b o us,xv= .pointer (some ⟨b,o,none⟩)∧us.length=n∧Kz w b o us∧ ∃u,Mo agg us=some u∧Br w (okB C β σ.look w) β σ.look v u:=by
 cases x with
 |ptr k off=>
  cases hx with
  |ptr _ _ cs bk hk hbk=>
   simp only[J8,hk] at hl
   split at hl
   ·rename_i hle
    obtain⟨bk',arr,T,h0,h1,h2,h3,h4⟩:=h.objs k _ hk
    rw[hbk] at h0;cases h0
    have hcl:Cz w (okB C β σ.look w) β σ.look cs arr.toList:=⟨by simpa using h2.symm,fun u hu=>h3 u (by simpa using hu),fun j y u hy hu=>h4 j y u hy (by simpa using hu)⟩
    obtain⟨u,hu,hs⟩:=Jh hl (hcl.range off n)
    refine⟨_,_,_,rfl,?_,?_,u,hu,hs⟩
    ·simp only[List.length_take,List.length_drop,Array.length_toList];omega
    ·have hc:Kz w bk 0 arr.toList:=by
      intro j u hu
      simp only[World.cell?,h1,Nat.zero_add]
      simpa using hu
     simpa using hc.range off n
   ·cases hl
 |ipv e off=>
  cases hx with
  |ipv _ _ b o us hb h1 hat hlie=>
   simp only[J8] at hl
   split at hl
   ·rename_i hle
    have hcl:Cz w (okB C β σ.look w) β σ.look (e.cells.map .pv) ((List.range e.cells.length).map us):=by
     refine Cz.pv (by simp) h1 (fun j y u hy hu=>?_)
     have hj:=(List.getElem?_eq_some_iff.1 hy).1
     simp only[List.getElem?_map,List.getElem?_range hj,Option.map_some,Option.some.injEq] at hu
     subst hu
     exact hlie j y hy
    have hr:=hcl.range off n
    rw[←List.map_drop,←List.map_take] at hr
    obtain⟨u,hu,hs⟩:=Jh hl hr
    refine⟨b,o+off,_,rfl,?_,?_,u,hu,hs⟩
    ·simp only[List.length_take,List.length_drop,List.length_map,List.length_range];omega
    ·have hc:Kz w b o ((List.range e.cells.length).map us):=by
      intro j u hu
      simp only[List.getElem?_map,Option.map_eq_some_iff] at hu
      obtain⟨j',hj',rfl⟩:=hu
      have:=List.getElem?_eq_some_iff.1 hj'
      obtain⟨hlt,rfl⟩:=this
      simp only[List.getElem_range]
      exact hat j (by simpa using hlt)
     exact hc.range off n
   ·cases hl
 |iown k i off=>
  cases hx with
  |iown _ _ _ sz xs bk hk hbk hi=>
   simp only[J8,hk] at hl
   cases he:xs[i]? with
   |none=>rw[he] at hl;cases hl
   |some e=>
    rw[he] at hl
    simp only at hl
    split at hl
    ·rename_i hle
     obtain⟨bk',arr,T,h0,h1,h2,h3,h4,h5⟩:=(h.objs k _ hk).resolve_left (fun e=>by rw[hbk] at e;cases e.1)
     rw[hbk] at h0;cases h0
     have hem:=h4 e (List.mem_of_getElem? he)
     let us:Nat→Value:=fun j=>arr.getD (i*sz+j) undef
     have hus: ∀(j:Nat) (y:PV),e.cells[j]? =some y→arr[i*sz+j]? =some (us j)∧Cn w (okB C β σ.look w) y (us j):=by
      intro j y hy
      obtain⟨u,hu,hl⟩:=h5 i j e y he hy
      have:us j=u:=by obtain⟨hlt,rfl⟩:=Array.getElem?_eq_some_iff.1 hu;simp[us,Array.getD,hlt]
      rw[this];exact⟨hu,hl⟩
     have hcl:Cz w (okB C β σ.look w) β σ.look (e.cells.map .pv) ((List.range e.cells.length).map us):=by
      refine Cz.pv (by simp) hem.2 (fun j y u hy hu=>?_)
      have hj:=(List.getElem?_eq_some_iff.1 hy).1
      simp only[List.getElem?_map,List.getElem?_range hj,Option.map_some,Option.some.injEq] at hu
      subst hu
      exact(hus j y hy).2
     have hr:=hcl.range off n
     rw[←List.map_drop,←List.map_take] at hr
     obtain⟨u,hu,hs⟩:=Jh hl hr
     refine⟨bk,i*sz+off,_,rfl,?_,?_,u,hu,hs⟩
     ·simp only[List.length_take,List.length_drop,List.length_map,List.length_range];omega
     ·have hc:Kz w bk (i*sz) ((List.range e.cells.length).map us):=by
       intro j u hu
       simp only[List.getElem?_map,Option.map_eq_some_iff] at hu
       obtain⟨j',hj',rfl⟩:=hu
       obtain⟨hlt,rfl⟩:=List.getElem?_eq_some_iff.1 hj'
       simp only[List.getElem_range]
       have hlt':j<e.cells.length:=by simpa using hlt
       have:=(hus j _ (List.getElem?_eq_getElem hlt')).1
       simp only[World.cell?,h1]
       simpa using this
      exact hc.range off n
    ·cases hl
 |pv x=>simp[J8] at hl
 |nils=>simp[J8] at hl
 |own k=>simp[J8] at hl
 |mp k=>simp[J8] at hl
 |agg cs=>simp[J8] at hl
 |tup cs=>simp[J8] at hl
 |fn f cs=>simp[J8] at hl
 |dead=>simp[J8] at hl
theorem Ack(h:RR C β σ a w){t:TypeId}{agg:Bool}{n:Nat}(ht:Ui P t=some (agg,n)){x v:SV}{xv:Value}(hx:Br w (okB C β σ.look w) β σ.look x xv)
  (hl:J8 σ agg n x=some v): ∃u,(Instr.loadAt t xv).run P w= .ok u w∧Br w (okB C β σ.look w) β σ.look v u:=by
 obtain⟨b,o,us,rfl,hn,hc,u,hu,hs⟩:=Aig h hx hl
 subst hn
 exact⟨u,by simp[Instr.loadAt,Instr.sureAddr,Tt ht hc hu],hs⟩
theorem Aab(a b:List UInt8):(⟨a.toArray⟩++⟨b.toArray⟩:ByteArray)=⟨(a++b).toArray⟩:=by
 apply ByteArray.ext
 simp[ByteArray.data_append]
theorem Ac3(bs:ByteArray): ∀(n i:Nat) (r:List UInt8),bs.size-i=n→ByteArray.toList.loop bs i r=r.reverse++bs.data.toList.drop i:=by
 intro n
 induction n with
 |zero=>
  intro i r h
  unfold ByteArray.toList.loop
  have h1: ¬i<bs.size:=by omega
  have h2:bs.data.toList.length≤i:=by
   have:bs.data.toList.length=bs.size:=Array.length_toList
   omega
  simp[h1,List.drop_eq_nil_of_le h2]
 |succ n ih=>
  intro i r h
  unfold ByteArray.toList.loop
  have h1:i<bs.size:=by omega
  rw[if_pos h1,ih (i+1) _ (by omega)]
  have h3:i<bs.data.toList.length:=by rw[Array.length_toList];exact h1
  have h2:bs.data.toList.drop i=bs.get! i::bs.data.toList.drop (i+1):=by
   rw[List.drop_eq_getElem_cons h3]
   congr 1
   simp only[ByteArray.get!,Array.getElem_toList]
   exact(getElem!_pos bs.data i (by simpa using h3)).symm
  rw[h2]
  simp
theorem Oa(a:List UInt8):(⟨a.toArray⟩:ByteArray).toList=a:=by
 have:=Ac3 ⟨a.toArray⟩ _ 0 [] rfl
 simpa [ByteArray.toList] using this
theorem N9(a:List UInt8):(⟨a.toArray⟩:ByteArray).size=a.length:=by simp[ByteArray.size]
theorem Ql{t:TypeId}(ht:P.underlying t=some .bool)(b c:Bool)(w:World):(Op.equal t (.bool b) (.bool c)).run P w= .ok (b==c) w:=by
 have h: ∀d,(Op.equalIn (d+1) t (.bool b) (.bool c)).run P w= .ok (b==c) w:=fun d=>by
  simp only[Op.equalIn,Sem.run_bind,run_underlying ht,Result.andThen_ok,Sem.run_pure]
 exact h 9999
theorem Alv{op:BinOp}{t:TypeId}{x y v:PV}{xv yv:Value}{ok:Nat→Prop}(ht:(op= .eql∨op= .neq)→P.underlying t=some .bool∨ ∀b,x≠ .bool b)
  (hx:Cn w ok x xv)(hy:Cn w ok y yv)(h:Rp op x y=some v): ∃u,(Go.binOp op t xv yv).run P w= .ok u w∧Cn w ok v u:=by
 cases hx<;>cases hy<;>simp only[Rp] at h<;>try (cases h;done)
 ·
  rename_i k m k' n
  cases op
  case shl=>
   simp only[Nk] at h
   split at h
   ·cases h
   ·rename_i hb;simp only[Option.some.injEq] at h;subst h
    exact⟨_,by simp[Go.binOp,Op.shift,hb],.int _ _⟩
  case shr=>
   simp only[Nk] at h
   split at h
   ·cases h
   ·rename_i hb;simp only[Option.some.injEq] at h;subst h
    exact⟨_,by simp[Go.binOp,Op.shift,hb],.int _ _⟩
  all_goals
   dsimp only at h
   split at h<;>try (cases h;done)
   rename_i hk;subst hk
   simp only[Z9] at h
   first
    |(simp only[Option.some.injEq] at h;subst h
      refine⟨_,(by simp only[Go.binOp,ne_eq,not_true_eq_false,if_false];rfl),?_⟩
      constructor)
    |(split at h<;>try (cases h;done)
      rename_i hb;simp only[Option.some.injEq] at h;subst h
      exact⟨_,by simp[Go.binOp,Op.intDiv,hb],.int _ _⟩)
 ·
  rename_i b c
  cases op<;>simp only at h<;>try (cases h;done)
  ·have:=(ht (.inl rfl)).resolve_right (fun h=>h b rfl)
   simp only[Option.some.injEq] at h;subst h
   exact⟨_,by simp only[Go.binOp,Sem.run_bind,Ql this,Result.andThen_ok,Sem.run_pure],.bool _⟩
  ·have:=(ht (.inr rfl)).resolve_right (fun h=>h b rfl)
   simp only[Option.some.injEq] at h;subst h
   exact⟨_,by simp only[Go.binOp,Sem.run_bind,Ql this,Result.andThen_ok,Sem.run_pure],.bool _⟩
 ·
  rename_i s t
  cases op<;>simp only[Aih] at h<;>try (cases h;done)
  case add=>
   split at h
   ·rename_i hb;simp only[Option.some.injEq] at h;subst h
    have: ¬((s.length+t.length:Nat):Int)>IntKind.i64.max:=by simp[IntKind.max,IntKind.signed,IntKind.bits];omega
    refine⟨_,by simp only[Go.binOp,Op.stringOp,N9,if_neg this,Sem.run_pure,Aab],.str _⟩
   ·cases h
  all_goals
   simp only[Option.some.injEq] at h;subst h
   exact⟨_,by simp only[Go.binOp,Op.stringOp,Oa,Sem.run_pure],.bool _⟩
theorem Ag8{op:BinOp}{t:TypeId}{x y:Operand}{xv yv:Value}(hx:xv.oneCell'=true)(hn:xv≠ .nilIface):(eqGuard op t x y xv yv).run P w= .ok () w:=by
 cases op<;>first
  |rfl
  |(cases xv<;>first|rfl|(exact absurd rfl hn)|(simp[Value.oneCell'] at hx;done)|(cases yv<;>rfl))
theorem Axx{op:UnOp}{x v:PV}{xv:Value}{ok:Nat→Prop}(hx:Cn w ok x xv)(h:Al3 op x=some v): ∃u,(Op.unary op xv).run P w= .ok u w∧Cn w ok v u:=by
 cases op<;>cases x<;>simp only[Al3] at h<;>try (cases h;done)
 ·cases hx;simp only[Option.some.injEq] at h;subst h
  exact⟨_,by simp only[Op.unary,Op.intArith,Sem.run_pure],.int _ _⟩
 ·cases hx;simp only[Option.some.injEq] at h;subst h
  exact⟨_,by simp only[Op.unary,Sem.run_pure],.bool _⟩
theorem Alw{s:TypeId}{f off:Nat}{fields:Array Field}{fd:Field}{i:TypeInfo}(hs:P.underlying s=some (.struct fields))(hf:fields[f]? =some fd)(hi:P.info? fd.type=some i)(hz:i.size≠0)
  (ho:fd.offset=off)(b o:Nat):(Instr.fieldAt s (.pointer (some ⟨b,o,none⟩)) f).run P w= .ok (.pointer (some ⟨b,o+off,none⟩)) w:=by
 subst ho
 simp only[Instr.fieldAt,Sem.run_bind,run_underlying hs,Result.andThen_ok,hf,Instr.sureAddr,Sem.run_pure,fieldPlace,Jj hi,if_neg hz,K3]
theorem Alx{t e:TypeId}{sz:Nat}{i:TypeInfo}(ht:P.underlying t=some (.slice e))(hi:P.info? e=some i)(hs:i.size=sz){b:Addr}(hb:b.spot=none)(len cap:Nat)(k:IntKind)(n:Int)(h0:0≤n)(h1:n.toNat<len):
  (Instr.indexAt t (.slice (some b) len cap) (.int k n)).run P w= .ok (.pointer (some ⟨b.block,b.off+n.toNat*sz,none⟩)) w:=by
 subst hs
 obtain⟨bb,bo,bs⟩:=b
 simp at hb;subst hb
 have hc:0≤n∧n<(len:Int):=⟨h0,by omega⟩
 simp only[Instr.indexAt,asIntOf,Sem.run_bind,Sem.run_pure,Result.andThen_ok,run_underlying ht,if_pos hc,Jj hi,K3]
end
end Go.Av
end
section
set_option linter.unusedVariables false
namespace Go.Av
def Dk{α β:Type}(f:α→β→Bool):List α→List β→Bool
 |[],[]=>true
 |x::xs,y::ys=>f x y&&Dk f xs ys
 |_,_=>false
def Hr(f:Operand→Opd→Bool):Option Operand→Option Opd→Bool
 |none,none=>true
 |some x,some y=>f x y
 |_,_=>false
def Bv(P:Program)(C:Ctx)(σ':St)(o:Oper)(a:Act)(w:World):Prop:=
 ∀(K:Act→World→Prop),(∀β' a' w',RR C β' σ' a' w'→K a' w')→ ∀(Q:Exit→Act→World→Prop),o.wp P a w K Q
section
variable {P:Program} {C:Ctx} {β:Key→Blk} {σ:St} {a:Act} {w:World} {o:Oper}
theorem Bv.value(h:RR C β σ a w)(hd: ∀i,o.dst=some i→i<C.nt){x:SV}{v:Value}(hr:(execOp a.eval o).run P w= .ok (.value v) w)(hs:Br w (okB C β σ.look w) β σ.look x v):
  Bv P C ((σ.insAll []).put o.dst x) o a w:=fun _ hK _=>Ajn hr (hK β _ _ (h.put o.dst x v hd hs))
theorem Qy{ok:Nat→Prop}{b:Bool}{v:Value}(h:Cn w ok (.bool b) v):v= .bool b:=by cases h;rfl
theorem Tg{ok:Nat→Prop}{k:IntKind}{n:Int}{v:Value}(h:Cn w ok (.int k n) v):v= .int k n:=by cases h;rfl
theorem Th{ok:Nat→Prop}{s:List UInt8}{v:Value}(h:Cn w ok (.str s) v):v= .string ⟨s.toArray⟩:=by cases h;rfl
theorem Axa{op op':BinOp}(h:(op==op')=true):op=op':=by simpa using h
theorem N1{ok:Nat→Prop}{lk:Key→Option Ba}{x:SV}{v:Value}{k:IntKind}{n:Int}(hx:Br w ok β lk x v)(h:Js x=some (k,n)):v= .int k n:=by
 cases x<;>simp only[Js] at h<;>try (cases h;done)
 rename_i y
 cases y<;>simp only[Option.some.injEq,Prod.mk.injEq] at h<;>try (cases h;done)
 obtain⟨rfl,rfl⟩:=h
 cases hx with|pv _ _ h=>cases h;rfl
theorem Cl{ok:Nat→Prop}{lk:Key→Option Ba}{x:PV}{v:Value}(hx:Br w ok β lk (.pv x) v):Cn w ok x v:=by cases hx;assumption
theorem Zr(h:RR C β σ a w)(hd: ∀i,o.dst=some i→i<C.nt){x:Operand}{x':Opd}(ho:o.op= .move x∨o.op= .assign x)(hx:Bi x x'=true):
  Bv P C ((σ.insAll []).put o.dst (σ.ev x')) o a w:=by
 refine Bv.value h hd (v:=a.eval x) ?_ (h.ev hx)
 rcases ho with ho|ho<;>simp only[execOp,ho]<;>rfl
theorem Aex(h:RR C β σ a w)(hd: ∀i,o.dst=some i→i<C.nt){c x y:Operand}{c' x' y':Opd}(ho:o.op= .pick c x y)(hc:Bi c c'=true)(hx:Bi x x'=true)(hy:Bi y y'=true)
  {t:Bool}(ht:σ.ev c'= .pv (.bool t)):Bv P C ((σ.insAll []).put o.dst (bif t then σ.ev x' else σ.ev y')) o a w:=by
 have hcl:=h.ev hc
 rw[ht] at hcl
 have e:=Qy (Cl hcl)
 refine Bv.value h hd (v:=if t then a.eval x else a.eval y) ?_ ?_
 ·simp only[execOp,ho,e,asBool,Sem.run_bind,Sem.run_pure,Result.andThen_ok]
 ·cases t
  ·exact h.ev hy
  ·exact h.ev hx
theorem Aeq(h:RR C β σ a w)(hd: ∀i,o.dst=some i→i<C.nt){t:TypeId}{agg:Bool}{n:Nat}{x:Operand}{x':Opd}(ho:o.op= .load t x)(ht:Ui P t=some (agg,n))(hx:Bi x x'=true)
  {v:SV}(hv:J8 σ agg n (σ.ev x')=some v):Bv P C ((σ.insAll []).put o.dst v) o a w:=by
 obtain⟨u,hr,hs⟩:=Ack h ht (h.ev hx) hv
 refine Bv.value h hd (v:=u) ?_ hs
 simp only[execOp,ho,Sem.run_bind,hr,Result.andThen_ok,Sem.run_pure]
theorem Ab3{ok:Nat→Prop}{x:PV}{v:Value}(h:Cn w ok x v)(hx:(∃k n,x= .int k n)∨(∃b,x= .bool b)∨ ∃s,x= .str s):v.oneCell'=true∧v≠ .nilIface:=by
 rcases hx with⟨k,n,rfl⟩|⟨b,rfl⟩|⟨s,rfl⟩<;>cases h<;>exact⟨rfl,by simp⟩
theorem Aba{op:BinOp}{x y v:PV}(h:Rp op x y=some v):(∃k n,x= .int k n)∨(∃b,x= .bool b)∨ ∃s,x= .str s:=by
 cases x<;>cases y<;>simp only[Rp] at h<;>try (cases h;done)
 ·exact .inl ⟨_,_,rfl⟩
 ·exact .inr (.inl ⟨_,rfl⟩)
 ·exact .inr (.inr ⟨_,rfl⟩)
theorem Ahb(h:RR C β σ a w)(hd: ∀i,o.dst=some i→i<C.nt){op:BinOp}{t t':TypeId}{x y:Operand}{x' y':Opd}(ho:o.op= .binOp op t x y t')(hx:Bi x x'=true)(hy:Bi y y'=true)
  (ht:(op= .eql∨op= .neq)→P.underlying t=some .bool∨ ∀b,σ.ev x'≠ .pv (.bool b))
  {p q v:PV}(hp:σ.ev x'= .pv p)(hq:σ.ev y'= .pv q)(hv:Rp op p q=some v):Bv P C ((σ.insAll []).put o.dst (.pv v)) o a w:=by
 have hxl:=h.ev hx
 have hyl:=h.ev hy
 rw[hp] at hxl;rw[hq] at hyl
 obtain⟨u,hr,hs⟩:=Alv (P:=P) (t:=t) (fun e=>(ht e).imp id (fun hb b e=>hb b (by rw[hp,e]))) (Cl hxl) (Cl hyl) hv
 obtain⟨h1,h2⟩:=Ab3 (Cl hxl) (Aba hv)
 refine Bv.value h hd (v:=u) ?_ (.pv _ _ hs)
 simp only[execOp,ho,Sem.run_bind,Ag8 h1 h2,hr,Result.andThen_ok,Sem.run_pure]
theorem Aje(h:RR C β σ a w)(hd: ∀i,o.dst=some i→i<C.nt){op:UnOp}{t:TypeId}{x:Operand}{x':Opd}(ho:o.op= .unOp op t x)(hx:Bi x x'=true)
  {p v:PV}(hp:σ.ev x'= .pv p)(hv:Al3 op p=some v):Bv P C ((σ.insAll []).put o.dst (.pv v)) o a w:=by
 have hxl:=h.ev hx
 rw[hp] at hxl
 obtain⟨u,hr,hs⟩:=Axx (P:=P) (w:=w) (Cl hxl) hv
 refine Bv.value h hd (v:=u) ?_ (.pv _ _ hs)
 simp only[execOp,ho,Sem.run_bind,hr,Result.andThen_ok,Sem.run_pure]
theorem Aeu(h:RR C β σ a w)(hd: ∀i,o.dst=some i→i<C.nt){x:Operand}{x':Opd}(ho:o.op= .nilCheck x)(hx:Bi x x'=true){k:Key}{off:Nat}(hp:σ.ev x'= .ptr k off):Bv P C ((σ.insAll []).put o.dst (.ptr k off)) o a w:=by
 have hxl:=h.ev hx
 rw[hp] at hxl
 obtain⟨ad,he⟩: ∃ad,a.eval x= .pointer (some ad):=by
  generalize a.eval x=v at hxl
  cases hxl;exact⟨_,rfl⟩
 refine Bv.value h hd (v:=a.eval x) ?_ hxl
 simp only[execOp,ho,he,Sem.run_pure]
theorem Ahi(h:RR C β σ a w)(hd: ∀i,o.dst=some i→i<C.nt){t:TypeId}{x:Operand}{x':Opd}(ho:o.op= .makeInterface t x)(hx:Bi x x'=true){dd:TypeDesc}(ht:P.underlying t=some dd)(hn: ∀ms,dd≠ .interface ms)
  {p:PV}(hp:σ.ev x'= .pv p):Bv P C ((σ.insAll []).put o.dst (.pv (.iface t p))) o a w:=by
 have hxl:=h.ev hx
 rw[hp] at hxl
 refine Bv.value h hd (v:= .iface t (a.eval x)) ?_ (.pv _ _ (.iface t _ _ (Cl hxl)))
 simp only[execOp,ho,Sem.run_bind,Instr.makeInterface,run_underlying ht,Result.andThen_ok]
 cases dd<;>first|(exact absurd rfl (hn _))|simp only[Sem.run_pure,Result.andThen_ok]
theorem Ai9{t:TypeId}{ms:Array (String×TypeId)}{b:Bool}{v:Value}(ht:P.underlying t=some (.interface ms))(hv:(v= .nilIface∧b=true)∨(∃u z,v= .iface u z)∧b=false):(Op.equal t v .nilIface).run P w= .ok b w:=by
 have h: ∀d:Nat,(Op.equalIn (d+1) t v .nilIface).run P w= .ok b w:=fun d=>by
  rcases hv with⟨rfl,rfl⟩|⟨⟨u,z,rfl⟩,rfl⟩<;>simp[Op.equalIn,run_underlying ht]
 show(Op.equalIn (9999+1) t v .nilIface).run P w= .ok b w
 exact h 9999
theorem Vf(h:RR C β σ a w)(hd: ∀i,o.dst=some i→i<C.nt){neg:Bool}{op:BinOp}{t t':TypeId}{x:Operand}{x':Opd}(ho:o.op= .binOp op t x (.const .nilIface) t')(hop:op=(bif neg then .neq else .eql))(hx:Bi x x'=true){ms:Array (String×TypeId)}(ht:P.underlying t=some (.interface ms))
  {r:Bool}(hr:(σ.ev x'= .pv .nilI∧r=true)∨(∃u p,σ.ev x'= .pv (.iface u p))∧r=false):Bv P C ((σ.insAll []).put o.dst (.pv (.bool (bif neg then !r else r)))) o a w:=by
 have hxl:=h.ev hx
 have hv:(a.eval x= .nilIface∧r=true)∨(∃u z,a.eval x= .iface u z)∧r=false:=by
  rcases hr with⟨e,rfl⟩|⟨⟨u,p,e⟩,rfl⟩
  ·rw[e] at hxl
   have:=Cl hxl
   generalize a.eval x=v at this⊢
   cases this;exact .inl ⟨rfl,rfl⟩
  ·rw[e] at hxl
   have:=Cl hxl
   generalize a.eval x=v at this⊢
   cases this;exact .inr ⟨⟨_,_,rfl⟩,rfl⟩
 have hq:=Ai9 (P:=P) (w:=w) ht hv
 refine Bv.value h hd (v:= .bool (bif neg then !r else r)) ?_ (.pv _ _ (.bool _))
 have he:a.eval (.const .nilIface)= .nilIface:=rfl
 subst hop
 cases neg<;>rcases hv with⟨e,rfl⟩|⟨⟨u,z,e⟩,rfl⟩<;>rw[e] at hq<;>simp[execOp,ho,he,e,eqGuard,Go.binOp,hq,Result.andThen_ok]
theorem Aen(h:RR C β σ a w)(hd: ∀i,o.dst=some i→i<C.nt){s t:TypeId}{x:Operand}{x':Opd}(ho:o.op= .convert s t x)(hx:Bi x x'=true){k:IntKind}(hs:(P.underlying s).isSome=true)(ht:P.underlying t=some (.int k))
  {k':IntKind}{n:Int}(hp:σ.ev x'= .pv (.int k' n)):Bv P C ((σ.insAll []).put o.dst (.pv (.int k (k.wrap n)))) o a w:=by
 have hxl:=h.ev hx
 rw[hp] at hxl
 have e:=Tg (Cl hxl)
 obtain⟨d,hd'⟩:=Option.isSome_iff_exists.1 hs
 refine Bv.value h hd (v:= .int k (k.wrap n)) ?_ (.pv _ _ (.int _ _))
 simp only[execOp,ho,Sem.run_bind,convert,run_underlying hd',run_underlying ht,e,Result.andThen_ok,Conv.intToInt,Sem.run_pure]
theorem Ahf(h:RR C β σ a w)(hd: ∀i,o.dst=some i→i<C.nt){s:TypeId}{f off:Nat}{x:Operand}{x':Opd}(ho:o.op= .fieldAddr s x f)(hx:Bi x x'=true)
  {fs:Array Field}{fd:Field}{i:TypeInfo}(hs:P.underlying s=some (.struct fs))(hf:fs[f]? =some fd)(hoff:fd.offset=off)(hi:P.info? fd.type=some i)(hz:i.size≠0)
  {v:SV}(hv:(match σ.ev x' with| .ptr k o=>some (SV.ptr k (o+off))| .ipv e o=>some (.ipv e (o+off))| .iown k i o=>some (.iown k i (o+off))|_=>none)=some v):
  Bv P C ((σ.insAll []).put o.dst v) o a w:=by
 have hxl:=h.ev hx
 have key: ∀b o1,a.eval x= .pointer (some ⟨b,o1,none⟩)→(execOp a.eval o).run P w= .ok (.value (.pointer (some ⟨b,o1+off,none⟩))) w:=fun b o1 e=>by
  simp only[execOp,ho,Sem.run_bind,e,Alw hs hf hi hz hoff,Result.andThen_ok,Sem.run_pure]
 cases hev:σ.ev x'<;>rw[hev] at hv hxl<;>simp only[Option.some.injEq] at hv<;>try (cases hv;done)
 ·subst hv
  cases hxe:a.eval x<;>rw[hxe] at hxl<;>cases hxl
  rename_i k o1 cs b hk hbk
  exact Bv.value h hd (key _ _ hxe) (.ptr _ _ cs _ hk hbk)
 ·subst hv
  cases hxe:a.eval x<;>rw[hxe] at hxl<;>cases hxl
  rename_i k i1 o1 sz xs b hk hbk hi1
  exact Bv.value h hd (key _ _ hxe) (by rw[Nat.add_assoc];exact .iown _ _ _ sz xs b hk hbk hi1)
 ·subst hv
  cases hxe:a.eval x<;>rw[hxe] at hxl<;>cases hxl
  rename_i e o1 b o2 us hb h1 hat hl
  exact Bv.value h hd (key _ _ hxe) (by rw[Nat.add_assoc];exact .ipv e _ b _ us hb h1 hat hl)
theorem Xo{t:TypeId}{agg:Bool}{n:Nat}(ht:Ui P t=some (agg,n)){us:List Value}{off:Nat}{v:Value}(hle:off+n≤us.length)(hv:Mo agg ((us.drop off).take n)=some v):
  (part t us.toArray off).run P w= .ok v w:=by
 obtain⟨d,i,h1,h2,h3,h4⟩:=Yu ht
 simp only[part,Sem.run_bind,Zo h1,Result.andThen_ok,h3]
 cases agg with
 |true=>
  simp only[Mo,cond_true,Option.some.injEq] at hv
  simp only[if_true,Sem.run_bind,Jj h2,Result.andThen_ok,h4,Sem.run_pure,←hv]
  congr 2
  apply Array.ext'
  simp[List.take_drop]
 |false=>
  simp only[Mo,cond_false] at hv
  have hn:((us.drop off).take n).length=n:=by simp;omega
  cases hr:(us.drop off).take n with
  |nil=>rw[hr] at hv;cases hv
  |cons u r=>
   rw[hr] at hv hn
   cases r with
   |cons _ _=>cases hv
   |nil=>
    simp at hv hn;subst hv
    have hu:us[off]? =some u:=by
     have:((us.drop off).take n)[0]? =some u:=by rw[hr];rfl
     simp only[List.getElem?_take,List.getElem?_drop,Nat.add_zero] at this
     split at this
     ·exact this
     ·cases this
    simp[hu]
theorem Aew(h:RR C β σ a w)(hd: ∀i,o.dst=some i→i<C.nt){s:TypeId}{f off n:Nat}{agg:Bool}{x:Operand}{x':Opd}(ho:o.op= .field s x f)(hx:Bi x x'=true)
  {fs:Array Field}{fd:Field}(hs:P.underlying s=some (.struct fs))(hf:fs[f]? =some fd)(hoff:fd.offset=off)(ht:Ui P fd.type=some (agg,n))
  {v:SV}(hv:(match σ.ev x' with
   | .pv (.agg cs)=>if off+n≤cs.length then SV.ofCells agg (((cs.drop off).take n).map .pv) else none
   | .agg cs=>if off+n≤cs.length then SV.ofCells agg ((cs.drop off).take n) else none
   |_=>none)=some v):
  Bv P C ((σ.insAll []).put o.dst v) o a w:=by
 subst hoff
 have hxl:=h.ev hx
 have main: ∀(cs:List SV) (us:List Value),a.eval x= .agg us.toArray→Cz w (okB C β σ.look w) β σ.look cs us→fd.offset+n≤cs.length→SV.ofCells agg ((cs.drop fd.offset).take n)=some v→
   Bv P C ((σ.insAll []).put o.dst v) o a w:=by
  intro cs us e hcl hle hv'
  obtain⟨u,hu,hs'⟩:=Jh hv' (hcl.range fd.offset n)
  refine Bv.value h hd (v:=u) ?_ hs'
  simp only[execOp,ho,Sem.run_bind,Instr.field,run_underlying hs,Result.andThen_ok,hf,e,asAgg,Sem.run_pure,Xo ht (by rw[←hcl.1];exact hle) hu]
 cases hev:σ.ev x'<;>rw[hev] at hv hxl<;>(try simp only at hv)<;>(try (cases hv;done))
 ·rename_i p
  cases p<;>(try simp only at hv)<;>(try (cases hv;done))
  rename_i cs
  split at hv
  ·rename_i hle
   have hl:=Cl hxl
   cases hxe:a.eval x<;>rw[hxe] at hl<;>cases hl
   rename_i us hl h1 h2
   exact main (cs.map .pv) us hxe (Cz.pv hl h1 h2) (by simpa using hle) (by simpa [List.map_drop,List.map_take] using hv)
  ·cases hv
 ·rename_i cs
  split at hv
  ·rename_i hle
   cases hxe:a.eval x<;>rw[hxe] at hxl<;>cases hxl
   rename_i us h1 hl h2
   exact main cs us hxe ⟨hl,h1,h2⟩ hle hv
  ·cases hv
theorem Ahe(h:RR C β σ a w)(hd: ∀i,o.dst=some i→i<C.nt){i:Nat}{x:Operand}{x':Opd}(ho:o.op= .extract x i)(hx:Bi x x'=true)
  {vs:List SV}{v:SV}(hev:σ.ev x'= .tup vs)(hv:vs[i]? =some v):Bv P C ((σ.insAll []).put o.dst v) o a w:=by
 have hxl:=h.ev hx
 rw[hev] at hxl
 cases hxe:a.eval x<;>rw[hxe] at hxl<;>cases hxl
 rename_i us hl h1
 have hlt:i<us.length:=by rw[←hl];exact(List.getElem?_eq_some_iff.1 hv).1
 have hu:us[i]? =some us[i]:=by simp[hlt]
 refine Bv.value h hd (v:=us[i]) ?_ (h1 i v _ hv hu)
 simp only[execOp,ho,Sem.run_bind,hxe,Instr.extract,List.getElem?_toArray,hu,Sem.run_pure,Result.andThen_ok]
theorem Kl{ok:Nat→Prop}{xs:List PV}{v:Value}(h:Cn w ok (.slice xs) v): ∃(ad:Option Addr) (c sz:Nat) (us:Nat→Nat→Value),v= .slice ad xs.length c∧xs.length≤c∧
  (∀x∈xs,x.cells.length=sz)∧(∀x∈xs,x.fine)∧
  (∀i j,i<xs.length→j<sz→ ∃b:Addr,ad=some b∧b.spot=none∧ok b.block∧w.cell? ⟨b.block,b.off+i*sz+j,none⟩=some (us i j))∧
  (0<xs.length→ ∃b:Addr,ad=some b∧b.spot=none)∧
  (∀(i j:Nat) (x y:PV),xs[i]? =some x→x.cells[j]? =some y→Cn w ok y (us i j)):=by
 cases h with
 |slice _ ad n c sz us hn hc hsz h1 hat hp h=>subst hn;exact⟨ad,c,sz,us,rfl,hc,hsz,h1,hat,hp,h⟩
theorem Zp(h:RR C β σ a w)(hd: ∀i,o.dst=some i→i<C.nt){t e:TypeId}{sz:Nat}{x i:Operand}{x' i':Opd}(ho:o.op= .indexAddr t x i)(hx:Bi x x'=true)(hi:Bi i i'=true)
  {it:TypeInfo}(ht:P.underlying t=some (.slice e))(hit:P.info? e=some it)(hs:it.size=sz)(hz:sz≠0){k:IntKind}{n:Int}(hn:Js (σ.ev i')=some (k,n))(h0:0≤n)
  {v:SV}(hv:(∃xs e1,σ.ev x'= .pv (.slice xs)∧xs[n.toNat]? =some e1∧e1.cells.length=sz∧v= .ipv e1 0)∨
   (∃k1 xs,σ.ev x'= .own k1∧σ.look k1=some (.row sz xs)∧n.toNat<xs.length∧v= .iown k1 n.toNat 0)):
  Bv P C ((σ.insAll []).put o.dst v) o a w:=by
 have hxl:=h.ev hx
 have hil:=N1 (h.ev hi) hn
 have key: ∀(b:Addr) len cap,b.spot=none→a.eval x= .slice (some b) len cap→n.toNat<len→(execOp a.eval o).run P w= .ok (.value (.pointer (some ⟨b.block,b.off+n.toNat*sz,none⟩))) w:=fun b len cap hb e hlt=>by
  simp only[execOp,ho,Sem.run_bind,e,hil,Alx ht hit hs hb len cap k n h0 hlt,Result.andThen_ok,Sem.run_pure]
 rcases hv with⟨xs,e1,hev,he1,hsz,rfl⟩|⟨k1,xs,hev,hk,hlt,rfl⟩
 ·rw[hev] at hxl
  obtain⟨ad,cap,sz1,us,hxe,hc,hsz1,h1,hat,hp,hlie⟩:=Kl (Cl hxl)
  have hlt:=(List.getElem?_eq_some_iff.1 he1).1
  obtain⟨b,rfl,hbs⟩:=hp (by omega)
  have hm:=List.mem_of_getElem? he1
  have hz1:sz1=sz:=by rw[←hsz1 e1 hm];exact hsz
  subst hz1
  have hr:=key b _ cap hbs hxe hlt
  obtain⟨b',hb',_,hok,_⟩:=hat n.toNat 0 hlt (by omega)
  cases hb'
  refine Bv.value h hd hr ?_
  have:=Br.ipv (w:=w) (ok:=okB C β σ.look w) (β:=β) (lk:=σ.look) e1 0 b.block (b.off+n.toNat*sz1) (us n.toNat) hok (h1 e1 hm) (fun j hj=>?_) (fun j y hy=>hlie n.toNat j e1 y he1 hy)
  ·simpa using this
  ·obtain⟨b',hb',_,_,hcell⟩:=hat n.toNat j hlt (by omega)
   cases hb'
   exact hcell
 ·rw[hev] at hxl
  generalize hxe:a.eval x=xv at hxl
  cases hxl with
  |own _ sz1 xs1 b1 hk1 hb1=>
   rw[hk] at hk1;cases hk1
   have hr:=key _ _ _ rfl hxe hlt
   refine Bv.value h hd hr ?_
   have:=Br.iown (w:=w) (ok:=okB C β σ.look w) (β:=β) (lk:=σ.look) k1 n.toNat 0 sz xs b1 hk hb1 hlt
   simpa using this
  |ownN _ sz1 ad hk1 hb1=>rw[hk] at hk1;cases hk1;simp at hlt
theorem Aey(h:RR C β σ a w)(hd: ∀i,o.dst=some i→i<C.nt){t:TypeId}{x i:Operand}{x' i':Opd}(ho:o.op= .index t x i)(hx:Bi x x'=true)(hi:Bi i i'=true)
  (ht:P.underlying t=some .string){k:IntKind}{n:Int}(hn:Js (σ.ev i')=some (k,n))(h0:0≤n){s:List UInt8}{b:UInt8}(hev:σ.ev x'= .pv (.str s))(hb:s[n.toNat]? =some b):
  Bv P C ((σ.insAll []).put o.dst (.pv (.int .u8 b.toNat))) o a w:=by
 have hxl:=h.ev hx
 rw[hev] at hxl
 have hxe:=Th (Cl hxl)
 have hil:=N1 (h.ev hi) hn
 refine Bv.value h hd (v:= .int .u8 b.toNat) ?_ (.pv _ _ (.int _ _))
 have hg:(⟨s.toArray⟩:ByteArray)[n.toNat]? =some b:=by
  have hlt:=(List.getElem?_eq_some_iff.1 hb).1
  have:n.toNat<(⟨s.toArray⟩:ByteArray).size:=by rw[N9];exact hlt
  rw[getElem?_pos (⟨s.toArray⟩:ByteArray) n.toNat this]
  have:=(List.getElem?_eq_some_iff.1 hb).2
  rw[←this]
  rfl
 simp only[execOp,ho,Sem.run_bind,hil,hxe,Instr.index,asIntOf,run_underlying ht,Sem.run_pure,Result.andThen_ok,if_pos h0,hg]
theorem Age(h:RR C β σ a w){x:SV}{v:Value}(hx:Br w (okB C β σ.look w) β σ.look x v){xs:List PV}(he:σ.elems x=some xs): ∃ad c,v= .slice ad xs.length c:=by
 cases x<;>simp only[St.elems] at he<;>try (cases he;done)
 ·rename_i p
  cases p<;>simp only at he<;>try (cases he;done)
  cases he
  obtain⟨ad,c,_,_,e,_⟩:=Kl (Cl hx)
  exact⟨ad,c,e⟩
 ·cases he;cases hx;exact⟨_,0,rfl⟩
 ·rename_i k
  cases hx with
  |own _ sz xs' b hk hb=>rw[hk] at he;cases he;exact⟨_,_,rfl⟩
  |ownN _ sz ad hk hb=>rw[hk] at he;cases he;exact⟨_,0,rfl⟩
theorem Zq(h:RR C β σ a w)(hd: ∀i,o.dst=some i→i<C.nt){c:Call}{x:Operand}{x':Opd}{t:TypeId}(ho:o.op= .call c)(hc:c.callee= .builtin .len)(hca:c.args= #[x])(hct:c.argTypes= #[t])
  (hx:Bi x x'=true){n:Nat}
  (hn:(P.underlying t=some .string∧ ∃s,σ.ev x'= .pv (.str s)∧n=s.length)∨(∃e xs,P.underlying t=some (.slice e)∧σ.elems (σ.ev x')=some xs∧n=xs.length)):
  Bv P C ((σ.insAll []).put o.dst (.pv (.int .i64 n))) o a w:=by
 have hxl:=h.ev hx
 refine Bv.value h hd (v:= .int .i64 n) ?_ (.pv _ _ (.int _ _))
 rcases hn with⟨ht,s,hev,rfl⟩|⟨e,xs,ht,hev,rfl⟩
 ·rw[hev] at hxl
  have hxe:=Th (Cl hxl)
  simp only[execOp,ho,resolve,hc,hca,hct,List.map_toArray,List.map_cons,List.map_nil,Sem.run_bind,Sem.run_pure,Result.andThen_ok,invoke,builtin,Builtin.len_,hxe,List.getElem?_toArray,List.getElem?_cons_zero,run_underlying ht,goInt,N9]
 ·obtain⟨ad,cap,hxe⟩:=Age h hxl hev
  simp only[execOp,ho,resolve,hc,hca,hct,List.map_toArray,List.map_cons,List.map_nil,Sem.run_bind,Sem.run_pure,Result.andThen_ok,invoke,builtin,Builtin.len_,hxe,List.getElem?_toArray,List.getElem?_cons_zero,run_underlying ht,goInt]
theorem Aft{mx:Bool}{ok:Nat→Prop}{lk:Key→Option Ba}: ∀(ys:List SV) (vs:List Value) (x z:PV) (v:Value),Cn w ok x v→(∀(j:Nat) (y:SV) (u:Value),ys[j]? =some y→vs[j]? =some u→Br w ok β lk y u)→ys.length=vs.length→
  mmL mx x ys=some z→ ∃u,(vs.foldlM (bif mx then Builtin.max2 else Builtin.min2) v).run P w= .ok u w∧Cn w ok z u
 |[],[],x,z,v,hx,_,_,h=>by
  simp only[mmL,Option.some.injEq] at h;subst h
  exact⟨v,by simp[List.foldlM],hx⟩
 |[],_::_,_,_,_,_,_,hl,_=>by simp at hl
 |_::_,[],_,_,_,_,_,hl,_=>by simp at hl
 |y::ys,u::vs,x,z,v,hx,hy,hl,h=>by
  cases y<;>simp only[mmL] at h<;>try (cases h;done)
  rename_i p
  have hp:=Cl (hy 0 _ u rfl rfl)
  cases hm:Axr mx x p with
  |none=>rw[hm] at h;cases h
  |some q=>
   rw[hm] at h
   cases x<;>cases p<;>simp only[Axr] at hm<;>try (cases hm;done)
   rename_i k m k' n
   split at hm
   ·rename_i hk;subst hk
    cases hm
    have hv:=Tg hx
    have hu:=Tg hp
    subst hv;subst hu
    obtain⟨r,hr,hz⟩:=Aft ys vs _ z _ (Cn.int (w:=w) (ok:=ok) k _) (fun j y u hj hu=>hy (j+1) y u (by simpa using hj) (by simpa using hu)) (by simpa using hl) h
    refine⟨r,?_,hz⟩
    cases mx
    ·simp only[cond_false,List.foldlM_cons,Builtin.min2,pure_bind] at hr⊢
     exact hr
    ·simp only[cond_true,List.foldlM_cons,Builtin.max2,pure_bind] at hr⊢
     exact hr
   ·cases hm
theorem Yx{xs:List Operand}{ys:List Opd}(h:Dk Bi xs ys=true):xs.length=ys.length∧ ∀(j:Nat) (x:Operand) (y:Opd),xs[j]? =some x→ys[j]? =some y→Bi x y=true:=by
 induction xs generalizing ys with
 |nil=>cases ys with
  |nil=>simp
  |cons _ _=>simp[Dk] at h
 |cons x xs ih=>cases ys with
  |nil=>simp[Dk] at h
  |cons y ys=>
   simp only[Dk,Bool.and_eq_true] at h
   obtain⟨h1,h2⟩:=ih h.2
   refine⟨by simp[h1],fun j p q hp hq=>?_⟩
   cases j with
   |zero=>simp at hp hq;subst hp;subst hq;exact h.1
   |succ j=>exact h2 j p q (by simpa using hp) (by simpa using hq)
theorem RR.evs(h:RR C β σ a w){xs:List Operand}{ys:List Opd}(hx:Dk Bi xs ys=true):(ys.map σ.ev).length=(xs.map a.eval).length∧
  ∀(j:Nat) (y:SV) (u:Value),(ys.map σ.ev)[j]? =some y→(xs.map a.eval)[j]? =some u→Br w (okB C β σ.look w) β σ.look y u:=by
 obtain⟨h1,h2⟩:=Yx hx
 refine⟨by simp[h1],fun j y u hy hu=>?_⟩
 simp only[List.getElem?_map,Option.map_eq_some_iff] at hy hu
 obtain⟨y',hy',rfl⟩:=hy
 obtain⟨x',hx',rfl⟩:=hu
 exact h.ev (h2 j x' y' hx' hy')
theorem Ajd(h:RR C β σ a w)(hd: ∀i,o.dst=some i→i<C.nt){c:Call}{mx:Bool}{x:Operand}{x':Opd}{xs:List Operand}{xs':List Opd}(ho:o.op= .call c)(hc:c.callee= .builtin (bif mx then .max else .min))
  (hca:c.args.toList=x::xs)(hx:Bi x x'=true)(hxs:Dk Bi xs xs'=true){p q:PV}(hp:σ.ev x'= .pv p)(hq:mmL mx p (xs'.map σ.ev)=some q):
  Bv P C ((σ.insAll []).put o.dst (.pv q)) o a w:=by
 have hxl:=h.ev hx
 rw[hp] at hxl
 obtain⟨h1,h2⟩:=h.evs hxs
 obtain⟨u,hr,hz⟩:=Aft (P:=P) _ _ p q _ (Cl hxl) h2 h1 hq
 refine Bv.value h hd (v:=u) ?_ (.pv _ _ hz)
 have hca':c.args=(x::xs).toArray:=by rw[←hca]
 cases mx
 ·simp only[cond_false] at hc hr
  simp only[execOp,ho,resolve,hc,hca',List.map_toArray,List.map_cons,Sem.run_bind,Sem.run_pure,Result.andThen_ok,invoke,builtin,Builtin.min_,hr]
 ·simp only[cond_true] at hc hr
  simp only[execOp,ho,resolve,hc,hca',List.map_toArray,List.map_cons,Sem.run_bind,Sem.run_pure,Result.andThen_ok,invoke,builtin,Builtin.max_,hr]
theorem Aer(h:RR C β σ a w)(hd: ∀i,o.dst=some i→i<C.nt){f:FuncId}{caps:Array Operand}{caps':List Opd}(ho:o.op= .makeFunc (.func f) #[] caps)(hx:Dk Bi caps.toList caps'=true):
  Bv P C ((σ.insAll []).put o.dst (match caps'.map σ.ev with|[]=> .pv (.fn f)|vs=> .fn f vs)) o a w:=by
 obtain⟨h1,h2⟩:=h.evs hx
 have hr:(execOp a.eval o).run P w= .ok (.value (.func (.func f) #[] (caps.toList.map a.eval).toArray)) w:=by
  simp only[execOp,ho,Sem.run_bind,Instr.makeFunc,Sem.run_pure,Result.andThen_ok,List.map_toArray,List.map_nil]
  congr 3
  apply Array.ext'
  simp
 refine Bv.value h hd hr ?_
 cases hv:caps'.map σ.ev with
 |nil=>
  rw[hv] at h1
  have:caps.toList.map a.eval=[]:=List.eq_nil_of_length_eq_zero (by simpa using h1.symm)
  rw[this]
  exact .pv _ _ (.fn f)
 |cons y ys=>
  rw[hv] at h1 h2
  exact .fn f _ _ h1 h2
end
end Go.Av
end
section
set_option linter.unusedVariables false
namespace Go.Av
section
variable {P:Program} {C:Ctx} {β:Key→Blk} {σ:St} {a:Act} {w:World} {o:Oper}
theorem F0{sz:Nat}{xs:List PV}(h:It sz xs=true): ∀x∈xs,x.cells.length=sz:=by
 intro x hx
 have:=List.all_eq_true.1 h x hx
 simpa using this
theorem Zn(h:RR C β σ a w){lo:Option Operand}{lo':Option Opd}(hlo:Hr Bi lo lo'=true){d top n:Nat}(hb:G7 σ d top lo'=some n):
  (lo.map a.eval=none∧n=d)∨ ∃k m,lo.map a.eval=some (.int k m)∧0≤m∧m≤top∧n=m.toNat:=by
 cases lo with
 |none=>
  cases lo' with
  |none=>simp only[G7,Option.some.injEq] at hb;exact .inl ⟨rfl,hb.symm⟩
  |some _=>simp[Hr] at hlo
 |some x=>
  cases lo' with
  |none=>simp[Hr] at hlo
  |some x'=>
   simp only[Hr] at hlo
   simp only[G7] at hb
   cases hi:Js (σ.ev x') with
   |none=>rw[hi] at hb;cases hb
   |some p=>
    obtain⟨k,m⟩:=p
    rw[hi] at hb
    simp only at hb
    split at hb
    ·rename_i hc
     have:=N1 (h.ev hlo) hi
     cases hb
     exact .inr ⟨k,m,by simp[this],hc.1,hc.2,rfl⟩
    ·cases hb
theorem Jv{k:IntKind}{m:Int}{y:Nat}{code:BoundsCode}(h0:0≤m)(h1:m≤y):(Instr.sliceBound (.int k m) y code).run P w= .ok m.toNat w:=by
 simp only[Instr.sliceBound,asIntOf,Sem.run_bind,Sem.run_pure,Result.andThen_ok,if_pos (And.intro h0 h1)]
theorem Xn(h:RR C β σ a w){isS:Bool}{len cap:Nat}{lo hi:Option Operand}{lo' hi':Option Opd}(hlo:Hr Bi lo lo'=true)(hhi:Hr Bi hi hi'=true)(hc:len≤cap)
  {l r:Nat}(hr:G7 σ len len hi'=some r)(hl:G7 σ 0 r lo'=some l):r≤len∧l≤r∧(Instr.sliceBounds isS len cap (lo.map a.eval) (hi.map a.eval) none).run P w= .ok (l,r,cap) w:=by
 rcases Zn h hhi hr with⟨e,rfl⟩|⟨k,m,e,h0,h1,rfl⟩<;>rcases Zn h hlo hl with⟨e',rfl⟩|⟨k',m',e',h0',h1',rfl⟩<;>rw[e,e']
 ·exact⟨Nat.le_refl _,by omega,rfl⟩
 ·exact⟨Nat.le_refl _,by omega,by simp only[Instr.sliceBounds,Sem.run_bind,Sem.run_pure,Result.andThen_ok,Jv h0' h1']⟩
 ·have h2:m≤(cap:Int):=by omega
  exact⟨by omega,by omega,by simp only[Instr.sliceBounds,Sem.run_bind,Sem.run_pure,Result.andThen_ok,Jv h0 h2]⟩
 ·have h2:m≤(cap:Int):=by omega
  exact⟨by omega,by omega,by simp only[Instr.sliceBounds,Sem.run_bind,Sem.run_pure,Result.andThen_ok,Jv h0 h2,Jv h0' h1']⟩
theorem Yb(s:List UInt8)(l r:Nat):(⟨s.toArray⟩:ByteArray).extract l r=⟨((s.take r).drop l).toArray⟩:=by
 apply ByteArray.ext
 apply Array.ext'
 simp[ByteArray.data_extract,List.drop_take]
theorem Aez(h:RR C β σ a w)(hd: ∀i,o.dst=some i→i<C.nt){t:TypeId}{x:Operand}{x':Opd}{lo hi:Option Operand}{lo' hi':Option Opd}(ho:o.op= .slice t x lo hi none)(hx:Bi x x'=true)
  (hlo:Hr Bi lo lo'=true)(hhi:Hr Bi hi hi'=true)(ht:P.underlying t=some .string){s:List UInt8}(hev:σ.ev x'= .pv (.str s)){l r:Nat}(hr:G7 σ s.length s.length hi'=some r)(hl:G7 σ 0 r lo'=some l):
  Bv P C ((σ.insAll []).put o.dst (.pv (.str ((s.take r).drop l)))) o a w:=by
 have hxl:=h.ev hx
 rw[hev] at hxl
 have hxe:=Th (Cl hxl)
 obtain⟨h1,h2,hb⟩:=Xn (P:=P) (isS:=false) h hlo hhi (Nat.le_refl s.length) hr hl
 refine Bv.value h hd (v:= .string ⟨((s.take r).drop l).toArray⟩) ?_ (.pv _ _ (.str _))
 simp only[execOp,ho,Sem.run_bind,Option.map_none,Instr.sliceAt,run_underlying ht,Result.andThen_ok,Instr.slice,hxe,N9,Option.isSome_none,Bool.false_eq_true,if_false,Sem.run_pure,hb,Yb]
theorem Ae3{ok:Nat→Prop}{lk:Key→Option Ba}{x:SV}{v:Value}{xs:List PV}(hx:Br w ok β lk x v)(ht:x.tidy= .pv (.slice xs)):Cn w ok (.slice xs) v:=by
 unfold SV.tidy at ht
 cases x with
 |pv p=>simp only[SV.clean,SV.pv.injEq] at ht;subst ht;exact Cl hx
 |nils=>
  simp only[SV.clean,SV.pv.injEq,PV.slice.injEq] at ht
  subst ht
  cases hx
  exact .slice [] _ 0 0 0 (fun _ _=>undef) rfl (Nat.le_refl _) (by simp) (by simp) (by intro i j hi;omega) (by omega) (by simp)
 |agg cs=>
  simp only[SV.clean] at ht
  cases hc:SV.clean.cleanL cs with
  |none=>rw[hc] at ht;simp at ht
  |some ys=>rw[hc] at ht;simp at ht
 |fn f cs=>
  cases cs with
  |nil=>simp[SV.clean] at ht
  |cons c cs=>simp[SV.clean] at ht
 |_=>simp[SV.clean] at ht
theorem Ahj(h:RR C β σ a w)(hd: ∀i,o.dst=some i→i<C.nt){t e:TypeId}{sz:Nat}{x:Operand}{x':Opd}{lo hi:Option Operand}{lo' hi':Option Opd}(ho:o.op= .slice t x lo hi none)(hx:Bi x x'=true)
  (hlo:Hr Bi lo lo'=true)(hhi:Hr Bi hi hi'=true)(ht:P.underlying t=some (.slice e)){i:TypeInfo}(hi1:P.info? e=some i)(hi2:i.size=sz)
  {xs:List PV}(hev:(σ.ev x').tidy= .pv (.slice xs)){l r:Nat}(hr:G7 σ xs.length xs.length hi'=some r)(hl:G7 σ 0 r lo'=some l)(ha:It sz xs=true):
  Bv P C ((σ.insAll []).put o.dst (.pv (.slice ((xs.take r).drop l)))) o a w:=by
 subst hi2
 obtain⟨ad,cap,sz1,us,hxe,hc,hsz1,h1,hat,hp,hlie⟩:=Kl (Ae3 (h.ev hx) hev)
 obtain⟨h2,h3,hb⟩:=Xn (P:=P) (isS:=true) h hlo hhi hc hr hl
 have hlen:((xs.take r).drop l).length=r-l:=by simp;omega
 have hsub: ∀x∈(xs.take r).drop l,x∈xs:=fun x hx=>List.mem_of_mem_take (List.mem_of_mem_drop hx)
 refine Bv.value h hd (v:= .slice (if cap=l then ad else ad.map (·.add (l*i.size))) (r-l) (cap-l)) ?_ (.pv _ _ ?_)
 ·simp only[execOp,ho,Sem.run_bind,Option.map_none,Instr.sliceAt,run_underlying ht,Result.andThen_ok,Instr.slice,hxe,hb,Jj hi1,Sem.run_pure]
 ·have hat': ∀i1 j,i1<r-l→j<sz1→ ∃b:Addr,(if cap=l then ad else ad.map (·.add (l*i.size)))=some b∧b.spot=none∧okB C β σ.look w b.block∧w.cell? ⟨b.block,b.off+i1*sz1+j,none⟩=some (us (l+i1) j):=by
   intro i1 j hi1' hj
   have hne: ¬cap=l:=by omega
   obtain⟨b,hb1,hb2,hb3,hb4⟩:=hat (l+i1) j (by omega) hj
   have hm:xs[0]? =some (xs[0]'(by omega)):=by simp
   have hs:sz1=i.size:=by
    have hm:xs[l]'(by omega)∈xs:=List.getElem_mem _
    rw[←hsz1 _ hm,F0 ha _ hm]
   subst hs
   refine⟨b.add (l*i.size),by simp[hne,hb1],?_,?_,?_⟩
   ·unfold Addr.add;split<;>simp[hb2]
   ·unfold Addr.add;split<;>simpa using hb3
   ·obtain⟨bb,bo,bs⟩:=b
    simp only at hb2;subst hb2
    rw[K3]
    rw[Nat.add_mul] at hb4
    simpa [Nat.add_assoc] using hb4
  refine .slice _ _ _ _ sz1 (fun i1 j=>us (l+i1) j) hlen.symm (by omega) (fun x hx=>hsz1 x (hsub x hx)) (fun x hx=>h1 x (hsub x hx)) hat' ?_ ?_
  ·intro h0
   have hne: ¬cap=l:=by omega
   obtain⟨b,rfl,hb2⟩:=hp (by omega)
   exact⟨b.add (l*i.size),by simp[hne],by unfold Addr.add;split<;>simp[hb2]⟩
  ·intro i1 j x y hx hy
   have:xs[l+i1]? =some x:=by
    simp only[List.getElem?_drop,List.getElem?_take] at hx
    split at hx
    ·exact hx
    ·cases hx
   exact hlie (l+i1) j x y this hy
end
end Go.Av
end
