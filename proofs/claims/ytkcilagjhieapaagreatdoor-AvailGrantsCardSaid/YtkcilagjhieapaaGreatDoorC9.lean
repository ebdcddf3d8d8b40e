import Derived.RangeFuncFrom
import Derived.RangeFuncLeaves
import Derived.BigFrameIn
import Derived.Test.YtkcilagjhieapaaGreatDoorC8
section
set_option linter.unusedVariables false
set_option linter.unusedSimpArgs false
namespace Go.Av
section
variable {P:Program} {C:Ctx} {β:Key→Blk} {σ:St} {a:Act} {w:World}
theorem RR.fresh{ok:Nat→Prop}{γ:Nat→Blk}{nt:Nat}{ds:List Deferred}{β0:Key→Blk}(ht:a.tmps.size=nt)(hd:a.defers=ds)(hok: ∀b,ok b→b<w.heap.size)(hG:GOK w ok)(sl:List (Nat×SV))(hs: ∀t,Br w ok β0 (fun _=>none) (Kh sl t) (a.tmps.getD t undef)):
  RR ⟨w,[],γ,nt,ok,ds⟩ β ⟨sl,[]⟩ a w:=by
 have no: ∀k o,(⟨sl,[]⟩:St).look k=some o→False:=fun k o h=>by cases h
 refine⟨ht,hd,fun k k' o o' b h=>(no _ _ h).elim,fun k o h=>(no _ _ h).elim,fun k o b h=>(no _ _ h).elim,fun i o h=>(no _ _ h).elim,fun t=>?_,Nat.le_refl _,fun b _ _=>rfl,C8.refl w,⟨hG,fun b hb=>⟨hok b hb,fun⟨i,hi,_⟩=>absurd hi (by simp)⟩⟩⟩
 exact(hs t).mono' (fun b hb off u hu=>hu) (fun b hb=>⟨hok b hb,fun k o h=>(no _ _ h).elim,fun _=> .inl hb⟩) (fun k o hk hl=>by cases hl)
def L0(C:Ctx)(σ:St):List Key:=(List.range C.ext.length).map Key.ext++σ.hp.map (·.1)
def Ctx.re(C:Ctx)(β:Key→Blk)(σ:St)(w:World):Ctx:=
 ⟨w,(L0 C σ).map fun k=>(σ.look k).getD (.box []),fun i=>match (L0 C σ)[i]? with
  |some k=>(match σ.look k with|some _=>β k|none=>⟨none,0⟩)
  |none=>⟨none,0⟩,C.nt,okB C β σ.look w,C.dfs⟩
theorem Zd{l:List (Key×Ba)}{k:Key}{o:Ba}(h:Bu l k=some o):k∈l.map (·.1):=by
 induction l with
 |nil=>cases h
 |cons p l ih=>
  obtain⟨k',o'⟩:=p
  simp only[Bu] at h
  split at h
  ·rename_i e;simp[e]
  ·simp only[List.map_cons,List.mem_cons];exact .inr (ih h)
theorem Tq{b:Nat}:(C.re β σ w).lent b↔ ∃k o,k∈L0 C σ∧σ.look k=some o∧(β k).b=some b:=by
 constructor
 ·rintro⟨i,hi,he⟩
  have hi:i<(L0 C σ).length:=by simpa [Ctx.re] using hi
  simp only[Ctx.re] at he
  rw[List.getElem?_eq_getElem hi] at he
  simp only at he
  cases hl:σ.look (L0 C σ)[i] with
  |none=>rw[hl] at he;cases he
  |some o=>rw[hl] at he;exact⟨_,o,List.getElem_mem hi,hl,he⟩
 ·rintro⟨k,o,hk,hl,he⟩
  obtain⟨i,hi,rfl⟩:=List.getElem_of_mem hk
  refine⟨i,by simpa [Ctx.re] using hi,?_⟩
  simp only[Ctx.re]
  rw[List.getElem?_eq_getElem hi]
  simp only[hl]
  exact he
theorem Aee{k:Key}{o:Ba}{b:Nat}(hl:σ.look k=some o)(he:(β k).b=some b):(C.re β σ w).lent b:=
 Tq.2 ⟨k,o,List.mem_append_right _ (Zd hl),hl,he⟩
theorem RR.rebase(h:RR C β σ a w):RR (C.re β σ w) β σ a w:=by
 have hok: ∀b,okB C β σ.look w b→okB (C.re β σ w) β σ.look w b:=fun b hb=>⟨hb.1,hb.2.1,fun _=> .inl hb⟩
 refine⟨h.tsz,h.dfs,h.inj,fun k o hk=>?_,fun k o b hk hb=> .inr (Aee hk hb),fun i o hk=>?_,fun t=>?_,Nat.le_refl _,fun b _ _=>rfl,C8.refl w,⟨h.gok,fun b hb=>⟨hb.1,fun hl=>by obtain⟨k,o,_,q1,q2⟩:=Tq.1 hl;exact hb.2.1 k o q1 q2⟩⟩⟩
 ·exact(h.objs k o hk).mono (fun b _ off u hu=>hu) hok rfl (fun b _=>rfl) (fun k2 o2 _ h2=>⟨o2,h2,o2.sim_refl,rfl⟩)
 ·obtain⟨o0,q1,_,_⟩:=h.ext2 i o hk
  have hi:i<C.ext.length:=(List.getElem?_eq_some_iff.1 q1).1
  have hn:(L0 C σ)[i]? =some (.ext i):=by
   unfold L0
   rw[List.getElem?_append_left (by simpa using hi)]
   simp[hi]
  refine⟨o,?_,o.sim_refl,?_⟩
  ·simp only[Ctx.re,List.getElem?_map,hn,Option.map_some,hk,Option.getD_some]
  ·simp only[Ctx.re,hn,hk]
 ·exact(h.slots t).mono (fun b _ off u hu=>hu) hok (fun k2 o2 h2=>⟨o2,h2,o2.sim_refl,rfl⟩)
theorem Yn{β0:Key→Blk}{σ0:St}{a0:Act}{w0:World}(h0:RR C β0 σ0 a0 w0)(h:RR (C.re β0 σ0 w0) β σ a w)(hx: ∀i o,σ.look (.ext i)=some o→i<C.ext.length):RR C β σ a w:=by
 have hs0:=h0.size
 have hs:w0.heap.size≤w.heap.size:=h.size
 have hlent: ∀b,(C.re β0 σ0 w0).lent b→C.w0.heap.size≤b∨C.lent b:=fun b hb=>by
  obtain⟨k,o,_,hl,he⟩:=Tq.1 hb
  exact h0.lo k o b hl he
 have hok: ∀b,okB (C.re β0 σ0 w0) β σ.look w b→okB C β σ.look w b:=fun b hb=>by
  refine⟨hb.1,hb.2.1,fun hlt=>?_⟩
  rcases hb.2.2 (show b<w0.heap.size by omega) with q|q
  ·exact q.2.2 hlt
  ·rcases hlent b q with q|q
   ·omega
   ·exact .inr q
 refine⟨h.tsz,h.dfs,h.inj,fun k o hk=>?_,fun k o b hk hb=>?_,fun i o hk=>?_,fun t=>?_,Nat.le_trans hs0 hs,fun b hlt hn=>?_,h0.quiet.trans h.quiet,h0.gw⟩
 ·exact(h.objs k o hk).mono (fun b _ off u hu=>hu) hok rfl (fun b _=>rfl) (fun k2 o2 _ h2=>⟨o2,h2,o2.sim_refl,rfl⟩)
 ·rcases h.lo k o b hk hb with q|q
  ·have q:w0.heap.size≤b:=q
   exact .inl (by omega)
  ·exact hlent b q
 ·obtain⟨o0,q1,q2,q3⟩:=h.ext2 i o hk
  have hi:=hx i o hk
  have hn:(L0 C σ0)[i]? =some (.ext i):=by
   unfold L0
   rw[List.getElem?_append_left (by simpa using hi)]
   simp[hi]
  simp only[Ctx.re,List.getElem?_map,hn,Option.map_some,Option.some.injEq] at q1
  simp only[Ctx.re,hn] at q3
  cases hl:σ0.look (.ext i) with
  |some o1=>
   rw[hl] at q1 q3
   simp only[Option.getD_some] at q1
   subst q1
   obtain⟨o00,p1,p2,p3⟩:=h0.ext2 i _ hl
   exact⟨o00,p1,Cg p2 q2,by rw[q3,p3]⟩
  |none=>
   exfalso
   rw[hl] at q1 q3
   simp only[Option.getD_none] at q1
   subst q1
   obtain⟨cs,rfl⟩:=Afu q2
   obtain⟨b,arr,T,e0,_⟩:=h.objs _ _ hk
   rw[q3] at e0;cases e0
 ·exact(h.slots t).mono (fun b _ off u hu=>hu) hok (fun k2 o2 h2=>⟨o2,h2,o2.sim_refl,rfl⟩)
 ·have h1:w.heap[b]? =w0.heap[b]? :=h.frame b (show b<w0.heap.size by omega) (fun hl=>by
   rcases hlent b hl with q|q
   ·omega
   ·exact hn q)
  rw[h1];exact h0.frame b hlt hn
end
end Go.Av
namespace Go.Av
section
variable {P:Program} {C:Ctx} {β:Key→Blk} {σ:St} {a:Act} {w:World}
def On(σ:St)(ln:List Key):List Nat→List (Nat×SV)
 |[]=>[]
 |t::ts=>(t,(σ.get t).tidy.nm (toX ln))::On σ ln ts
theorem Wz(ln:List Key): ∀(ts:List Nat) (t:Nat),Kh (On σ ln ts) t=if t∈ts then(σ.get t).tidy.nm (toX ln) else .dead
 |[],t=>by simp[On,Kh]
 |u::ts,t=>by
  simp only[On,Kh]
  rw[Wz ln ts t]
  by_cases e:u=t
  ·subst e;simp
  ·have:(u==t)=false:=by simpa using e
   rw[this,cond_false]
   by_cases h:t∈ts
   ·rw[if_pos h,if_pos (by simp[h])]
   ·rw[if_neg h,if_neg (by simp[h];exact fun h'=>e h'.symm)]
theorem RR.roundIn(h:RR C β σ a w){ln:List Key}{ext:List Ba}(hx:Gg σ ln ln=some ext)(hnd:ln.Nodup)(ts:List Nat){p:Nat}(hp:p<C.nt){x:PV}{v:Value}(hv:Cn w (okB C β σ.look w) x v):
  RR ⟨w,ext,Hk β ln,C.nt,okB C β σ.look w,[]⟩ (O5 (Hk β ln)) ⟨(p,.pv x)::On σ ln ts,I9 0 ext⟩ ({a with defers:=[]}.put (some p) v) w:=by
 obtain⟨x1,x2⟩:=Gt hx
 have hlook: ∀sl,(⟨sl,I9 0 ext⟩:St).look=O4 ext:=fun _=>rfl
 have hback: ∀k o,O4 ext k=some o→ ∃(i:Nat) (k':Key) (o':Ba),k= .ext i∧ext[i]? =some o∧ln[i]? =some k'∧σ.look k'=some o'∧Hk β ln i=β k':=fun k o hk=>by
  obtain⟨i,h1,h2⟩:=P7 ext 0 k o hk
  have hi:i<ext.length:=(List.getElem?_eq_some_iff.1 h2).1
  have hk':ln[i]? =some (ln[i]'(by omega)):=List.getElem?_eq_getElem (by omega)
  obtain⟨o',q1,_⟩:=x2 i _ hk'
  exact⟨i,_,o',by simpa using h1,h2,hk',q1,Ia hk'⟩
 have hok': ∀b,okB C β σ.look w b→okB ⟨w,ext,Hk β ln,C.nt,okB C β σ.look w,[]⟩ (O5 (Hk β ln)) (O4 ext) w b:=fun b hb=>by
  refine⟨hb.1,fun k o hk e=>?_,fun _=> .inl hb⟩
  obtain⟨i,k',o',rfl,_,_,q1,q2⟩:=hback k o hk
  have e:(Hk β ln i).b=some b:=e
  rw[q2] at e
  exact hb.2.1 k' o' q1 e
 have h0:RR ⟨w,ext,Hk β ln,C.nt,okB C β σ.look w,[]⟩ (O5 (Hk β ln)) ⟨On σ ln ts,I9 0 ext⟩ {a with defers:=[]} w:=by
  refine⟨h.tsz,rfl,?_,?_,?_,?_,?_,Nat.le_refl _,fun b _ _=>rfl,C8.refl _,⟨h.gok,fun b hb=>⟨hb.1,fun⟨i,hi,he⟩=>?_⟩⟩⟩
  ·intro k k' o o' b h1 h2 e1 e2
   obtain⟨i,k1,o1,rfl,_,p1,p2,p3⟩:=hback k o h1
   obtain⟨j,k2,o2,rfl,_,q1,q2,q3⟩:=hback k' o' h2
   have e1:(Hk β ln i).b=some b:=e1
   have e2:(Hk β ln j).b=some b:=e2
   rw[p3] at e1;rw[q3] at e2
   have:=h.inj k1 k2 _ _ b p2 q2 e1 e2
   subst this
   have:i=j:=(List.getElem?_inj (List.getElem?_eq_some_iff.1 p1).1 hnd).1 (p1.trans q1.symm)
   rw[this]
  ·intro k o hk
   obtain⟨i,k',o',rfl,q0,_,_,_⟩:=hback k o hk
   exact(Zc h hx q0).mono (fun b _ off u hu=>hu) hok' rfl (fun b _=>rfl) (fun k2 o2 _ h2=>⟨o2,h2,o2.sim_refl,rfl⟩)
  ·intro k o b hk hb
   obtain⟨i,k',o',rfl,q0,_,_,_⟩:=hback k o hk
   exact .inr ⟨i,(List.getElem?_eq_some_iff.1 q0).1,hb⟩
  ·intro i o hk
   obtain⟨j,k',o',e,q0,_,_,_⟩:=hback _ o hk
   cases e
   exact⟨o,q0,o.sim_refl,rfl⟩
  ·intro t
   show Br _ _ _ _ (Kh (On σ ln ts) t) _
   rw[Wz]
   split
   ·exact Zb hx hok' (Ma (h.slots t))
   ·exact .dead _
  ·have he:(Hk β ln i).b=some b:=he
   have hi:i<ext.length:=hi
   have hk':ln[i]? =some (ln[i]'(by omega)):=List.getElem?_eq_getElem (by omega)
   obtain⟨o',q1,_⟩:=x2 i _ hk'
   rw[Ia hk'] at he
   exact hb.2.1 _ _ q1 he
 have:=h0.put (some p) (.pv x) v (fun i hi=>by cases hi;exact hp) (.pv _ _ (hv.mono (fun b _ off u hu=>hu) hok'))
 exact this
end
end Go.Av
namespace Go.Av
def Aav(P:Program)(gf:FuncId)(caps:List SV)(xs:List PV):Prop:=
 (∀(args:Array Value) (w:World),(callFunc gf args).run P w= .ok (.enter gf args) w)∧
 ∀(l:Nat) (lb:List Value) (w:World) (Z0:Nat→Prop) (J:Nat→(Nat→Prop)→World→Prop),(∀b,Z0 b→b<w.heap.size)→GOK w Z0→caps.length=lb.length→
  (∀(j:Nat) (x:SV) (v:Value),caps[j]? =some x→lb[j]? =some v→Br w Z0 (fun _=>⟨none,0⟩) (fun _=>none) x v)→
  (∀i Z W W',J i Z W→W.grownBy W' none→J i (fun b=>Z b∨(W.heap.size≤b∧b<W'.heap.size)) W')→
  (∀(i:Nat) (Z:Nat→Prop) (x:PV) (v:Value) (W:World),xs[i]? =some x→Cn W (fun _=>False) x v→J i Z W→
   YieldAt Fence.wide 0 P l #[v] W fun e W'=>e= .returned (.bool true)∧J (i+1) Z W'∧W.heap.size≤W'.heap.size∧ ∀b,Z b→W'.heap[b]? =W.heap[b]?)→
  J 0 Z0 w→CallsIn Fence.wide 0 P gf (#[.func (.yield l) #[] #[]]++lb.toArray) w fun e W'=>(∃v,e= .returned v)∧ ∃Z,J xs.length Z W'
structure Ae8 (P:Program) (nt p:Nat) (asg body:Code) (x:PV) (σ σ':St):Prop where
 go: ∃(ln:List Key) (ts:List Nat) (ext:List Ba) (a1 a2:AC) (σ1 τ:St) (out:List Key) (r:Res) (d keep:Nat) (e:Eff) (σ2:St),Gg σ ln ln=some ext∧ln.Nodup∧
  Bq P nt asg a1=true∧Bq P nt body a2=true∧Ev P a1 ⟨(p,.pv x)::On σ ln ts,I9 0 ext⟩ .norm σ1∧Ev P a2 σ1 .norm τ∧out.Nodup∧(∀k∈out,∀i,k≠ .ext i)∧Qg Mn ⟨0,[],out,.skip⟩ ext.length τ=some r∧
  took ln d keep r=some e∧Eg (Hi ln d keep) (σ.killAll (Ea ln r.ext)) ln r.ext=some σ2∧(∀j,j<keep→σ.look (.loc d j)=none)∧σ'=σ2.insAll e.ins
def Yj(D:Nat):Deferred:={target:= .collected D,args:= #[]}
section
variable {P:Program} {C:Ctx} {β:Key→Blk} {σ:St} {a:Act} {w:World}
theorem RR.named(h:RR C β σ a w){k:Key}{o:Ba}{b:Nat}(hk:σ.look k=some o)(hb:(β k).b=some b):(∃arr T g,w.heap[b]? =some (.cells arr T g))∨ ∃ents clock,w.heap[b]? =some (.map ents clock):=by
 have:=h.objs k o hk
 cases o with
 |box cs=>obtain⟨b',arr,T,e0,e1,_⟩:=this;rw[hb] at e0;cases e0;exact .inl ⟨_,_,_,e1⟩
 |row sz xs=>
  rcases this with⟨e0,_⟩|⟨b',arr,T,e0,e1,_⟩
  ·rw[hb] at e0;cases e0
  ·rw[hb] at e0;cases e0;exact .inl ⟨_,_,_,e1⟩
 |map kk es=>obtain⟨b',ents,clock,e0,e1,_⟩:=this;rw[hb] at e0;cases e0;exact .inr ⟨_,_,e1⟩
theorem RR.putObj(h:RR C β σ a w){l:Nat}{o o':Obj}(hl:w.heap[l]? =some o)(hc: ∀arr T g,o≠ .cells arr T g)(hm: ∀ents clock,o≠ .map ents clock)(hge:C.w0.heap.size≤l):RR C β σ a (w.putObj l o'):=by
 have hne: ∀k o2,σ.look k=some o2→(β k).b≠some l:=fun k o2 hk hb=>by
  rcases h.named hk hb with⟨arr,T,g,e⟩|⟨ents,clock,e⟩
  ·rw[hl] at e;cases e;exact hc _ _ _ rfl
  ·rw[hl] at e;cases e;exact hm _ _ rfl
 have hsz:(w.putObj l o').heap.size=w.heap.size:=by simp
 have hsame: ∀b,b≠l→(w.putObj l o').heap[b]? =w.heap[b]? :=fun b hb=>World.putObj_heap_other hb
 have hkp:Iy (okB C β σ.look w) w (w.putObj l o'):=fun b hb off u hu=>by
  by_cases e:b=l
  ·subst e
   simp only[World.cell?,hl] at hu
   cases o<;>simp at hu
   exact(hc _ _ _ rfl).elim
  ·simpa only[World.cell?,hsame b e] using hu
 have hok: ∀b,okB C β σ.look w b→okB C β σ.look (w.putObj l o') b:=fun b hb=>⟨by rw[hsz];exact hb.1,hb.2⟩
 refine⟨h.tsz,h.dfs,h.inj,fun k o2 hk=>?_,h.lo,h.ext2,fun t=>(h.slots t).mono hkp hok (fun k2 o2 h2=>⟨o2,h2,o2.sim_refl,rfl⟩),by rw[hsz];exact h.size,fun b hb hn=>?_,h.quiet.trans ⟨rfl,rfl,rfl⟩,h.gw⟩
 ·exact(h.objs k o2 hk).mono hkp hok rfl (fun b hb=>hsame b (fun e=>hne k o2 hk (by rw[hb,e]))) (fun k2 o3 _ h2=>⟨o3,h2,o3.sim_refl,rfl⟩)
 ·rw[hsame b (by omega)];exact h.frame b hb hn
end
end Go.Av
namespace Go.Av
section
variable {P:Program} {C:Ctx} {β:Key→Blk} {σ:St} {a:Act} {w:World}
theorem RR.putBoth(h:RR C β σ a w){l:Nat}{o o':Obj}(hl:w.heap[l]? =some o)(hc: ∀arr T g,o≠ .cells arr T g)(hm: ∀ents clock,o≠ .map ents clock)(hlt:l<C.w0.heap.size):
  RR {C with w0:=C.w0.putObj l o'} β σ a (w.putObj l o'):=by
 have hne: ∀k o2,σ.look k=some o2→(β k).b≠some l:=fun k o2 hk hb=>by
  rcases h.named hk hb with⟨arr,T,g,e⟩|⟨ents,clock,e⟩
  ·rw[hl] at e;cases e;exact hc _ _ _ rfl
  ·rw[hl] at e;cases e;exact hm _ _ rfl
 have hsz:(w.putObj l o').heap.size=w.heap.size:=by simp
 have hsz0:(C.w0.putObj l o').heap.size=C.w0.heap.size:=by simp
 have hsame: ∀b,b≠l→(w.putObj l o').heap[b]? =w.heap[b]? :=fun b hb=>World.putObj_heap_other hb
 have hsame0: ∀b,b≠l→(C.w0.putObj l o').heap[b]? =C.w0.heap[b]? :=fun b hb=>World.putObj_heap_other hb
 have hkp:Iy (okB C β σ.look w) w (w.putObj l o'):=fun b hb off u hu=>by
  by_cases e:b=l
  ·subst e
   simp only[World.cell?,hl] at hu
   cases o<;>simp at hu
   exact(hc _ _ _ rfl).elim
  ·simpa only[World.cell?,hsame b e] using hu
 have hok: ∀b,okB C β σ.look w b→okB {C with w0:=C.w0.putObj l o'} β σ.look (w.putObj l o') b:=fun b hb=>⟨by rw[hsz];exact hb.1,hb.2.1,fun hlt'=>hb.2.2 (by rw[←hsz0];exact hlt')⟩
 refine⟨h.tsz,h.dfs,h.inj,fun k o2 hk=>?_,fun k o2 b hk hb=>?_,h.ext2,fun t=>(h.slots t).mono hkp hok (fun k2 o2 h2=>⟨o2,h2,o2.sim_refl,rfl⟩),by rw[hsz];show(C.w0.putObj l o').heap.size≤_;rw[hsz0];exact h.size,fun b hb hn=>?_,?_,?_⟩
 ·exact(h.objs k o2 hk).mono hkp hok rfl (fun b hb=>hsame b (fun e=>hne k o2 hk (by rw[hb,e]))) (fun k2 o3 _ h2=>⟨o3,h2,o3.sim_refl,rfl⟩)
 ·rcases h.lo k o2 b hk hb with q|q
  ·exact .inl (by show(C.w0.putObj l o').heap.size≤_;rw[hsz0];exact q)
  ·exact .inr q
 ·show _=(C.w0.putObj l o').heap[b]?
  have hb:b<(C.w0.putObj l o').heap.size:=hb
  rw[hsz0] at hb
  by_cases e:b=l
  ·subst e
   rw[World.putObj_heap_same hlt,World.putObj_heap_same (Array.getElem?_eq_some_iff.1 hl).1]
  ·rw[hsame b e,hsame0 b e];exact h.frame b hb hn
 ·exact⟨h.quiet.os,h.quiet.tape,h.quiet.out⟩
 ·refine⟨?_,fun b hb=>⟨by show b<(C.w0.putObj l o').heap.size;rw[hsz0];exact(h.gw.lo b hb).1,(h.gw.lo b hb).2⟩⟩
  by_cases hle:C.lent l
  ·exact Nv h.gw.g (fun b hb hlt=>⟨hsame0 b (fun e=>(h.gw.lo b hb).2 (e▸hle)),hb⟩)
  ·exact Alg ((h.frame l hlt hle).symm.trans hl) hc h.gw.g
theorem T8{w w':World}{row:Option Nat}(h:w.grownBy w' row):C8 w w':=⟨h.os,h.tape,h.output⟩
theorem RR.dfsTo(h:RR C β σ a w)(ds:List Deferred):RR {C with dfs:=ds} β σ {a with defers:=ds} w:=
 ⟨h.tsz,rfl,h.inj,h.objs,h.lo,h.ext2,h.slots,h.size,h.frame,h.quiet,⟨h.gw.g,h.gw.lo⟩⟩
def Bjc:Func:={(default:Func) with results:= #[]}
theorem Acb{w:World}{l:Nat}{o o':Obj}(h:w.heap[l]? =some o'):(w.putObj l o).putObj l o'=w:=by
 obtain⟨hl,he⟩:=Array.getElem?_eq_some_iff.1 h
 have:((w.heap.setIfInBounds l o).setIfInBounds l o')=w.heap:=by
  rw[Array.setIfInBounds_setIfInBounds]
  subst he
  apply Array.ext
  ·simp
  ·intro i h1 h2
   rw[Array.getElem_setIfInBounds]
   ·split
    ·rename_i e;subst e;rfl
    ·rfl
 simp only[World.putObj,this]
theorem Aei(hw0:C.w0=w)(hm:P.follows .mixedOrders=true){p:Nat}{asg body:Code}{x:PV}{σ':St}(hp:p<C.nt)(hR:Ae8 P C.nt p asg body x σ σ')(h:RR C β σ a w){fn:FuncId}{L D:Nat}
  {rec:LoopState→Option Code→Loop}(hrec:rec=fun st pe=>{state:=st,pending:=pe,fn,tmps:=a.tmps,params:= #[p],assign:=asg,body,defers:=D})
  (hL:w.heap[L]? =some (.loop (rec .ready none))){v:Value}(hv:Cn w (okB C β σ.look w) x v){R:Ending→World→Prop}
  (hK: ∀β' w',RR C β' σ' a w'→w'.heap[L]? =some (.loop (rec .ready none))→w.heap.size≤w'.heap.size→(∀b,b<w.heap.size→b≠L→(∀k o,σ.look k=some o→(β k).b≠some b)→w'.heap[b]? =w.heap[b]?)→R (.returned (.bool true)) w'):
  YieldAt Fence.wide 0 P L #[v] w R:=by
 obtain⟨ln,ts,ext,a1,a2,σ1,τ,out,r,d,keep,e,σ2,hx,hnd,g1,g2,e1,e2,ho,hlo,hlv,htk,hov,hfr,rfl⟩:=hR.go
 have hlt:L<w.heap.size:=(Array.getElem?_eq_some_iff.1 hL).1
 have hy:(Instr.yield L #[v]).run P w= .ok (.round L fn (a.tmps.setIfInBounds p v) asg body) w:=by
  have:=run_yield (P:=P) (args:= #[v]) hL (by rw[hrec];rfl)
  rw[this,hrec];simp
 refine⟨fn,_,asg,body,hy,roundIn_of_wpIn trivial ?_⟩
 have hr0:=h.roundIn hx hnd ts hp hv
 refine(Ha (C:=⟨w,ext,Hk β ln,C.nt,okB C β σ.look w,[]⟩) (ro:=some L) (n:=0) hm e1 asg _ _ w _ g1 hr0 (fun β1 a1' w1 h1=>?_)).1
 have hL1:w1.heap[L]? =some (.loop (rec .ready none)):=by
  rw[h1.frame L hlt (fun⟨i,hi,he⟩=>?_)];exact hL
  have he:(Hk β ln i).b=some L:=he
  obtain⟨x1,x2⟩:=Gt hx
  have hi:i<ext.length:=hi
  have hk:ln[i]? =some (ln[i]'(by omega)):=List.getElem?_eq_getElem (by omega)
  obtain⟨o',q1,_⟩:=x2 i _ hk
  rw[Ia hk] at he
  rcases h.named q1 he with⟨arr,T,g,q⟩|⟨ents,clock,q⟩
  ·rw[hL] at q;cases q
  ·rw[hL] at q;cases q
 refine⟨_,run_beginRound hL1 (by rw[hrec]),?_⟩
 have h2:=h1.putBoth (o':= .loop {rec .ready none with state:= .busy}) hL1 (by intro _ _ _ e;cases e) (by intro _ _ e;cases e) hlt
 refine(Ha (C:=⟨w.putObj L (.loop {rec .ready none with state:= .busy}),ext,Hk β ln,C.nt,okB C β σ.look w,[]⟩) (ro:=some L) (n:=0) hm e2 body _ _ _ _ g2 h2 (fun β3 a3 w3 h3=>?_)).1
 obtain⟨u,δ,_,haft⟩:=Lf (P:=P) (fn:=Bjc) h3 (by rfl) ho hlo hlv
 have hL0:(w.putObj L (.loop {rec .ready none with state:= .busy})).heap[L]? =some (.loop {rec .ready none with state:= .busy}):=World.putObj_heap_same hlt
 have h4:=h.putBoth (o':= .loop {rec .ready none with state:= .busy}) hL (by intro _ _ _ e;cases e) (by intro _ _ e;cases e) (by rw[hw0];exact hlt)
 have hokE:okB {C with w0:=C.w0.putObj L (.loop {rec .ready none with state:= .busy})} β σ.look (w.putObj L (.loop {rec .ready none with state:= .busy}))=okB C β σ.look w:=by
  have q1:(w.putObj L (.loop {rec .ready none with state:= .busy})).heap.size=w.heap.size:=by simp
  have q2:(C.w0.putObj L (.loop {rec .ready none with state:= .busy})).heap.size=C.w0.heap.size:=by simp
  funext b;unfold okB;rw[q1];show(_∧_∧(b<(C.w0.putObj L _).heap.size→_))=_;rw[q2];rfl
 have haft':Ss ⟨w.putObj L (.loop {rec .ready none with state:= .busy}),ext,Hk β ln,0,okB {C with w0:=C.w0.putObj L (.loop {rec .ready none with state:= .busy})} β σ.look (w.putObj L (.loop {rec .ready none with state:= .busy})),[]⟩ w3 r u δ:=by
  rw[hokE];exact haft
 obtain⟨β',h5,_⟩:=h4.took hx hnd haft' htk hfr hov
 have hnl: ∀b,(∀k o,σ.look k=some o→(β k).b≠some b)→ ¬(⟨w.putObj L (.loop {rec .ready none with state:= .busy}),ext,Hk β ln,0,okB {C with w0:=C.w0.putObj L (.loop {rec .ready none with state:= .busy})} β σ.look (w.putObj L (.loop {rec .ready none with state:= .busy})),[]⟩:Ctx).lent b:=fun b hb ⟨i,hi,he⟩=>by
  have he:(Hk β ln i).b=some b:=he
  obtain⟨x1,x2⟩:=Gt hx
  have hi:i<ext.length:=hi
  have hk:ln[i]? =some (ln[i]'(by omega)):=List.getElem?_eq_getElem (by omega)
  obtain⟨o',q1,_⟩:=x2 i _ hk
  rw[Ia hk] at he
  exact hb _ _ q1 he
 have hLn: ∀k o,σ.look k=some o→(β k).b≠some L:=fun k o hk hb=>by
  rcases h.named hk hb with⟨arr,T,g,q⟩|⟨ents,clock,q⟩
  ·rw[hL] at q;cases q
  ·rw[hL] at q;cases q
 have hsz0:(w.putObj L (.loop {rec .ready none with state:= .busy})).heap.size=w.heap.size:=by simp
 have hL3:w3.heap[L]? =some (.loop {rec .ready none with state:= .busy}):=by
  rw[haft'.frame L (by show L<(w.putObj L _).heap.size;rw[hsz0];exact hlt) (hnl L hLn)];exact hL0
 have hsz3:w.heap.size≤w3.heap.size:=by have:=haft'.size;rw[hsz0] at this;exact this
 have hend:=run_endRound (P:=P) none hL3
 refine⟨_,_,hend,?_⟩
 have h6:=h5.putBoth (o':= .loop {{rec .ready none with state:= .busy} with state:=if (none:Option Code).isNone then .ready else .done,pending:=none}) hL3 (by intro _ _ _ e;cases e) (by intro _ _ e;cases e) (by show L<(C.w0.putObj L _).heap.size;rw[hw0,hsz0];exact hlt)
 have hback:(C.w0.putObj L (.loop {rec .ready none with state:= .busy})).putObj L (.loop {{rec .ready none with state:= .busy} with state:=if (none:Option Code).isNone then .ready else .done,pending:=none})=C.w0:=by
  rw[hw0]
  refine Acb ?_
  rw[hL,hrec];rfl
 have hCC:({({C with w0:=C.w0.putObj L (.loop {rec .ready none with state:= .busy})}:Ctx) with w0:=(C.w0.putObj L (.loop {rec .ready none with state:= .busy})).putObj L (.loop {{rec .ready none with state:= .busy} with state:=if (none:Option Code).isNone then .ready else .done,pending:=none})}:Ctx)=C:=by
  rw[hback]
 rw[hCC] at h6
 refine hK β' _ h6 ?_ ?_ ?_
 ·rw[World.putObj_heap_same (by omega),hrec];rfl
 ·simpa using hsz3
 ·intro b hb hbL hbn
  rw[World.putObj_heap_other hbL,haft'.frame b (by show b<(w.putObj L _).heap.size;rw[hsz0];exact hb) (hnl b hbn)]
  exact World.putObj_heap_other hbL
theorem Ag7(hm:P.follows .mixedOrders=true){p:Nat}{asg body:Code}{x:PV}{σ':St}(hp:p<C.nt)(hR:Ae8 P C.nt p asg body x σ σ')(h:RR C β σ a w){fn:FuncId}{L D:Nat}
  {rec:LoopState→Option Code→Loop}(hrec:rec=fun st pe=>{state:=st,pending:=pe,fn,tmps:=a.tmps,params:= #[p],assign:=asg,body,defers:=D})
  (hL:w.heap[L]? =some (.loop (rec .ready none))){v:Value}(hv:Cn w (okB C β σ.look w) x v)(hxt: ∀i o,σ'.look (.ext i)=some o→i<C.ext.length){R:Ending→World→Prop}
  (hK: ∀β' w',RR C β' σ' a w'→w'.heap[L]? =some (.loop (rec .ready none))→w.heap.size≤w'.heap.size→(∀b,b<w.heap.size→b≠L→(∀k o,σ.look k=some o→(β k).b≠some b)→w'.heap[b]? =w.heap[b]?)→
   (∀k o b,σ'.look k=some o→(β' k).b=some b→w.heap.size≤b∨ ∃k1 o1,σ.look k1=some o1∧(β k1).b=some b)→R (.returned (.bool true)) w'):
  YieldAt Fence.wide 0 P L #[v] w R:=
 Aei (C:=C.re β σ w) rfl hm hp hR h.rebase hrec hL (hv.mono (fun b _ off u hu=>hu) (fun b hb=>⟨hb.1,hb.2.1,fun _=> .inl hb⟩)) (fun β' w' h' q1 q2 q3=>
  hK β' w' (Yn h h' hxt) q1 q2 q3 (fun k o b hk hb=>(h'.lo k o b hk hb).imp (fun q=>q) (fun q=>by obtain⟨k1,o1,_,r1,r2⟩:=Tq.1 q;exact⟨k1,o1,r1,r2⟩)))
theorem Agz(hm:P.follows .mixedOrders=true){g:Operand}{g':Opd}(hg:Bi g g'=true){p:Nat}{asg body:Code}(h:RR C β σ a w)(hds:C.dfs=[])(hp:p<C.nt){gf:FuncId}{caps:List SV}(ht:σ.target g'=some (gf,caps))
  (hcb: ∀x∈caps,x.bare=true){xs:List PV}(hxs: ∀x∈xs,x.scalar=true)(hit:Aav P gf caps xs)(T:Nat→St)(h0:T 0=σ)(hT: ∀i x,xs[i]? =some x→Ae8 P C.nt p asg body x (T i) (T (i+1)))
  (hx: ∀n,n≤xs.length→ ∀i o,(T n).look (.ext i)=some o→i<C.ext.length){Q:Exit→Act→World→Prop}
  (hQ: ∀D β' w',w'.heap[D]? =some (.deferred (some []))→C.w0.heap.size≤D→RR {C with dfs:=[Yj D]} β' (T xs.length) {a with defers:=[Yj D]} w'→Q .normal {a with defers:=[Yj D]} w'):
  (Code.rangeFunc g #[p] asg body).wpIn (fr none) 0 P Q a w:=by
 have had:a.defers=[]:=by rw[h.dfs,hds]
 obtain⟨us,u1,u2,u3⟩:=Zs ht (h.ev hg)
 refine wpIn_rangeFunc ?_
 intro fn _
 obtain⟨rec,hrec⟩: ∃rec:LoopState→Option Code→Loop,rec=fun st pe=>{state:=st,pending:=pe,fn,tmps:=a.tmps,params:= #[p],assign:=asg,body,defers:=w.heap.size}:=⟨_,rfl⟩
 obtain⟨W1,hW1⟩: ∃W1,(w.alloc (.deferred (some []))).alloc (.loop (rec .ready none))=W1:=⟨_,rfl⟩
 have hsz1:W1.heap.size=w.heap.size+2:=by rw[←hW1,World.size_alloc,World.size_alloc]
 have hL1:W1.heap[w.heap.size+1]? =some (.loop (rec .ready none)):=by
  rw[←hW1];have:=World.alloc_heap_new (w.alloc (.deferred (some []))) (.loop (rec .ready none));rwa [World.size_alloc] at this
 have hK1:W1.heap[w.heap.size]? =some (.deferred (some [])):=by
  rw[←hW1];exact((Go.MapKept.heap_alloc (w.alloc (.deferred (some []))) (.loop (rec .ready none))).2 _ (by simp)).trans (World.alloc_heap_new w _)
 have hold: ∀b,b<w.heap.size→W1.heap[b]? =w.heap[b]? :=fun b hb=>by
  rw[←hW1,(Go.MapKept.heap_alloc (w.alloc (.deferred (some []))) (.loop (rec .ready none))).2 b (by simp;omega),(Go.MapKept.heap_alloc w _).2 b hb]
 have hq1:C8 w W1:=by rw[←hW1];exact(C8.alloc _ _).trans (C8.alloc _ _)
 have hg1:RR C β σ a W1:=h.grow (by omega) hq1 hold
 have hnm: ∀(β':Key→Blk) (τ:St) (W:World),RR C β' τ a W→ ∀k o b,τ.look k=some o→(β' k).b=some b→b<W.heap.size:=fun β' τ W hR k o b hk hb=>by
  rcases hR.named hk hb with⟨arr,T',g,e⟩|⟨ents,clock,e⟩
  ·exact(Array.getElem?_eq_some_iff.1 e).1
  ·exact(Array.getElem?_eq_some_iff.1 e).1
 refine⟨w.heap.size+1,[{target:= .collected w.heap.size,args:= #[]}],W1,{target:= .fn (.func gf) us.toArray,args:= #[.func (.yield (w.heap.size+1)) #[] #[]]},W1,gf,
  #[.func (.yield (w.heap.size+1)) #[] #[]]++us.toArray,W1,?_,?_,fun _ _=>trivial,?_,fun e=>(by cases e),?_⟩
 ·rw[←hW1,hrec];exact run_enterLoop_outer _ _ _ _ _
 ·simp only[resolve,u1]
  simp[go_sem]
 ·simp[invoke,go_sem,hit.1]
 ·refine(hit.2 (w.heap.size+1) us W1 (okB C β σ.look w) (fun i Z W=>(∃β',RR C β' (T i) a W∧ ∀b,Z b→b<W.heap.size∧b≠w.heap.size+1∧ ∀k o,(T i).look k=some o→(β' k).b≠some b)∧W.heap[w.heap.size+1]? =some (.loop (rec .ready none))∧W.heap[w.heap.size]? =some (.deferred (some [])))
   (fun b hb=>by rw[hsz1];have:=hb.1;omega) (Nv h.gok fun b hb _=>⟨hold b hb.1,hb⟩) u2 (fun j x v hj hv=>?_) ?_ ?_ ⟨⟨β,by rw[h0];exact hg1,fun b hb=>⟨by rw[hsz1];have:=hb.1;omega,by have:=hb.1;omega,fun k o hk=>hb.2.1 k o (by rw[←h0];exact hk)⟩⟩,hL1,hK1⟩).mono ?_
  ·exact Uj ((u3 j x v hj hv).mono' (fun b hb off u hu=>by simpa only[World.cell?,hold b hb.1] using hu) (fun b hb=>hb) (fun k o _ hl=>⟨o,hl,o.sim_refl,rfl⟩)) (hcb x (List.mem_of_getElem? hj))
  ·rintro i Z W W' ⟨⟨β',hR,hZ⟩,hl,hk⟩ hgr
   have hlt:w.heap.size+1<W.heap.size:=(Array.getElem?_eq_some_iff.1 hl).1
   have hgs:=hgr.size
   refine⟨⟨β',hR.grow hgr.size (T8 hgr) (fun b hb=>hgr.block b hb (by simp)),fun b hb=>?_⟩,by rw[hgr.block _ hlt (by simp)];exact hl,by rw[hgr.block _ (by omega) (by simp)];exact hk⟩
   rcases hb with hb|⟨hb1,hb2⟩
   ·obtain⟨z1,z2,z3⟩:=hZ b hb
    exact⟨by omega,z2,z3⟩
   ·exact⟨hb2,by omega,fun k o hko hbo=>by have:=hnm β' _ W hR k o b hko hbo;omega⟩
  ·rintro i Z x v W hxi hlv ⟨⟨β',hR,hZ⟩,hl,hk⟩
   have hsc:x.scalar=true:=hxs x (List.mem_of_getElem? hxi)
   have hlt:w.heap.size+1<W.heap.size:=(Array.getElem?_eq_some_iff.1 hl).1
   have hi:i<xs.length:=(List.getElem?_eq_some_iff.1 hxi).1
   refine Ag7 hm (C:=C) (rec:=rec) (D:=w.heap.size) hp (hT i x hxi) hR hrec hl (Qm hlv hsc) (hx (i+1) (by omega)) (fun β2 W2 h2 hl2 hs2 hf2 hn2=>⟨rfl,⟨⟨β2,h2,fun b hb=>?_⟩,hl2,?_⟩,hs2,fun b hb=>?_⟩)
   ·obtain⟨z1,z2,z3⟩:=hZ b hb
    refine⟨by omega,z2,fun k o hko hbo=>?_⟩
    rcases hn2 k o b hko hbo with q|⟨k1,o1,r1,r2⟩
    ·omega
    ·exact z3 k1 o1 r1 r2
   ·rw[hf2 _ (by omega) (by omega) (fun k o hko hbo=>?_)];· exact hk
    rcases hR.named hko hbo with⟨arr,T',g,q⟩|⟨ents,clock,q⟩
    ·rw[hk] at q;cases q
    ·rw[hk] at q;cases q
   ·obtain⟨z1,z2,z3⟩:=hZ b hb
    exact hf2 b z1 z2 z3
  ·rintro e W2 ⟨⟨v,rfl⟩,Z,⟨β',hR,_⟩,hl,hk⟩
   refine⟨none,_,by have:=run_endLoop (P:=P) hl (by rw[hrec];simp);rw[hrec] at this;exact this,?_⟩
   have hR2:=hR.putObj (o':= .loop {(rec .ready none) with state:= .exhausted}) hl (by intro _ _ _ e;cases e) (by intro _ _ e;cases e) (by have:=h.size;omega)
   rw[hrec] at hR2
   have:=hQ w.heap.size β' _ ((World.putObj_heap_other (by omega)).trans hk) h.size (hR2.dfsTo [Yj w.heap.size])
   show Q .normal {a with defers:=[Yj w.heap.size]++a.defers} _
   rw[had]
   exact this
end
end Go.Av
namespace Go.Av
inductive AX where
 |ev (a:AC)
 |seq (x y:AX)
 |block (x:AX)
 |range (g:Opd) (p:Nat) (asg body:AC)
 |keep (fz:List Key) (sl:List (Nat×Bool)) (bx:List (Key×Bool)) (dead:List Key) (up:List Up) (x:AX)
def I5(P:Program)(nt:Nat):Code→AX→Bool
 |c,.ev a=>Bq P nt c a
 |c,.keep _ _ _ _ up x=>up.all (fun u=>u.key.noExt)&&I5 P nt c x
 | .seq c d,.seq x y=>I5 P nt c x&&I5 P nt d y
 | .block _ c,.block x=>I5 P nt c x
 | .rangeFunc g ps c d,.range g' p a b=>Bi g g'&&decide (ps= #[p])&&decide (p<nt)&&Bq P nt c a&&Bq P nt d b
 |_,_=>false
structure T9 (P:Program) (p:Nat) (a1 a2:AC) (x:PV) (σ σ':St):Prop where
 go: ∃(ln:List Key) (ts:List Nat) (ext:List Ba) (σ1 τ:St) (out:List Key) (r:Res) (d keep:Nat) (e:Eff) (σ2:St),Gg σ ln ln=some ext∧ln.Nodup∧
  Ev P a1 ⟨(p,.pv x)::On σ ln ts,I9 0 ext⟩ .norm σ1∧Ev P a2 σ1 .norm τ∧out.Nodup∧(∀k∈out,∀i,k≠ .ext i)∧Qg Mn ⟨0,[],out,.skip⟩ ext.length τ=some r∧
  took ln d keep r=some e∧Eg (Hi ln d keep) (σ.killAll (Ea ln r.ext)) ln r.ext=some σ2∧(∀j,j<keep→σ.look (.loc d j)=none)∧σ'=σ2.insAll e.ins
theorem T9.round{P:Program}{nt p:Nat}{asg body:Code}{a1 a2:AC}{x:PV}{σ σ':St}(h:T9 P p a1 a2 x σ σ')(g1:Bq P nt asg a1=true)(g2:Bq P nt body a2=true):Ae8 P nt p asg body x σ σ':=by
 obtain⟨ln,ts,ext,σ1,τ,out,r,d,keep,e,σ2,hx,hnd,e1,e2,ho,hlo,hlv,htk,hov,hfr,h'⟩:=h.go
 exact⟨ln,ts,ext,a1,a2,σ1,τ,out,r,d,keep,e,σ2,hx,hnd,g1,g2,e1,e2,ho,hlo,hlv,htk,hov,hfr,h'⟩
def Afj(ne:Nat)(σ:St):Bool:=σ.hp.all fun p=>match p.1 with| .ext i=>decide (i<ne)|_=>true
theorem W4{ne:Nat}{σ:St}(h:Afj ne σ=true)(i:Nat)(o:Ba)(hl:σ.look (.ext i)=some o):i<ne:=by
 have:=Zd hl
 obtain⟨p,hp,he⟩:=List.mem_map.1 this
 have:=List.all_eq_true.1 h p hp
 rw[he] at this
 simpa using this
inductive EvX (P:Program) (ne:Nat):AX→St→Ex→St→Bool→Prop
 |ev {a:AC} {σ σ':St} {ex:Ex} (h:Ev P a σ ex σ'):EvX P ne (.ev a) σ ex σ' false
 |seq {x y:AX} {σ σ1 σ':St} {ex:Ex} {m:Bool} (h1:EvX P ne x σ .norm σ1 false) (h2:EvX P ne y σ1 ex σ' m):EvX P ne (.seq x y) σ ex σ' m
 |seq_out {x y:AX} {σ σ':St} {ex:Ex} {m:Bool} (h1:EvX P ne x σ ex σ' m) (hne:ex≠ .norm):EvX P ne (.seq x y) σ ex σ' m
 |seqM {x:AX} {b:AC} {σ σ1 σ':St} {ex:Ex} (h1:EvX P ne x σ .norm σ1 true) (h2:Ev P b σ1 ex σ') (hi:Afj ne σ'=true):EvX P ne (.seq x (.ev b)) σ ex σ' true
 |block {x:AX} {σ σ':St} {ex:Ex} {m:Bool} (h:EvX P ne x σ ex σ' m) (hne: ∀j,ex≠ .exit j):EvX P ne (.block x) σ ex σ' m
 |range {g:Opd} {p:Nat} {a b:AC} {gf:FuncId} {caps:List SV} {xs:List PV} {T:Nat→St} (ht:(T 0).target g=some (gf,caps)) (hcb: ∀x∈caps,x.bare=true) (hxs: ∀x∈xs,x.scalar=true) (hit:Aav P gf caps xs)
   (hT: ∀i x,xs[i]? =some x→T9 P p a b x (T i) (T (i+1))) (hi: ∀n,n≤xs.length→Afj ne (T n)=true):EvX P ne (.range g p a b) (T 0) .norm (T xs.length) true
 |keep {fz:List Key} {sl:List (Nat×Bool)} {bx:List (Key×Bool)} {dead:List Key} {up:List Up} {x:AX} {σ σ':St} {ex:Ex} {m:Bool} (h:EvX P ne x (σ.tidy fz sl bx dead up) ex σ' m):EvX P ne (.keep fz sl bx dead up x) σ ex σ' m
def Ahp(C:Ctx)(ds:List Deferred)(w:World)(m:Bool):Prop:=
 (m=false→ds=C.dfs)∧(m=true→ ∃D,ds=[Yj D]∧w.heap[D]? =some (.deferred (some []))∧C.w0.heap.size≤D)
theorem Aa6{P:Program}{nt:Nat}{c:Code}{fz:List Key}{sl:List (Nat×Bool)}{bx:List (Key×Bool)}{dead:List Key}{up:List Up}{x:AX}(h:I5 P nt c (.keep fz sl bx dead up x)=true):(∀u∈up,∀i,u.key≠ .ext i)∧I5 P nt c x=true:=by
 have:(up.all (fun u=>u.key.noExt)&&I5 P nt c x)=true:=by cases c<;>exact h
 simp only[Bool.and_eq_true] at this
 exact⟨fun u hu i e=>(by have:=List.all_eq_true.1 this.1 u hu;rw[e] at this;cases this),this.2⟩
theorem Yv{P:Program}{nt:Nat}{c:Code}{a:AC}(h:I5 P nt c (.ev a)=true):Bq P nt c a=true:=by cases c<;>exact h
theorem Agf{P:Program}(hm:P.follows .mixedOrders=true){ne:Nat}{ax:AX}{σ σ':St}{ex:Ex}{m:Bool}(he:EvX P ne ax σ ex σ' m): ∀(C:Ctx) (c:Code) (β:Key→Blk) (a:Act) (w:World) (Q:Exit→Act→World→Prop),C.ext.length=ne→I5 P C.nt c ax=true→RR C β σ a w→(m=true→C.dfs=[])→
  (∀ds β' a' w',Ahp C ds w' m→RR {C with dfs:=ds} β' σ' a' w'→Q ex.to a' w')→c.wpIn (fr none) 0 P Q a w:=by
 induction he with
 |ev h=>
  intro C c β a w Q hne hag hR hd hQ
  exact(Ha hm h c β a w Q (Yv hag) hR (fun β' a' w' h'=>hQ C.dfs β' a' w' ⟨fun _=>rfl,fun e=>(by cases e)⟩ h')).1
 | @seq x y σ σ1 σ' ex m _ _ ih1 ih2=>
  intro C c β a w Q hne hag hR hd hQ
  cases c<;>simp only[I5] at hag<;>try cases hag
  simp only[Bool.and_eq_true] at hag
  refine wpIn_seq (ih1 C _ β a w _ hne hag.1 hR (fun e=>(by cases e)) (fun ds β' a' w' hM h'=>?_))
  have hds:=hM.1 rfl
  subst hds
  exact ih2 C _ β' a' w' Q hne hag.2 h' hd hQ
 | @seq_out x y σ σ' ex m _ hex ih=>
  intro C c β a w Q hne hag hR hd hQ
  cases c<;>simp only[I5] at hag<;>try cases hag
  simp only[Bool.and_eq_true] at hag
  refine wpIn_seq (ih C _ β a w _ hne hag.1 hR hd (fun ds β' a' w' hM h'=>?_))
  have:=hQ ds β' a' w' hM h'
  cases ex with
  |norm=>exact absurd rfl hex
  |exit id=>exact this
  |ret=>exact this
 | @seqM x b σ σ1 σ' ex _ hb hi ih1=>
  intro C c β a w Q hne hag hR hd hQ
  cases c<;>simp only[I5] at hag<;>try cases hag
  simp only[Bool.and_eq_true] at hag
  refine wpIn_seq (ih1 C _ β a w _ hne hag.1 hR hd (fun ds β1 a1 w1 hM h1=>?_))
  obtain⟨D,rfl,hD,hge⟩:=hM.2 rfl
  have h2:=h1.rebase
  refine(Ha (C:=({C with dfs:=[Yj D]}:Ctx).re β1 σ1 w1) hm hb _ β1 a1 w1 Q (Yv hag.2) h2 (fun β' a' w' h'=>?_)).1
  ·have h3:=Yn h1 h' (fun i o hl=>by rw[hne];exact W4 hi i o hl)
   refine hQ [Yj D] β' a' w' ⟨fun e=>(by cases e),fun _=>⟨D,rfl,?_,hge⟩⟩ h3
   rw[h'.frame D (Array.getElem?_eq_some_iff.1 hD).1 (fun hl=>?_)];· exact hD
   obtain⟨k,o,_,q1,q2⟩:=Tq.1 hl
   rcases h1.named q1 q2 with⟨arr,T',g,q⟩|⟨ents,clock,q⟩
   ·rw[hD] at q;cases q
   ·rw[hD] at q;cases q
 | @block x σ σ' ex m _ hno ih=>
  intro C c β a w Q hne hag hR hd hQ
  cases c<;>simp only[I5] at hag<;>try cases hag
  refine wpIn_block (ih C _ β a w _ hne hag hR hd (fun ds β' a' w' hM h'=>?_))
  have:=hQ ds β' a' w' hM h'
  cases ex with
  |norm=>exact this
  |exit id=>exact absurd rfl (hno id)
  |ret=>exact this
 | @range g p x y gf caps xs T ht hcb hxs hit hT hi=>
  intro C c β a w Q hne hag hR hd hQ
  cases c<;>simp only[I5] at hag<;>try cases hag
  simp only[Bool.and_eq_true,decide_eq_true_eq] at hag
  obtain⟨⟨⟨⟨g1,rfl⟩,g2⟩,g3⟩,g4⟩:=hag
  exact Agz hm g1 hR (hd rfl) g2 ht hcb hxs hit T rfl (fun i x hx=>(hT i x hx).round g3 g4) (fun n hn i o hl=>by rw[hne];exact W4 (hi n hn) i o hl)
   (fun D β' w' hD hge h'=>hQ [Yj D] β' _ w' ⟨fun e=>(by cases e),fun _=>⟨D,rfl,hD,hge⟩⟩ h')
 | @keep fz sl bx dead up x σ σ' ex m _ ih=>
  intro C c β a w Q hne hag hR hd hQ
  obtain⟨hu,hag⟩:=Aa6 hag
  obtain⟨β',h'⟩:=hR.tidy fz sl bx dead up hu
  exact ih C c β' a w Q hne hag h' hd hQ
theorem Yi{P:Program}{C:Ctx}{ds:List Deferred}{w:World}{m:Bool}(hC:C.dfs=[])(hM:Ahp C ds w m){fn:Func}{β:Key→Blk}{σ:St}{a:Act}(h:RR {C with dfs:=ds} β σ a w){fd:Fd}(hag:Dk (R9 P) fn.results.toList fd.res=true)(hout:fd.out.Nodup)(hloc: ∀k∈fd.out,∀i,k≠ .ext i)
  {r:Res}(hl:Qg Mn fd C.ext.length σ=some r):LeavesInM Fence.wide 0 P fn a.tmps (fun e w'=> ∃v δ,e= .returned v∧Ss {C with nt:=0} w' r v δ) a.defers .returning w:=by
 cases m with
 |false=>
  have hds:=hM.1 rfl
  rw[h.dfs]
  show LeavesInM Fence.wide 0 P fn a.tmps _ ds .returning w
  rw[hds,hC]
  obtain⟨v,δ,hr,haft⟩:=Lf (P:=P) h hag hout hloc hl
  exact⟨v,hr,v,δ,rfl,⟨haft.size,haft.frame,haft.inj,haft.lo,haft.len,haft.exts,haft.objs,haft.val,haft.quiet⟩⟩
 |true=>
  obtain⟨D,rfl,hD,hge⟩:=hM.2 rfl
  rw[h.dfs]
  show LeavesInM Fence.wide 0 P fn a.tmps _ [Yj D] .returning w
  refine⟨(by intro e;cases e),.inl ⟨D,_,rfl,run_takeDeferred hD,?_⟩⟩
  have h2:=h.putObj (o':= .deferred none) hD (by intro _ _ _ e;cases e) (by intro _ _ e;cases e) hge
  obtain⟨v,δ,hr,haft⟩:=Lf (P:=P) h2 hag hout hloc hl
  exact⟨v,hr,v,δ,rfl,⟨haft.size,haft.frame,haft.inj,haft.lo,haft.len,haft.exts,haft.objs,haft.val,haft.quiet⟩⟩
def Vx(P:Program)(fn:Func)(np:Nat)(res:List RV)(out:List Key)(ax:AX):Bool:=
 decide (np≤fn.ntmps)&& !(fn.name=="runtime.NumGoroutine")&&(decide out.Nodup&&out.all Key.noExt)&&Dk (R9 P) fn.results.toList res&&
 (match fn.body with|some c=>I5 P fn.ntmps c ax|none=>false)
theorem Ol{P:Program}(hm:P.follows .mixedOrders=true){f:FuncId}{fn:Func}{np:Nat}{res:List RV}{out:List Key}{ax:AX}(hf:P.funcs[f]? =some fn)(hag:Vx P fn np res out ax=true){args:List SV}{ext:List Ba}{r:Res}(hnp:args.length=np){ex:Ex}{σ:St}{m:Bool}
  (he:EvX P ext.length ax (enter args ext) ex σ m)(hex:ex= .norm∨ex= .ret)(hl:Qg Mn ⟨np,res,out,.skip⟩ ext.length σ=some r):A3 P f args ext r:=by
 simp only[Vx,Bool.and_eq_true,decide_eq_true_eq,Bool.not_eq_true'] at hag
 obtain⟨⟨⟨⟨h1,h2⟩,h5⟩,h3⟩,h4⟩:=hag
 have hloc: ∀k∈out,∀i,k≠ .ext i:=fun k hk i e=>by subst e;have:=List.all_eq_true.1 h5.2 _ hk;cases this
 split at h4
 ·rename_i c hc
  refine⟨⟨fn,hf,h2,by rw[hc];rfl⟩,fun w vs γ ok hok hG hinj hobj hlen hargs=>?_⟩
  refine callsIn_wide (n:=0).1 (callsIn_of_wp_marks hf hc trivial ?_)
  show Code.wpIn (fr none) 0 P _ _ _ _
  have h0:=S5 (nt:=fn.ntmps) hok hG hinj hobj hlen hargs (by omega)
  refine Agf hm he ⟨w,ext,γ,fn.ntmps,ok,[]⟩ c _ _ w _ rfl h4 h0 (fun _=>rfl) (fun ds β' a' w' hM h'=>?_)
  have:=Yi (P:=P) (fd:=⟨np,res,out,.skip⟩) (fn:=fn) rfl hM h' h3 h5.1 hloc hl
  rcases hex with rfl|rfl
  ·exact this
  ·exact this
 ·cases h4
end Go.Av
namespace Go.Av
theorem Aev{P:Program}{C:Ctx}{ro:Option Nat}{n:Nat}{ops:Array Oper}{Q:Exit→Act→World→Prop}{l':List GOp}{σ σ':St}(hr:Aj P l' σ σ'): ∀{l:List Oper} {β:Key→Blk} {a:Act} {w:World},RR C β σ a w→Dk (G5 P C.nt ops) l l'=true→
  ∀{rest:List Oper},(∀β' a' w',RR C β' σ' a' w'→wpListIn (fr ro) n P ops Q rest a' w')→wpListIn (fr ro) n P ops Q (l++rest) a w:=by
 induction hr with
 |nil σ=>
  intro l β a w h hag rest hQ
  cases l with
  |nil=>exact hQ β a w h
  |cons o l=>simp[Dk] at hag
 | @cons cl g os σ σ1 σ' hS hs _ ih=>
  intro l β a w h hag rest hQ
  cases l with
  |nil=>simp[Dk] at hag
  |cons o l=>
   simp only[Dk,Bool.and_eq_true] at hag
   refine wpListIn_step (fun K hK=>?_)
   refine Td (fun hw c hc=>?_) (Qb hS h hag.1 hs (fun β' a' w' h'=>hK _ _ (ih h' hag.2 hQ)) Q)
   obtain⟨h1,_,_,h4⟩:=H7 hag.1
   rw[hc] at h1
   have hst:=Ps h1
   unfold step at hs
   cases hwt:σ.wants g.g with
   |none=>rw[hwt] at hs;cases hs
   |some b=>
    rw[Iq h h4 hwt] at hw
    subst hw
    simp[hwt,hst,AOp.isB,Pc,B4] at hs
theorem Yl{P:Program}{o:Oper}{a:Act}{w w':World}{c:Call}{fo:Operand}{l:Nat}{r:Next}(ho:o.op= .call c)(hc:c.callee= .value fo)(hf:a.eval fo= .func (.yield l) #[] #[])(hy:(Instr.yield l (c.args.map a.eval)).run P w= .ok r w'):
  (execOp a.eval o).run P w= .ok r w':=by
 simp only[execOp,ho,Sem.run_bind,resolve,hc,hf,Deferred.ofValue,Sem.run_pure,Result.andThen_ok,invoke,hy,Array.empty_append,Array.append_empty]
theorem Acx{P:Program}{C:Ctx}{β:Key→Blk}{σ:St}{a:Act}{w:World}(h:RR C β σ a w){ops:Array Oper}{rest:List Oper}{o:Oper}{g:GOp}{fo' x':Opd}(hag:G5 P C.nt ops o g=true)(hg:g.op= .call 0 0 fo' [x'] [] [])(hw:σ.wants g.g=some true){l:Nat}
  (hf:σ.ev fo'= .pv (.yld l)){Q:Exit→Act→World→Prop}(hY: ∀v,Br w (okB C β σ.look w) β σ.look (σ.ev x') v→YieldAt Fence.wide 0 P l #[v] w fun e W'=> ∃u,e= .returned u∧wpListIn (fr none) 0 P ops Q rest (a.put g.d u) W'):
  wpListIn (fr none) 0 P ops Q (o::rest) a w:=by
 obtain⟨g1,g2,g3,g4⟩:=H7 hag
 rw[hg] at g1
 simp only[El,Bool.and_eq_true] at g1
 obtain⟨_,g1⟩:=g1
 unfold Ug at g1
 split at g1<;>try cases g1
 rename_i c ho
 split at g1<;>try cases g1
 rename_i fo hc
 simp only[Bool.and_eq_true] at g1
 obtain⟨h1,h2⟩:=g1
 have hfv:a.eval fo= .func (.yield l) #[] #[]:=by
  have:=h.ev h1
  rw[hf] at this
  have:=Cl this
  generalize a.eval fo=v at this⊢
  cases this;rfl
 obtain⟨q1,q2⟩:=h.evs h2
 obtain⟨x,hx⟩: ∃x,c.args.toList=[x]:=by
  cases hl:c.args.toList with
  |nil=>rw[hl] at q1;simp at q1
  |cons x t=>
   cases t with
   |nil=>exact⟨x,rfl⟩
   |cons y t=>rw[hl] at q1;simp at q1
 have hxv:=q2 0 (σ.ev x') (a.eval x) (by simp) (by rw[hx];simp)
 obtain⟨fn,tmps,as,bd,hy,hr⟩:=hY (a.eval x) hxv
 have harr:c.args.map a.eval= #[a.eval x]:=by
  apply Array.ext';simp[hx]
 have hrun:=Yl (P:=P) (w:=w) ho hc hfv (by rw[harr];exact hy)
 refine wpListIn_step (fun K hK=>?_)
 rw[if_pos (Iq h g4 hw)]
 refine⟨fun _ _=>trivial,?_⟩
 show o.uponIn (fr none) 0 P a K Q ((Oper.semAt none a.eval o).run P w)
 rw[Oper.semAt_none,hrun,Oper.uponIn_round]
 refine⟨fun e=>(by cases e),hr.mono ?_⟩
 rintro e W' ⟨u,rfl,hu⟩
 show K (a.put o.dst u) W'
 rw[g2]
 exact hK _ _ hu
end Go.Av
namespace Go.Av
def more(Z:Nat→Prop)(W w:World)(b:Nat):Prop:=Z b∨(W.heap.size≤b∧b<w.heap.size)
section
variable {P:Program} {σ:St} {a:Act} {W w:World} {γ:Nat→Blk} {nt:Nat} {Z:Nat→Prop} {ds:List Deferred} {β:Key→Blk}
theorem RR.away(h:RR ⟨W,[],γ,nt,Z,ds⟩ β σ a w):W.grownBy w none:=by
 refine⟨h.quiet.os,h.quiet.tape,h.quiet.out,h.size,fun k hk _=>h.frame k hk ?_⟩
 rintro⟨i,hi,_⟩
 exact absurd hi (by simp)
theorem RR.awayS(h:RR ⟨W,[],γ,nt,Z,ds⟩ β σ a w)(t:Nat)(hb:(σ.get t).bare=true):Br w (more Z W w) β (fun _=>none) (σ.get t) (a.tmps.getD t undef):=by
 refine Uj ((h.slots t).mono' (fun b hb off u hu=>hu) (fun b hb=>?_) (fun k o _ hl=>⟨o,hl,o.sim_refl,rfl⟩)) hb
 by_cases hlt:b<W.heap.size
 ·rcases hb.2.2 hlt with q|⟨i,hi,_⟩
  ·exact .inl q
  ·exact absurd hi (by simp)
 ·exact .inr ⟨by omega,hb.1⟩
def Tf(σ:St):List Nat→List (Nat×SV)
 |[]=>[]
 |t::ts=>(t,σ.get t)::Tf σ ts
theorem Y8(σ:St): ∀(ts:List Nat) (t:Nat),Kh (Tf σ ts) t=if t∈ts then σ.get t else .dead
 |[],t=>by simp[Tf,Kh]
 |u::ts,t=>by
  simp only[Tf,Kh]
  rw[Y8 σ ts t]
  by_cases e:u=t
  ·subst e;simp
  ·have:(u==t)=false:=by simpa using e
   rw[this,cond_false]
   by_cases h:t∈ts
   ·rw[if_pos h,if_pos (by simp[h])]
   ·rw[if_neg h,if_neg (by simp[h];exact fun h'=>e h'.symm)]
theorem RR.anew(h:RR ⟨W,[],γ,nt,Z,ds⟩ β σ a w)(hZ: ∀b,Z b→b<W.heap.size)(ts:List Nat)(hb:(ts.all fun t=>(σ.get t).bare)=true){W':World}(hk: ∀b,more Z W w b→W'.heap[b]? =w.heap[b]?)(hsz:w.heap.size≤W'.heap.size):
  RR ⟨W',[],γ,nt,more Z W w,ds⟩ β ⟨Tf σ ts,[]⟩ a W':=by
 have hlt: ∀b,more Z W w b→b<w.heap.size:=fun b hb=>by
  rcases hb with q|q
  ·have:=hZ b q;have:=h.size;simp at this;omega
  ·exact q.2
 refine RR.fresh (β0:=β) h.tsz h.dfs (fun b hb=>Nat.lt_of_lt_of_le (hlt b hb) hsz) (Nv h.gw.g fun b hb hlt'=>⟨(hk b (.inl hb)).trans (h.frame b hlt' (fun⟨i,hi,_⟩=>absurd hi (by simp))),.inl hb⟩) _ (fun t=>?_)
 rw[Y8]
 split
 ·rename_i ht
  refine(h.awayS t (List.all_eq_true.1 hb t ht)).mono' (fun b hb off u hu=>?_) (fun b hb=>hb) (fun k o _ hl=>by cases hl)
  simpa only[World.cell?,hk b hb] using hu
 ·exact .dead _
end
section
variable {P:Program} {nt:Nat} {c:Code}
theorem Uh{x y:AC}(h:Bq P nt c (.seq x y)=true): ∃c1 c2,c= .seq c1 c2∧Bq P nt c1 x=true∧Bq P nt c2 y=true:=by
 cases c<;>simp only[Bq] at h<;>try cases h
 simp only[Bool.and_eq_true] at h
 exact⟨_,_,rfl,h.1,h.2⟩
theorem Aa5{id:Nat}{x:AC}(h:Bq P nt c (.block id x)=true): ∃c1,c= .block id c1∧Bq P nt c1 x=true:=by
 cases c<;>simp only[Bq] at h<;>try cases h
 simp only[Bool.and_eq_true,beq_iff_eq] at h
 obtain⟨rfl,h⟩:=h
 exact⟨_,rfl,h⟩
theorem Ak7{keep:List Nat}{ks:List Key}{x:AC}(h:Bq P nt c (.loop keep ks x)=true): ∃c1,c= .loop c1∧Bq P nt c1 x=true:=by
 cases c<;>simp only[Bq] at h<;>try cases h
 exact⟨_,rfl,h⟩
theorem Aw2{l:List GOp}(h:Bq P nt c (.ops l)=true): ∃id ops,c= .region id ops false∧Dk (G5 P nt ops) ops.toList l=true:=by
 cases c<;>(try simp only[Bq] at h)<;>try cases h
 rename_i id ops draw
 cases draw<;>(try simp only[Bq] at h)<;>try cases h
 exact⟨id,ops,rfl,h⟩
theorem Wf{α β:Type}{f:α→β→Bool}: ∀{l:List α} {m1 m2:List β},Dk f l (m1++m2)=true→ ∃l1 l2,l=l1++l2∧Dk f l1 m1=true∧Dk f l2 m2=true
 |l,[],m2,h=>⟨[],l,rfl,rfl,h⟩
 |[],b::m1,m2,h=>by simp[Dk] at h
 |x::l,b::m1,m2,h=>by
  simp only[List.cons_append,Dk,Bool.and_eq_true] at h
  obtain⟨l1,l2,rfl,h1,h2⟩:=Wf h.2
  exact⟨x::l1,l2,rfl,by simp[Dk,h.1,h1],h2⟩
end
end Go.Av
namespace Go.Av
def I2{S α:Type}(f:S→α→Option S):S→List α→Option S
 |s,[]=>some s
 |s,x::t=>(f s x).bind fun s'=>I2 f s' t
theorem Wy{S α:Type}{f:S→α→Option S}: ∀{l:List α} {s s':S},I2 f s l=some s'→ ∀(i:Nat) (x:α),l[i]? =some x→ ∃s1 s2,I2 f s (l.take i)=some s1∧f s1 x=some s2∧I2 f s (l.take (i+1))=some s2
 |[],s,s',h,i,x,hx=>by simp at hx
 |y::t,s,s',h,i,x,hx=>by
  simp only[I2,Option.bind_eq_some_iff] at h
  obtain⟨s3,h3,h4⟩:=h
  cases i with
  |zero=>
   simp only[List.getElem?_cons_zero,Option.some.injEq] at hx
   subst hx
   exact⟨s,s3,rfl,h3,by simp[I2,h3]⟩
  |succ i=>
   simp only[List.getElem?_cons_succ] at hx
   obtain⟨s1,s2,q1,q2,q3⟩:=Wy h4 i x hx
   exact⟨s1,s2,by simp[I2,h3,q1],q2,by rw[List.take_succ_cons];simp only[I2,h3,Option.bind_some];exact q3⟩
theorem V5{P:Program}{ne:Nat}{g:Opd}{p:Nat}{a b:AC}{gf:FuncId}{caps:List SV}{S α:Type}{f:S→α→Option S}{enc:α→PV}{l:List α}{s0 s':S}(J:Nat→S→St)(h:I2 f s0 l=some s')(ht:(J 0 s0).target g=some (gf,caps))(hcb: ∀x∈caps,x.bare=true)
  (hsc: ∀x,(enc x).scalar=true)(hit:Aav P gf caps (l.map enc))(hT: ∀i s x s1,f s x=some s1→T9 P p a b (enc x) (J i s) (J (i+1) s1))(hi: ∀i s,Afj ne (J i s)=true):EvX P ne (.range g p a b) (J 0 s0) .norm (J l.length s') true:=by
 have:=EvX.range (P:=P) (ne:=ne) (g:=g) (p:=p) (a:=a) (b:=b) (gf:=gf) (caps:=caps) (xs:=l.map enc) (T:=fun n=>J n ((I2 f s0 (l.take n)).getD s0)) (by simpa [I2] using ht) hcb (fun x hx=>by obtain⟨y,_,rfl⟩:=List.mem_map.1 hx;exact hsc y) hit
  (fun i x hx=>by
   rw[List.getElem?_map,Option.map_eq_some_iff] at hx
   obtain⟨y,hy,rfl⟩:=hx
   obtain⟨s1,s2,q1,q2,q3⟩:=Wy h i y hy
   simp only[q1,q3,Option.getD_some]
   exact hT i s1 y s2 q2) (fun n _=>hi _ _)
 simpa [I2,h] using this
theorem EvX.keepE{P:Program}{ne:Nat}{fz:List Key}{sl:List (Nat×Bool)}{bx:List (Key×Bool)}{dead:List Key}{up:List Up}{x:AX}{σ σ1 σ':St}{ex:Ex}{m:Bool}(ht:σ.tidy fz sl bx dead up=σ1)(h:EvX P ne x σ1 ex σ' m):EvX P ne (.keep fz sl bx dead up x) σ ex σ' m:=by
 subst ht;exact .keep h
end Go.Av
end
section
set_option linter.unusedVariables false
set_option linter.unusedSimpArgs false
namespace Go.Av.G
open Go Go.Av
abbrev o0(d:Nat)(x:AOp):GOp:=⟨some d,none,x⟩
abbrev n0(x:AOp):GOp:=⟨none,none,x⟩
abbrev g0(d t:Nat)(b:Bool)(x:AOp):GOp:=⟨some d,some (t,b),x⟩
abbrev m0(d s:Nat):GOp:=⟨some d,none,.mov (.tmp s)⟩
abbrev k0(d:Nat)(n:Int):GOp:=⟨some d,none,.mov (.cst (.int .i64 n))⟩
abbrev b0(d:Nat)(b:Bool):GOp:=⟨some d,none,.mov (.cst (.bool b))⟩
abbrev f0(d n s:Nat):GOp:=⟨some d,none,.fld n (.tmp s)⟩
abbrev t0(d n s:Nat):GOp:=⟨some d,none,.load true n (.tmp s)⟩
abbrev l0(d n s:Nat):GOp:=⟨some d,none,.load false n (.tmp s)⟩
abbrev s0(n a v:Nat):GOp:=⟨none,none,.store n (.tmp a) (.tmp v)⟩
abbrev e0(d s:Nat):GOp:=⟨some d,none,.len false (.tmp s)⟩
abbrev i0(d n a i:Nat):GOp:=⟨some d,none,.idx n (.tmp a) (.tmp i)⟩
abbrev p0(d:Nat)(op:BinOp)(a b:Nat):GOp:=⟨some d,none,.bin false op (.tmp a) (.tmp b)⟩
abbrev q0(d:Nat)(op:BinOp)(a:Nat)(n:Int):GOp:=⟨some d,none,.bin false op (.tmp a) (.cst (.int .i64 n))⟩
abbrev Vi(n:Int):SV:= .pv (.int .i64 n)
abbrev Vb(b:Bool):SV:= .pv (.bool b)
abbrev Vl{α:Type}(f:α→PV)(l:List α):SV:= .pv (.slice (List.map f l))
abbrev Bf(c:Bool)(x:SV):SV:=bif c then x else .tup []
section
variable {P:Program} {cl:Cv} {draw:Bool} {σ σ1 σ':St} {l:List GOp} {d:Nat}
theorem Aw(h:(Ew Mn false l σ).isSome=true:=by kernel_rfl):Aj P l σ (σ.goes Mn false l):=Aj.all h
theorem Bw(n:Nat)(h2:Aj P (l.drop n) (σ.goes Mn false (l.take n)) σ')(h:(Ew Mn false (l.take n) σ).isSome=true:=by kernel_rfl):Aj P l σ σ':=Aj.stat n h h2
theorem Cw(h:(Ew cl draw l σ).isSome=true:=by kernel_rfl):Run cl draw l σ (σ.goes cl draw l):=Run.all h
theorem Dw(n:Nat)(h2:Run cl draw (l.drop n) (σ.goes cl draw (l.take n)) σ')(h:(Ew cl draw (l.take n) σ).isSome=true:=by kernel_rfl):Run cl draw l σ σ':=Run.stat n h h2
theorem Tw{f:FuncId}{args:List SV}{ext:List Ba}{r:Res}{es:List Ent}(h:A3 P f args ext r)(hs:H6 P (tab es)):H6 P (tab (⟨true,f,args,ext,r⟩::es)):=Ci (fun _=>h) hs
theorem Hw{on:Bool}{f:FuncId}{args:List SV}{ext:List Ba}{r:Res}{es:List Ent}(ho:on=true:=by kernel_rfl):tab (⟨on,f,args,ext,r⟩::es) f args ext=some r:=Al2 ho
theorem Kw(g:FuncId)(caps:List SV)(v:SV){f:Opd}{args:List Opd}{vs:List SV}{r:Res}(hc:cl g vs []=some r)(ht:σ.target f=some (g,caps):=by kernel_rfl)(hl:((args.map σ.ev++caps).map SV.tidy)=vs:=by kernel_rfl)(hb:vs.all SV.bare=true:=by kernel_rfl)(hv:took [] d 0 r=some ⟨v,[]⟩:=by kernel_rfl):
  step cl draw σ ⟨some d,none,.call 0 0 f args [] []⟩=some (σ.put (some d) v):=Ada ht hl hb hc hv
theorem Nw(e c:Bool){x:Opd}(hc:some e=some c)(hx:σ.ev x= .pv (.bool e):=by kernel_rfl):step cl draw σ ⟨some d,none,.mov x⟩=some (σ.put (some d) (.pv (.bool c))):=Step.name (f:=Afe) hx hc
theorem Lw{α:Type}(f:α→PV)(l:List α){x:Opd}(hx:σ.elems (σ.ev x)=some (l.map f):=by kernel_rfl):step cl draw σ ⟨some d,none,.len false x⟩=some (σ.put (some d) (.pv (.int .i64 (l.length:Int)))):=Af2 hx
theorem Iw{α:Type}(f:α→PV)(l:List α)(n:Int)(e:α){sz:Nat}{x i:Opd}(h:rdO l n=some e)(hx:σ.ev x= .pv (.slice (l.map f)):=by kernel_rfl)(hi:σ.ev i= .pv (.int .i64 n):=by kernel_rfl)(hs:((f e).cells.length==sz)=true:=by kernel_rfl):step cl draw σ ⟨some d,none,.idx sz x i⟩=some (σ.put (some d) (.ipv (f e) 0)):=Yp hx hi h hs
theorem Fw{fd:Fd}{n:Nat}{r:Res}(h:Qg Mn fd n σ=some r:=by kernel_rfl):Fin fd n r .ret σ:=Alf h
theorem Ow{α β:Type}{R:α→St→Prop}{Q':β→Ex→St→Prop}{a:α}(h:R a σ:=by(show _=_);kernel_rfl):Zw R Q' (.inl a) .norm σ:=Alr h
theorem Jw{α:Type}{R:α→St→Prop}{a:α}(h:R a σ:=by(show _=_);kernel_rfl):Ux R a .norm σ:=Bdv h
end
end Go.Av.G
end
