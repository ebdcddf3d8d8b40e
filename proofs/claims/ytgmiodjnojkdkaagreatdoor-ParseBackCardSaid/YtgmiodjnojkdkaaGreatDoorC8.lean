import Derived.OrdersIn
import Derived.TacticsIn
import Derived.Test.YtgmiodjnojkdkaaGreatDoorC7
set_option linter.all false
section
namespace Go.Av
def fr(ro:Option Nat):Fence:={Fence.wide with round:=ro}
section
variable {P:Program} {ro:Option Nat} {n:Nat} {ops:Array Oper} {o:Oper} {a:Act} {w:World} {K:Act→World→Prop} {Q:Exit→Act→World→Prop}
theorem Bdg{f:FuncId}{args:Array Value}{R:Ending→World→Prop}:CallsIn (fr ro) n P f args w R↔Calls P f args w R:=callsIn_wide (n:=n)
theorem Ay2(hnd: ∀c,o.op≠ .defer c)(h:o.wp P a w K Q):o.wpIn (fr ro) n P a w K Q:=by
 refine⟨fun _ _=>trivial,?_⟩
 rw[Oper.semAt_eq _ _ _ hnd]
 unfold Oper.wp at h
 generalize (execOp a.eval o).run P w=r at h
 cases r with
 |halt x w'=>cases x<;>simp only[Oper.upon,Oper.uponIn] at h⊢ <;>exact h
 |ok x w'=>
  cases x<;>simp only[Oper.upon,Oper.uponIn] at h⊢
  case value=>exact h
  case skip=>exact h
  case defer=>exact h
  case enter f args=>exact⟨(fun hh=>by cases hh),Bdg.2 h⟩
  case row r args=>
   refine⟨(fun hh=>by cases hh),fun c cs _=>?_⟩
   obtain⟨v,w2,r2,s⟩:=h c cs
   exact⟨v,w2,r2,stepsIn_wide.2 s⟩
theorem Ard{op:AOp}{c:Call}(h:agree P op (.defer c)=true):op= .stuck:=by
 cases op<;>first|rfl|(exfalso;simp[agree,Bk0,Bc4,A32,Bks,Bcz,A37,Bkr,Bkt,Brf,Bcy,Bkz,A34,Bc2,Bkv,Bc3,Bkw,Bc5,Bcx,Bkq,Bku,A33,Bky,Brd,Bk1,Bkx,Bre,Brc,Aub,Bkp,A35,A36,Bc1,Bc0] at h)
def A1s(ro:Option Nat)(n:Nat)(P:Program)(ops:Array Oper)(o:Oper)(a:Act)(w:World)(K:Act→World→Prop)(Q:Exit→Act→World→Prop):Prop:=
 if Region.wanted o (yielded ops a.tmps) then o.wpIn (fr ro) n P a w K Q else(∀f,o.about P w a.eval=some f→(fr ro).fn f)∧K (a.put o.dst undef) w
theorem A4f(hnd:Region.wanted o (yielded ops a.tmps)=true→ ∀c,o.op≠ .defer c)(h:Mh P ops o a w K Q):A1s ro n P ops o a w K Q:=by
 unfold A1s Mh at*
 cases hw:Region.wanted o (yielded ops a.tmps) with
 |true=>
  rw[hw] at h
  simp only[if_true] at h⊢
  exact Ay2 (hnd hw) h
 |false=>
  rw[hw] at h
  exact⟨fun _ _=>trivial,h⟩
theorem Bgn(hnd: ∀(i:Nat) (o:Oper),ops[i]? =some o→ ∀c,o.op≠ .defer c)(hQ: ¬LetsOut Q): ∀(fuel:Nat) (listed:Array Bool) (a:Act) (w:World),wpAny P .any ops Q fuel listed a w→wpAnyIn (fr ro) n P .any ops Q fuel listed a w:=by
 intro fuel
 induction fuel with
 |zero=>intro listed a w h;exact h
 |succ fuel ih=>
  intro listed a w h
  refine⟨h.1,fun i hi=>?_⟩
  have h:=h.2 i hi
  unfold wpOp at h
  unfold wpOpIn
  cases ho:ops[i]? with
  |none=>rw[ho] at h;exact ih _ _ _ h
  |some o=>
   rw[ho] at h
   simp only at h⊢
   split
   ·rename_i hw
    rw[if_pos hw] at h
    rcases h with h|⟨_,h⟩
    ·exact Oper.wpIn_mono (fun a w=>ih _ a w) (Ay2 (hnd i o ho) h)
    ·exact absurd h hQ
   ·rename_i hw
    rw[if_neg hw] at h
    exact⟨fun _ _=>trivial,ih _ _ _ h⟩
end
end Go.Av
end
section
namespace Go.Av
def Key.noExt:Key→Bool
 | .ext _=>false
 |_=>true
def GOp.told(g:GOp):Bool:=match g.op with
 | .stuck=>false
 |_=>true
def A4(P:Program)(nt:Nat):Code→AC→Bool
 |_,.stuck=>true
 |c,.keep _ _ _ _ up x=>up.all (fun u=>u.key.noExt)&&A4 P nt c x
 |c,.post _ _ _ _ up x=>up.all (fun u=>u.key.noExt)&&A4 P nt c x
 | .block id c,.pass id' x=>id==id'&& !x.exits id&&A4 P nt c x
 | .skip,.skip=>true
 | .region _ ops false,.ops l=>Cu (G6 P nt ops) ops.toList l
 | .region _ ops true,.draw ks l=>Cu (G6 P nt ops) ops.toList l&&l.all GOp.told&&(Ap7 ops.toList l ks||drawOK2 ops.toList l ks)
 | .region _ ops true,.drawZ ks l l2=>Cu (G6 P nt ops) ops.toList (l.map GOp.plain++l2)&&(l.map GOp.plain++l2).all GOp.told&&Ap7 (ops.toList.take l.length) l ks&&A3q l&&A70 ops.toList l.length
 | .seq x y,.seq x' y'=>A4 P nt x x'&&A4 P nt y y'
 | .cond c x y,.cond c' x' y'=>Ak c c'&&A4 P nt x x'&&A4 P nt y y'
 | .block id x,.block id' x'=>id==id'&&A4 P nt x x'
 | .loop x,.loop _ _ x'=>A4 P nt x x'
 | .exit id,.exit id'=>id==id'
 | .ret,.ret=>true
 |_,_=>false
def Ex.to:Ex→Exit
 | .norm=> .normal
 | .exit id=> .exit id
 | .ret=> .ret
theorem Ann{P:Program}{nt:Nat}{ops:Array Oper}: ∀{l:List Oper} {l':List GOp},Cu (G6 P nt ops) l l'=true→l'.all GOp.told=true→ ∀(i:Nat) (o:Oper),l[i]? =some o→ ∀c,o.op≠ .defer c
 |[],_,_,_,i,o,ho,c=>by simp at ho
 |_::_,[],h,_,_,_,_,_=>by simp[Cu] at h
 |x::l,g::l',h,ht,i,o,ho,c=>by
  simp only[Cu,Bool.and_eq_true,List.all_cons] at h ht
  cases i with
  |zero=>
   simp at ho;subst ho
   intro hc
   have h1:=(Mr h.1).1
   rw[hc] at h1
   have:=Ard h1
   have h2:=ht.1
   unfold GOp.told at h2
   rw[this] at h2;cases h2
  |succ i=>exact Ann h.2 ht.2 i o (by simpa using ho) c
def Lp(ro:Option Nat)(n:Nat)(P:Program)(c:Code)(Q:Exit→Act→World→Prop)(a:Act)(w:World):Prop:=
 ∀(b:Frame) (k:List Item) (cs:List Frame),b.roundOf=(fr ro).round→(fr ro).fn b.fn→(fr ro).room (cs.length+1+n)→
  ∃e a' w',Q e a' w'∧ArrivesIn (Machine.fenced P (fr ro)) P (lone (b.atR a (.code c:: .inLoop c::k)) cs w) b k cs e a' w'
theorem A9u{ro:Option Nat}{n:Nat}{P:Program}{c:Code}{Q:Exit→Act→World→Prop}{a:Act}{w:World}(h:c.wpIn (fr ro) n P (Exit.then (Lp ro n P c Q) Q) a w):Lp ro n P c Q a w:=by
 intro b k cs hro hb hr
 obtain⟨e,a₁,w₁,hq,harr⟩:=h b (.inLoop c::k) cs hro hb hr
 cases e with
 |normal=>
  obtain⟨e₂,a₂,w₂,hq₂,harr₂⟩:=hq b k cs hro hb hr
  exact⟨e₂,a₂,w₂,hq₂,.of_steps (StepsIn.trans harr (.one (fenced_calm hb hr rfl) stepR_inLoop)) harr₂⟩
 |exit id=>exact⟨_,a₁,w₁,hq,.pass (x:= .inLoop c) rfl (fun _ _=> .inl (by simp)) harr⟩
 |goto l=>exact⟨_,a₁,w₁,hq,.pass (x:= .inLoop c) rfl (fun _ _=> .inl (by simp)) harr⟩
 |ret=>exact⟨_,a₁,w₁,hq,.pass (x:= .inLoop c) rfl (fun _ _=> .inl (by simp)) harr⟩
 |panic ch=>exact⟨_,a₁,w₁,hq,.pass (x:= .inLoop c) rfl (fun _ _=> .inl (by simp)) harr⟩
 |outgrown=>exact⟨_,a₁,w₁,hq,.pass (x:= .inLoop c) rfl (fun _ _=> .inl (by simp)) harr⟩
theorem Bq8{ro:Option Nat}{n:Nat}{P:Program}{c:Code}{Q:Exit→Act→World→Prop}{a:Act}{w:World}(h:Lp ro n P c Q a w):(Code.loop c).wpIn (fr ro) n P Q a w:=by
 intro b k cs hro hb hr
 obtain⟨e,a',w',hq,harr⟩:=h b k cs hro hb hr
 exact⟨e,a',w',hq,.of_steps (.one (fenced_calm hb hr rfl) stepR_loop) harr⟩
end Go.Av
end
section
namespace Go.Av
section
variable {P:Program} {C:Ctx} {β:Key→Blk} {σ:St} {a:Act} {w:World} {cl:Callee}
def Aud(P:Program):ResultVar→RV→Bool
 | .tmp t,.tmp t'=>t==t'
 | .cell x t,.cell x' agg n=>x==x'&&Alz P t==some (agg,n)
 |_,_=>false
def Reads(a:Act)(f:ResultVar→Sem Value):Prop:=(∀u,f (.tmp u)=pure (a.tmps.getD u undef))∧ ∀x t,f (.cell x t)=(do loadVar t (←asAddr (a.tmps.getD x undef)))
theorem Bff(h:RR C β σ a w){r:ResultVar}{r':RV}{v:SV}(hag:Aud P r r'=true)(hv:Ani cl σ r'=some v):
  ∃u,(∀f,Reads a f→(f r).run P w= .ok u w)∧As w (okB C β σ.look w) β σ.look v u:=by
 unfold Aud at hag
 split at hag
 ·rename_i t t'
  simp only[beq_iff_eq] at hag;subst hag
  simp only[Ani,Option.some.injEq] at hv;subst hv
  exact⟨_,fun f hf=>by rw[hf.1];simp,h.slots t⟩
 ·rename_i x t x' agg n
  simp only[Bool.and_eq_true,beq_iff_eq] at hag
  obtain⟨rfl,ht⟩:=hag
  simp only[Ani,Option.map_eq_some_iff] at hv
  obtain⟨e,he,rfl⟩:=hv
  have:Lc σ agg n (σ.get x)=some e.v:=by
   revert he
   simp only[Au,Lc,St.ev]
   generalize σ.get x=xv
   intro he
   cases xv<;>simp only at he<;>try (cases he;done)
   ·split at he
    ·rename_i cs1 hk1
     split at he
     ·rename_i hle;simp only[Option.map_eq_some_iff] at he;obtain⟨v,hv,rfl⟩:=he;simp only[hk1,hle,if_true];exact hv
     ·cases he
    ·cases he
   ·split at he
    ·rename_i sz1 xs1 hk1
     split at he
     ·rename_i e2 he2
      split at he
      ·rename_i hle;simp only[Option.map_eq_some_iff] at he;obtain⟨v,hv,rfl⟩:=he;simp only[hk1,he2,hle,if_true];exact hv
      ·cases he
     ·cases he
    ·cases he
   ·split at he
    ·rename_i hle;simp only[Option.map_eq_some_iff] at he;obtain⟨v,hv,rfl⟩:=he;simp only[hle,if_true];exact hv
    ·cases he
  obtain⟨b,o,us,hxe,hn,hcs,u,hu,hs⟩:=behind h (h.slots x) this
  subst hn
  refine⟨u,fun f hf=>?_,hs⟩
  rw[hf.2,hxe]
  simp[asAddr,Apj ht hcs hu]
 ·cases hag
theorem Ar3(h:RR C β σ a w):
  ∀{rs:List ResultVar} {rs':List RV} {vs:List SV},Cu (Aud P) rs rs'=true→Adj cl σ rs'=some vs→ ∃us,(∀f,Reads a f→(rs.mapM f).run P w= .ok us w)∧vs.length=us.length∧ ∀(j:Nat) (x:SV) (u:Value),vs[j]? =some x→us[j]? =some u→As w (okB C β σ.look w) β σ.look x u
 |[],[],vs,_,hv=>by simp[Adj] at hv;subst hv;exact⟨[],by simp,rfl,by simp⟩
 |[],_::_,_,hag,_=>by simp[Cu] at hag
 |_::_,[],_,hag,_=>by simp[Cu] at hag
 |r::rs,r'::rs',vs,hag,hv=>by
  simp only[Cu,Bool.and_eq_true] at hag
  simp only[Adj] at hv
  split at hv
  ·rename_i v vs' h1 h2
   simp only[Option.some.injEq] at hv;subst hv
   obtain⟨u,e1,e2⟩:=Bff h hag.1 h1
   obtain⟨us,q1,q2,q3⟩:=Ar3 h hag.2 h2
   refine⟨u::us,fun f hf=>by simp[List.mapM_cons,e1 f hf,q1 f hf],by simp[q2],fun j x u' hx hu=>?_⟩
   cases j with
   |zero=>simp at hx hu;subst hx;subst hu;exact e2
   |succ j=>exact q3 j x u' (by simpa using hx) (by simpa using hu)
  ·cases hv
theorem Bh9{out:List Key}{k k':Key}(h:toR out k=some k'):(∃i,k= .ext i∧k'= .ext i)∨ ∃i,k'= .res i∧out[i]? =some k:=by
 unfold toR at h
 split at h
 ·rename_i i;cases h;exact .inl ⟨i,rfl,rfl⟩
 ·simp only[Option.map_eq_some_iff] at h
  obtain⟨i,hi,rfl⟩:=h
  exact .inr ⟨i,rfl,Amb hi⟩
theorem A9i(h:RR C β σ a w){fn:Func}{fd:Fd}(hag:Cu (Aud P) fn.results.toList fd.res=true)(hout:fd.out.Nodup)(hloc: ∀k∈fd.out,∀i,k≠ .ext i){r:Res}(hl:A9h cl fd C.ext.length σ=some r):
  ∃v δ,(results fn a.tmps).run P w= .ok v w∧After {C with nt:=0} w r v δ:=by
 unfold A9h at hl
 split at hl
 ·cases hl
 ·rename_i vs hvs
  simp only[Option.some.injEq] at hl
  obtain⟨us,hr,hlen,hs⟩:=Ar3 h hag hvs
  have hv: ∃v,(results fn a.tmps).run P w= .ok v w∧As w (okB C β σ.look w) β σ.look (Bbt vs) v:=by
   unfold results
   rw[show fn.results=fn.results.toList.toArray by simp,List.mapM_toArray]
   simp only[Sem.run_bind,Sem.run_map]
   rw[hr _ ⟨fun u=>rfl,fun x t=>rfl⟩]
   match vs,us,hlen,hs with
   |[x],[u],_,hs=>exact⟨u,by simp,hs 0 x u rfl rfl⟩
   |[],[],_,hs=>exact⟨.tuple #[],by simp,As.tup (w:=w) (ok:=okB C β σ.look w) (β:=β) (lk:=σ.look) [] [] rfl (by simp)⟩
   |x::y::xs,u::v::us,hlen,hs=>exact⟨.tuple (u::v::us).toArray,by simp,.tup _ _ hlen hs⟩
  obtain⟨v,hrv,hsv⟩:=hv
  let δ:Nat→Blk:=fun i=>β (fd.out.getD i (.res 0))
  have hδ: ∀i k,fd.out[i]? =some k→δ i=β k:=fun i k hi=>by simp[δ,List.getD,hi]
  have hrows:r.rows=fd.out.map fun k=>(σ.look k).map (Ah.nm (toR fd.out)):=by rw[←hl]
  have hexts:r.ext=(List.range C.ext.length).map fun i=>(σ.look (.ext i)).map (Ah.nm (toR fd.out)):=by rw[←hl]
  have hval:r.v=(Bbt vs).nm (toR fd.out):=by rw[←hl]
  have T1: ∀K o,Ci r.ext r.rows K=some o→ ∃k o1,toR fd.out k=some K∧σ.look k=some o1∧o=o1.nm (toR fd.out)∧Fb C.γ δ K=β k:=by
   intro K o hK
   cases K with
   |loc _ _=>cases hK
   |ext i=>
    simp only[Ci] at hK
    have hK:=Qp hK
    rw[hexts,List.getElem?_map] at hK
    simp only[Option.map_eq_some_iff] at hK
    obtain⟨j,hj,hj2⟩:=hK
    have:j=i:=by
     have:=List.getElem?_eq_some_iff.1 hj
     obtain⟨hlt,e⟩:=this
     simpa using e.symm
    subst this
    obtain⟨o1,h1,h2⟩:=hj2
    obtain⟨o0,q1,q2,q3⟩:=h.ext2 j o1 h1
    exact⟨.ext j,o1,rfl,h1,h2.symm,q3.symm⟩
   |res i=>
    simp only[Ci] at hK
    have hK:=Qp hK
    rw[hrows,List.getElem?_map] at hK
    simp only[Option.map_eq_some_iff] at hK
    obtain⟨k,hk,o1,h1,h2⟩:=hK
    refine⟨k,o1,?_,h1,h2.symm,by show δ i=β k;exact hδ i k hk⟩
    have hne:=hloc k (List.mem_of_getElem? hk)
    have hidx:fd.out.idxOf? k=some i:=by
     cases hx:fd.out.idxOf? k with
     |none=>
      have:k∉fd.out:=by
       simp only[List.idxOf?,List.findIdx?_eq_none_iff] at hx
       intro hm;have:=hx k hm;simp at this
      exact absurd (List.mem_of_getElem? hk) this
     |some j=>
      have hj:=Amb hx
      have:=(List.getElem?_inj (i:=j) (j:=i) (List.getElem?_eq_some_iff.1 hj).1 hout).1 (hj.trans hk.symm)
      rw[this]
    cases k with
    |ext j=>exact absurd rfl (hne j)
    |loc d j=>simp[toR,hidx]
    |res j=>simp[toR,hidx]
  have T2: ∀k o K,σ.look k=some o→toR fd.out k=some K→Ci r.ext r.rows K=some (o.nm (toR fd.out))∧Fb C.γ δ K=β k:=by
   intro k o K hk hf
   rcases Bh9 hf with⟨i,rfl,rfl⟩|⟨i,rfl,hi⟩
   ·obtain⟨o0,q1,q2,q3⟩:=h.ext2 i o hk
    have hlt:=(List.getElem?_eq_some_iff.1 q1).1
    refine⟨?_,q3.symm⟩
    show(r.ext[i]?).join=_
    rw[hexts,List.getElem?_map,List.getElem?_range hlt]
    simp only[Option.map_some,hk]
    rfl
   ·refine⟨?_,hδ i k hi⟩
    show(r.rows[i]?).join=_
    rw[hrows,List.getElem?_map,hi]
    simp only[Option.map_some,hk]
    rfl
  have hok: ∀b,okB C β σ.look w b→okB {C with nt:=0} (Fb C.γ δ) (Ci r.ext r.rows) w b:=by
   intro b hb
   refine⟨hb.1,fun K o hK e=>?_,hb.2.2⟩
   obtain⟨k,o1,_,h1,_,h3⟩:=T1 K o hK
   rw[h3] at e
   exact hb.2.1 k o1 h1 e
  refine⟨v,δ,hrv,⟨h.size,h.frame,?_,?_,?_,?_,?_,?_,h.quiet⟩⟩
  ·intro K1 K2 o1 o2 b h1 h2 e1 e2
   obtain⟨k1,p1,f1,g1,_,q1⟩:=T1 K1 o1 h1
   obtain⟨k2,p2,f2,g2,_,q2⟩:=T1 K2 o2 h2
   have e1:(Fb C.γ δ K1).b=some b:=e1
   have e2:(Fb C.γ δ K2).b=some b:=e2
   rw[q1] at e1;rw[q2] at e2
   have:=h.inj k1 k2 _ _ b g1 g2 e1 e2
   subst this
   rw[f1] at f2;cases f2;rfl
  ·intro K o b hK hb
   obtain⟨k,o1,_,h1,_,h3⟩:=T1 K o hK
   have hb:(Fb C.γ δ K).b=some b:=hb
   rw[h3] at hb
   exact h.lo k o1 b h1 hb
  ·rw[hexts];simp
  ·intro i o hi
   obtain⟨k,o1,f1,h1,rfl,h3⟩:=T1 _ o hi
   rcases Bh9 f1 with⟨j,rfl,e⟩|⟨j,e,_⟩
   ·cases e
    obtain⟨o0,q1,q2,_⟩:=h.ext2 i o1 h1
    exact⟨o0,q1,A9 q2 (o1.nm_sim _)⟩
   ·cases e
  ·intro K o hK
   obtain⟨k,o1,f1,h1,rfl,h3⟩:=T1 K o hK
   have h3:Fb ({C with nt:=0}:Ctx).γ δ K=β k:=h3
   rw[h3]
   refine(h.objs k o1 h1).nm' (toR fd.out) (fun b _ off u hu=>hu) hok (fun _ _=>rfl) (fun k2 o2 k2' _ h2 hf2=>?_)
   obtain⟨t1,t2⟩:=T2 k2 o2 k2' h2 hf2
   exact⟨_,t1,o2.nm_sim _,t2⟩
  ·rw[hval]
   refine hsv.nm' (toR fd.out) (fun b _ off u hu=>hu) hok (fun k2 o2 k2' _ h2 hf2=>?_)
   obtain⟨t1,t2⟩:=T2 k2 o2 k2' h2 hf2
   exact⟨_,t1,o2.nm_sim _,t2⟩
end
end Go.Av
end
section
namespace Go.Av
def Bc7(P:Program)(fn:Func)(fd:Fd):Bool:=
 decide (fd.np≤fn.ntmps)&& !(fn.name=="runtime.NumGoroutine")&&(decide fd.out.Nodup&&fd.out.all Key.noExt)&&Cu (Aud P) fn.results.toList fd.res&&
 (match fn.body with|some c=>A4 P fn.ntmps c fd.body|none=>false)
section
variable {P:Program} {cl:Callee}
theorem Ar5: ∀(args:List SV) (i t:Nat),Uf (slotsOf i args) t=if i≤t then args.getD (t-i) .dead else .dead
 |[],i,t=>by simp[slotsOf,Uf]
 |v::vs,i,t=>by
  simp only[slotsOf,Uf]
  rw[Ar5 vs (i+1) t]
  by_cases h:i=t
  ·subst h;simp
  ·have hb:(i==t)=false:=by simpa using h
   rw[hb,cond_false]
   by_cases h2:i≤t
   ·rw[if_pos (by omega),if_pos h2,show t-i=(t-(i+1))+1 by omega]
    simp
   ·rw[if_neg (by omega),if_neg h2]
theorem Bli{w:World}{vs:List Value}{γ:Nat→Blk}{ok:Nat→Prop}{args:List SV}{ext:List Ah}{nt:Nat}(hok: ∀b,ok b→b<w.heap.size∧ ∀i,i<ext.length→(γ i).b≠some b)(hG:GOK w ok)
  (hinj: ∀i j b,i<ext.length→j<ext.length→(γ i).b=some b→(γ j).b=some b→i=j)(hobj: ∀i o,ext[i]? =some o→Fa w ok (Anx γ) (Ak6 ext) o (γ i))(hl:args.length=vs.length)
  (hargs: ∀(j:Nat) (x:SV) (v:Value),args[j]? =some x→vs[j]? =some v→As w ok (Anx γ) (Ak6 ext) x v)(hnt:args.length≤nt):
  RR ⟨w,ext,γ,nt,ok,[]⟩ (Anx γ) (enter args ext) {tmps:=vs.toArray++Array.replicate (nt-vs.toArray.size) undef,defers:=[]} w:=by
 have hlook:(enter args ext).look=Ak6 ext:=rfl
 have hback: ∀k o,(enter args ext).look k=some o→ ∃i,k= .ext i∧i<ext.length∧ext[i]? =some o:=fun k o h=>by
  obtain⟨i,h1,h2⟩:=Arn ext 0 k o h
  exact⟨i,by simpa using h1,(List.getElem?_eq_some_iff.1 h2).1,h2⟩
 have hok': ∀b,ok b→okB ⟨w,ext,γ,nt,ok,[]⟩ (Anx γ) (enter args ext).look w b:=fun b hb=>by
  refine⟨(hok b hb).1,fun k o h=>?_,fun _=> .inl hb⟩
  obtain⟨i,rfl,hi,_⟩:=hback k o h
  exact(hok b hb).2 i hi
 refine⟨?_,rfl,?_,?_,?_,?_,?_,Nat.le_refl _,fun b _ _=>rfl,Quiet.refl _,⟨hG,fun b hb=>⟨(hok b hb).1,fun⟨i,hi,e⟩=>(hok b hb).2 i hi e⟩⟩⟩
 ·simp;omega
 ·intro k k' o o' b h1 h2 e1 e2
  obtain⟨i,rfl,hi,_⟩:=hback k o h1
  obtain⟨j,rfl,hj,_⟩:=hback k' o' h2
  rw[hinj i j b hi hj e1 e2]
 ·intro k o h
  obtain⟨i,rfl,hi,hx⟩:=hback k o h
  exact(hobj i o hx).same hok' (fun k o h=>⟨o,h,o.sim_refl⟩)
 ·intro k o b h hx
  obtain⟨i,rfl,hi,_⟩:=hback k o h
  exact .inr ⟨i,hi,hx⟩
 ·intro i o h
  obtain⟨j,e,hj,hx⟩:=hback _ o h
  injection e with e
  subst e
  exact⟨o,hx,o.sim_refl,rfl⟩
 ·intro t
  have hg:(enter args ext).get t=args.getD t .dead:=by
   have:=Ar5 args 0 t
   simpa [enter,St.get] using this
  rw[hg]
  by_cases ht:t<args.length
  ·have h1:args[t]? =some args[t]:=List.getElem?_eq_getElem ht
   have h2:vs[t]? =some (vs[t]'(by omega)):=List.getElem?_eq_getElem (by omega)
   have hs:=hargs t _ _ h1 h2
   have e1:args.getD t .dead=args[t]:=by simp[List.getD,ht]
   have e2:(vs.toArray++Array.replicate (nt-vs.toArray.size) undef).getD t undef=vs[t]'(by omega):=by
    have:t<vs.length:=by omega
    simp[Array.getD_eq_getD_getElem?,Array.getElem?_append,this]
   rw[e1,e2]
   exact hs.mono (fun b _ off u hu=>hu) hok' (fun k o h=>⟨o,h,o.sim_refl,rfl⟩)
  ·have e1:args.getD t .dead= .dead:=by simp[List.getD,List.getElem?_eq_none_iff.2 (by omega:args.length≤t)]
   rw[e1];exact .dead _
end
end Go.Av
end
