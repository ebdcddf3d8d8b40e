import Derived.Test.YtgmiodjnojkdkaaGreatDoorC16
set_option linter.all false
section
set_option maxHeartbeats 8000000
set_option maxRecDepth 100000
namespace Go.Av.G
open Go Go.Av Go.Proofs
def nS(x:St):St:=(x.1.map nt,x.2)
theorem Aol(s:By)(x:St):mT s (nS x)=nS (mT s x):=by
 obtain⟨ts,b⟩:=x
 cases b with
 |true=>show mT s (ts.map nt,true)=nS (mT s (ts,true));rw[A4v,A4v];rfl
 |false=>
  show mT s (ts.map nt,false)=nS (mT s (ts,false))
  unfold mT
  rw[Rf,Rf,Ug]
  split
  ·rw[←List.map_tail];rfl
  ·rfl
theorem Bb6(k:Int)(x:St):sm k (nS x)=((sm k x).1,nS (sm k x).2):=by
 obtain⟨ts,b⟩:=x
 cases b with
 |true=>show sm k (ts.map nt,true)=_;rw[Aq2,Aq2];rfl
 |false=>
  cases ts with
  |nil=>rfl
  |cons t r=>
   show sm k (nt t::r.map nt,false)=_
   unfold sm F9
   simp only
   have e1:(nt t).Ad=t.Ad:=rfl
   have e2:(nt t).Ag=t.Ag:=rfl
   rw[e1,e2]
   split<;>rfl
theorem Ajh(s:By)(x:St):Dj s (nS x)=((Dj s x).1,nS (Dj s x).2):=by simp only[Dj,Aol,Bb6]
theorem Bov(x:St):C9 (nS x)=((C9 x).1,nS (C9 x).2):=by simp only[C9,Aol,Bb6]
theorem A8m: ∀(f:Nat) (x:St),Bz f (nS x)=((Bz f x).1,nS (Bz f x).2)
 |0,x=>rfl
 |f+1,x=>by
  rw[Bz,Bz,Bov]
  have e:(nS x).2=x.2:=rfl
  have e2:isT [125] (nS (C9 x).2).1=isT [125] (C9 x).2.1:=Ug _ _
  rw[e]
  simp only
  rw[e2]
  split
  ·rfl
  ·split
   ·rfl
   ·rw[A8m f]
theorem Brr(x:St):Sv (nS x)=((Sv x).1,nS (Sv x).2):=by
 unfold Sv
 have e:(nS x).2=x.2:=rfl
 have e2:(nS x).1=x.1.map nt:=rfl
 rw[e,e2,Bki]
 split
 ·rfl
 ·cases CL x.1 0 with
  |mk o i=>cases o<;>rfl
theorem Bqw(x:St):pA (nS x)=((pA x).1,nS (pA x).2):=by simp only[pA,Aol,Bb6]
theorem Bqx(x:St):pB (nS x)=((pB x).1,nS (pB x).2):=by simp only[pB,Bqw,Bb6]
theorem Bqy(x:St):pC (nS x)=((pC x).1,nS (pC x).2):=by simp only[pC,Bqx,Aol,Bb6]
theorem Bqz(x:St):pD (nS x)=((pD x).1,nS (pD x).2):=by simp only[pD,Bqy,Aol,Ajh]
theorem Bq0(x:St):pE (nS x)=((pE x).1,nS (pE x).2):=by
 simp only[pE,Bqz,Aol,Bda]
 have e: ∀y:St,(nS y).1.length=y.1.length:=fun y=>by simp[nS]
 rw[e,A8m]
theorem Bq1(x:St):pF (nS x)=((pF x).1,nS (pF x).2):=by simp only[pF,Bq0,Aol,Brr]
theorem Bq2(x:St):pG (nS x)=((pG x).1,nS (pG x).2):=by simp only[pG,Bq1,Aol,Ajh]
theorem Bq3(x:St):pH (nS x)=((pH x).1,nS (pH x).2):=by simp only[pH,Bq2,Ajh]
theorem Bs9(x:St):pI (nS x)=((pI x).1,nS (pI x).2):=by simp only[pI,Bq3,Ajh]
theorem Bpt(x:St):Ft (nS x)=((Ft x).1,nS (Ft x).2):=by
 simp only[Ft,pZ,Bqw,Bqx,Bqy,Bqz,Bq0,Bq1,Bq2,Bq3,Bs9,Aol]
theorem A8y: ∀(f:Nat) (x:St),Ck f (nS x)=((Ck f x).1,nS (Ck f x).2)
 |0,x=>rfl
 |f+1,x=>by
  rw[Ck,Ck,Bpt,A8y f]
  have e:((nS x).2=false∧(nS x).1≠[])↔(x.2=false∧x.1≠[]):=by
   show(x.2=false∧x.1.map nt≠[])↔_
   simp
  by_cases h:x.2=false∧x.1≠[]
  ·rw[if_pos (e.2 h),if_pos h]
  ·rw[if_neg (fun c=>h (e.1 c)),if_neg h]
theorem Im{w:By}(h:(A5 w).1≠2)(r:List Tk):mT w (tkW w::r,false)=(r,false):=by
 unfold mT
 rw[Rf,if_pos]
 ·rfl
 ·simp only[isT,tkW]
  refine decide_eq_true ⟨?_,trivial⟩
  omega
theorem A7w{w:By}(h:Iy w true=true)(r:List Tk):sm 0 (tkW w::r,false)=(w,r,false):=by
 unfold Iy at h
 simp only[Bool.and_eq_true,Bool.not_eq_true'] at h
 rw[(Aaj h.1).1]
 unfold sm F9
 simp[h.2]
theorem A7x{w:By}(h:Di w=true)(r:List Tk):sm 1 (tkW w::r,false)=(w,r,false):=by
 rw[(Aaj h).1]
 unfold sm F9
 simp
theorem Z4{s w:By}(hs:(A5 s).1≠2)(h:Di w=true)(r:List Tk):Dj s (tkW s::tkW w::tkW [59]::r,false)=(w,r,false):=by
 unfold Dj
 rw[Im hs,A7x h]
 simp only
 rw[Im (by decide)]
theorem A8l{b:Ao}(h:Es b=true)(r:List Tk):C9 (tkL (H7 b)++r,false)=(b,r,false):=by
 unfold Es at h
 simp only[Bool.and_eq_true] at h
 have e:tkL (H7 b)++r=tkW b.C7::tkW [58]::tkW b.Dm::tkW [37]::tkW [59]::r:=rfl
 unfold C9
 rw[e,A7x h.1]
 simp only
 rw[Im (by decide),A7x h.2]
 simp only
 rw[Im (by decide),Im (by decide)]
theorem A10(R:List Tk): ∀(bs:List Ao) (f:Nat),bs≠[]→bs.all Es=true→bs.length≤f→Bz f (tkL (bs.flatMap H7)++tkW [125]::R,false)=(bs,tkW [125]::R,false)
 |[],f,h,_,_=>absurd rfl h
 |[b],f,_,ha,hf=>by
  obtain⟨g,rfl⟩: ∃g,f=g+1:=⟨f-1,by simp at hf;omega⟩
  simp only[List.all_cons,List.all_nil,Bool.and_true] at ha
  have e:tkL ([b].flatMap H7)++tkW [125]::R=tkL (H7 b)++(tkW [125]::R):=by simp
  rw[e,Bz,A8l ha]
  simp only[Bool.false_eq_true,if_false]
  rw[if_pos (show isT [125] (tkW [125]::R)=true from rfl)]
 |b::c::bs,f,_,ha,hf=>by
  obtain⟨g,rfl⟩: ∃g,f=g+1:=⟨f-1,by simp at hf;omega⟩
  have ha2:Es b=true∧(c::bs).all Es=true:=by simpa using ha
  have hc:Di c.C7=true:=by
   have:=ha2.2
   simp only[List.all_cons,Bool.and_eq_true] at this
   have:=this.1
   unfold Es at this
   simp only[Bool.and_eq_true] at this
   exact this.1
  have ih:=A10 R (c::bs) g (by simp) ha2.2 (by simp at hf⊢;omega)
  have e:tkL ((b::c::bs).flatMap H7)++tkW [125]::R=tkL (H7 b)++(tkL ((c::bs).flatMap H7)++tkW [125]::R):=by
   rw[List.flatMap_cons,Mp,List.append_assoc]
  have hn1:(A5 c.C7).1=1:=by
   have:=(of_decide_eq_true hc).1
   simp only at this
   omega
  have hne:isT [125] (tkL ((c::bs).flatMap H7)++tkW [125]::R)=false:=by
   have e2:tkL ((c::bs).flatMap H7)++tkW [125]::R=tkW c.C7::(tkL ([[58],c.Dm,[37],[59]]++bs.flatMap H7)++tkW [125]::R):=by
    rw[List.flatMap_cons];rfl
   rw[e2]
   exact Aai hn1 (j:=3) (by decide) (by decide) _
  rw[e,Bz,A8l ha2.1]
  simp only[Bool.false_eq_true,if_false]
  rw[if_neg (by rw[hne];simp),ih]
theorem A4x{d:Ae}(h:Ht d=true):Iy d.Cn true=true∧Iy d.Dt true=true∧Iy d.Bt true=true∧Di d.Bi=true∧Di d.Ba=true∧Di d.A0=true∧Di d.Bf=true∧d.Aq≠[]∧d.Aq.length≤8∧d.Aq.all Es=true∧Jm d.Cl≠0:=by
 unfold Ht at h
 simp only[Bool.and_eq_true,decide_eq_true_eq] at h
 obtain⟨⟨⟨⟨⟨⟨⟨⟨⟨⟨h1,h2⟩,h3⟩,h4⟩,h5⟩,h6⟩,h7⟩,h8⟩,h9⟩,h10⟩,h11⟩:=h
 exact⟨h1,h2,h3,h4,h5,h6,h7,(fun e=>by rw[e] at h8;simp at h8),h9,h10,by omega⟩
theorem Bm8{d:Ae}(h:Ht d=true)(R:List Tk):Ft (tkL (C4 d)++R,false)=(d,R,false):=by
 obtain⟨h1,h2,h3,h4,h5,h6,h7,h8,h9,h10,h11⟩:=A4x h
 generalize hx:((tkL (C4 d)++R,false):St)=x
 have hL:tkL (C4 d)++R=tkW Zj::tkW d.Cn::tkW d.Dt::tkW [123]::tkW Ai2::tkW d.Bt::tkW [59]::tkW Qi::tkW d.Bi::tkW [59]::tkW Dy::tkW [123]::(tkL (d.Aq.flatMap H7)++tkW [125]::tkW Ank::(tkL (C1 d.Cl)++tkW [59]::tkW Ib::tkW d.Ba::tkW [59]::tkW Ej::tkW d.A0::tkW [59]::tkW Il::tkW d.Bf::tkW [59]::tkW [125]::R)):=by
  unfold C4 Adr Bci
  simp[tkL]
 rw[hL] at hx
 generalize hY:tkL (d.Aq.flatMap H7)++tkW [125]::tkW Ank::(tkL (C1 d.Cl)++tkW [59]::tkW Ib::tkW d.Ba::tkW [59]::tkW Ej::tkW d.A0::tkW [59]::tkW Il::tkW d.Bf::tkW [59]::tkW [125]::R)=Y at hx
 have eA:pA x=(d.Cn,tkW d.Dt::tkW [123]::tkW Ai2::tkW d.Bt::tkW [59]::tkW Qi::tkW d.Bi::tkW [59]::tkW Dy::tkW [123]::Y,false):=by
  unfold pA
  rw[←hx,Im (by decide),A7w h1]
 have eB:pB x=(d.Dt,tkW [123]::tkW Ai2::tkW d.Bt::tkW [59]::tkW Qi::tkW d.Bi::tkW [59]::tkW Dy::tkW [123]::Y,false):=by
  unfold pB
  rw[eA,A7w h2]
 have eC:pC x=(d.Bt,tkW [59]::tkW Qi::tkW d.Bi::tkW [59]::tkW Dy::tkW [123]::Y,false):=by
  unfold pC
  rw[eB,Im (by decide),Im (by decide),A7w h3]
 have eD:pD x=(d.Bi,tkW Dy::tkW [123]::Y,false):=by
  unfold pD
  rw[eC,Im (by decide),Z4 (by decide) h4]
 have eE:pE x=(d.Aq,tkW [125]::tkW Ank::(tkL (C1 d.Cl)++tkW [59]::tkW Ib::tkW d.Ba::tkW [59]::tkW Ej::tkW d.A0::tkW [59]::tkW Il::tkW d.Bf::tkW [59]::tkW [125]::R),false):=by
  unfold pE Bda
  rw[eD,Im (by decide),Im (by decide)]
  simp only
  rw[←hY]
  refine A10 _ _ _ h8 h10 ?_
  have:=Q3 d.Aq
  simp only[List.length_append,tkL,List.length_map]
  omega
 have eF:pF x=(d.Cl,tkW [59]::tkW Ib::tkW d.Ba::tkW [59]::tkW Ej::tkW d.A0::tkW [59]::tkW Il::tkW d.Bf::tkW [59]::tkW [125]::R,false):=by
  unfold pF
  rw[eE,Im (by decide),Im (by decide)]
  unfold Sv
  simp only[Bool.false_eq_true,if_false]
  rw[back h11 (u:=tkW [59]::tkW Ib::tkW d.Ba::tkW [59]::tkW Ej::tkW d.A0::tkW [59]::tkW Il::tkW d.Bf::tkW [59]::tkW [125]::R) ⟨by decide,rfl⟩]
 have eG:pG x=(d.Ba,tkW Ej::tkW d.A0::tkW [59]::tkW Il::tkW d.Bf::tkW [59]::tkW [125]::R,false):=by
  unfold pG
  rw[eF,Im (by decide),Z4 (by decide) h5]
 have eH:pH x=(d.A0,tkW Il::tkW d.Bf::tkW [59]::tkW [125]::R,false):=by
  unfold pH
  rw[eG,Z4 (by decide) h6]
 have eI:pI x=(d.Bf,tkW [125]::R,false):=by
  unfold pI
  rw[eH,Z4 (by decide) h7]
 unfold Ft pZ
 rw[eA,eB,eC,eD,eE,eF,eG,eH,eI,Im (by decide)]
theorem A17: ∀(ds:List Ae) (f:Nat),ds.all Ht=true→ds.length<f→Ck f (tkL (ds.flatMap C4),false)=(ds,[],false)
 |[],f,_,hf=>by
  obtain⟨g,rfl⟩: ∃g,f=g+1:=⟨f-1,by simp at hf;omega⟩
  rw[Ck,if_neg (by simp[tkL])]
  rfl
 |d::ds,f,ha,hf=>by
  obtain⟨g,rfl⟩: ∃g,f=g+1:=⟨f-1,by simp at hf;omega⟩
  simp only[List.all_cons,Bool.and_eq_true] at ha
  have ih:=A17 ds g ha.2 (by simp at hf;omega)
  rw[List.flatMap_cons,Mp,Ck,if_pos ⟨rfl,by simp[tkL,C4,Adr]⟩,Bm8 ha.1]
  simp only
  rw[ih]
theorem A8x{d:Ae}(h:Ht d=true): ∀w∈C4 d,okT (tkW w)=true:=by
 obtain⟨h1,h2,h3,h4,h5,h6,h7,h8,h9,h10,h11⟩:=A4x h
 have hw: ∀w,Iy w true=true→okT (tkW w)=true:=fun w hw=>by
  unfold Iy at hw
  simp only[Bool.and_eq_true] at hw
  exact(Aaj hw.1).2
 have hn: ∀w,Di w=true→okT (tkW w)=true:=fun w hn=>(Aaj hn).2
 have hc: ∀w∈([Zj,[123],Ai2,[59],Qi,Dy,[125],Ank,Ib,Ej,Il,[58],[37]]:List By),okT (tkW w)=true:=by decide +kernel
 intro w hm
 unfold C4 at hm
 simp only[List.mem_append,List.mem_cons,Adr,Bci,List.not_mem_nil,or_false,List.mem_flatMap] at hm
 rcases hm with(hm|hm|hm|hm|hm|hm|hm|hm|hm|hm|hm|hm)|hm|hm|hm|hm|hm|hm|hm|hm|hm|hm|hm|hm|hm|hm|hm
 ·exact hc w (by simp[hm])
 ·rw[hm];exact hw _ h1
 ·rw[hm];exact hw _ h2
 ·exact hc w (by simp[hm])
 ·exact hc w (by simp[hm])
 ·rw[hm];exact hw _ h3
 ·exact hc w (by simp[hm])
 ·exact hc w (by simp[hm])
 ·rw[hm];exact hn _ h4
 ·exact hc w (by simp[hm])
 ·exact hc w (by simp[hm])
 ·exact hc w (by simp[hm])
 ·obtain⟨b,hb,hm⟩:=hm
  have hbo:=List.all_eq_true.1 h10 b hb
  unfold Es at hbo
  simp only[Bool.and_eq_true] at hbo
  simp only[H7,List.mem_cons,List.not_mem_nil,or_false] at hm
  rcases hm with hm|hm|hm|hm|hm
  ·rw[hm];exact hn _ hbo.1
  ·exact hc w (by simp[hm])
  ·rw[hm];exact hn _ hbo.2
  ·exact hc w (by simp[hm])
  ·exact hc w (by simp[hm])
 ·exact hc w (by simp[hm])
 ·exact hc w (by simp[hm])
 ·exact Aj2 h11 w hm
 ·exact hc w (by simp[hm])
 ·exact hc w (by simp[hm])
 ·rw[hm];exact hn _ h5
 ·exact hc w (by simp[hm])
 ·exact hc w (by simp[hm])
 ·rw[hm];exact hn _ h6
 ·exact hc w (by simp[hm])
 ·exact hc w (by simp[hm])
 ·rw[hm];exact hn _ h7
 ·exact hc w (by simp[hm])
 ·exact hc w (by simp[hm])
theorem Ax2{ds:List Ae}(h:ds.all Ht=true)(h16:ds.length≤16):Cx (jw (ds.flatMap C4))=(ds,0,0,0)∨((Cx (jw (ds.flatMap C4))).2.2.2=6∨(Cx (jw (ds.flatMap C4))).2.2.2=4)∧ ∃e,LX (jw (ds.flatMap C4))= .inr e:=by
 have hok: ∀w∈ds.flatMap C4,okT (tkW w)=true:=fun w hw=>by
  obtain⟨d,hd,hw⟩:=List.mem_flatMap.1 hw
  exact A8x (List.all_eq_true.1 h d hd) w hw
 by_cases hl:(jw (ds.flatMap C4)).length≤8000
 ·rcases Bqj (Bce hok) (fun t ht=>by
   obtain⟨w,hw,rfl⟩:=List.mem_map.1 ht
   exact hok w hw) hl with⟨l',h1,h2⟩|⟨p,h1⟩
  ·left
   have hn:l'.map nt=tkL (ds.flatMap C4):=by
    rw[Bht h2]
    unfold tkL
    rw[List.map_map]
    rfl
   have hlen:ds.length<l'.length+1:=by
    have e:=congrArg List.length hn
    rw[List.length_map] at e
    unfold tkL at e
    rw[List.length_map] at e
    have: ∀ds:List Ae,ds.length≤(ds.flatMap C4).length:=by
     intro ds
     induction ds with
     |nil=>simp
     |cons d ds ih=>
      rw[List.flatMap_cons,List.length_append,List.length_cons]
      have:1≤(C4 d).length:=by simp[C4,Adr]
      omega
    have:=this ds
    omega
   have hd:=A8y (l'.length+1) (l',false)
   have e1:nS (l',false)=(tkL (ds.flatMap C4),false):=by show(l'.map nt,false)=_;rw[hn]
   rw[e1,A17 ds _ h hlen] at hd
   unfold Cx
   rw[h1]
   simp only
   generalize hr:Ck (l'.length+1) (l',false)=r at hd
   obtain⟨c,ts,b⟩:=r
   simp only[nS,Prod.mk.injEq] at hd
   obtain⟨rfl,hts,rfl⟩:=hd
   have hts:ts=[]:=by simpa using hts.symm
   subst hts
   simp only
   rw[if_pos]
   refine⟨List.all_eq_true.2 fun d hd=>?_,h16⟩
   obtain⟨_,_,_,_,_,_,_,_,h9,_,h11⟩:=A4x (List.all_eq_true.1 h d hd)
   unfold Aqb
   simp only[Bool.and_eq_true,decide_eq_true_eq]
   omega
  ·right
   refine⟨Or.inl ?_,_,h1⟩
   unfold Cx
   rw[h1]
   rfl
 ·right
  have:LX (jw (ds.flatMap C4))= .inr (0,4):=by unfold LX;rw[if_pos (by omega)]
  refine⟨Or.inr ?_,_,this⟩
  unfold Cx
  rw[this]
  rfl
def TO(x:St):Prop:= ∀t∈x.1,okT t=true∧t.Ag.length≤100000
theorem TO.sfx{x y:St}(h:TO x)(hs:y.1 <:+ x.1):TO y:=fun t ht=>h t (hs.subset ht)
theorem Bmz{t:Tk}(h:okT t=true){k:Int}(hk:t.Ad=k):okT ⟨k,0,0,t.Ag⟩=true:=by
 subst hk
 exact h
theorem Bfp{x:St}(h:TO x)(hg:(sm 0 x).2.2=false):Iy (sm 0 x).1 true=true:=by
 obtain⟨ts,b⟩:=x
 cases b with
 |true=>rw[Aq2] at hg;cases hg
 |false=>
  cases ts with
  |nil=>cases hg
  |cons t r=>
   unfold sm F9 at hg⊢
   simp only at hg⊢
   split at hg
   ·cases hg
   ·rename_i hc
    rw[if_neg hc]
    have h1:t.Ad=0:=Decidable.byContradiction fun e=>hc (Or.inl e)
    have h2:Aqr t.Ag true=false:=by
     rw[←Bool.not_eq_true]
     exact fun e=>hc (Or.inr (by simp[e]))
    unfold Iy
    rw[Bmz (h t (by simp)).1 h1,h2]
    rfl
theorem Bfq{x:St}(h:TO x)(hg:(sm 1 x).2.2=false):Di (sm 1 x).1=true:=by
 obtain⟨ts,b⟩:=x
 cases b with
 |true=>rw[Aq2] at hg;cases hg
 |false=>
  cases ts with
  |nil=>cases hg
  |cons t r=>
   unfold sm F9 at hg⊢
   simp only at hg⊢
   split at hg
   ·cases hg
   ·rename_i hc
    rw[if_neg hc]
    have h1:t.Ad=1:=Decidable.byContradiction fun e=>hc (Or.inl e)
    exact Bmz (h t (by simp)).1 h1
theorem Aq3{k:Int}{x:St}(h:TO x):(sm k x).1.length≤1000000:=by
 obtain⟨ts,b⟩:=x
 cases b with
 |true=>rw[Aq2];simp
 |false=>
  cases ts with
  |nil=>simp[sm,F9]
  |cons t r=>
   unfold sm F9
   simp only
   split
   ·simp
   ·have:=(h t (by simp)).2
    simp only
    omega
theorem Aji{s:By}{x:St}(h:TO x)(hg:(Dj s x).2.2=false):Di (Dj s x).1=true:=Bfq (h.sfx (Bg s x)) (B9 hg).1
theorem Z5{s:By}{x:St}(h:TO x):(Dj s x).1.length≤1000000:=Aq3 (h.sfx (Bg s x))
theorem Bgu{x:St}(h:TO x)(hg:(C9 x).2.2=false):Es (C9 x).1=true:=by
 have g1:=(B9 (B9 hg).1).1
 have g2:=(B9 (Qk g1).1).1
 unfold Es
 simp only[Bool.and_eq_true]
 exact⟨Bfq h g2,Bfq (h.sfx ((Bg _ _).trans (Sj _ _))) g1⟩
theorem A8n: ∀(f:Nat) (x:St),TO x→(Bz f x).2.2=false→(Bz f x).1.all Es=true
 |0,x,_,_=>rfl
 |f+1,x,h,hg=>by
  rw[Bz] at hg⊢
  split
  ·rfl
  ·rename_i hb
   rw[if_neg hb] at hg
   split
   ·rename_i hc
    rw[if_pos hc] at hg
    simp[Bgu h hg]
   ·rename_i hc
    rw[if_neg hc] at hg
    have h1:=A8n f _ (h.sfx (Ags x)) hg
    have h2:=Bgu h (Al0 f _ hg)
    simp[h1,h2]
theorem Bk9{f:Nat}{x:St}(hx:x.2=false):(Bz (f+1) x).1≠[]:=by
 rw[Bz,if_neg (by simp[hx])]
 split<;>simp
theorem Auj: ∀(f:Nat) (x:St),TO x→ ∀b∈(Bz f x).1,b.C7.length≤1000000∧b.Dm.length≤1000000
 |0,x,_,b,hb=>by simp[Bz] at hb
 |f+1,x,h,b,hb=>by
  have h1:(C9 x).1.C7.length≤1000000∧(C9 x).1.Dm.length≤1000000:=⟨Aq3 h,Aq3 (h.sfx ((Bg _ _).trans (Sj _ _)))⟩
  rw[Bz] at hb
  split at hb
  ·simp at hb
  ·split at hb
   ·rw[List.mem_singleton.1 hb];exact h1
   ·rcases List.mem_cons.1 hb with rfl|hb
    ·exact h1
    ·exact Auj f _ (h.sfx (Ags x)) b hb
theorem Bm9{x:St}(h:TO x)(hg:(Ft x).2.2=false)(hf:Aqb (Ft x).1=true):Ht (Ft x).1=true:=by
 have gI:(pI x).2.2=false:=(B9 hg).1
 have gH:(pH x).2.2=false:=Fz gI
 have gG:(pG x).2.2=false:=Fz gH
 have gF:(pF x).2.2=false:=(B9 (Fz gG)).1
 have gE:(pE x).2.2=false:=(B9 (B9 (A86 gF)).1).1
 have gD':=Al0 _ _ gE
 have gD:(pD x).2.2=false:=(B9 (B9 gD').1).1
 have gC:(pC x).2.2=false:=(B9 (Fz gD)).1
 have gB:(pB x).2.2=false:=(B9 (B9 (Qk gC).1).1).1
 have gA:(pA x).2.2=false:=(Qk gB).1
 unfold Aqb at hf
 simp only[Bool.and_eq_true,decide_eq_true_eq] at hf
 have n1:Iy (pA x).1 true=true:=Bfp (h.sfx (Bg _ _)) gA
 have n2:Iy (pB x).1 true=true:=Bfp (h.sfx (A45 x)) gB
 have n3:Iy (pC x).1 true=true:=Bfp (h.sfx ((Bg _ _).trans ((Bg _ _).trans (Avs x)))) gC
 have n4:Di (pD x).1=true:=Aji (h.sfx ((Bg _ _).trans (Avt x))) gD
 have n5:Di (pG x).1=true:=Aji (h.sfx ((Bg _ _).trans (Avv x))) gG
 have n6:Di (pH x).1=true:=Aji (h.sfx (A46 x)) gH
 have n7:Di (pI x).1=true:=Aji (h.sfx (A47 x)) gI
 have n8:(pE x).1.all Es=true:=A8n _ _ (h.sfx ((Bg _ _).trans ((Bg _ _).trans (Amk x)))) gE
 have n9:(pE x).1≠[]:=Bk9 (f:=(mT [123] (mT Dy (pD x).2)).1.length+1) gD'
 unfold Ht
 show(Iy (pA x).1 true&&Iy (pB x).1 true&&Iy (pC x).1 true&&Di (pD x).1&&Di (pG x).1&&Di (pH x).1&&Di (pI x).1&&decide (1≤(pE x).1.length)&&decide ((pE x).1.length≤8)&&(pE x).1.all Es&&decide (0<Jm (pF x).1))=true
 have e1:decide (1≤(pE x).1.length)=true:=decide_eq_true (List.length_pos_iff.2 n9)
 have e2:decide ((pE x).1.length≤8)=true:=decide_eq_true hf.1
 have e3:decide (0<Jm (pF x).1)=true:=decide_eq_true hf.2
 rw[n1,n2,n3,n4,n5,n6,n7,n8,e1,e2,e3]
 rfl
theorem Bps{l:List Tk}(hF:Fit l)(hl:l.length≤8000){x:St}(hx:x.1 <:+ l)(h:TO x):DB (Ft x).1:=by
 have hxl:=hx.length_le
 have hb:(Ft x).1.Aq.length≤1000000:=by
  have h1:=Ap5 ((mT [123] (mT Dy (pD x).2)).1.length+2) (mT [123] (mT Dy (pD x).2))
  have h2:=((Bg [123] _).trans ((Bg Dy _).trans (Amk x))).length_le
  have h3:(Ft x).1.Aq=(Bz ((mT [123] (mT Dy (pD x).2)).1.length+2) (mT [123] (mT Dy (pD x).2))).1:=rfl
  rw[h3]
  omega
 exact⟨Aq3 (h.sfx (Bg _ _)),Aq3 (h.sfx (A45 x)),Aq3 (h.sfx ((Bg _ _).trans ((Bg _ _).trans (Avs x)))),Z5 (h.sfx ((Bg _ _).trans (Avt x))),
  Z5 (h.sfx ((Bg _ _).trans (Avv x))),Z5 (h.sfx (A46 x)),Z5 (h.sfx (A47 x)),Brq hF hl hx,hb,
  Auj _ _ (h.sfx ((Bg _ _).trans ((Bg _ _).trans (Amk x))))⟩
theorem A18{l:List Tk}(hF:Fit l)(hl:l.length≤8000): ∀(f:Nat) (x:St),x.1 <:+ l→TO x→(Ck f x).2.2=false→(Ck f x).1.all Aqb=true→(Ck f x).1.all Ht=true∧ ∀d∈(Ck f x).1,DB d
 |0,x,_,_,_,_=>⟨rfl,fun d hd=>by simp[Ck] at hd⟩
 |f+1,x,hx,h,hg,ha=>by
  rw[Ck] at hg ha⊢
  by_cases hc:x.2=false∧x.1≠[]
  ·rw[if_pos hc] at hg ha⊢
   simp only[List.all_cons,Bool.and_eq_true] at ha⊢
   obtain⟨r1,r2⟩:=A18 hF hl f _ ((Aiw x).trans hx) (h.sfx (Aiw x)) hg ha.2
   refine⟨⟨Bm9 h (Auq f _ hg) ha.1,r1⟩,fun d hd=>?_⟩
   rcases List.mem_cons.1 hd with rfl|hd
   ·exact Bps hF hl hx h
   ·exact r2 d hd
  ·rw[if_neg hc]
   exact⟨rfl,fun d hd=>by simp at hd⟩
theorem Bna{s:By}(h:(Cx s).2.2.2=0):(Cx s).1.all Ht=true∧(Cx s).1.length≤16∧ ∀d∈(Cx s).1,DB d:=by
 unfold Cx at h⊢
 cases hl:LX s with
 |inr e=>
  rw[hl] at h
  have:=(Apv hl).1
  simp only at h
  omega
 |inl l=>
  obtain⟨hF,hl8,_,hok,_⟩:=Apu hl
  rw[hl] at h
  simp only at h⊢
  have hm:=A18 hF hl8 (l.length+1) (l,false) (List.suffix_refl l) (fun t ht=>⟨hok t ht,hF.tx t ht⟩)
  generalize hr:Ck (l.length+1) (l,false)=r at h hm
  obtain⟨c,ts,b⟩:=r
  cases ts with
  |cons t r=>cases b<;>simp at h
  |nil=>
   cases b with
   |true=>simp at h
   |false=>
    simp only at h hm⊢
    by_cases hc:List.all c Aqb=true∧c.length≤16
    ·rw[if_pos hc]
     obtain⟨m1,m2⟩:=hm trivial hc.1
     exact⟨m1,hc.2,m2⟩
    ·rw[if_neg hc] at h
     simp at h
theorem A25{s:By}(h:(Cx s).2.2.2≠0):(Cx s).1=[]:=by
 unfold Cx at h⊢
 cases hl:LX s with
 |inr e=>rfl
 |inl l=>
  rw[hl] at h
  simp only at h⊢
  generalize hr:Ck (l.length+1) (l,false)=r at h
  obtain⟨c,ts,b⟩:=r
  cases ts with
  |cons t r=>cases b<;>rfl
  |nil=>
   cases b with
   |true=>rfl
   |false=>
    simp only at h⊢
    by_cases hc:List.all c Aqb=true∧c.length≤16
    ·rw[if_pos hc] at h
     simp at h
    ·rw[if_neg hc]
end Go.Av.G
end
section
set_option maxRecDepth 100000
set_option maxHeartbeats 8000000
namespace Go.Av.G
open Go Go.Av Go.Proofs
end Go.Av.G
end
section
set_option maxHeartbeats 8000000
set_option maxRecDepth 100000
namespace Go.Av.G
open Go Go.Av Go.Proofs
def Arq(l:List Nd):Bool:=decide (l.length≤300)&&l.all (fun n=>decide (n.Ag.length≤300))
theorem Bg4(l:List Nd):Ee l=some (Arq l):=by
 unfold Ee Arq
 by_cases hl:l.length≤300
 ·rw[if_neg (by simp;omega)]
  refine Bj (Lk (l:=l) (fun n=> !decide (n.Ag.length≤300)) (o:=(.inr false:Unit⊕Bool)) (e:= .inl ()) (by omega) (fun i hi=>?_) (fun i hi=>?_)) ?_
  ·show(if _ then _ else _)=_
   rw[if_pos (by simp;omega),Fv hi]
   simp only[Option.bind_some]
   by_cases h:l[i].Ag.length≤300
   ·rw[if_neg (by simp;omega),if_neg (by simp[h])]
   ·rw[if_pos (by simp;omega),if_pos (by simp;omega)]
  ·show(if _ then _ else _)=_
   rw[if_neg (by simp;omega)]
  ·have:l.any (fun n=> !decide (n.Ag.length≤300))= !l.all (fun n=>decide (n.Ag.length≤300)):=by rw[List.not_all_eq_any_not]
   rw[this]
   have hd:decide (l.length≤300)=true:=by simpa using hl
   rw[hd]
   cases l.all (fun n=>decide (n.Ag.length≤300))<;>rfl
 ·rw[if_pos (by simp;omega)]
  have hd:decide (l.length≤300)=false:=by simpa using hl
  rw[hd]
  rfl
theorem A4b{l:List Nd}(h:Arq l=true):NB l∧l.length≤300:=by
 unfold Arq at h
 simp only[Bool.and_eq_true,decide_eq_true_eq,List.all_eq_true] at h
 exact⟨fun n hn=>by have:=h.2 n hn;omega,h.1⟩
structure DW (d:Ae):Prop where
 name:d.Cn.length≤200000000000000
 cur:d.Dt.length≤200000000000000
 basis:d.Bt.length≤200000000000000
 period:d.Bi.length≤200000000000000
 minimum:d.Ba.length≤200000000000000
 overdraft:d.A0.length≤200000000000000
 notice:d.Bf.length≤200000000000000
 band: ∀b∈d.Aq,b.C7.length≤200000000000000∧b.Dm.length≤200000000000000
def Bf8(d:Ae):Nat:=d.Cn.length+d.Dt.length+d.Bt.length+d.Bi.length+d.Ba.length+d.A0.length+d.Bf.length
def Ak8(d:Ae):Bool:=Arq d.Cl&&decide (d.Aq.length≤300)&&decide (Bf8 d≤300)&&d.Aq.all (fun b=>decide (b.C7.length+b.Dm.length≤300))
theorem Bo0{d:Ae}(h:DW d):Ef d=some (Ak8 d):=by
 unfold Ef Ak8
 rw[Bg4]
 simp only[Option.bind_some]
 have h1:=h.name;have h2:=h.cur;have h3:=h.basis;have h4:=h.period;have h5:=h.minimum;have h6:=h.overdraft;have h7:=h.notice
 rw[wrap64 (x:=(d.Cn.length:Int)+(d.Dt.length:Int)) (by omega) (by omega),wrap64 (x:=(d.Cn.length:Int)+(d.Dt.length:Int)+(d.Bt.length:Int)) (by omega) (by omega),
  wrap64 (x:=(d.Cn.length:Int)+(d.Dt.length:Int)+(d.Bt.length:Int)+(d.Bi.length:Int)) (by omega) (by omega),
  wrap64 (x:=(d.Cn.length:Int)+(d.Dt.length:Int)+(d.Bt.length:Int)+(d.Bi.length:Int)+(d.Ba.length:Int)) (by omega) (by omega),
  wrap64 (x:=(d.Cn.length:Int)+(d.Dt.length:Int)+(d.Bt.length:Int)+(d.Bi.length:Int)+(d.Ba.length:Int)+(d.A0.length:Int)) (by omega) (by omega),
  wrap64 (x:=(d.Cn.length:Int)+(d.Dt.length:Int)+(d.Bt.length:Int)+(d.Bi.length:Int)+(d.Ba.length:Int)+(d.A0.length:Int)+(d.Bf.length:Int)) (by omega) (by omega)]
 cases hf:Arq d.Cl with
 |false=>rfl
 |true=>
  by_cases hb:d.Aq.length≤300
  ·have hb1:decide ((d.Aq.length:Int)>300)=false:=by simp;omega
   have hb2:decide (d.Aq.length≤300)=true:=by simpa using hb
   rw[hb1,hb2]
   by_cases hs:Bf8 d≤300
   ·have hs1:decide ((d.Cn.length:Int)+(d.Dt.length:Int)+(d.Bt.length:Int)+(d.Bi.length:Int)+(d.Ba.length:Int)+(d.A0.length:Int)+(d.Bf.length:Int)>300)=false:=by unfold Bf8 at hs;simp;omega
    have hs2:decide (Bf8 d≤300)=true:=by simpa using hs
    rw[hs1,hs2]
    simp only[Bool.not_true,Bool.or_self,Bool.false_eq_true,if_false,Bool.true_and]
    refine Bj (Lk (l:=d.Aq) (fun b=> !decide (b.C7.length+b.Dm.length≤300)) (o:=(.inr false:Unit⊕Bool)) (e:= .inl ()) (by omega) (fun i hi=>?_) (fun i hi=>?_)) ?_
    ·have hw:=h.band d.Aq[i] (List.getElem_mem hi)
     show(if _ then _ else _)=_
     rw[if_pos (by simp;omega),Fv hi]
     simp only[Option.bind_some]
     rw[wrap64 (by omega) (by omega)]
     by_cases hc:d.Aq[i].C7.length+d.Aq[i].Dm.length≤300
     ·rw[if_neg (by simp;omega),if_neg (by simp[hc])]
     ·rw[if_pos (by simp;omega),if_pos (by simp;omega)]
    ·show(if _ then _ else _)=_
     rw[if_neg (by simp;omega)]
    ·have:d.Aq.any (fun b=> !decide (b.C7.length+b.Dm.length≤300))= !d.Aq.all (fun b=>decide (b.C7.length+b.Dm.length≤300)):=by rw[List.not_all_eq_any_not]
     rw[this]
     cases d.Aq.all (fun b=>decide (b.C7.length+b.Dm.length≤300))<;>rfl
   ·have hs1:decide ((d.Cn.length:Int)+(d.Dt.length:Int)+(d.Bt.length:Int)+(d.Bi.length:Int)+(d.Ba.length:Int)+(d.A0.length:Int)+(d.Bf.length:Int)>300)=true:=by unfold Bf8 at hs;simp;omega
    have hs2:decide (Bf8 d≤300)=false:=by simpa using hs
    rw[hs1,hs2]
    rfl
  ·have hb1:decide ((d.Aq.length:Int)>300)=true:=by simp;omega
   have hb2:decide (d.Aq.length≤300)=false:=by simpa using hb
   rw[hb1,hb2]
   rfl
theorem Boz{d:Ae}(h:Ak8 d=true):DB d∧d.Cl.length≤300:=by
 unfold Ak8 Bf8 at h
 simp only[Bool.and_eq_true,decide_eq_true_eq,List.all_eq_true] at h
 obtain⟨⟨⟨h1,h2⟩,h3⟩,h4⟩:=h
 exact⟨⟨by omega,by omega,by omega,by omega,by omega,by omega,by omega,(A4b h1).1,by omega,fun b hb=>by have:=h4 b hb;omega⟩,(A4b h1).2⟩
theorem Bdk{ds:List Ae}(hn:ds.length≤20)(hw: ∀d∈ds,DW d):A3 (fun(qj6:Int)=>match qj6 with
   |i7=>(
    if (decide (i7<(ds.length:Int)))=true then
     (rdO ds i7).bind fun x8=>
     (Ef x8).bind fun x9=>
     if (!x9)=true then
      (Bn).bind fun x10=>
      some (.inr (.inr x10))
     else
      some (.inl (IntKind.wrap .i64 (i7+1)))
    else
     some (.inr (.inl ())):Option (Int⊕(Unit⊕Bool)))) 0=some (if ds.all Ak8=true then .inl () else .inr true):=by
 rw[Lk (l:=ds) (fun d=> !Ak8 d) (o:=(.inr true:Unit⊕Bool)) (e:= .inl ()) (by omega) (fun i hi=>?_) (fun i hi=>?_)]
 ·have:ds.any (fun d=> !Ak8 d)= !ds.all Ak8:=by rw[List.not_all_eq_any_not]
  rw[this]
  cases ds.all Ak8<;>rfl
 ·show(if _ then _ else _)=_
  rw[if_pos (by simp;omega),Fv hi]
  simp only[Option.bind_some]
  rw[Bo0 (hw _ (List.getElem_mem hi)),Aue]
  simp only[Option.bind_some]
  split<;>rfl
 ·show(if _ then _ else _)=_
  rw[if_neg (by simp;omega)]
end Go.Av.G
end
section
namespace Go.Av.G
open Go Go.Av Go.Proofs
theorem Bnd:reachBytes=140737488351232:=by decide
theorem Bti{d:Ae}(h:Ae.wf d):DW d:=by
 obtain⟨h1,h2,h3,h4,h5,h6,h7,h8,h9⟩:=h
 have e:=Bnd
 exact⟨by omega,by omega,by omega,by omega,by omega,by omega,by omega,fun b hb=>by
  obtain⟨b1,b2⟩:=h5.2 b hb
  exact⟨by omega,by omega⟩⟩
end Go.Av.G
end
section
set_option maxHeartbeats 8000000
set_option maxRecDepth 100000
namespace Go.Av.G
open Go Go.Av Go.Proofs
theorem Bic{s:By}(h:(Er s).2.2.2=0): ∃S,LX s= .inl S∧CL S 0=(some (Er s).1,[])∧Jm (Er s).1≠0:=by
 unfold Er at h⊢
 cases hl:LX s with
 |inr e=>
  rw[hl] at h
  have:=(Apv hl).1
  simp only at h
  omega
 |inl S=>
  rw[hl] at h
  simp only at h⊢
  cases hc:CL S 0 with
  |mk o i=>
   rw[hc] at h
   cases i with
   |cons t r=>simp at h
   |nil=>
    cases o with
    |none=>simp at h
    |some a=>
     simp only at h⊢
     by_cases hd:Jm a=0
     ·rw[if_pos hd] at h;simp at h
     ·rw[if_neg hd]
      exact⟨S,rfl,hc,hd⟩
theorem A9g{ws:List By}(h1:ws.length≤34000)(h2: ∀w∈ws,w.length≤1000):(jw ws).length≤100000000:=by
 have e:=A4k ws 1000 h2
 have e2:ws.length*(1000+1)≤34000*(1000+1):=Nat.mul_le_mul_right _ h1
 omega
theorem A3k{w:By}(h:okT (tkW w)=true):w.length≤1000:=by
 obtain⟨k,h1,h2⟩:=Avr h
 have e:(tkW w).Ag=w:=rfl
 rw[e] at h2
 cases w with
 |nil=>simp
 |cons b t=>
  unfold A5 at h2
  simp only at h2
  split at h2
  ·unfold Lf at h2
   split at h2
   ·simp at h2
   ·simp only[Prod.mk.injEq] at h2
    omega
  ·split at h2
   ·unfold Ad3 at h2
    split at h2
    ·simp at h2
    ·split at h2
     ·simp only[Prod.mk.injEq] at h2
      omega
     ·simp only[Prod.mk.injEq] at h2
      omega
   ·split at h2
    ·unfold Ai0 at h2
     split at h2
     ·simp at h2
     ·split at h2
      ·simp at h2
      ·simp only[Prod.mk.injEq] at h2
       omega
    ·unfold Adk at h2
     split at h2
     ·simp only[Prod.mk.injEq] at h2
      omega
     ·simp only at h2
      split at h2
      ·simp only[Prod.mk.injEq] at h2
       omega
      ·simp at h2
theorem Ar2{l:List Nd}(h:Jm l≠0):(jw (C1 l)).length≤1000000000:=by
 have:=A9g (ws:=C1 l) (by have:=Ano h;omega) (fun w hw=>A3k (Aj2 h w hw))
 omega
theorem Aiv{ds:List Ae}(h:ds.all Ht=true)(h16:ds.length≤16):(jw (ds.flatMap C4)).length≤1000000000:=by
 have:=A9g (ws:=ds.flatMap C4) (by have:=Agw h;omega) (fun w hw=>by
  obtain⟨d,hd,hw⟩:=List.mem_flatMap.1 hw
  exact A3k (A8x (List.all_eq_true.1 h d hd) w hw))
 omega
theorem Bco{s:By}(hs:s.length≤1000000000):B3 s=some (Er s):=by
 by_cases h:s.length≤1000000
 ·exact Ajz h
 ·have hl:LX s= .inr (0,4):=by unfold LX;rw[if_pos (by omega)]
  unfold B3 Hh Er
  rw[Bcw,hl]
  simp only[Option.bind_some]
  rw[if_neg (by decide)]
  have hp:=Anr (text:=s) (i:=0) (by omega) (by omega)
  rw[show(((0:Nat):Int))=0 from rfl] at hp
  rw[show(((0,4):Nat×Nat).1:Int)=0 from rfl,hp]
  rfl
theorem Bgq{s:By}(hs:s.length≤1000000000):Eb s=some (Cx s):=by
 by_cases h:s.length≤1000000
 ·exact Auf h
 ·have hl:LX s= .inr (0,4):=by unfold LX;rw[if_pos (by omega)]
  unfold Eb Hh Cx
  rw[Bcw,hl]
  simp only[Option.bind_some]
  rw[if_neg (by decide)]
  have hp:=Anr (text:=s) (i:=0) (by omega) (by omega)
  rw[show(((0:Nat):Int))=0 from rfl] at hp
  rw[show(((0,4):Nat×Nat).1:Int)=0 from rfl,hp]
  rfl
theorem At3(s:By): ∃c a e,Bq s=some (c,a,e)∧(e=0→ ∃l,LX s= .inl l):=by
 rw[Bop]
 cases h:LX s with
 |inl l=>exact⟨_,_,_,rfl,fun _=>⟨l,rfl⟩⟩
 |inr e=>
  have:=(Apv h).1
  exact⟨_,_,_,rfl,fun h0=>by omega⟩
theorem Bqe{s:By}(h:(Er s).2.2.2=0):NB (Er s).1:=by
 obtain⟨S,h1,h2,_⟩:=Bic h
 obtain⟨hF,hl,_⟩:=Apu h1
 exact Bqi hF (List.suffix_refl S) hl h2
theorem Br6{l:List Nd}(hn:NB l)(hl:l.length≤1000000):(E2 l).bind (fun x13=>(Bq x13.1).bind fun x14=>
  (some (x13.2==0)).bind fun c15=>
  ((if (c15&&(x14.2.2==0))=true then
    (B3 x13.1).bind fun x17=>
    (Bw x17.1 l).bind fun x18=>
    (some (x17.2.2.2 !=0)).bind fun c19=>
    (some (c19||(!x18))).bind fun c20=>
    (some (c20||(x17.2.1 !=0))).bind fun c21=>
    if (c21||(x17.2.2.1 !=0))=true then
     some (.inr false)
    else
     some (.inl ())
  else
   some (.inl ())):Option (Unit⊕Bool)))=some (.inl ()):=by
 rw[Ape hn]
 simp only[Option.bind_some]
 unfold Anf
 by_cases hd:Jm l=0
 ·rw[if_pos hd]
  obtain⟨c,a,e,h1,_⟩:=At3 []
  rw[h1]
  rfl
 ·rw[if_neg hd]
  obtain⟨c,a,e,h1,h2⟩:=At3 (jw (C1 l))
  rw[h1]
  simp only[Option.bind_some,beq_self_eq_true,Bool.true_and,beq_iff_eq]
  by_cases he:e=0
  ·obtain⟨L,h3⟩:=h2 he
   rw[if_pos he,Bco (Ar2 hd)]
   rcases A3m hd with h4|⟨_,e',h4⟩
   ·rw[h4]
    simp only[Option.bind_some]
    rw[Anq hl]
    simp
   ·rw[h3] at h4;cases h4
  ·rw[if_neg he]
theorem Br7{ds:List Ae}(hd: ∀d∈ds,DB d∧d.Cl.length≤1000000)(hl:ds.length≤1000000):(Dn ds).bind (fun x22=>(Bq x22.1).bind fun x23=>
  (some (x22.2==0)).bind fun c24=>
  ((if (c24&&(x23.2.2==0))=true then
    (Eb x22.1).bind fun x26=>
    (Bv x26.1 ds).bind fun x27=>
    (some (x26.2.2.2 !=0)).bind fun c28=>
    if (c28||(!x27))=true then
     some (.inr false)
    else
     some (.inl ())
  else
   some (.inl ())):Option (Unit⊕Bool)))=some (.inl ()):=by
 rw[Aiu (fun d h=>(hd d h).1) hl]
 simp only[Option.bind_some]
 unfold Qx
 by_cases hc:16<ds.length∨ds.all Ht=false
 ·rw[if_pos hc]
  obtain⟨c,a,e,h1,_⟩:=At3 []
  rw[h1]
  rfl
 ·rw[if_neg hc]
  have h16:ds.length≤16:=by omega
  have hm:ds.all Ht=true:=by rw[←Bool.not_eq_false];exact fun h=>hc (Or.inr h)
  obtain⟨c,a,e,h1,h2⟩:=At3 (jw (ds.flatMap C4))
  rw[h1]
  simp only[Option.bind_some,beq_self_eq_true,Bool.true_and,beq_iff_eq]
  by_cases he:e=0
  ·obtain⟨L,h3⟩:=h2 he
   rw[if_pos he,Bgq (Aiv hm h16)]
   rcases Ax2 hm h16 with h4|⟨_,e',h4⟩
   ·rw[h4]
    simp only[Option.bind_some]
    rw[Alv hl (fun d h=>⟨(hd d h).1.bands,(hd d h).2⟩)]
    simp
   ·rw[h3] at h4;cases h4
  ·rw[if_neg he]
theorem Br8{s:By}(hs:s.length≤1000000):(B3 s).bind (fun x29=>
  ((if (x29.2.2.2==0)=true then
    (E2 x29.1).bind fun x31=>
    (B3 x31.1).bind fun x32=>
    (Bw x32.1 x29.1).bind fun x33=>
    (some (x31.2 !=0)).bind fun c34=>
    (some (x32.2.2.2==0)).bind fun c35=>
    (some (c34||(c35&&(!x33)))).bind fun c36=>
    (some (c36||(x32.2.2.2==14))).bind fun c37=>
    if (c37||(x32.2.2.2==3))=true then
     some (.inr false)
    else
     some (.inl ())
  else
   some (.inl ())):Option (Unit⊕Bool)))=some (.inl ()):=by
 rw[Ajz hs]
 simp only[Option.bind_some,beq_iff_eq]
 by_cases he:(Er s).2.2.2=0
 ·rw[if_pos he,Ape (Bqe he)]
  obtain⟨S,_,_,hd⟩:=Bic he
  have hp:Anf (Er s).1=(jw (C1 (Er s).1),0):=by unfold Anf;rw[if_neg hd]
  simp only[Option.bind_some]
  rw[hp]
  simp only
  rw[Bco (Ar2 hd)]
  simp only[Option.bind_some]
  rw[Anq (by have:=Boh (s:=jw (C1 (Er s).1));omega)]
  simp only[Option.bind_some]
  rcases A3m hd with h4|⟨h4|h4,_⟩
  ·rw[h4];simp
  ·rw[h4];rfl
  ·rw[h4];rfl
 ·rw[if_neg he]
theorem Br9{s:By}(hs:s.length≤1000000):(Eb s).bind (fun x38=>
  if (x38.2.2.2 !=0)=true then
   (Bn).bind fun x39=>
   some (x39&&((x38.1.length:Int)==0))
  else
   (Dn x38.1).bind fun x40=>
   (Eb x40.1).bind fun x41=>
   (Bv x41.1 x38.1).bind fun x42=>
   (Bn).bind fun x43=>
   (some (x43&&(x40.2==0))).bind fun c44=>
   (some (x41.2.2.2 !=0)).bind fun c45=>
   (some (c44&&(c45||x42))).bind fun c46=>
   (some (c46&&(x41.2.2.2 !=14))).bind fun c47=>
   some (c47&&(x41.2.2.2 !=3)))=some true:=by
 rw[Auf hs,Aue]
 simp only[Option.bind_some,bne_iff_ne]
 by_cases he:(Cx s).2.2.2=0
 ·rw[if_neg (by simp[he])]
  obtain⟨hm,h16,hdb⟩:=Bna he
  have hp:Qx (Cx s).1=(jw ((Cx s).1.flatMap C4),0):=by
   unfold Qx
   rw[if_neg]
   rintro(h|h)
   ·omega
   ·rw[hm] at h;cases h
  rw[Aiu hdb (by omega),hp]
  simp only[Option.bind_some]
  rw[Bgq (Aiv hm h16)]
  simp only[Option.bind_some]
  rcases Ax2 hm h16 with h4|⟨h4,e',h5⟩
  ·rw[h4]
   simp only
   rw[Alv (by omega) (fun d hd=>((Bbo s).2 d hd))]
   simp
  ·have hnil:(Cx (jw ((Cx s).1.flatMap C4))).1=[]:=A25 (by rcases h4 with h|h<;>rw[h]<;>decide)
   rw[hnil]
   obtain⟨b,hb⟩: ∃b,Bv [] (Cx s).1=some b:=by
    unfold Bv
    by_cases hz:(Cx s).1=[]
    ·rw[hz]
     exact⟨true,Alv (a:=[]) (by simp) (by simp)⟩
    ·rw[if_pos (by
      have:0<(Cx s).1.length:=List.length_pos_iff.2 hz
      simp;omega)]
     exact⟨false,rfl⟩
   rw[hb]
   rcases h4 with h|h<;>rw[h]<;>cases b<;>rfl
 ·rw[if_pos he,A25 he]
  rfl
theorem Bk7{l:List Nd}{ds:List Ae}{s:By}(hw: ∀d∈ds,DW d):Ds l ds s=some true:=by
 unfold Ds
 rw[Bg4]
 simp only[Option.bind_some]
 by_cases hc:Arq l=true∧ds.length≤20∧s.length≤9000
 ·obtain⟨c1,c2,c3⟩:=hc
  have hnb:=A4b c1
  rw[if_neg (by rw[c1];simp;omega)]
  refine Bj (Bdk c2 hw) ?_
  by_cases ha:ds.all Ak8=true
  ·rw[if_pos ha]
   simp only
   have hdb: ∀d∈ds,DB d∧d.Cl.length≤1000000:=fun d hd=>by
    obtain⟨h1,h2⟩:=Boz (List.all_eq_true.1 ha d hd)
    exact⟨h1,by omega⟩
   obtain⟨x13,p1,q1⟩:=Wn (Br6 hnb.1 (by omega))
   rw[p1]
   simp only[Option.bind_some]
   obtain⟨x14,p2,q2⟩:=Wn q1
   rw[p2]
   simp only[Option.bind_some] at q2⊢
   refine Bj q2 ?_
   simp only
   obtain⟨x22,p3,q3⟩:=Wn (Br7 hdb (by omega))
   rw[p3]
   simp only[Option.bind_some]
   obtain⟨x23,p4,q4⟩:=Wn q3
   rw[p4]
   simp only[Option.bind_some] at q4⊢
   refine Bj q4 ?_
   simp only
   obtain⟨x29,p5,q5⟩:=Wn (Br8 (s:=s) (by omega))
   rw[p5]
   simp only[Option.bind_some] at q5⊢
   refine Bj q5 ?_
   simp only
   have h4:=Br9 (s:=s) (by omega)
   exact h4
  ·rw[if_neg ha]
 ·rw[if_pos (by
   simp only[Bool.or_eq_true,Bool.not_eq_true',decide_eq_true_eq]
   by_cases h1:Arq l=true
   ·by_cases h2:ds.length≤20
    ·right
     have: ¬s.length≤9000:=fun h=>hc ⟨h1,h2,h⟩
     omega
    ·left;right
     omega
   ·left;left
    simpa using h1),Aue]
  rfl
theorem Azj(l:List Aa)(ds:List Ae)(s:List UInt8)(h1:l.length≤maxLen∧ ∀x∈l,Aa.wf x)(h2:ds.length≤maxLen∧ ∀x∈ds,Ae.wf x)(h3:s.length≤reachBytes):Ds l ds s=some true:=
 Bk7 fun d hd=>Bti (h2.2 d hd)
end Go.Av.G
end
