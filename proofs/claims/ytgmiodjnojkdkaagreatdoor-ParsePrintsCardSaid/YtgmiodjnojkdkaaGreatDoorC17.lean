import Derived.Test.YtgmiodjnojkdkaaGreatDoorC16
set_option linter.all false
section
set_option maxRecDepth 20000
set_option maxHeartbeats 4000000
namespace Go.Av.G
open Go Go.Av Go.Proofs
theorem Bay: ∀(q:List Nd) {suf:List Nd} {s:List Nat},stk (q++suf)=some s→ ∃st,stk suf=some st
 |[],suf,s,h=>⟨s,h⟩
 |n::q,suf,s,h=>by
  obtain⟨st,k,h1,_⟩:=Sn h
  exact Bay q h1
theorem A6e{l:List Nd}(hx: ∀n∈l,n.Ag.length≤1000000):Ch l=some (Aqt l):=by
 unfold Ch Aqt
 rw[At4 hx]
 simp only[Option.bind_some]
 by_cases hd:Ip l=0
 ·rw[if_pos (by simp[hd]),if_pos hd]
 ·rw[if_neg (by simp;omega),if_neg hd]
  obtain⟨hl,d,hs,_⟩:=Amh hd
  have hw:IntKind.wrap .i64 ((l.length:Int)-1)=(l.length:Int)-1:=wrap64 (by omega) (by omega)
  rw[hw]
  have key: ∀(m:Nat) (q suf:List Nd),q.length=m→l=q++suf→A4 (fun(qj3:(List Ad)×Int)=>match qj3 with
   |(stack4,i5)=>(
    if (decide (i5≥0))=true then
     (rdO l i5).bind fun x6=>
     (Ck x6.Ac).bind fun x7=>
     (rdO l i5).bind fun x8=>
     (C0 x8.Ac).bind fun x9=>
     (rdO l i5).bind fun x10=>
     (some (x7==0)).bind fun c11=>
     (gdO c11 (byO x10.Ag (IntKind.wrap .i64 ((x10.Ag.length:Int)-1))) 0).bind fun x12=>
     ((if (c11&&(x12==37))=true then
       (slO x10.Ag 0 (IntKind.wrap .i64 ((x10.Ag.length:Int)-1))).bind fun x14=>
       (A5 x14 [32,37]).bind fun x15=>
       some x15
     else
      some x10.Ag):Option (List UInt8)).bind fun j13=>
     ((if (x7==1)=true then
       (A5 x9.2.1 [32]).bind fun x18=>
       (rdO stack4 (IntKind.wrap .i64 ((stack4.length:Int)-1))).bind fun x19=>
       (A2 x19 x9.2.2.1).bind fun x20=>
       (A5 x18 x20).bind fun x21=>
       some x21
     else
      some j13):Option (List UInt8)).bind fun j17=>
     (some (x7==2)).bind fun c23=>
     (gdO c23 (rdO l i5) (default:Aa)).bind fun x24=>
     ((if (c23&&(decide (x24.Ac<16)))=true then
       (rdO stack4 (IntKind.wrap .i64 ((stack4.length:Int)-1))).bind fun x26=>
       (A2 x26 x9.2.2.1).bind fun x27=>
       (A5 x27 [32]).bind fun x28=>
       (A5 x28 x9.2.1).bind fun x29=>
       (A5 x29 [32]).bind fun x30=>
       (rdO stack4 (IntKind.wrap .i64 ((IntKind.wrap .i64 ((stack4.length:Int)-1))-1))).bind fun x31=>
       (A2 x31 x9.2.2.2).bind fun x32=>
       (A5 x30 x32).bind fun x33=>
       some x33
     else
      some j17):Option (List UInt8)).bind fun j25=>
     (some (x7==2)).bind fun c35=>
     (gdO c35 (rdO l i5) (default:Aa)).bind fun x36=>
     ((if (c35&&(decide (x36.Ac≥16)))=true then
       (A5 x9.2.1 [32,40,32]).bind fun x38=>
       (rdO stack4 (IntKind.wrap .i64 ((stack4.length:Int)-1))).bind fun x39=>
       (A5 x38 x39.Ag).bind fun x40=>
       (A5 x40 [32,44,32]).bind fun x41=>
       (rdO stack4 (IntKind.wrap .i64 ((IntKind.wrap .i64 ((stack4.length:Int)-1))-1))).bind fun x42=>
       (A5 x41 x42.Ag).bind fun x43=>
       (A5 x43 [32,41]).bind fun x44=>
       some x44
     else
      some j25):Option (List UInt8)).bind fun j37=>
     ((if (x7==3)=true then
       (rdO stack4 (IntKind.wrap .i64 ((stack4.length:Int)-1))).bind fun x47=>
       (A5 [105,102,32] x47.Ag).bind fun x48=>
       (A5 x48 [32,116,104,101,110,32]).bind fun x49=>
       (rdO stack4 (IntKind.wrap .i64 ((IntKind.wrap .i64 ((stack4.length:Int)-1))-1))).bind fun x50=>
       (A5 x49 x50.Ag).bind fun x51=>
       (A5 x51 [32,101,108,115,101,32]).bind fun x52=>
       (rdO stack4 (IntKind.wrap .i64 ((IntKind.wrap .i64 ((stack4.length:Int)-1))-2))).bind fun x53=>
       (A5 x52 x53.Ag).bind fun x54=>
       some x54
     else
      some j37):Option (List UInt8)).bind fun j46=>
     (slO stack4 0 (IntKind.wrap .i64 ((stack4.length:Int)-x7))).bind fun x56=>
     (apO 24 ([]:List Ad) x56).bind fun x57=>
     (apO 24 x57 [(⟨x9.1,j46⟩:Ad)]).bind fun x58=>
     some (.inl (x58,IntKind.wrap .i64 (i5-1)))
    else
     some (.inr stack4):Option (((List Ad)×Int)⊕(List Ad)))) (D3 (pst suf),(q.length:Int)-1)=some (D3 (pst l)):=by
   intro m
   induction m with
   |zero=>
    intro q suf hq he
    obtain rfl:q=[]:=List.eq_nil_of_length_eq_zero hq
    obtain rfl:l=suf:=he
    exact A1 rfl
   |succ m ih=>
    intro q suf hq he
    rcases List.eq_nil_or_concat q with rfl|⟨r,n,rfl⟩
    ·cases hq
    ·rw[List.concat_eq_append] at hq he⊢
     have hr:r.length=m:=by simp only[List.length_append,List.length_cons,List.length_nil] at hq;omega
     have he2:l=r++n::suf:=by rw[he];simp
     have hi:(((r++[n]).length:Nat):Int)-1=(r.length:Int):=by simp only[List.length_append,List.length_cons,List.length_nil];omega
     obtain⟨s2,hs2⟩:=Bay r (he2▸hs)
     obtain⟨s1,hs1⟩:=Bay [n] (suf:=suf) hs2
     rw[hi,←ih r (n::suf) hr he2]
     exact Bs (Bh5 hl he2 hx hs1 hs2)
  have h0:=key l.length l [] rfl (by simp)
  refine Bg h0 ?_
  have hlen:=Qe hs
  have hp1: ∃p,pst l=[p]:=by
   match hp:pst l with
   |[]=>rw[hp] at hlen;simp at hlen
   |[p]=>exact⟨p,rfl⟩
   |a::b::c=>rw[hp] at hlen;simp at hlen
  obtain⟨p,hp⟩:=hp1
  unfold Gm
  rw[hp]
  rfl
theorem Bkn{d:Af}(h:DB d):Ew d=some (Jz d):=by
 unfold Ew
 rw[Asu h.name,Asu h.cur,Asu h.basis,Afh h.period,Afh h.minimum,Afh h.overdraft,Afh h.notice,At4 h.fee]
 simp only[Option.bind_some,A6]
 have e1:decide ((d.Ai.length:Int)<1)= !decide (1≤d.Ai.length):=by rw[←decide_not,decide_eq_decide];omega
 have e2:decide ((d.Ai.length:Int)>8)= !decide (d.Ai.length≤8):=by rw[←decide_not,decide_eq_decide];omega
 rw[e1,e2]
 have hm:Jz d=(!(!O9 d.B3 true|| !O9 d.C8 true|| !O9 d.Bo true|| !Fp d.Bf|| !Fp d.Bb|| !Fp d.A3|| !Fp d.Bj|| !decide (1≤d.Ai.length)|| !decide (d.Ai.length≤8))&&(decide (0<Ip d.B9)&&d.Ai.all H2)):=by
  unfold Jz
  simp only[Bool.not_or,Bool.not_not]
  simp only[Bool.and_assoc]
  cases decide (0<Ip d.B9)<;>cases d.Ai.all H2<;>simp
 rw[hm]
 generalize (!O9 d.B3 true|| !O9 d.C8 true|| !O9 d.Bo true|| !Fp d.Bf|| !Fp d.Bb|| !Fp d.A3|| !Fp d.Bj|| !decide (1≤d.Ai.length)|| !decide (d.Ai.length≤8))=bad
 cases bad with
 |true=>rfl
 |false=>
  simp only[Bool.not_false,cond_true,Bool.false_or,Bool.true_and]
  by_cases hd:Ip d.B9=0
  ·rw[if_pos (by simp[hd]),hd]
   rfl
  ·rw[if_neg (by simp;omega)]
   have hd2:decide (0<Ip d.B9)=true:=by simp;omega
   rw[hd2,Bool.true_and]
   refine Bg (I6 (l:=d.Ai) (fun b=> !H2 b) (o:=(.inr false:Unit⊕Bool)) (e:= .inl ()) (by have:=h.bands;omega) (fun i hi=>?_) (fun i hi=>?_)) ?_
   ·have hb:=h.band d.Ai[i] (List.getElem_mem hi)
    show(if _ then _ else _)=_
    rw[if_pos (by simp;omega),Cu hi]
    simp only[Option.bind_some]
    rw[Afh hb.1,Afh hb.2]
    simp only[Option.bind_some]
    unfold H2
    cases Fp d.Ai[i].C3<;>cases Fp d.Ai[i].C4<;>rfl
   ·show(if _ then _ else _)=_
    rw[if_neg (by simp;omega)]
   ·have:d.Ai.any (fun b=> !H2 b)= !d.Ai.all H2:=by rw[List.not_all_eq_any_not]
    rw[this]
    cases d.Ai.all H2<;>rfl
theorem Bi0: ∀(ws:List By) (b:Nat),(∀w∈ws,w.length≤b)→(sp ws).length≤ws.length*(b+1)
 |[],b,h=>by simp[sp]
 |w::ws,b,h=>by
  have h1:=h w (by simp)
  have h2:=Bi0 ws b (fun x hx=>h x (by simp[hx]))
  rw[Baw]
  simp only[List.length_append,List.length_cons]
  rw[Nat.add_mul]
  omega
theorem Bm0{l:List Nd}(h:Ip l≠0):Gm l≠[]:=by
 obtain⟨hl,d,hs,_⟩:=Amh h
 have hlen:=Qe hs
 refine Bh7 hs _ ?_
 match hp:pst l with
 |[]=>rw[hp] at hlen;simp at hlen
 |p::q=>simp
theorem Bfx{d:Af}(hd:DB d)(hb8:d.Ai.length≤8)(pre:By)(hp:pre.length≤10000000000000):A4 (fun(qj20:(List UInt8)×Int)=>match qj20 with
       |(out21,k22)=>(
        if (decide (k22<(d.Ai.length:Int)))=true then
         (rdO d.Ai k22).bind fun x23=>
         (A5 out21 x23.C3).bind fun x24=>
         (A5 x24 [32,58,32]).bind fun x25=>
         (rdO d.Ai k22).bind fun x26=>
         (A5 x25 x26.C4).bind fun x27=>
         (A5 x27 [32,37,32,59,32]).bind fun x28=>
         some (.inl (x28,IntKind.wrap .i64 (k22+1)))
        else
         some (.inr out21):Option (((List UInt8)×Int)⊕(List UInt8)))) (pre,0)=some (pre++sp (d.Ai.flatMap Mx)):=by
 have key: ∀(t q:List Aq),d.Ai=q++t→A4 (fun(qj20:(List UInt8)×Int)=>match qj20 with
       |(out21,k22)=>(
        if (decide (k22<(d.Ai.length:Int)))=true then
         (rdO d.Ai k22).bind fun x23=>
         (A5 out21 x23.C3).bind fun x24=>
         (A5 x24 [32,58,32]).bind fun x25=>
         (rdO d.Ai k22).bind fun x26=>
         (A5 x25 x26.C4).bind fun x27=>
         (A5 x27 [32,37,32,59,32]).bind fun x28=>
         some (.inl (x28,IntKind.wrap .i64 (k22+1)))
        else
         some (.inr out21):Option (((List UInt8)×Int)⊕(List UInt8)))) (pre++sp (q.flatMap Mx),(q.length:Int))=some (pre++sp (d.Ai.flatMap Mx)):=by
  intro t
  induction t with
  |nil=>
   intro q he
   refine A1 ?_
   rw[he]
   show(if _ then _ else _)=_
   rw[if_neg (by simp)]
   simp
  |cons b t ih=>
   intro q he
   have hlen:q.length<d.Ai.length:=by rw[he];simp
   have hg:d.Ai[q.length]=b:=by simp[he]
   have hbd:=hd.band b (by rw[he];simp)
   have hq: ∀w∈q.flatMap Mx,w.length≤1000000:=by
    intro w hw
    obtain⟨c,hc,hw⟩:=List.mem_flatMap.1 hw
    have hcd:=hd.band c (by rw[he];simp[hc])
    simp only[Mx,List.mem_cons,List.not_mem_nil,or_false] at hw
    rcases hw with hw|hw|hw|hw|hw
    ·rw[hw];exact hcd.1
    ·rw[hw];simp
    ·rw[hw];exact hcd.2
    ·rw[hw];simp
    ·rw[hw];simp
   have hsl:=Bi0 _ 1000000 hq
   rw[Ll] at hsl
   have hsl2:5*q.length*(1000000+1)≤40*(1000000+1):=Qp (by omega)
   rw[←ih (q++[b]) (by rw[he];simp)]
   refine Bs ?_
   show(if _ then _ else _)=_
   rw[if_pos (by simp;omega),Cu hlen,hg]
   simp only[Option.bind_some]
   rw[Cq (by simp only[List.length_append];omega)]
   simp only[Option.bind_some]
   rw[Cq (by simp only[List.length_append,List.length_cons,List.length_nil];omega)]
   simp only[Option.bind_some]
   rw[Cq (by simp only[List.length_append,List.length_cons,List.length_nil];omega)]
   simp only[Option.bind_some]
   rw[Cq (by simp only[List.length_append,List.length_cons,List.length_nil];omega)]
   simp only[Option.bind_some]
   rw[wrap64 (by omega) (by omega)]
   simp only[List.flatMap_append,Wv,Option.some.injEq,Sum.inl.injEq,Prod.mk.injEq]
   refine⟨?_,by simp⟩
   simp[Mx,sp]
 have h0:=key d.Ai [] rfl
 rw[show pre++sp (([]:List Aq).flatMap Mx)=pre by simp[sp]] at h0
 exact h0
theorem Af4{β:Type}{a b:By}{F:By→Option β}(h:a.length+b.length≤9223372036854775807):(A5 a b).bind F=F (a++b):=by rw[Cq h];rfl
theorem Bli{β:Type}(P nm cu ba pe B J mi ov no:By)(L:By→Option By)(F:By→Option β)(hL: ∀x:By,x.length≤10000000000000→L x=some (x++B))(h1:P.length≤100000000000)(h2:nm.length≤1000000)(h3:cu.length≤1000000)(h4:ba.length≤1000000)
  (h5:pe.length≤1000000)(h6:B.length≤100000000000)(h7:J.length≤100000000000)(h8:mi.length≤1000000)(h9:ov.length≤1000000)(h10:no.length≤1000000):
  ((A5 P [112,114,111,100,117,99,116,32]).bind fun x11=>
      (A5 x11 nm).bind fun x12=>
      (A5 x12 [32]).bind fun x13=>
      (A5 x13 cu).bind fun x14=>
      (A5 x14 [32,123,32,98,97,115,105,115,32]).bind fun x15=>
      (A5 x15 ba).bind fun x16=>
      (A5 x16 [32,59,32,112,101,114,105,111,100,32]).bind fun x17=>
      (A5 x17 pe).bind fun x18=>
      (A5 x18 [32,59,32,116,105,101,114,115,32,123,32]).bind fun x19=>
      (L x19).bind fun j20=>
      (A5 j20 [125,32,102,101,101,32]).bind fun x30=>
      (A5 x30 J).bind fun x31=>
      (A5 x31 [32,59,32,109,105,110,105,109,117,109,32]).bind fun x32=>
      (A5 x32 mi).bind fun x33=>
      (A5 x33 [32,59,32,111,118,101,114,100,114,97,102,116,32]).bind fun x34=>
      (A5 x34 ov).bind fun x35=>
      (A5 x35 [32,59,32,110,111,116,105,99,101,32]).bind fun x36=>
      (A5 x36 no).bind fun x37=>
      (A5 x37 [32,59,32,125]).bind F)=F (P++[112,114,111,100,117,99,116,32]++nm++[32]++cu++[32,123,32,98,97,115,105,115,32]++ba++[32,59,32,112,101,114,105,111,100,32]++pe++[32,59,32,116,105,101,114,115,32,123,32]++B++[125,32,102,101,101,32]++J++[32,59,32,109,105,110,105,109,117,109,32]++mi++[32,59,32,111,118,101,114,100,114,97,102,116,32]++ov++[32,59,32,110,111,116,105,99,101,32]++no++[32,59,32,125]):=by
 have hc: ∀{a b:By} (n m:Nat),a.length≤n→b.length≤m→(a++b).length≤n+m:=fun n m h1 h2=>by rw[List.length_append];omega
 rw[Af4 (by simp only[List.length_cons,List.length_nil];omega)]
 have c1:=hc _ _ h1 (show([112,114,111,100,117,99,116,32]:By).length≤20 by decide)
 rw[Af4 (by omega)]
 have c2:=hc _ _ c1 h2
 rw[Af4 (by simp only[List.length_cons,List.length_nil];omega)]
 have c3:=hc _ _ c2 (show([32]:By).length≤20 by decide)
 rw[Af4 (by omega)]
 have c4:=hc _ _ c3 h3
 rw[Af4 (by simp only[List.length_cons,List.length_nil];omega)]
 have c5:=hc _ _ c4 (show([32,123,32,98,97,115,105,115,32]:By).length≤20 by decide)
 rw[Af4 (by omega)]
 have c6:=hc _ _ c5 h4
 rw[Af4 (by simp only[List.length_cons,List.length_nil];omega)]
 have c7:=hc _ _ c6 (show([32,59,32,112,101,114,105,111,100,32]:By).length≤20 by decide)
 rw[Af4 (by omega)]
 have c8:=hc _ _ c7 h5
 rw[Af4 (by simp only[List.length_cons,List.length_nil];omega)]
 have c9:=hc _ _ c8 (show([32,59,32,116,105,101,114,115,32,123,32]:By).length≤20 by decide)
 rw[hL _ (by omega),Option.bind_some]
 have d0:=hc _ _ c9 h6
 rw[Af4 (by simp only[List.length_cons,List.length_nil];omega)]
 have d1:=hc _ _ d0 (show([125,32,102,101,101,32]:By).length≤20 by decide)
 rw[Af4 (by omega)]
 have d2:=hc _ _ d1 h7
 rw[Af4 (by simp only[List.length_cons,List.length_nil];omega)]
 have d3:=hc _ _ d2 (show([32,59,32,109,105,110,105,109,117,109,32]:By).length≤20 by decide)
 rw[Af4 (by omega)]
 have d4:=hc _ _ d3 h8
 rw[Af4 (by simp only[List.length_cons,List.length_nil];omega)]
 have d5:=hc _ _ d4 (show([32,59,32,111,118,101,114,100,114,97,102,116,32]:By).length≤20 by decide)
 rw[Af4 (by omega)]
 have d6:=hc _ _ d5 h9
 rw[Af4 (by simp only[List.length_cons,List.length_nil];omega)]
 have d7:=hc _ _ d6 (show([32,59,32,110,111,116,105,99,101,32]:By).length≤20 by decide)
 rw[Af4 (by omega)]
 have d8:=hc _ _ d7 h10
 rw[Af4 (by simp only[List.length_cons,List.length_nil];omega)]
theorem Bas{l:List Af}(hx: ∀d∈l,DB d):D0 l=some (Abe l):=by
 unfold D0 Abe
 by_cases h16:16<l.length
 ·rw[if_pos (by simp;omega),if_pos (Or.inl h16)]
 ·rw[if_neg (by simp;omega)]
  have key: ∀(t q:List Af),l=q++t→q.all Jz=true→A4 (fun(qj2:(List UInt8)×Int)=>match qj2 with
   |(out3,i4)=>(
    if (decide (i4<(l.length:Int)))=true then
     (rdO l i4).bind fun x5=>
     (Ew x5).bind fun x6=>
     if (!x6)=true then
      some (.inr (.inr ([],1)))
     else
      (Ch x5.B9).bind fun x7=>
      ((if (decide (i4>0))=true then
        (A5 out3 [32]).bind fun x9=>
        some x9
      else
       some out3):Option (List UInt8)).bind fun j8=>
      (A5 j8 [112,114,111,100,117,99,116,32]).bind fun x11=>
      (A5 x11 x5.B3).bind fun x12=>
      (A5 x12 [32]).bind fun x13=>
      (A5 x13 x5.C8).bind fun x14=>
      (A5 x14 [32,123,32,98,97,115,105,115,32]).bind fun x15=>
      (A5 x15 x5.Bo).bind fun x16=>
      (A5 x16 [32,59,32,112,101,114,105,111,100,32]).bind fun x17=>
      (A5 x17 x5.Bf).bind fun x18=>
      (A5 x18 [32,59,32,116,105,101,114,115,32,123,32]).bind fun x19=>
      ((A4 (fun(qj20:(List UInt8)×Int)=>match qj20 with
        |(out21,k22)=>(
         if (decide (k22<(x5.Ai.length:Int)))=true then
          (rdO x5.Ai k22).bind fun x23=>
          (A5 out21 x23.C3).bind fun x24=>
          (A5 x24 [32,58,32]).bind fun x25=>
          (rdO x5.Ai k22).bind fun x26=>
          (A5 x25 x26.C4).bind fun x27=>
          (A5 x27 [32,37,32,59,32]).bind fun x28=>
          some (.inl (x28,IntKind.wrap .i64 (k22+1)))
         else
          some (.inr out21):Option (((List UInt8)×Int)⊕(List UInt8)))) (x19,0)):Option (List UInt8)).bind fun j20=>
      (A5 j20 [125,32,102,101,101,32]).bind fun x30=>
      (A5 x30 x7.1).bind fun x31=>
      (A5 x31 [32,59,32,109,105,110,105,109,117,109,32]).bind fun x32=>
      (A5 x32 x5.Bb).bind fun x33=>
      (A5 x33 [32,59,32,111,118,101,114,100,114,97,102,116,32]).bind fun x34=>
      (A5 x34 x5.A3).bind fun x35=>
      (A5 x35 [32,59,32,110,111,116,105,99,101,32]).bind fun x36=>
      (A5 x36 x5.Bj).bind fun x37=>
      (A5 x37 [32,59,32,125]).bind fun x38=>
      some (.inl (x38,IntKind.wrap .i64 (i4+1)))
    else
     some (.inr (.inl out3)):Option (((List UInt8)×Int)⊕((List UInt8)⊕((List UInt8)×Int))))) (jw (q.flatMap Fz),(q.length:Int))=some (if l.all Jz=false then .inr ([],1) else .inl (jw (l.flatMap Fz))):=by
   intro t
   induction t with
   |nil=>
    intro q he hq
    have hl:l=q:=by rw[he];simp
    refine A1 ?_
    rw[hl,if_neg (by simp[hq])]
    show(if _ then _ else _)=_
    rw[if_neg (by simp)]
   |cons d t ih=>
    intro q he hq
    have hlen:q.length<l.length:=by rw[he];simp
    have hg:l[q.length]=d:=by simp[he]
    have hd:=hx d (by rw[he];simp)
    by_cases hm:Jz d=true
    ·rw[←ih (q++[d]) (by rw[he];simp) (by simp[hq,hm])]
     have hfl:=Ajf hq
     have hqw: ∀w∈q.flatMap Fz,w.length≤1000000:=by
      intro w hw
      obtain⟨c,hc,hw⟩:=List.mem_flatMap.1 hw
      exact Ape (List.all_eq_true.1 hq c hc) (hx c (by rw[he];simp[hc])) w hw
     have hjl:=App _ 1000000 hqw
     have hjl2:(q.flatMap Fz).length*(1000000+1)≤33600*(1000000+1):=Qp (by omega)
     have hw:=Axe hm
     have hwl:=Aq3 hw.1
     have hwt:=Avi (B:=1000000) (by omega) hw.1 hd.fee
     have hfj:=App _ 1000000 hwt
     have hfj2:(Gm d.B9).length*(1000000+1)≤2000*(1000000+1):=Qp hwl
     have hpr:Ch d.B9=some (jw (Gm d.B9),0):=by
      rw[A6e hd.fee]
      unfold Aqt
      rw[if_neg hw.1]
     have n1:=hd.name;have n2:=hd.cur;have n3:=hd.basis;have n4:=hd.period;have n5:=hd.minimum;have n6:=hd.overdraft;have n7:=hd.notice
     have hbw: ∀w∈d.Ai.flatMap Mx,w.length≤1000000:=by
      intro w hw
      refine Ape hm hd w ?_
      unfold Fz
      simp[List.mem_append,hw]
     have hbl:=Bi0 _ 1000000 hbw
     rw[Ll] at hbl
     have hbl2:5*d.Ai.length*(1000000+1)≤40*(1000000+1):=Qp (by omega)
     generalize hB:sp (d.Ai.flatMap Mx)=B at hbl
     generalize hFJ:jw (Gm d.B9)=J at hfj hpr
     have hpre: ∃P:By,((if (decide ((q.length:Int)>0))=true then
       (A5 (jw (q.flatMap Fz)) [32]).bind fun x9=>
       some x9
      else
       some (jw (q.flatMap Fz))):Option (List UInt8))=some P∧P=sp (q.flatMap Fz)∧P.length≤100000000000:=by
      cases q with
      |nil=>exact⟨[],rfl,rfl,by simp⟩
      |cons c q=>
       rw[if_pos (by simp),Cq (by simp only[List.length_cons,List.length_nil];omega)]
       refine⟨_,rfl,?_,by simp only[List.length_append,List.length_cons,List.length_nil];omega⟩
       rw[Arp (by simp[Fz,Afq])]
     obtain⟨P,hP1,hP2,hP3⟩:=hpre
     have hfin:P++[112,114,111,100,117,99,116,32]++d.B3++[32]++d.C8++[32,123,32,98,97,115,105,115,32]++d.Bo++[32,59,32,112,101,114,105,111,100,32]++d.Bf++[32,59,32,116,105,101,114,115,32,123,32]++B++[125,32,102,101,101,32]++J++[32,59,32,109,105,110,105,109,117,109,32]++d.Bb++[32,59,32,111,118,101,114,100,114,97,102,116,32]++d.A3++[32,59,32,110,111,116,105,99,101,32]++d.Bj++[32,59,32,125]=jw ((q++[d]).flatMap Fz):=by
      have e1:(q++[d]).flatMap Fz=q.flatMap Fz++(Afq d++(d.Ai.flatMap Mx++([[125],Bie]++(Gm d.B9++Avg d)))):=by
       rw[List.flatMap_append]
       simp[Fz]
      have ht:Avg d≠[]:=by simp[Avg]
      rw[e1,Q3 _ (by simp[Afq]),Q3 _ (by simp),Q3 _ (by simp),Q3 _ (by simp[Avg]),Q3 _ ht,hB,←hP2,Arp (Bm0 hw.1),hFJ]
      simp[Afq,Avg,sp,Aro,Ajn,Al2,A1j,Asw,Afi,Bie,Al1,Sk,Asv]
     refine Bs ?_
     show(if _ then _ else _)=_
     rw[if_pos (by simp;omega),Cu hlen,hg]
     simp only[Option.bind_some]
     rw[Bkn hd,hm]
     simp only[Option.bind_some,Bool.not_true,Bool.false_eq_true,if_false]
     rw[hpr]
     simp only[Option.bind_some]
     refine Bg hP1 ?_
     refine(Bli P d.B3 d.C8 d.Bo d.Bf B J d.Bb d.A3 d.Bj _ _ (fun x hxl=>?_) hP3 n1 n2 n3 n4 (by omega) (by omega) n5 n6 n7).trans ?_
     ·rw[←hB];exact Bfx hd hw.2 x hxl
     ·rw[hfin,wrap64 (by omega) (by omega)]
      simp only[List.length_append,List.length_cons,List.length_nil,Option.some.injEq,Sum.inl.injEq,Prod.mk.injEq,true_and]
      omega
    ·have ha:l.all Jz=false:=by
      rw[he]
      simp only[Bool.not_eq_true] at hm
      simp[hm]
     rw[ha,if_pos rfl]
     refine A1 ?_
     show(if _ then _ else _)=_
     rw[if_pos (by simp;omega),Cu hlen,hg]
     simp only[Option.bind_some]
     rw[Bkn hd]
     simp only[Bool.not_eq_true] at hm
     rw[hm]
     rfl
  refine Bg (key l [] rfl rfl) ?_
  by_cases ha:l.all Jz=false
  ·rw[if_pos ha,if_pos (Or.inr ha)]
  ·rw[if_neg ha,if_neg (by rintro(h|h);exact h16 h;exact ha h)]
end Go.Av.G
end
section
set_option maxRecDepth 20000
set_option maxHeartbeats 4000000
namespace Go.Av.G
open Go Go.Av Go.Proofs
def Aux(l:List Nd):Bool:=decide (l.length≤300)&&l.all (fun n=>decide (n.Ag.length≤300))
theorem Bju(l:List Nd):Eb l=some (Aux l):=by
 unfold Eb Aux
 by_cases hl:l.length≤300
 ·rw[if_neg (by simp;omega)]
  refine Bg (I6 (l:=l) (fun n=> !decide (n.Ag.length≤300)) (o:=(.inr false:Unit⊕Bool)) (e:= .inl ()) (by omega) (fun i hi=>?_) (fun i hi=>?_)) ?_
  ·show(if _ then _ else _)=_
   rw[if_pos (by simp;omega),Cu hi]
   simp only[Option.bind_some]
   by_cases h:l[i].Ag.length≤300
   ·rw[if_neg (by simp;omega),if_neg (by simp[h])]
   ·rw[if_pos (by simp;omega),if_pos (by simp;omega)]
  ·show(if _ then _ else _)=_
   rw[if_neg (by simp;omega)]
  ·have:l.any (fun n=> !decide (n.Ag.length≤300))= !l.all (fun n=>decide (n.Ag.length≤300)):=by rw[List.not_all_eq_any_not]
   rw[this]
   have hd:decide (l.length≤300)=true:=by simpa using hl
   rw[hd]
   cases l.all (fun n=>decide (n.Ag.length≤300))<;>rfl
 ·rw[if_pos (by simp;omega)]
  have hd:decide (l.length≤300)=false:=by simpa using hl
  rw[hd]
  rfl
theorem A7h{l:List Nd}(h:Aux l=true):NB l∧l.length≤300:=by
 unfold Aux at h
 simp only[Bool.and_eq_true,decide_eq_true_eq,List.all_eq_true] at h
 exact⟨fun n hn=>by have:=h.2 n hn;omega,h.1⟩
structure DW (d:Af):Prop where
 name:d.B3.length≤200000000000000
 cur:d.C8.length≤200000000000000
 basis:d.Bo.length≤200000000000000
 period:d.Bf.length≤200000000000000
 minimum:d.Bb.length≤200000000000000
 overdraft:d.A3.length≤200000000000000
 notice:d.Bj.length≤200000000000000
 band: ∀b∈d.Ai,b.C3.length≤200000000000000∧b.C4.length≤200000000000000
def Bi2(d:Af):Nat:=d.B3.length+d.C8.length+d.Bo.length+d.Bf.length+d.Bb.length+d.A3.length+d.Bj.length
def Aok(d:Af):Bool:=Aux d.B9&&decide (d.Ai.length≤300)&&decide (Bi2 d≤300)&&d.Ai.all (fun b=>decide (b.C3.length+b.C4.length≤300))
theorem Brc{d:Af}(h:DW d):Ec d=some (Aok d):=by
 unfold Ec Aok
 rw[Bju]
 simp only[Option.bind_some]
 have h1:=h.name;have h2:=h.cur;have h3:=h.basis;have h4:=h.period;have h5:=h.minimum;have h6:=h.overdraft;have h7:=h.notice
 rw[wrap64 (x:=(d.B3.length:Int)+(d.C8.length:Int)) (by omega) (by omega),wrap64 (x:=(d.B3.length:Int)+(d.C8.length:Int)+(d.Bo.length:Int)) (by omega) (by omega),
  wrap64 (x:=(d.B3.length:Int)+(d.C8.length:Int)+(d.Bo.length:Int)+(d.Bf.length:Int)) (by omega) (by omega),
  wrap64 (x:=(d.B3.length:Int)+(d.C8.length:Int)+(d.Bo.length:Int)+(d.Bf.length:Int)+(d.Bb.length:Int)) (by omega) (by omega),
  wrap64 (x:=(d.B3.length:Int)+(d.C8.length:Int)+(d.Bo.length:Int)+(d.Bf.length:Int)+(d.Bb.length:Int)+(d.A3.length:Int)) (by omega) (by omega),
  wrap64 (x:=(d.B3.length:Int)+(d.C8.length:Int)+(d.Bo.length:Int)+(d.Bf.length:Int)+(d.Bb.length:Int)+(d.A3.length:Int)+(d.Bj.length:Int)) (by omega) (by omega)]
 cases hf:Aux d.B9 with
 |false=>rfl
 |true=>
  by_cases hb:d.Ai.length≤300
  ·have hb1:decide ((d.Ai.length:Int)>300)=false:=by simp;omega
   have hb2:decide (d.Ai.length≤300)=true:=by simpa using hb
   rw[hb1,hb2]
   by_cases hs:Bi2 d≤300
   ·have hs1:decide ((d.B3.length:Int)+(d.C8.length:Int)+(d.Bo.length:Int)+(d.Bf.length:Int)+(d.Bb.length:Int)+(d.A3.length:Int)+(d.Bj.length:Int)>300)=false:=by unfold Bi2 at hs;simp;omega
    have hs2:decide (Bi2 d≤300)=true:=by simpa using hs
    rw[hs1,hs2]
    simp only[Bool.not_true,Bool.or_self,Bool.false_eq_true,if_false,Bool.true_and]
    refine Bg (I6 (l:=d.Ai) (fun b=> !decide (b.C3.length+b.C4.length≤300)) (o:=(.inr false:Unit⊕Bool)) (e:= .inl ()) (by omega) (fun i hi=>?_) (fun i hi=>?_)) ?_
    ·have hw:=h.band d.Ai[i] (List.getElem_mem hi)
     show(if _ then _ else _)=_
     rw[if_pos (by simp;omega),Cu hi]
     simp only[Option.bind_some]
     rw[wrap64 (by omega) (by omega)]
     by_cases hc:d.Ai[i].C3.length+d.Ai[i].C4.length≤300
     ·rw[if_neg (by simp;omega),if_neg (by simp[hc])]
     ·rw[if_pos (by simp;omega),if_pos (by simp;omega)]
    ·show(if _ then _ else _)=_
     rw[if_neg (by simp;omega)]
    ·have:d.Ai.any (fun b=> !decide (b.C3.length+b.C4.length≤300))= !d.Ai.all (fun b=>decide (b.C3.length+b.C4.length≤300)):=by rw[List.not_all_eq_any_not]
     rw[this]
     cases d.Ai.all (fun b=>decide (b.C3.length+b.C4.length≤300))<;>rfl
   ·have hs1:decide ((d.B3.length:Int)+(d.C8.length:Int)+(d.Bo.length:Int)+(d.Bf.length:Int)+(d.Bb.length:Int)+(d.A3.length:Int)+(d.Bj.length:Int)>300)=true:=by unfold Bi2 at hs;simp;omega
    have hs2:decide (Bi2 d≤300)=false:=by simpa using hs
    rw[hs1,hs2]
    rfl
  ·have hb1:decide ((d.Ai.length:Int)>300)=true:=by simp;omega
   have hb2:decide (d.Ai.length≤300)=false:=by simpa using hb
   rw[hb1,hb2]
   rfl
theorem Brb{d:Af}(h:Aok d=true):DB d∧d.B9.length≤300:=by
 unfold Aok Bi2 at h
 simp only[Bool.and_eq_true,decide_eq_true_eq,List.all_eq_true] at h
 obtain⟨⟨⟨h1,h2⟩,h3⟩,h4⟩:=h
 exact⟨⟨by omega,by omega,by omega,by omega,by omega,by omega,by omega,(A7h h1).1,by omega,fun b hb=>by have:=h4 b hb;omega⟩,(A7h h1).2⟩
theorem Bf6{ds:List Af}(hn:ds.length≤20)(hw: ∀d∈ds,DW d):A4 (fun(qj6:Int)=>match qj6 with
   |i7=>(
    if (decide (i7<(ds.length:Int)))=true then
     (rdO ds i7).bind fun x8=>
     (Ec x8).bind fun x9=>
     if (!x9)=true then
      (Cf).bind fun x10=>
      some (.inr (.inr x10))
     else
      some (.inl (IntKind.wrap .i64 (i7+1)))
    else
     some (.inr (.inl ())):Option (Int⊕(Unit⊕Bool)))) 0=some (if ds.all Aok=true then .inl () else .inr true):=by
 rw[I6 (l:=ds) (fun d=> !Aok d) (o:=(.inr true:Unit⊕Bool)) (e:= .inl ()) (by omega) (fun i hi=>?_) (fun i hi=>?_)]
 ·have:ds.any (fun d=> !Aok d)= !ds.all Aok:=by rw[List.not_all_eq_any_not]
  rw[this]
  cases ds.all Aok<;>rfl
 ·show(if _ then _ else _)=_
  rw[if_pos (by simp;omega),Cu hi]
  simp only[Option.bind_some]
  rw[Brc (hw _ (List.getElem_mem hi)),Axp]
  simp only[Option.bind_some]
  split<;>rfl
 ·show(if _ then _ else _)=_
  rw[if_neg (by simp;omega)]
theorem Bh6{l:List Nd}{ds:List Af}(hw: ∀d∈ds,DW d):C5 l ds=some true:=by
 unfold C5
 rw[Bju]
 simp only[Option.bind_some]
 by_cases hc:Aux l=true∧ds.length≤20
 ·have hnb:=A7h hc.1
  rw[if_neg (by rw[hc.1];simp;omega)]
  refine Bg (Bf6 hc.2 hw) ?_
  by_cases ha:ds.all Aok=true
  ·rw[if_pos ha]
   simp only
   have hdb: ∀d∈ds,DB d∧d.B9.length≤300:=fun d hd=>Brb (List.all_eq_true.1 ha d hd)
   rw[A09 hnb.1,A6e hnb.1,Ava (fun d hd=>(hdb d hd).1) (by omega),Bas (fun d hd=>(hdb d hd).1),Axz hnb.1,At4 hnb.1,right_eq hnb.1,Axp]
   simp only[Option.bind_some,beq_self_eq_true,bne_self_eq_false,Bool.not_true,Bool.or_self,Bool.not_false,A6,cond_true]
   have hr:(decide (0<Ip l)==decide ((Ip l:Int)>0))=true:=by
    have:decide ((Ip l:Int)>0)=decide (0<Ip l):=by rw[decide_eq_decide];omega
    rw[this];simp
   rw[hr]
   simp only[Bool.not_true,Bool.or_self,Bool.false_eq_true,if_false,Bool.true_and]
   by_cases h2:ds.length<2
   ·have e:decide ((ds.length:Int)<2)=true:=by simp;omega
    rw[e]
    simp[gdO]
   ·have e:decide ((ds.length:Int)<2)=false:=by simp;omega
    have r0:rdO ds 0=some (ds[0]'(by omega)):=Cu (l:=ds) (i:=0) (by omega)
    have r1:rdO ds 1=some (ds[1]'(by omega)):=Cu (l:=ds) (i:=1) (by omega)
    have b0:=hdb _ (List.getElem_mem (show 0<ds.length by omega))
    rw[e,r0,r1]
    simp only[Bool.not_false,A6,cond_true,Option.bind_some]
    rw[A6k b0.1.bands (by omega),Bp5 b0.1.bands (by omega)]
    simp[gdO]
  ·rw[if_neg ha]
 ·rw[if_pos (by
   simp only[Bool.or_eq_true,Bool.not_eq_true',decide_eq_true_eq]
   by_cases h1:Aux l=true
   ·right
    have: ¬ds.length≤20:=fun h=>hc ⟨h1,h⟩
    omega
   ·left
    simpa using h1),Axp]
  rfl
end Go.Av.G
end
section
namespace Go.Av.G
open Go Go.Av Go.Proofs
theorem Bpt:reachBytes=140737488351232:=by decide
theorem Bu4{d:Af}(h:Af.wf d):DW d:=by
 obtain⟨h1,h2,h3,h4,h5,h6,h7,h8,h9⟩:=h
 have e:=Bpt
 exact⟨by omega,by omega,by omega,by omega,by omega,by omega,by omega,fun b hb=>by
  obtain⟨b1,b2⟩:=h5.2 b hb
  exact⟨by omega,by omega⟩⟩
theorem Avo(l:List Aa)(ds:List Af)(h1:l.length≤maxLen∧ ∀x∈l,Aa.wf x)(h2:ds.length≤maxLen∧ ∀x∈ds,Af.wf x):C5 l ds=some true:=
 Bh6 fun d hd=>Bu4 (h2.2 d hd)
end Go.Av.G
end
