import Derived.Test.YtgmiodjnojkdkaaGreatDoorC16
set_option linter.all false
section
set_option maxHeartbeats 8000000
set_option maxRecDepth 100000
namespace Go.Av.G
open Go Go.Av Go.Proofs
def Adu(b:Ah):Bool:=Qs b.J5&&Qs b.J6
def Wm(d:Af):Bool:=Aw6 d.F7 true&&Aw6 d.Jf true&&Aw6 d.Dt true&&Qs d.Cx&&Qs d.Cq&&Qs d.Bu&&Qs d.Cw&&decide (1≤d.Az.length)&&decide (d.Az.length≤8)&&d.Az.all Adu&&decide (0<Su d.C2)
structure DB (d:Af):Prop where
 name:d.F7.length≤1000000
 cur:d.Jf.length≤1000000
 basis:d.Dt.length≤1000000
 period:d.Cx.length≤1000000
 minimum:d.Cq.length≤1000000
 overdraft:d.Bu.length≤1000000
 notice:d.Cw.length≤1000000
 fee:NB d.C2
 bands:d.Az.length≤1000000
 band: ∀b∈d.Az,b.J5.length≤1000000∧b.J6.length≤1000000
theorem Bnf{L:List By}(hL:L.length≤1000)(hx: ∀w∈L,w.length≤1000000):A5 (fun(qj2:Int)=>match qj2 with
  |x3=>(
   if (decide (x3<(L.length:Int)))=true then
    (rdO L x3).bind fun x4=>
    (L9 x4 true).bind fun x5=>
    if (!x5)=true then
     some (.inr (.inr false))
    else
     some (.inl (IntKind.wrap .i64 (x3+1)))
   else
    some (.inr (.inl ())):Option (Int⊕(Unit⊕Bool)))) 0=some (if L.all (fun w=>Aw6 w true)=true then .inl () else .inr false):=by
 rw[Ze (l:=L) (fun w=> !Aw6 w true) (o:=(.inr false:Unit⊕Bool)) (e:= .inl ()) (by omega) (fun i hi=>?_) (fun i hi=>?_)]
 ·have:L.any (fun w=> !Aw6 w true)= !L.all (fun w=>Aw6 w true):=by rw[List.not_all_eq_any_not]
  rw[this]
  cases L.all (fun w=>Aw6 w true)<;>rfl
 ·show(if _ then _ else _)=_
  rw[if_pos (by simp;omega),Fj hi]
  simp only[Option.bind_some]
  rw[Bo6 (hx _ (List.getElem_mem hi))]
  simp only[Option.bind_some]
  split<;>rfl
 ·show(if _ then _ else _)=_
  rw[if_neg (by simp;omega)]
theorem Bp0{L:List By}(hL:L.length≤1000)(hx: ∀w∈L,w.length≤1000000):A5 (fun(qj2:Int)=>match qj2 with
  |x3=>(
   if (decide (x3<(L.length:Int)))=true then
    (rdO L x3).bind fun x4=>
    (Fa x4).bind fun x5=>
    if (!x5)=true then
     some (.inr (.inr false))
    else
     some (.inl (IntKind.wrap .i64 (x3+1)))
   else
    some (.inr (.inl ())):Option (Int⊕(Unit⊕Bool)))) 0=some (if L.all Qs=true then .inl () else .inr false):=by
 rw[Ze (l:=L) (fun w=> !Qs w) (o:=(.inr false:Unit⊕Bool)) (e:= .inl ()) (by omega) (fun i hi=>?_) (fun i hi=>?_)]
 ·have:L.any (fun w=> !Qs w)= !L.all Qs:=by rw[List.not_all_eq_any_not]
  rw[this]
  cases L.all Qs<;>rfl
 ·show(if _ then _ else _)=_
  rw[if_pos (by simp;omega),Fj hi]
  simp only[Option.bind_some]
  rw[Aqo (hx _ (List.getElem_mem hi))]
  simp only[Option.bind_some]
  split<;>rfl
 ·show(if _ then _ else _)=_
  rw[if_neg (by simp;omega)]
theorem Bsy{l:List Ah}(hl:l.length≤1000000)(hx: ∀b∈l,b.J5.length≤1000000∧b.J6.length≤1000000):Cl l=some (!l.all Adu):=by
 unfold Cl Eo
 have h:=Axv (l:=l) (p:=fun b=> !Adu b) (o:=fun i=>(.inr (i:Int):Unit⊕Int)) (e:= .inl ()) (f:=fun(qj2:Int)=>match qj2 with
  |x3=>(
   if (decide (x3<(l.length:Int)))=true then
    (rdO l x3).bind fun x4=>
    (Ow x4).bind fun x5=>
    if x5=true then
     some (.inr (.inr x3))
    else
     some (.inl (IntKind.wrap .i64 (x3+1)))
   else
    some (.inr (.inl ())):Option (Int⊕(Unit⊕Int)))) (by omega) (fun i hi=>by
   have hb:=hx l[i] (List.getElem_mem hi)
   have hm:Ow l[i]=some (!Adu l[i]):=by
    unfold Ow Adu
    rw[Aqo hb.1,Aqo hb.2]
    simp only[Option.bind_some,A2]
    cases Qs l[i].J5<;>rfl
   show(if _ then _ else _)=_
   rw[if_pos (by simp;omega),Fj hi]
   simp only[Option.bind_some]
   rw[hm]
   simp only[Option.bind_some]
   split<;>rfl) (fun i hi=>by
   show(if _ then _ else _)=_
   rw[if_neg (by simp;omega)])
 rw[h]
 simp only[Option.bind_some]
 cases hf:Ato l (fun b=> !Adu b) with
 |none=>
  have:=Am0 hf
  have ha:l.all Adu=true:=List.all_eq_true.2 fun b hb=>by simpa using this b hb
  rw[ha]
  rfl
 |some i=>
  obtain⟨hi,h1,_⟩:=Am1 hf
  have ha:l.all Adu=false:=by
   rw[←Bool.not_eq_true,List.all_eq_true]
   intro h
   have:=h l[i] (List.getElem_mem hi)
   rw[this] at h1
   cases h1
  rw[ha]
  simp
theorem Bxw{d:Af}(h:DB d):Aqp d=some (Wm d):=by
 unfold Aqp
 refine Bh (Bnf (L:=[d.F7,d.Jf,d.Dt]) (by simp) (fun w hw=>?_)) ?_
 ·simp at hw
  rcases hw with rfl|rfl|rfl
  ·exact h.name
  ·exact h.cur
  ·exact h.basis
 ·by_cases c1:[d.F7,d.Jf,d.Dt].all (fun w=>Aw6 w true)=true
  ·rw[if_pos c1]
   simp only
   refine Bh (Bp0 (L:=[d.Cx,d.Cq,d.Bu,d.Cw]) (by simp) (fun w hw=>?_)) ?_
   ·simp at hw
    rcases hw with rfl|rfl|rfl|rfl
    ·exact h.period
    ·exact h.minimum
    ·exact h.overdraft
    ·exact h.notice
   ·by_cases c2:[d.Cx,d.Cq,d.Bu,d.Cw].all Qs=true
    ·rw[if_pos c2]
     simp only[Option.bind_some]
     rw[Bsy h.bands h.band,right_eq h.fee]
     simp only[A2,Option.bind_some,Option.some.injEq]
     simp only[List.all_cons,List.all_nil,Bool.and_true,Bool.and_eq_true] at c1 c2
     have e1:decide ((d.Az.length:Int)≥1)=decide (1≤d.Az.length):=by rw[decide_eq_decide];omega
     have e2:decide ((d.Az.length:Int)≤8)=decide (d.Az.length≤8):=by rw[decide_eq_decide];omega
     unfold Wm
     rw[c1.1,c1.2.1,c1.2.2,c2.1,c2.2.1,c2.2.2.1,c2.2.2.2,e1,e2]
     cases decide (1≤d.Az.length)<;>cases decide (d.Az.length≤8)<;>cases d.Az.all Adu<;>rfl
    ·rw[if_neg c2]
     simp only[Option.some.injEq]
     symm
     rw[←Bool.not_eq_true]
     intro hm
     unfold Wm at hm
     simp only[Bool.and_eq_true] at hm
     refine c2 ?_
     simp[hm]
  ·rw[if_neg c1]
   simp only[Option.some.injEq]
   symm
   rw[←Bool.not_eq_true]
   intro hm
   unfold Wm at hm
   simp only[Bool.and_eq_true] at hm
   refine c1 ?_
   simp[hm]
theorem Bsz{l:List Af}(hl:l.length≤1000000)(hx: ∀d∈l,DB d):Cm l=some (!l.all Wm):=by
 unfold Cm Ep
 have h:=Axv (l:=l) (p:=fun b=> !Wm b) (o:=fun i=>(.inr (i:Int):Unit⊕Int)) (e:= .inl ()) (f:=fun(qj2:Int)=>match qj2 with
  |x3=>(
   if (decide (x3<(l.length:Int)))=true then
    (rdO l x3).bind fun x4=>
    (F8 x4).bind fun x5=>
    if x5=true then
     some (.inr (.inr x3))
    else
     some (.inl (IntKind.wrap .i64 (x3+1)))
   else
    some (.inr (.inl ())):Option (Int⊕(Unit⊕Int)))) (by omega) (fun i hi=>by
   have hb:=hx l[i] (List.getElem_mem hi)
   have hm:F8 l[i]=some (!Wm l[i]):=by
    unfold F8
    rw[Bxw hb]
    rfl
   show(if _ then _ else _)=_
   rw[if_pos (by simp;omega),Fj hi]
   simp only[Option.bind_some]
   rw[hm]
   simp only[Option.bind_some]
   split<;>rfl) (fun i hi=>by
   show(if _ then _ else _)=_
   rw[if_neg (by simp;omega)])
 rw[h]
 simp only[Option.bind_some]
 cases hf:Ato l (fun b=> !Wm b) with
 |none=>
  have:=Am0 hf
  have ha:l.all Wm=true:=List.all_eq_true.2 fun b hb=>by simpa using this b hb
  rw[ha]
  rfl
 |some i=>
  obtain⟨hi,h1,_⟩:=Am1 hf
  have ha:l.all Wm=false:=by
   rw[←Bool.not_eq_true,List.all_eq_true]
   intro h
   have:=h l[i] (List.getElem_mem hi)
   rw[this] at h1
   cases h1
  rw[ha]
  simp
def A1r(b:Ah):List By:=[b.J5,[58],b.J6,[37],[59]]
def Ay5(d:Af):List By:=[Adh,d.F7,d.Jf,[123],Ayc,d.Dt,[59],Ais,d.Cx,[59],Hg,[123]]
def Bue(d:Af):List By:=[[59],Ub,d.Cq,[59],I8,d.Bu,[59],Air,d.Cw,[59],[125]]
def Y4(d:Af):List By:=Ay5 d++(d.Az.flatMap A1r++([125]::Aiq::(N3 d.C2++Bue d)))
def Ax5(l:List Af):By×Int:=if 16<l.length∨l.all Wm=false then([],1) else(jw (l.flatMap Y4),0)
theorem foldl_flat{α β:Type}(f:α→List β): ∀(l:List α) (s:List β),l.foldl (fun s x=>s++f x) s=s++l.flatMap f
 |[],s=>by simp
 |x::l,s=>by rw[List.foldl_cons,foldl_flat f l];simp
theorem Bbw{d:Af}(h:Wm d=true):Su d.C2≠0∧d.Az.length≤8:=by
 unfold Wm at h
 simp only[Bool.and_eq_true,decide_eq_true_eq] at h
 exact⟨by omega,by omega⟩
theorem A55{l:List Nd}(h:Su l≠0):(N3 l).length≤2000:=by
 obtain⟨hl,d,hs,_⟩:=A1a h
 have htw:=Adf hs
 have hlen:=Aqq hs
 have hmem:(pst l).getD 0 (0,[])∈pst l:=by
  match hp:pst l with
  |[]=>rw[hp] at hlen;simp at hlen
  |p::q=>simp
 have hwl:=Be0 hmem
 unfold N3
 omega
theorem Bjn{B:Nat}(hB:10≤B){l:List Nd}(h:Su l≠0)(hx: ∀n∈l,n.Aj.length≤B): ∀w∈N3 l,w.length≤B:=by
 obtain⟨hl,d,hs,_⟩:=A1a h
 have hlen:=Aqq hs
 have hmem:(pst l).getD 0 (0,[])∈pst l:=by
  match hp:pst l with
  |[]=>rw[hp] at hlen;simp at hlen
  |p::q=>simp
 exact Ax6 hB l [d] hs hx _ hmem
theorem Adv: ∀(l:List Ah),(l.flatMap A1r).length=5*l.length
 |[]=>rfl
 |b::l=>by
  rw[List.flatMap_cons,List.length_append,Adv l]
  simp[A1r]
  omega
theorem Bpi{d:Af}(h:Wm d=true):(Y4 d).length≤2100:=by
 have h1:=Bbw h
 have h2:=A55 h1.1
 unfold Y4
 rw[List.length_append,List.length_append,Adv]
 simp[Ay5,Bue]
 omega
theorem Bkf{d:Af}(h:Wm d=true)(hd:DB d): ∀w∈Y4 d,w.length≤1000000:=by
 intro w hw
 unfold Y4 at hw
 have h1:=Bjn (B:=1000000) (by omega) (Bbw h).1 hd.fee w
 have hc: ∀u:By,u.length≤10→w=u→w.length≤1000000:=fun u hu e=>by rw[e];omega
 simp only[List.mem_append,List.mem_cons,Ay5,Bue,List.not_mem_nil,or_false,List.mem_flatMap] at hw
 rcases hw with(hw|hw|hw|hw|hw|hw|hw|hw|hw|hw|hw|hw)|hw|hw|hw|hw|hw|hw|hw|hw|hw|hw|hw|hw|hw|hw|hw
 ·exact hc _ (by decide) hw
 ·rw[hw];exact hd.name
 ·rw[hw];exact hd.cur
 ·exact hc _ (by decide) hw
 ·exact hc _ (by decide) hw
 ·rw[hw];exact hd.basis
 ·exact hc _ (by decide) hw
 ·exact hc _ (by decide) hw
 ·rw[hw];exact hd.period
 ·exact hc _ (by decide) hw
 ·exact hc _ (by decide) hw
 ·exact hc _ (by decide) hw
 ·obtain⟨b,hb,hw⟩:=hw
  have:=hd.band b hb
  simp only[A1r,List.mem_cons,List.not_mem_nil,or_false] at hw
  rcases hw with hw|hw|hw|hw|hw
  ·rw[hw];exact this.1
  ·exact hc _ (by decide) hw
  ·rw[hw];exact this.2
  ·exact hc _ (by decide) hw
  ·exact hc _ (by decide) hw
 ·exact hc _ (by decide) hw
 ·exact hc _ (by decide) hw
 ·exact h1 hw
 ·exact hc _ (by decide) hw
 ·exact hc _ (by decide) hw
 ·rw[hw];exact hd.minimum
 ·exact hc _ (by decide) hw
 ·exact hc _ (by decide) hw
 ·rw[hw];exact hd.overdraft
 ·exact hc _ (by decide) hw
 ·exact hc _ (by decide) hw
 ·rw[hw];exact hd.notice
 ·exact hc _ (by decide) hw
 ·exact hc _ (by decide) hw
theorem Ay4{l:List Af}(h:l.all Wm=true):(l.flatMap Y4).length≤l.length*2100:=by
 induction l with
 |nil=>simp
 |cons d l ih=>
  simp only[List.all_cons,Bool.and_eq_true] at h
  have h1:=Bpi h.1
  have h2:=ih h.2
  rw[List.flatMap_cons,List.length_append,List.length_cons,Nat.add_mul]
  omega
theorem A1p{α:Type}{n:Nat}{a b:List α}(h:(a.length+b.length)*n≤140737488355328):apO n a b=some (a++b):=by unfold apO;rw[if_pos h]
theorem Bif{l:List Af}(hx: ∀d∈l,DB d)(hl:l.length≤1000000):Kf l=some (Ax5 l):=by
 unfold Kf Ax5
 rw[Bsz hl hx]
 simp only[A2,Option.bind_some]
 by_cases hc:16<l.length∨l.all Wm=false
 ·rw[if_pos hc,if_pos]
  by_cases h16:16<l.length
  ·have:decide ((l.length:Int)>16)=true:=by simp;omega
   rw[this];rfl
  ·have:decide ((l.length:Int)>16)=false:=by simp;omega
   have ha:l.all Wm=false:=by rcases hc with h|h;exact absurd h h16;exact h
   rw[this,ha];rfl
 ·have h16:l.length≤16:=by omega
  have ha:l.all Wm=true:=by
   rw[←Bool.not_eq_false];exact fun h=>hc (Or.inr h)
  rw[if_neg hc,if_neg (by
   have:decide ((l.length:Int)>16)=false:=by simp;omega
   rw[this,ha];simp)]
  have hfl:=Ay4 ha
  have hpre: ∀i,((l.take i).flatMap Y4).length≤l.length*2100:=by
   intro i
   have h1:(l.take i).all Wm=true:=List.all_eq_true.2 fun d hd=>List.all_eq_true.1 ha d (List.mem_of_mem_take hd)
   have:=Ay4 h1
   have h2:(l.take i).length*2100≤l.length*2100:=Nat.mul_le_mul_right _ (by simp;omega)
   exact Nat.le_trans this h2
  have hloop:A5 (fun(qj4:Int×(List (List UInt8)))=>match qj4 with
   |(x5,row6)=>(
    if (decide (x5<(l.length:Int)))=true then
     (rdO l x5).bind fun x7=>
     (apO 16 row6 [[112,114,111,100,117,99,116],x7.F7,x7.Jf,[123],[98,97,115,105,115],x7.Dt,[59],[112,101,114,105,111,100],x7.Cx,[59],[116,105,101,114,115],[123]]).bind fun x8=>
     ((A5 (fun(qj9:Int×(List (List UInt8)))=>match qj9 with
       |(x10,row11)=>(
        if (decide (x10<(x7.Az.length:Int)))=true then
         (rdO x7.Az x10).bind fun x12=>
         (apO 16 row11 [x12.J5,[58],x12.J6,[37],[59]]).bind fun x13=>
         some (.inl (IntKind.wrap .i64 (x10+1),x13))
        else
         some (.inr row11):Option ((Int×(List (List UInt8)))⊕(List (List UInt8))))) (0,x8)):Option (List (List UInt8))).bind fun j9=>
     (Gl 100000 x7.C2 0).bind fun x15=>
     (apO 16 j9 [[125],[102,101,101]]).bind fun x16=>
     (apO 16 x16 x15.1).bind fun x17=>
     (apO 16 x17 [[59],[109,105,110,105,109,117,109],x7.Cq,[59],[111,118,101,114,100,114,97,102,116],x7.Bu,[59],[110,111,116,105,99,101],x7.Cw,[59],[125]]).bind fun x18=>
     some (.inl (IntKind.wrap .i64 (x5+1),x18))
    else
     some (.inr row6):Option ((Int×(List (List UInt8)))⊕(List (List UInt8))))) (0,([]:List (List UInt8)))=some (l.foldl (fun s d=>s++Y4 d) []):=by
   refine A2l (l:=l) (fun s d=>s++Y4 d) id (by omega) (fun i hi=>?_) ?_
   ·have hm:Wm l[i]=true:=List.all_eq_true.1 ha _ (List.getElem_mem hi)
    have hd:=hx l[i] (List.getElem_mem hi)
    have hrow:=hpre i
    rw[foldl_flat,List.nil_append]
    generalize (l.take i).flatMap Y4=row at hrow
    show(if _ then _ else _)=_
    rw[if_pos (by simp;omega),Fj hi]
    simp only[Option.bind_some]
    generalize l[i]=d at hm hd
    have hw:=Bbw hm
    have hwl:=A55 hw.1
    rw[A1p (by simp;omega)]
    simp only[Option.bind_some]
    have hb:A5 (fun(qj9:Int×(List (List UInt8)))=>match qj9 with
      |(x10,row11)=>(
       if (decide (x10<(d.Az.length:Int)))=true then
        (rdO d.Az x10).bind fun x12=>
        (apO 16 row11 [x12.J5,[58],x12.J6,[37],[59]]).bind fun x13=>
        some (.inl (IntKind.wrap .i64 (x10+1),x13))
       else
        some (.inr row11):Option ((Int×(List (List UInt8)))⊕(List (List UInt8))))) (0,row++Ay5 d)=some (d.Az.foldl (fun s b=>s++A1r b) (row++Ay5 d)):=by
     refine A2l (l:=d.Az) (fun s b=>s++A1r b) id (by omega) (fun i hi=>?_) ?_
     ·rw[foldl_flat]
      show(if _ then _ else _)=_
      rw[if_pos (by simp;omega),Fj hi]
      simp only[Option.bind_some]
      rw[A1p (by
       have:=Adv (d.Az.take i)
       rw[List.length_append,List.length_append,this]
       simp[Ay5]
       omega)]
      rfl
     ·show(if _ then _ else _)=_
      rw[if_neg (by simp)]
      rfl
    refine Bh hb ?_
    rw[foldl_flat]
    have hbl:=Adv d.Az
    have hrl:(row++Ay5 d++d.Az.flatMap A1r).length≤l.length*2100+100:=by
     rw[List.length_append,List.length_append,hbl]
     simp[Ay5]
     omega
    obtain⟨hdl,dd,hs,_⟩:=A1a hw.1
    obtain⟨rest,t1,_⟩:=Bjf d.C2.length 100000 d.C2 dd [] 0 (Nat.le_refl _) (by omega) (by omega) hd.fee hs
    rw[show(0:Int)=((0:Nat):Int) from rfl,t1]
    simp only[Option.bind_some]
    have e:atS ((pst d.C2).getD 0 (0,[])) 0=N3 d.C2:=by unfold atS N3;rw[if_neg (by omega)]
    rw[e,A1p (by simp only[List.length_cons,List.length_nil];omega)]
    simp only[Option.bind_some]
    rw[A1p (by rw[List.length_append];simp only[List.length_cons,List.length_nil];omega)]
    simp only[Option.bind_some]
    rw[A1p (by rw[List.length_append,List.length_append];simp only[List.length_cons,List.length_nil];omega)]
    simp only[Option.bind_some]
    unfold Y4
    simp only[List.append_assoc,List.cons_append,List.nil_append]
    rfl
   ·show(if _ then _ else _)=_
    rw[if_neg (by simp)]
    rfl
  refine Bh hloop ?_
  rw[foldl_flat,List.nil_append]
  have hwt: ∀w∈l.flatMap Y4,w.length≤1000000:=by
   intro w hw
   obtain⟨d,hd,hw⟩:=List.mem_flatMap.1 hw
   exact Bkf (List.all_eq_true.1 ha d hd) (hx d hd) w hw
  have hjl:=Bky _ 1000000 hwt
  have hm:(l.flatMap Y4).length*(1000000+1)≤33600*(1000000+1):=Nat.mul_le_mul_right _ (by omega)
  rw[Bn3 (by omega) (by omega)]
  rfl
def tx1:By:=[97,45,98,32,45,32,99,42,45,50,37]
def nd1:List Nd:=[⟨4,[]⟩,⟨4,[]⟩,⟨1,[97]⟩,⟨1,[98]⟩,⟨5,[]⟩,⟨1,[99]⟩,⟨2,[]⟩,⟨0,[50,37]⟩]
theorem Byq:As8 tx1=(nd1,0,0,0):=by decide +kernel
def tx2:By:=[40,97,32,60,32,49,41,32,61,32,40,110,111,116,32,98,41]
def nd2:List Nd:=[⟨9,[]⟩,⟨7,[]⟩,⟨1,[97]⟩,⟨0,[49]⟩,⟨14,[]⟩,⟨1,[98]⟩]
theorem Byr:As8 tx2=(nd2,0,0,0):=by decide +kernel
def tx3:By:=[97,10,32,60,32,98,32,60,32,99]
theorem Bys:As8 tx3=([],2,6,14):=by decide +kernel
def tx4:By:=[40,97]
theorem Byt:As8 tx4=([],1,3,14):=by decide +kernel
def tx5:By:=[112,114,111,100,117,99,116,32,115,97,118,101,32,101,117,114,32,123,32,98,97,115,105,115,32,97,99,116,51,54,53,32,59,32,112,101,114,105,111,100,32,51,32,59,32,116,105,101,114,115,32,123,32,48,32,58,32,49,46,50,53,32,37,32,59,32,53,48,48,32,58,32,50,32,37,32,59,32,125,32,102,101,101,32,105,102,32,98,97,108,97,110,99,101,32,60,32,49,48,32,116,104,101,110,32,49,32,101,108,115,101,32,48,32,59,32,109,105,110,105,109,117,109,32,53,32,59,32,111,118,101,114,100,114,97,102,116,32,48,32,59,32,110,111,116,105,99,101,32,51,48,32,59,32,125]
def dc5:Af:=⟨[115,97,118,101],[101,117,114],[97,99,116,51,54,53],[51],[⟨[48],[49,46,50,53]⟩,⟨[53,48,48],[50]⟩],[⟨15,[]⟩,⟨7,[]⟩,⟨1,[98,97,108,97,110,99,101]⟩,⟨0,[49,48]⟩,⟨0,[49]⟩,⟨0,[48]⟩],[53],[48],[51,48]⟩
theorem Byu:Aim tx5=([dc5],0,0,0):=by decide +kernel
theorem Byv:Bem nd1=([97,32,45,32,98,32,45,32,99,32,42,32,45,32,50,32,37],0):=by decide +kernel
theorem Byw:Bem nd2=([40,32,97,32,60,32,49,32,41,32,61,32,40,32,110,111,116,32,98,32,41],0):=by decide +kernel
theorem Byx:Ax5 [dc5]=(tx5,0):=by decide +kernel
theorem Bwu:Su nd1=4:=by decide +kernel
theorem Bxv:Su [⟨2,[]⟩]=0:=by decide +kernel
theorem nb1:NB nd1:=by unfold NB;decide +kernel
theorem nb2:NB nd2:=by unfold NB;decide +kernel
theorem db5:DB dc5:=⟨by decide,by decide,by decide,by decide,by decide,by decide,by decide,by unfold NB;decide +kernel,by decide,by decide +kernel⟩
theorem Brq:C5=some true:=by
 unfold C5
 rw[show Em [97,45,98,32,45,32,99,42,45,50,37]=some (As8 tx1) from A1h (by decide),Byq]
 simp only[Option.bind_some]
 rw[Big nb1,Byv]
 simp only[Option.bind_some]
 rw[show Em [40,97,32,60,32,49,41,32,61,32,40,110,111,116,32,98,41]=some (As8 tx2) from A1h (by decide),Byr]
 simp only[Option.bind_some]
 rw[Big nb2,Byw]
 simp only[Option.bind_some]
 rw[show Em [97,10,32,60,32,98,32,60,32,99]=some (As8 tx3) from A1h (by decide),Bys]
 simp only[Option.bind_some]
 rw[show Em [40,97]=some (As8 tx4) from A1h (by decide),Byt]
 simp only[Option.bind_some]
 rw[show ∀s,s=tx5→Sl s=some (Aim tx5) from fun s h=>by rw[h];exact Bfd (by decide)]
 ·rw[Byu]
  simp only[Option.bind_some]
  rw[Bif (l:=[dc5]) (fun d hd=>by rw[List.mem_singleton.1 hd];exact db5) (by simp),Byx]
  simp only[Option.bind_some]
  rw[Be5 (by decide)]
  simp only[Option.bind_some]
  rw[if_neg (by simp)]
  rw[Bfs nb1,Bwu,right_eq nb1,Bwu,right_eq (l:=[⟨2,[]⟩]) (by simp),Bxv]
  have e0:rdO [dc5] 0=some dc5:=rfl
  have e1:rdO dc5.Az 1=some ⟨[53,48,48],[50]⟩:=rfl
  have e2:(((4:Nat):Int)==4)=true:=rfl
  have e3:((dc5.Az.length:Int)==2)=true:=rfl
  have e4:(dc5.Cw==[51,48])=true:=rfl
  have e5:decide (0<4)=true:=rfl
  have e6:decide (0<0)=false:=rfl
  rw[show(decide (nd1=[(⟨4,[]⟩:Aa),(⟨4,[]⟩:Aa),(⟨1,[97]⟩:Aa),(⟨1,[98]⟩:Aa),(⟨5,[]⟩:Aa),(⟨1,[99]⟩:Aa),(⟨2,[]⟩:Aa),(⟨0,[50,37]⟩:Aa)]))=true from rfl]
  have hsm:S5 dc5 dc5=some (A5f dc5 dc5):=Bqj (by decide) (by decide)
  simp only[tx5,e0,e1,e2,e3,e4,e5,e6,hsm,A5g,beq_self_eq_true,Bool.true_and,Bool.and_true,cond_true,A2,Option.bind_some,Bool.not_false]
 ·rfl
end Go.Av.G
end
section
namespace Go.Av.G
open Go Go.Av Go.Proofs
theorem Av2(s:List UInt8)(h:s.length≤reachBytes):Cz s=some true:=Ben Brq
end Go.Av.G
end
