import Derived.Test.YtkcilagjhieapaaGreatDoorC14
section
set_option linter.unusedVariables false
set_option linter.unusedSimpArgs false
set_option maxRecDepth 4000
set_option maxHeartbeats 4000000
namespace Go.Av.G
open Go Go.Av Go.Proofs
def conv(x:Ai):Am:=⟨x.S6,x.H3,x.B7⟩
theorem Ai7{p:Af}{acc cur:Int}(hl:p.B0.length≤1000): ∀(t pre:List Bj) (row:List Am),p.B0=pre++t→row.length+t.length≤1000000→
  loopO (fun(qj8:Int×(List Am))=>match qj8 with
     |(x9,row10)=>(
      if (decide (x9<(p.B0.length:Int)))=true then
       (rdO p.B0 x9).bind fun x11=>
       (some (x11.Az==acc)).bind fun c12=>
       ((if (c12&&(x11.Ak.Bb==cur))=true then
         (apO 16 row10 [(⟨p.Cy,p.Cp,x11.Ak.Ao⟩:Am)]).bind fun x14=>
         some x14
       else
        some row10):Option (List Am)).bind fun j13=>
       some (.inl (IntKind.wrap .i64 (x9+1),j13))
      else
       some (.inr row10):Option ((Int×(List Am))⊕(List Am)))) ((pre.length:Int),row)=some (row++(G3 acc cur p t).map conv):=by
 intro t
 induction t with
 |nil=>
  intro pre row he _
  rw[Bz (o:=row)]
  ·simp[G3]
  ·have:decide ((pre.length:Int)<(p.B0.length:Int))=false:=by rw[he];simp
   simp only[this,Bool.false_eq_true,if_false]
 |cons x t ih=>
  intro pre row he hrow
  have hlen:p.B0.length=pre.length+(t.length+1):=by rw[he];simp
  simp only[List.length_cons] at hrow
  have hd:decide ((pre.length:Int)<(p.B0.length:Int))=true:=by simp;omega
  have hx:rdO p.B0 (pre.length:Int)=some x:=by rw[he];exact Gy rfl
  have e1:IntKind.wrap .i64 ((pre.length:Int)+1)=(((pre++[x]).length:Nat):Int):=wN (by simp) (by simp;omega)
  cases hs:Aja acc cur x with
  |true=>
   have hf:G3 acc cur p (x::t)=⟨p.Cy,p.Cp,x.Ak.Ao⟩::G3 acc cur p t:=by simp[G3,List.filter_cons,hs]
   have hs':(x.Az==acc&&x.Ak.Bb==cur)=true:=hs
   have ea:apO 16 row [(⟨p.Cy,p.Cp,x.Ak.Ao⟩:Am)]=some (row++[⟨p.Cy,p.Cp,x.Ak.Ao⟩]):=Md (by simp;omega)
   have:=ih (pre++[x]) (row++[⟨p.Cy,p.Cp,x.Ak.Ao⟩]) (by simp[he]) (by simp;omega)
   rw[hf,Cj (s':=((((pre++[x]).length:Nat):Int),row++[⟨p.Cy,p.Cp,x.Ak.Ao⟩])),this]
   ·simp[conv]
   ·simp only[hd,if_true,hx,Option.bind_some,hs',ea,e1]
  |false=>
   have hf:G3 acc cur p (x::t)=G3 acc cur p t:=by simp[G3,List.filter_cons,hs]
   have hs':(x.Az==acc&&x.Ak.Bb==cur)=false:=hs
   have:=ih (pre++[x]) row (by simp[he]) (by omega)
   rw[hf,Cj (s':=((((pre++[x]).length:Nat):Int),row)),this]
   simp only[hd,if_true,hx,Option.bind_some,hs',Bool.false_eq_true,if_false,e1]
theorem Acj{l:List Af}(hl:Afz l)(acc cur:Int):Ff l acc cur=some ((flatL acc cur l).map conv):=by
 have key: ∀(t pre:List Af) (row:List Am),l=pre++t→row.length+t.length*6≤1000000→
  loopO (fun(qj4:Int×(List Am))=>match qj4 with
  |(x5,row6)=>(
   if (decide (x5<(l.length:Int)))=true then
    (rdO l x5).bind fun x7=>
    ((loopO (fun(qj8:Int×(List Am))=>match qj8 with
      |(x9,row10)=>(
       if (decide (x9<(x7.B0.length:Int)))=true then
        (rdO x7.B0 x9).bind fun x11=>
        (some (x11.Az==acc)).bind fun c12=>
        ((if (c12&&(x11.Ak.Bb==cur))=true then
          (apO 16 row10 [(⟨x7.Cy,x7.Cp,x11.Ak.Ao⟩:Am)]).bind fun x14=>
          some x14
        else
         some row10):Option (List Am)).bind fun j13=>
        some (.inl (IntKind.wrap .i64 (x9+1),j13))
       else
        some (.inr row10):Option ((Int×(List Am))⊕(List Am)))) (0,row6)):Option (List Am)).bind fun j8=>
    some (.inl (IntKind.wrap .i64 (x5+1),j8))
   else
    some (.inr row6):Option ((Int×(List Am))⊕(List Am)))) ((pre.length:Int),row)=some (row++(flatL acc cur t).map conv):=by
  intro t
  induction t with
  |nil=>
   intro pre row he _
   rw[Bz (o:=row)]
   ·simp[flatL]
   ·have:decide ((pre.length:Int)<(l.length:Int))=false:=by rw[he];simp
    simp only[this,Bool.false_eq_true,if_false]
  |cons p t ih=>
   intro pre row he hrow
   have hlen:l.length=pre.length+(t.length+1):=by rw[he];simp
   have hf:=hl.few
   have hmem:p∈l:=by rw[he];simp
   have h6:=hl.legs p hmem
   simp only[List.length_cons] at hrow
   have hd:decide ((pre.length:Int)<(l.length:Int))=true:=by simp;omega
   have hx:rdO l (pre.length:Int)=some p:=by rw[he];exact Gy rfl
   have e1:IntKind.wrap .i64 ((pre.length:Int)+1)=(((pre++[p]).length:Nat):Int):=wN (by simp) (by simp;omega)
   have hin:=Ai7 (p:=p) (acc:=acc) (cur:=cur) (by omega) p.B0 [] row rfl (by omega)
   have e0:(((([]:List Bj).length:Nat)):Int)=0:=rfl
   rw[e0] at hin
   have:=ih (pre++[p]) (row++(G3 acc cur p p.B0).map conv) (by simp[he]) (by have:=Uo acc cur p p.B0;simp;omega)
   rw[Cj (s':=((((pre++[p]).length:Nat):Int),row++(G3 acc cur p p.B0).map conv)),this]
   ·simp[flatL]
   ·simp only[hd,if_true,hx,Option.bind_some,e1]
    exact B9 hin rfl
 unfold Ff
 have:=key l [] [] rfl (by have:=hl.few;simp;omega)
 have e0:(((([]:List Af).length:Nat)):Int)=0:=rfl
 rw[e0] at this
 exact B9 this rfl
theorem Ag4{l:List Ai}(hl:l.length<1000000):Fr (l.map conv)=some (Ds 0 l).isNone:=by
 have key: ∀(t pre:List Ai) (g:Int),l=pre++t→0≤g→g≤1000000000000000000→
  loopO (fun(qj2:Int×Int)=>match qj2 with
  |(sum3,x4)=>(
   if (decide (x4<((l.map conv).length:Int)))=true then
    (rdO (l.map conv) x4).bind fun x5=>
    (some (decide (x5.Ao>1000000000000000000))).bind fun c6=>
    if (c6||(decide (x5.Ao<(-1000000000000000000))))=true then
     some (.inr (.inr true))
    else
     ((if (decide (x5.Ao<0))=true then
       some (IntKind.wrap .i64 (sum3-x5.Ao))
     else
      some (IntKind.wrap .i64 (sum3+x5.Ao))):Option Int).bind fun j7=>
     if (decide (j7>1000000000000000000))=true then
      some (.inr (.inr true))
     else
      some (.inl (j7,IntKind.wrap .i64 (x4+1)))
   else
    some (.inr (.inl ())):Option ((Int×Int)⊕(Unit⊕Bool)))) (g,(pre.length:Int))=some (if (Ds g t).isNone=true then .inr true else .inl ()):=by
  intro t
  induction t with
  |nil=>
   intro pre g he _ _
   rw[Bz (o:= .inl ())]
   ·simp[Ds]
   ·have:decide ((pre.length:Int)<((l.map conv).length:Int))=false:=by rw[he];simp
    simp only[this,Bool.false_eq_true,if_false]
  |cons x t ih=>
   intro pre g he h0 h1
   have hlen:l.length=pre.length+(t.length+1):=by rw[he];simp
   have hd:decide ((pre.length:Int)<((l.map conv).length:Int))=true:=by simp;omega
   have hx:rdO (l.map conv) (pre.length:Int)=some (conv x):=by rw[he,List.map_append,List.map_cons];exact Gy (by simp)
   have e1:IntKind.wrap .i64 ((pre.length:Int)+1)=(((pre++[x]).length:Nat):Int):=wN (by simp) (by simp;omega)
   have ec:(conv x).Ao=x.B7:=rfl
   have hgf:Ds g (x::t)=if 1000000000000000000-g<Ik x.B7 then none else Ds (g+Ik x.B7) t:=rfl
   rw[hgf]
   by_cases hb:x.B7>1000000000000000000∨x.B7< -1000000000000000000
   ·have hb':(decide (x.B7>1000000000000000000)||decide (x.B7<(-1000000000000000000)))=true:=by simpa using hb
    have hgt:1000000000000000000-g<Ik x.B7:=by unfold Ik;split<;>omega
    rw[if_pos hgt,Bz (o:= .inr true)]
    ·rfl
    ·simp only[hd,if_true,hx,Option.bind_some,ec,hb']
   ·have hb':(decide (x.B7>1000000000000000000)||decide (x.B7<(-1000000000000000000)))=false:=by
     rw[Bool.eq_false_iff];intro h;simp only[Bool.or_eq_true,decide_eq_true_eq] at h;exact hb h
    have hj:((if (decide (x.B7<0))=true then some (IntKind.wrap .i64 (g-x.B7)) else some (IntKind.wrap .i64 (g+x.B7))):Option Int)=some (g+Ik x.B7):=by
     unfold Ik
     by_cases hn:x.B7<0
     ·rw[if_pos (by simpa using hn),if_pos hn,Df (by omega) (by omega)]
      congr 1
     ·rw[if_neg (by simpa using hn),if_neg hn,Df (by omega) (by omega)]
    by_cases hg:1000000000000000000-g<Ik x.B7
    ·rw[if_pos hg,Bz (o:= .inr true)]
     ·rfl
     ·simp only[hd,if_true,hx,Option.bind_some,ec,hb',Bool.false_eq_true,if_false,hj]
      rw[if_pos (by simp;omega)]
    ·have ha:=Ni x.B7
     rw[if_neg hg,Cj (s':=(g+Ik x.B7,(((pre++[x]).length:Nat):Int))),ih (pre++[x]) _ (by simp[he]) (by omega) (by omega)]
     simp only[hd,if_true,hx,Option.bind_some,ec,hb',Bool.false_eq_true,if_false,hj,e1]
     rw[if_neg (by simp;omega)]
 unfold Fr
 have:=key l [] 0 rfl (by omega) (by omega)
 have e0:(((([]:List Ai).length:Nat)):Int)=0:=rfl
 rw[e0] at this
 refine B9 this ?_
 cases (Ds 0 l).isNone<;>rfl
theorem Axu{l:List Ai}{G:Int}(hl:l.length<1000000)(hG:Ds 0 l=some G)(e:Int):G8 (l.map conv) e=some (L5 e l):=by
 have key: ∀(t pre:List Ai) (n g G:Int),l=pre++t→Ds g t=some G→0≤g→g≤1000000000000000000→ -g≤n→n≤g→
  loopO (fun(qj3:Int×Int)=>match qj3 with
  |(n4,x5)=>(
   if (decide (x5<((l.map conv).length:Int)))=true then
    (rdO (l.map conv) x5).bind fun x6=>
    ((if (decide (x6.Cp≤e))=true then
      some (IntKind.wrap .i64 (n4+x6.Ao))
    else
     some n4):Option Int).bind fun j7=>
    some (.inl (j7,IntKind.wrap .i64 (x5+1)))
   else
    some (.inr n4):Option ((Int×Int)⊕Int))) (n,(pre.length:Int))=some (n+L5 e t):=by
  intro t
  induction t with
  |nil=>
   intro pre n g G he _ _ _ _ _
   rw[Bz (o:=n)]
   ·simp[L5]
   ·have:decide ((pre.length:Int)<((l.map conv).length:Int))=false:=by rw[he];simp
    simp only[this,Bool.false_eq_true,if_false]
  |cons x t ih=>
   intro pre n g G he hg h0 h1 h2 h3
   have hlen:l.length=pre.length+(t.length+1):=by rw[he];simp
   have hd:decide ((pre.length:Int)<((l.map conv).length:Int))=true:=by simp;omega
   have hx:rdO (l.map conv) (pre.length:Int)=some (conv x):=by rw[he,List.map_append,List.map_cons];exact Gy (by simp)
   have e1:IntKind.wrap .i64 ((pre.length:Int)+1)=(((pre++[x]).length:Nat):Int):=wN (by simp) (by simp;omega)
   have ec:(conv x).Ao=x.B7:=rfl
   have ev:(conv x).Cp=x.H3:=rfl
   have ha:=Ni x.B7
   have hg':(if 1000000000000000000-g<Ik x.B7 then none else Ds (g+Ik x.B7) t)=some G:=hg
   split at hg'
   ·cases hg'
   ·have hsv:L5 e (x::t)=(if x.H3≤e then x.B7 else 0)+L5 e t:=rfl
    rw[hsv]
    by_cases hv:x.H3≤e
    ·have ew:IntKind.wrap .i64 (n+x.B7)=n+x.B7:=Df (by omega) (by omega)
     have:=ih (pre++[x]) (n+x.B7) _ _ (by simp[he]) hg' (by omega) (by omega) (by omega) (by omega)
     rw[Cj (s':=(n+x.B7,(((pre++[x]).length:Nat):Int))),this,if_pos hv,Int.add_assoc]
     simp only[hd,if_true,hx,Option.bind_some,ec,ev,decide_eq_true hv,ew,e1]
    ·have:=ih (pre++[x]) n _ _ (by simp[he]) hg' (by omega) (by omega) (by omega) (by omega)
     rw[Cj (s':=(n,(((pre++[x]).length:Nat):Int))),this,if_neg hv,Int.zero_add]
     simp only[hd,if_true,hx,Option.bind_some,ec,ev,decide_eq_false hv,Bool.false_eq_true,if_false,e1]
 unfold G8
 have:=key l [] 0 0 G rfl hG (by omega) (by omega) (by omega) (by omega)
 have e0:(((([]:List Ai).length:Nat)):Int)=0:=rfl
 rw[e0] at this
 rw[this,Int.zero_add]
 rfl
theorem Xi{l:List Al}(hn:l.length≤200):Fj l=some (!(List.range' 0 l.length).any (Vt l)):=by
 unfold Fj
 rw[Mm (n:=l.length) (q:=Vt l) (o:=(Sum.inr false:Unit⊕Bool)) (e:=Sum.inl ()) (by omega)]
 ·cases (List.range' 0 l.length).any (Vt l) with
  |true=>rfl
  |false=>
   simp only[Bool.false_eq_true,if_false,Option.bind_some,Bool.not_false,Option.some.injEq]
   exact decide_eq_true (by omega)
 ·intro i h
  simp only[decide_eq_true_eq]
  rw[if_pos (by omega),Cm h]
  simp only[Option.bind_some]
  unfold Vt
  rw[List.getElem?_eq_getElem h]
  simp only[Option.any_some]
  have hb:(((decide (l[i].Az<1)||decide (l[i].Az>999))||decide (l[i].Ao<0))||decide (l[i].Ao>1000000000000000))= !R3 l[i]:=by
   unfold R3
   rw[Bool.eq_iff_iff]
   simp
   omega
  rw[hb]
  by_cases hk:R3 l[i]=true
  ·cases i with
   |zero=>simp[hk,gdO]
   |succ i=>
    have e1:IntKind.wrap .i64 (((i+1:Nat):Int)-1)=(i:Int):=by rw[Df (by omega) (by omega)];omega
    have e2:decide (((i+1:Nat):Int)>0)=true:=decide_eq_true (by omega)
    rw[e1,e2,Cm (by omega),E6 (by omega) h]
    by_cases hd:(l[i]).Az≥(l[i+1]).Az<;>simp[hk,gdO,hd]
  ·have hk':R3 l[i]=false:=by simpa using hk
   simp[hk',gdO]
 ·intro i h
  simp only[decide_eq_true_eq]
  rw[if_neg (by omega)]
theorem Agy{t:Ah}(hf:Ka t)(h:F5 t):D8 t=some true:=by
 unfold D8
 have hh:=hf.holds
 have hlim:=hf.limits
 have h2:decide ((t.Fl.length:Int)≤2000)=true:=decide_eq_true (by have:=h.few;omega)
 have h3:=(Ti (by omega)).2 h.limits
 rw[Va hf.chart h.chart]
 simp only[Option.bind_some,h2,Bool.and_self,Hb,cond_true,U8 t.A7 (by omega),Io.2 h.holds,beq_self_eq_true,Xi (show t.A6.length≤200 by omega),h3,Bool.not_false]
theorem Aed{t:Ah}(hf:Ka t)(h: ¬F5 t):D8 t=some false:=by
 unfold D8
 have hh:=hf.holds
 have hlim:=hf.limits
 have hex: ∃c,Dv t.Bk=some c∧(c=true→Kb t.Bk):=by
  by_cases hc:Kb t.Bk
  ·exact⟨true,Va hf.chart hc,fun _=>hc⟩
  ·exact⟨false,Aam hf.chart hc,fun h=>by cases h⟩
 obtain⟨c,ec,hc⟩:=hex
 rw[ec]
 simp only[Option.bind_some,Hb,U8 t.A7 (show t.A7.length<4611686018427387904 by omega),Xi (show t.A6.length≤200 by omega),Option.some.injEq]
 rw[Bool.eq_false_iff]
 intro hb
 apply h
 cases c with
 |false=>simp at hb
 |true=>
  by_cases h2:t.Fl.length≤2000
  ·have h2':decide ((t.Fl.length:Int)≤2000)=true:=decide_eq_true (by omega)
   rw[h2'] at hb
   simp only[Bool.and_self,Bool.true_and,cond_true,Bool.and_eq_true,beq_iff_eq] at hb
   obtain⟨h3,h4⟩:=hb
   rw[h3] at h4
   simp only[beq_self_eq_true,cond_true,Bool.not_eq_true'] at h4
   exact⟨hc rfl,h2,Io.1 h3,(Ti (by omega)).1 h4⟩
  ·have h2':decide ((t.Fl.length:Int)≤2000)=false:=decide_eq_false (by omega)
   rw[h2'] at hb
   simp at hb
theorem Aak{t:Ah}(hf:Ka t)(hr:F5 t)(acc now:Int):Es t acc now=some (Ij t acc now):=by
 have hF:=hf.legs hr.few
 have hfew:=hF.few
 unfold Es
 rw[Zl _ _ (by have:=hf.chart.2.1;omega)]
 unfold Ij Hq Ag0
 cases hi:Dr t.Bk.Au (fun r=>r.Az==acc) with
 |none=>rfl
 |some i=>
  obtain⟨h1,h2,_⟩:=Fk hi
  have hneg:decide ((i:Int)<0)=false:=decide_eq_false (by omega)
  simp only[Option.bind_some,hneg,Bool.false_eq_true,if_false,Cm h1,List.getElem?_eq_getElem h1,Option.getD_some]
  generalize t.Bk.Au[i]=r
  have hlen:=Qw acc r.Bb hF.legs
  unfold Rm
  by_cases hk:r.Ca=1
  ·have hk':(r.Ca !=1)=false:=by simpa using hk
   rw[if_neg (not_not_intro hk)]
   simp only[hk',Bool.false_eq_true,if_false,C2,Option.bind_some]
   by_cases hn: -50000≤now∧now≤50000
   ·have hn':(!(decide (now≥ -50000)&&decide (now≤50000)))=false:=by simp[hn]
    rw[if_neg (not_not_intro hn)]
    simp only[hn',Bool.false_eq_true,if_false]
    by_cases ho:r.Eu≤now∧now≤r.Iu
    ·have ho':(decide (now<r.Eu)||decide (now>r.Iu))=false:=by simp[ho]
     rw[if_neg (not_not_intro ho)]
     simp only[ho',Bool.false_eq_true,if_false,Acj hF,Option.bind_some,Ag4 (show(flatL acc r.Bb t.Fl).length<1000000 by omega)]
     cases Ds 0 (flatL acc r.Bb t.Fl)<;>rfl
    ·have ho':(decide (now<r.Eu)||decide (now>r.Iu))=true:=by
      simp only[Bool.or_eq_true,decide_eq_true_eq];omega
     rw[if_pos ho]
     simp only[ho',if_true]
   ·have hn':(!(decide (now≥ -50000)&&decide (now≤50000)))=true:=by
     rw[Bool.not_eq_true',Bool.eq_false_iff]
     intro h
     simp at h
     exact hn h
    rw[if_pos hn]
    simp only[hn',if_true]
  ·have hk':(r.Ca !=1)=true:=by simpa using hk
   rw[if_pos hk]
   simp only[hk',if_true]
theorem To{t:Ah}(hf:Ka t){acc now:Int}(hw:Ij t acc now=0):Dg t acc=some (Hq t acc).Bb:=by
 obtain⟨i,hi,h1,h2,h3,_⟩:=Xx hw
 unfold Dg
 have:Dr t.Bk.Au (fun r=>r.Az==acc)=some i:=h1
 rw[Zl _ _ (by have:=hf.chart.2.1;omega),this]
 simp only[Option.bind_some,Cm hi,h2]
theorem Agx{t:Ah}(hf:Ka t)(hr:F5 t){acc now:Int}(hw:Ij t acc now=0):Fu t acc now=some (Gi t acc now):=by
 have hF:=hf.legs hr.few
 have hfew:=hF.few
 obtain⟨i,hi,h1,h2,h3,h4⟩:=Xx hw
 obtain⟨_,_,_,_,_,G,hG⟩:=Afx h4
 have hlen:=Qw acc (Hq t acc).Bb hF.legs
 have h5:=O2 now _ hG
 have h6:=Jp _ hG (by omega) (by omega)
 have ew:IntKind.wrap .i64 (0-L5 now (flatL acc (Hq t acc).Bb t.Fl))= -L5 now (flatL acc (Hq t acc).Bb t.Fl):=by rw[Df (by omega) (by omega)];omega
 unfold Fu
 rw[To hf hw]
 simp only[Option.bind_some,Acj hF,Axu (show(flatL acc (Hq t acc).Bb t.Fl).length<1000000 by omega) hG,ew]
 rfl
theorem Ag6{t:Ah}(hf:Ka t)(acc:Int):Fv t acc=some (Ly t.A6 acc):=by
 unfold Fv Ly
 have hlim:=hf.limits
 rw[Gl (l:=t.A6) (fun x=>x.Az==acc) (o:=fun i=>(Sum.inr ((t.A6[i]?).getD default).Ao:Unit⊕Int)) (e:=Sum.inl ()) (by omega)]
 ·cases Dr t.A6 (fun x=>x.Az==acc)<;>rfl
 ·intro i h
  simp only[decide_eq_true_eq]
  rw[if_pos (by omega),Cm h]
  simp only[Option.bind_some,List.getElem?_eq_getElem h,Option.getD_some]
  split<;>rfl
 ·intro i h
  simp only[decide_eq_true_eq]
  rw[if_neg (by omega)]
theorem Afs{t:Ah}(hf:Ka t)(hr:F5 t){acc now:Int}(hw:Ij t acc now=0):Fm t acc now=some (Gi t acc now+Ly t.A6 acc):=by
 have h:=Ml hf hr hw 0
 unfold Fm
 rw[Agx hf hr hw,Ag6 hf]
 simp only[Option.bind_some]
 rw[Df (by omega) (by omega)]
theorem Ai4{t:Ah}(hf:Ka t)(hr:F5 t){acc now:Int}(hw:Ij t acc now=0)(rank:Int):Gb t acc now rank=some (Rw t acc now rank):=by
 have h:=Ml hf hr hw rank
 have hh:=hf.holds
 unfold Gb
 rw[Afs hf hr hw,To hf hw]
 simp only[Option.bind_some,Ag3 (show t.A7.length≤1000 by omega)]
 rw[Df (by omega) (by omega)]
 rfl
end Go.Av.G
end
section
set_option linter.unusedVariables false
set_option linter.unusedSimpArgs false
set_option maxRecDepth 4000
set_option maxHeartbeats 4000000
namespace Go.Av.G
open Go Go.Av Go.Proofs
theorem Alz(x:Al):Al.same x x=true:=by rw[Al.same_iff];simp
theorem Xm{α:Type}{l:List α}{same:α→α→Bool}(hs: ∀x,same x x=true)(hn:l.length<4611686018427387904):
  loopO (fun(qj8:Int)=>match qj8 with
   |x9=>(
    if (decide (x9<(l.length:Int)))=true then
     (rdO l x9).bind fun x10=>
     (rdO l x9).bind fun x11=>
     if (!(same x10 x11))=true then
      some (.inr (.inr false))
     else
      some (.inl (IntKind.wrap .i64 (x9+1)))
    else
     some (.inr (.inl ())):Option (Int⊕(Unit⊕Bool)))) 0=some (.inl ()):=by
 rw[Mm (n:=l.length) (q:=fun _=>false) (o:=(Sum.inr false:Unit⊕Bool)) (e:=Sum.inl ()) hn]
 ·have:(List.range' 0 l.length).any (fun _=>false)=false:=by simp
  rw[this]
  rfl
 ·intro i hi
  simp only[decide_eq_true_eq]
  rw[if_pos (by omega),Cm hi]
  simp only[Option.bind_some,hs,Bool.not_true,Bool.false_eq_true,if_false]
 ·intro i hi
  simp only[decide_eq_true_eq]
  rw[if_neg (by omega)]
theorem Ace{t:Ah}(h1:t.Bk.As.length<4611686018427387904)(h2:t.Bk.Au.length<4611686018427387904)(h3:t.A7.length<4611686018427387904)(h4:t.A6.length<4611686018427387904):B2 t t=some true:=by
 have hc:F8 t.Bk t.Bk=some true:=by
  unfold F8
  simp only[bne_self_eq_false,Option.bind_some,Bool.or_self,Bool.false_eq_true,if_false]
  refine B9 (Xm Bd0 h1) ?_
  refine B9 (Xm Bd2 h2) ?_
  rfl
 unfold B2
 simp only[hc,Option.bind_some,Bool.not_true,bne_self_eq_false,Bool.or_self,Bool.not_false,gdO,Ad0 t.A7 h3,Bool.false_eq_true,if_false]
 refine B9 (Xm Alz h4) ?_
 rfl
theorem Ju:B2 noT noT=some true:=Ace (by decide) (by decide) (by decide) (by decide)
theorem So{t:Ah}(hf:Ka t){l:List Aa}(hl:l.length≤1000):B2 (Xy t l) (Xy t l)=some true:=
 Ace (show t.Bk.As.length<4611686018427387904 by have:=hf.chart.1;omega) (show t.Bk.Au.length<4611686018427387904 by have:=hf.chart.2.1;omega) (show l.length<4611686018427387904 by omega) (show t.A6.length<4611686018427387904 by have:=hf.limits;omega)
theorem Xe{t:Ah}(hf:Ka t):B2 t t=some true:=So hf (l:=t.A7) (by have:=hf.holds;omega)
theorem Acd(l:List Aa)(id:Int)(hn:l.length<4611686018427387904):Ei l id=some (match Dr l (fun x=>x.Bc==id) with|some i=>(l[i]?).getD default|none=>⟨0,0,⟨0,0⟩,0,0,0,0,false⟩):=by
 unfold Ei
 refine B9 (Gl (l:=l) (fun x=>x.Bc==id) (o:=fun i=>(.inr ((l[i]?).getD default):Unit⊕Aa)) (e:= .inl ()) hn ?_ ?_) ?_
 ·intro i h
  simp only[decide_eq_true_eq]
  rw[if_pos (by omega),Cm h]
  simp only[Option.bind_some,List.getElem?_eq_getElem h,Option.getD_some]
  split<;>rfl
 ·intro i h
  simp only[decide_eq_true_eq]
  rw[if_neg (by omega)]
 ·cases Dr l (fun x=>x.Bc==id)<;>rfl
theorem Ai5{l:List Aa}(hg:Ll l){i:Nat}(hi:i<l.length):Ei l l[i].Bc=some l[i]:=by
 rw[Acd l _ (by have:=hg.few;omega)]
 cases hx:Dr l (fun x=>x.Bc==l[i].Bc) with
 |none=>
  have:=Le hx l[i] (List.getElem_mem hi)
  simp at this
 |some j=>
  obtain⟨hj,hp,_⟩:=Fk hx
  have he:j=i:=Lm.inj hg.rise hj hi (by simpa using hp)
  subst he
  simp only[List.getElem?_eq_getElem hj,Option.getD_some]
theorem Acc{t:Ah}(hf:Ka t)(hr:F5 t){acc now:Int}(hw:Ij t acc now=0)(id:Int):Eb t acc now id=some ((Ab8 t acc now id).getD 0):=by
 have hlim:=Ml hf hr hw 0
 have hh:=hf.holds
 unfold Eb
 rw[To hf hw,Afs hf hr hw]
 simp only[Option.bind_some]
 rw[Ach (by omega) (by omega)]
 simp only[Option.bind_some]
 have hl:=Abj t acc now
 change ((loopO _ 0:Option (Unit⊕Int)).bind _)=_
 unfold Ab8
 refine B9 (Gl (l:=S2 t acc now) (fun x=>x.Bc==id) (o:=fun i=>(.inr (((S2 t acc now)[i]?).getD default).Kg:Unit⊕Int)) (e:= .inl ()) (by omega) ?_ ?_) ?_
 ·intro i h
  change (if decide ((i:Int)<((S2 t acc now).length:Int))=true then(rdO (S2 t acc now) (i:Int)).bind _ else _)=_
  rw[if_pos (decide_eq_true (by omega)),Cm h]
  simp only[Option.bind_some,List.getElem?_eq_getElem h,Option.getD_some]
  split<;>rfl
 ·intro i h
  change (if decide ((i:Int)<((S2 t acc now).length:Int))=true then _ else _)=_
  rw[if_neg (by simp only[decide_eq_true_eq];omega)]
 ·cases Dr (S2 t acc now) (fun x=>x.Bc==id)<;>rfl
theorem Abt{t:Ah}(hf:Ka t)(hr:F5 t)(id:Int)(a:A5)(now:Int)(last:Bool){x9:Ah×Bool×Int}(hx9:F6 t id a now last=some x9):
  ((Da t.A7 id a now last).bind fun x39=>
 (Ei t.A7 id).bind fun x40=>
 ((if (x39.2==0)=true then
   (Es t x40.Az now).bind fun x42=>
   some x42
 else
  some x39.2):Option Int).bind fun j41=>
 (some (j41==0)).bind fun c44=>
 (gdO c44 (Dg t x40.Az) (default:Int)).bind fun x45=>
 ((if (c44&&(x40.Ak.Bb !=x45))=true then
   some 12
 else
  some j41):Option Int).bind fun j46=>
 if (j46 !=0)=true then
  (Cu).bind fun x48=>
  (some (x48&&(x9.2.2==j46))).bind fun c49=>
  (some (c49&&(!x9.2.1))).bind fun c50=>
  (gdO c50 (B2 x9.1 (⟨(⟨([]:List Ac),([]:List Ad)⟩:A4),([]:List Af),([]:List Aa),([]:List Al)⟩:Ah)) (default:Bool)).bind fun x51=>
  some (c50&&x51)
 else
  (Eb t x40.Az now id).bind fun x52=>
  if (decide (a.Ao≤x52))=true then
   (Cu).bind fun x53=>
   (some (x53&&(x9.2.2==0))).bind fun c54=>
   (some (c54&&x9.2.1)).bind fun c55=>
   (gdO c55 (Gc t x39.1) (default:Ah)).bind fun x56=>
   (gdO c55 (B2 x9.1 x56) (default:Bool)).bind fun x57=>
   some (c55&&x57)
  else
   (Cu).bind fun x58=>
   (some (x58&&(x9.2.2==0))).bind fun c59=>
   (some (c59&&(!x9.2.1))).bind fun c60=>
   (gdO c60 (B2 x9.1 t) (default:Bool)).bind fun x61=>
   some (c60&&x61))=some true:=by
 have hh:=hf.holds
 by_cases hex: ∃(i:Nat) (hi:i<t.A7.length),t.A7[i].Bc=id
 ·obtain⟨i,hi,rfl⟩:=hex
  rw[Ae9 hf hr hi] at hx9
  cases hx9
  rw[Ag2 hr.holds hi,Ai5 hr.holds hi]
  have hlen:=Abd t.A7 i t.A7[i] a now last
  unfold Ajj
  generalize t.A7[i]=x at hlen⊢
  have hpos:(Ri t.A7 i x a now last).2=0→0<a.Ao:=by
   intro h
   unfold Ri at h
   split at h
   ·cases h
   ·split at h
    ·cases h
    ·split at h
     ·cases h
     ·rename_i hp
      rw[Bool.or_eq_true,decide_eq_true_eq] at hp
      omega
  generalize Ri t.A7 i x a now last=c at hlen hpos⊢
  obtain⟨m,e⟩:=c
  simp only[Option.bind_some] at hpos hlen⊢
  by_cases he:e=0
  ·subst he
   have hpos:=hpos rfl
   simp only[beq_self_eq_true,if_true,Aak hf hr,Option.bind_some,ne_eq,not_true_eq_false,if_false]
   by_cases hw:Ij t x.Az now=0
   ·simp only[hw,beq_self_eq_true,gdO,To hf hw,Option.bind_some,Bool.true_and,not_true_eq_false,if_false]
    by_cases hc:x.Ak.Bb=(Hq t x.Az).Bb
    ·have hb:(x.Ak.Bb !=(Hq t x.Az).Bb)=false:=by simp[hc]
     simp only[hb,Bool.false_eq_true,if_false,Option.bind_some,bne_self_eq_false,hc,not_true_eq_false,Acc hf hr hw,Yw]
     have hsw:=So hf (l:=m) (by omega)
     have hss:=Xe hf
     cases hm:Ab8 t x.Az now x.Bc with
     |none=>
      have hd:decide (a.Ao≤(none:Option Int).getD 0)=false:=decide_eq_false (by simp;omega)
      simp only[hd,Bool.false_eq_true,if_false,if_true,beq_self_eq_true,Bool.true_and,Bool.not_false,Option.bind_some,hss]
     |some q=>
      by_cases hq:q<a.Ao
      ·have hd:decide (a.Ao≤(some q).getD 0)=false:=decide_eq_false (by simp;omega)
       simp only[hd,decide_eq_true hq,Bool.false_eq_true,if_false,if_true,beq_self_eq_true,Bool.true_and,Bool.not_false,Option.bind_some,hss]
      ·have hd:decide (a.Ao≤(some q).getD 0)=true:=decide_eq_true (by simp;omega)
       simp only[hd,decide_eq_false hq,Bool.false_eq_true,if_false,if_true,beq_self_eq_true,Bool.true_and,Option.bind_some]
       exact B9 (x:=Xy t m) rfl (B9 hsw rfl)
    ·have hb:(x.Ak.Bb !=(Hq t x.Az).Bb)=true:=by simpa using hc
     simp only[hb,if_true,Option.bind_some,hc,not_false_eq_true,Yw]
     exact B9 Ju rfl
   ·have hb:(Ij t x.Az now==0)=false:=by simpa using hw
    have hb2:(Ij t x.Az now !=0)=true:=by simpa using hw
    simp only[hb,gdO,Option.bind_some,Bool.false_and,Bool.false_eq_true,if_false,hb2,if_true,hw,not_false_eq_true,Yw,beq_self_eq_true,Bool.true_and,Bool.not_false]
    exact B9 Ju rfl
  ·have hb:(e==0)=false:=by simpa using he
   have hb2:(e !=0)=true:=by simpa using he
   simp only[hb,gdO,Option.bind_some,Bool.false_and,Bool.false_eq_true,if_false,hb2,if_true,he,ne_eq,not_false_eq_true,Yw,beq_self_eq_true,Bool.true_and,Bool.not_false]
   exact B9 Ju rfl
 ·have hno: ∀x∈t.A7,x.Bc≠id:=fun x hx e=>by
   obtain⟨i,hi,rfl⟩:=List.getElem_of_mem hx
   exact hex ⟨i,hi,e⟩
  rw[Yq hf hr hno] at hx9
  cases hx9
  rw[Acg hr.holds hno,Acd _ _ (by omega)]
  refine B9 rfl (B9 rfl (B9 (x:=8) rfl (B9 rfl (B9 rfl (B9 (x:=8) rfl ?_)))))
  simp only[Yw]
  exact B9 (x:=true) Ju rfl
theorem Vh(t:Ah)(h:Aa)(id:Int)(a:A5)(now:Int)(last:Bool)(h1:t.wf)(_:h.wf)(_:inR .i64 id)(_:a.wf)(_:inR .i32 now)(_:True):E9 t h id a now last=some true:=by
 unfold E9
 rw[Axk]
 have hf:=Ald h1
 generalize Wv t=t at hf
 simp only[Option.bind_some]
 by_cases hr:F5 t
 ·obtain⟨x9,hx9⟩: ∃x9,F6 t id a now last=some x9:=by
   by_cases hex: ∃(i:Nat) (hi:i<t.A7.length),t.A7[i].Bc=id
   ·obtain⟨i,hi,rfl⟩:=hex
    exact⟨_,Ae9 hf hr hi a now last⟩
   ·exact⟨_,Yq hf hr (fun x hx e=>by
     obtain⟨i,hi,rfl⟩:=List.getElem_of_mem hx
     exact hex ⟨i,hi,e⟩) a now last⟩
  have htake:=Abt hf hr id a now last hx9
  simp only[Option.bind_some] at htake
  rw[Ahq hf hr,hx9,Agy hf hr]
  refine B9 rfl (B9 rfl (B9 rfl ?_))
  simp only[Bool.not_true,Bool.false_eq_true,if_false]
  refine B9 (Ag1 hr.holds h) ?_
  have hlen:=Aa4 t.A7 h
  have h100:=hf.holds
  unfold Aeb
  generalize Uf t.A7 h=c at hlen⊢
  obtain⟨m,e⟩:=c
  dsimp only at hlen⊢
  have hsw:=So hf (l:=m) (by omega)
  have hss:=Xe hf
  by_cases he:e=0
  ·subst he
   simp only[ne_eq,not_true_eq_false,if_false]
   by_cases hw:Ij t h.Az h.B5=0
   ·refine B9 (x:=0) (by simp only[beq_self_eq_true,if_true,Aak hf hr,Option.bind_some,hw]) ?_
    refine B9 (x:=(Hq t h.Az).Bb) (by simp only[beq_self_eq_true,gdO,To hf hw]) ?_
    simp only[hw,not_true_eq_false,if_false]
    by_cases hc:h.Ak.Bb=(Hq t h.Az).Bb
    ·have hb:(h.Ak.Bb !=(Hq t h.Az).Bb)=false:=by simp[hc]
     refine B9 (x:=0) (by simp only[hb,Bool.and_false,Bool.false_eq_true,if_false]) ?_
     refine B9 (x:=(Sum.inl ():Unit⊕Bool)) ?_ htake
     simp only[bne_self_eq_false,Bool.false_eq_true,if_false,hc,not_true_eq_false,Ai4 hf hr hw,Option.bind_some]
     by_cases hq:Rw t h.Az h.B5 h.A9<h.Ak.Ao
     ·simp only[hq,if_true,decide_eq_false (show ¬h.Ak.Ao≤Rw t h.Az h.B5 h.A9 by omega),Bool.false_eq_true,if_false,bne_self_eq_false,Bool.or_self,Bool.not_false,gdO,hss,Option.bind_some,Bool.not_true]
     ·simp only[hq,if_false,decide_eq_true (show h.Ak.Ao≤Rw t h.Az h.B5 h.A9 by omega),if_true,bne_self_eq_false,Bool.or_self,Bool.not_true,Bool.not_false,gdO,Option.bind_some]
      exact B9 (x:=Xy t m) rfl (B9 (x:=true) hsw rfl)
    ·have hb:(h.Ak.Bb !=(Hq t h.Az).Bb)=true:=by simpa using hc
     refine B9 (x:=12) (by simp only[hb,beq_self_eq_true,Bool.and_self,if_true]) ?_
     refine B9 (x:=(Sum.inl ():Unit⊕Bool)) ?_ htake
     simp only[hc,not_false_eq_true,if_true]
     exact B9 (x:=true) Ju rfl
   ·have hb:(Ij t h.Az h.B5==0)=false:=by simpa using hw
    have hb2:(Ij t h.Az h.B5 !=0)=true:=by simpa using hw
    refine B9 (x:=Ij t h.Az h.B5) (by simp only[beq_self_eq_true,if_true,Aak hf hr,Option.bind_some]) ?_
    refine B9 (x:=default) (by simp only[hb,gdO]) ?_
    refine B9 (x:=Ij t h.Az h.B5) (by simp only[hb,Bool.false_and,Bool.false_eq_true,if_false]) ?_
    refine B9 (x:=(Sum.inl ():Unit⊕Bool)) ?_ htake
    simp only[hb2,if_true,hw,not_false_eq_true,bne_self_eq_false,Bool.or_self,Bool.not_false,Option.bind_some,gdO]
    exact B9 (x:=true) Ju rfl
  ·have hb:(e==0)=false:=by simpa using he
   have hb2:(e !=0)=true:=by simpa using he
   refine B9 (x:=e) (by simp only[hb,Bool.false_eq_true,if_false]) ?_
   refine B9 (x:=default) (by simp only[hb,gdO]) ?_
   refine B9 (x:=e) (by simp only[hb,Bool.false_and,Bool.false_eq_true,if_false]) ?_
   refine B9 (x:=(Sum.inl ():Unit⊕Bool)) ?_ htake
   simp only[hb2,if_true,he,ne_eq,not_false_eq_true,bne_self_eq_false,Bool.or_self,Bool.not_false,Option.bind_some,gdO]
   exact B9 (x:=true) Ju rfl
 ·rw[Af0 hf hr,Ahs hf hr,Aed hf hr]
  refine B9 rfl (B9 rfl (B9 rfl ?_))
  simp only[Bool.not_false,if_true,Yw]
  exact B9 (x:=true) rfl (B9 (x:=true) Ju (B9 (x:=true) Ju rfl))
end Go.Av.G
end
