import Derived.Laws.RangeAny
import Derived.Test.YtkcilagjhieapaaGreatDoorC12
section
set_option linter.unusedVariables false
set_option linter.unusedSimpArgs false
namespace Go.Av
open Go
theorem Df{x:Int}(h1: -9223372036854775808≤x)(h2:x<9223372036854775808):IntKind.wrap .i64 x=x:=by
 have hb:IntKind.bits .i64=64:=rfl
 have hs:IntKind.signed .i64=true:=rfl
 unfold IntKind.wrap
 simp only[hb,hs,Bool.true_and,decide_eq_true_eq]
 split<;>omega
theorem Al4{x:Int}(h1:0≤x)(h2:x<18446744073709551616):IntKind.wrap .u64 x=x:=by
 have hb:IntKind.bits .u64=64:=rfl
 have hs:IntKind.signed .u64=false:=rfl
 unfold IntKind.wrap
 simp only[hb,hs,Bool.false_and]
 simp
 omega
theorem Cm{α:Type}{l:List α}{i:Nat}(h:i<l.length):rdO l (i:Int)=some l[i]:=by
 unfold rdO
 rw[if_pos (by omega)]
 simp[List.getElem?_eq_getElem h]
theorem Axd{s:List UInt8}{i:Nat}(h:i<s.length):byO s (i:Int)=some ((s[i].toNat:Nat):Int):=by
 unfold byO
 rw[if_pos (by omega)]
 simp[List.getElem?_eq_getElem h]
theorem Amc{O:Type}{f:Int→Option (Int⊕O)}{n:Nat}{q:Nat→Bool}{o:Nat→O}{e:O}(hn:n<4611686018427387904)(hin: ∀i:Nat,i<n→f i=some (if q i=true then .inr (o i) else .inl (IntKind.wrap .i64 ((i:Int)+1))))
  (hout: ∀i:Nat,n≤i→f i=some (.inr e))(s:Nat):loopO f s=some (match (List.range' s (n-s)).find? q with|some i=>o i|none=>e):=by
 generalize hm:n-s=m
 induction m generalizing s with
 |zero=>rw[Bz (hout s (by omega))];rfl
 |succ m ih=>
  have:=hin s (by omega)
  rw[List.range'_succ,List.find?_cons]
  cases hq:q s with
  |true=>
   rw[hq,if_pos rfl] at this
   rw[Bz this]
  |false=>
   rw[hq,if_neg (by simp),Df (by omega) (by omega)] at this
   rw[Cj this]
   exact ih (s+1) (by omega)
theorem Abo{O:Type}{l:List Nat}{q:Nat→Bool}{o e:O}:(match l.find? q with|some i=>o|none=>e)=if l.any q=true then o else e:=by
 induction l with
 |nil=>rfl
 |cons x l ih=>
  rw[List.find?_cons,List.any_cons]
  cases q x with
  |true=>rfl
  |false=>simpa using ih
theorem Zf{O:Type}{f:Int→Option (Int⊕O)}{n:Nat}{q:Nat→Bool}{o e:O}(hn:n<4611686018427387904)(hin: ∀i:Nat,i<n→f i=some (if q i=true then .inr o else .inl (IntKind.wrap .i64 ((i:Int)+1))))
  (hout: ∀i:Nat,n≤i→f i=some (.inr e))(s:Nat):loopO f s=some (if (List.range' s (n-s)).any q=true then o else e):=by
 rw[Amc hn hin hout s,Abo]
theorem Yy{α:Type}(l:List α)(p:α→Bool):(List.range' 0 l.length).any (fun i=>(l[i]?).any p)=l.any p:=by
 rw[Bool.eq_iff_iff,List.any_eq_true,List.any_eq_true]
 constructor
 ·rintro⟨i,hi,h⟩
  have hl:i<l.length:=by simpa using hi
  rw[List.getElem?_eq_getElem hl] at h
  exact⟨l[i],List.getElem_mem hl,h⟩
 ·rintro⟨x,hx,h⟩
  obtain⟨i,hi,rfl⟩:=List.getElem_of_mem hx
  exact⟨i,by simpa using hi,by simpa [List.getElem?_eq_getElem hi] using h⟩
theorem Zg{α O:Type}{f:Int→Option (Int⊕O)}{l:List α}(p:α→Bool){o e:O}(hn:l.length<4611686018427387904)(hin: ∀(i:Nat) (h:i<l.length),f i=some (if p l[i]=true then .inr o else .inl (IntKind.wrap .i64 ((i:Int)+1))))
  (hout: ∀i:Nat,l.length≤i→f i=some (.inr e)):loopO f 0=some (if l.any p=true then o else e):=by
 have:=Zf (q:=fun i=>(l[i]?).any p) hn (fun i hi=>by rw[hin i hi,List.getElem?_eq_getElem hi];rfl) hout 0
 rw[←Yy]
 exact this
def Dr{α:Type}(l:List α)(p:α→Bool):Option Nat:=(List.range' 0 l.length).find? (fun i=>(l[i]?).any p)
theorem Fk{α:Type}{l:List α}{p:α→Bool}{i:Nat}(h:Dr l p=some i): ∃hi:i<l.length,p l[i]=true∧ ∀j (hj:j<i),p (l[j]'(by omega))=false:=by
 unfold Dr at h
 have hm:=List.mem_of_find?_eq_some h
 have hi:i<l.length:=by simpa using hm
 have hp:=List.find?_some h
 rw[List.getElem?_eq_getElem hi] at hp
 refine⟨hi,hp,fun j hj=>?_⟩
 obtain⟨_,as',bs,he,hall⟩:=List.find?_eq_some_iff_append.1 h
 have hlen:as'.length=i:=by
  have h1:(List.range' 0 l.length)[as'.length]? =some i:=by rw[he];simp
  rw[List.getElem?_range' (by
   have:=congrArg List.length he
   simp at this
   omega)] at h1
  simpa using h1
 have hmem:j∈as':=by
  have h2:(List.range' 0 l.length)[j]? =some j:=by rw[List.getElem?_range' (by omega)];simp
  rw[he,List.getElem?_append_left (by omega)] at h2
  exact List.mem_of_getElem? h2
 have:=hall j hmem
 rw[List.getElem?_eq_getElem (by omega)] at this
 simpa using this
theorem Le{α:Type}{l:List α}{p:α→Bool}(h:Dr l p=none): ∀x∈l,p x=false:=by
 intro x hx
 obtain⟨i,hi,rfl⟩:=List.getElem_of_mem hx
 have:=List.find?_eq_none.1 h i (by simpa using hi)
 rw[List.getElem?_eq_getElem hi] at this
 simpa using this
theorem Gl{α O:Type}{f:Int→Option (Int⊕O)}{l:List α}(p:α→Bool){o:Nat→O}{e:O}(hn:l.length<4611686018427387904)(hin: ∀(i:Nat) (h:i<l.length),f i=some (if p l[i]=true then .inr (o i) else .inl (IntKind.wrap .i64 ((i:Int)+1))))
  (hout: ∀i:Nat,l.length≤i→f i=some (.inr e)):loopO f 0=some (match Dr l p with|some i=>o i|none=>e):=
 Amc (q:=fun i=>(l[i]?).any p) hn (fun i hi=>by rw[hin i hi,List.getElem?_eq_getElem hi];rfl) hout 0
theorem W9{α S O:Type}{f:Int×S→Option ((Int×S)⊕O)}{l:List α}(step:S→α→S)(out:S→O){s0:S}(hn:l.length<4611686018427387904)
  (hin: ∀(i:Nat) (h:i<l.length),f ((i:Int),(l.take i).foldl step s0)=some (.inl (IntKind.wrap .i64 ((i:Int)+1),step ((l.take i).foldl step s0) l[i])))
  (hout:f ((l.length:Int),l.foldl step s0)=some (.inr (out (l.foldl step s0)))):loopO f (0,s0)=some (out (l.foldl step s0)):=by
 have key: ∀k,k≤l.length→loopO f (0,s0)=loopO f ((k:Int),(l.take k).foldl step s0):=by
  intro k
  induction k with
  |zero=>intro _;rfl
  |succ k ih=>
   intro hk
   rw[ih (by omega),Cj (hin k (by omega)),Df (by omega) (by omega),List.take_succ_eq_append_getElem (by omega),List.foldl_append]
   rfl
 rw[key l.length (Nat.le_refl _),List.take_length]
 exact Bz hout
theorem Aaa{f:Int×Int→Option ((Int×Int)⊕Int)}{n:Nat}{lt:Nat→Bool}(hn:n<4611686018427387904)
  (hin: ∀i j:Nat,i<j→j≤n→f ((i:Int),(j:Int))=some (if lt ((i+j)/2)=true then .inl ((((i+j)/2+1:Nat):Int),(j:Int)) else .inl ((i:Int),(((i+j)/2:Nat):Int))))
  (hout: ∀i:Nat,f ((i:Int),(i:Int))=some (.inr (i:Int))):
  ∃k:Nat,k≤n∧loopO f (0,(n:Int))=some (k:Int)∧(0<k→lt (k-1)=true)∧(k<n→lt k=false):=by
 have key: ∀m i j:Nat,j-i≤m→i≤j→j≤n→(0<i→lt (i-1)=true)→(j<n→lt j=false)→ ∃k:Nat,k≤n∧loopO f ((i:Int),(j:Int))=some (k:Int)∧(0<k→lt (k-1)=true)∧(k<n→lt k=false):=by
  intro m
  induction m with
  |zero=>
   intro i j h1 h2 h3 h4 h5
   obtain rfl:i=j:=by omega
   exact⟨i,h3,Bz (hout i),h4,h5⟩
  |succ m ih=>
   intro i j h1 h2 h3 h4 h5
   by_cases hij:i=j
   ·subst hij
    exact⟨i,h3,Bz (hout i),h4,h5⟩
   ·have:=hin i j (by omega) h3
    cases hl:lt ((i+j)/2) with
    |true=>
     rw[hl,if_pos rfl] at this
     rw[Cj this]
     exact ih _ j (by omega) (by omega) h3 (fun _=>by rw[Nat.add_sub_cancel];exact hl) h5
    |false=>
     rw[hl,if_neg (by simp)] at this
     rw[Cj this]
     exact ih i _ (by omega) (by omega) (by omega) h4 (fun _=>hl)
 exact key n 0 n (by omega) (by omega) (by omega) (by omega) (by omega)
theorem Adz{i j:Nat}(hij:i<j)(hj:j<4611686018427387904):IntKind.wrap .i64 (Int.fdiv (IntKind.wrap .u64 (IntKind.wrap .i64 ((i:Int)+(j:Int)))) 2)=(((i+j)/2:Nat):Int):=by
 rw[Df (x:=(i:Int)+j) (by omega) (by omega),Al4 (by omega) (by omega)]
 have:Int.fdiv ((i:Int)+(j:Int)) 2=(((i+j)/2:Nat):Int):=by
  rw[Int.fdiv_eq_ediv_of_nonneg _ (by omega)]
  omega
 rw[this,Df (by omega) (by omega)]
theorem Acl{p:Nat→Bool}(hp: ∀x,128≤x→p x=true)(s:List UInt8):decide (0≤Lib.idxFunc p true ⟨s.toArray⟩)=s.any (fun b=>p b.toNat):=by
 have key: ∀f pos,s.length-pos≤f→(0≤Lib.idxFuncFrom p true ⟨s.toArray⟩ f pos↔ ∃i,pos≤i∧ ∃h:i<s.length,p (s[i]).toNat=true):=by
  intro f
  induction f with
  |zero=>
   intro pos h
   simp only[Lib.idxFuncFrom]
   constructor
   ·intro h;omega
   ·rintro⟨i,h1,h2,_⟩;omega
  |succ f ih=>
   intro pos h
   have hsz:(ByteArray.mk s.toArray).size=s.length:=by simp[ByteArray.size]
   simp only[Lib.idxFuncFrom]
   by_cases hpos:pos<s.length
   ·rw[if_pos (by rw[hsz];exact hpos)]
    have hget:(ByteArray.mk s.toArray)[pos]'(by rw[hsz];exact hpos)=s[pos]:=rfl
    by_cases ha:(s[pos]).toNat<128
    ·have hd:=Go.decode_ascii (ByteArray.mk s.toArray) pos (by rw[hsz];exact hpos) (by rw[hget];exact ha)
     rw[hd,hget]
     simp only
     by_cases hb:p (s[pos]).toNat=true
     ·rw[if_pos hb]
      constructor
      ·intro _;exact⟨pos,Nat.le_refl _,hpos,hb⟩
      ·intro _;omega
     ·rw[if_neg hb,ih (pos+1) (by omega)]
      constructor
      ·rintro⟨i,h1,h2⟩;exact⟨i,by omega,h2⟩
      ·rintro⟨i,h1,h2,h3⟩
       refine⟨i,?_,h2,h3⟩
       by_cases he:i=pos
       ·subst he;exact absurd h3 hb
       ·omega
    ·have hd:=Go.decode_high (ByteArray.mk s.toArray) pos (by rw[hsz];exact hpos) (by rw[hget];omega)
     rw[if_pos (hp _ hd.1)]
     constructor
     ·intro _;exact⟨pos,Nat.le_refl _,hpos,hp _ (by omega)⟩
     ·intro _;omega
   ·rw[if_neg (by rw[hsz];exact hpos)]
    constructor
    ·intro h;omega
    ·rintro⟨i,h1,h2,_⟩;omega
 have hsz:(ByteArray.mk s.toArray).size=s.length:=by simp[ByteArray.size]
 rw[Bool.eq_iff_iff,decide_eq_true_eq,List.any_eq_true]
 unfold Lib.idxFunc
 rw[key _ 0 (by rw[hsz];omega)]
 constructor
 ·rintro⟨i,_,h,hb⟩;exact⟨s[i],List.getElem_mem h,hb⟩
 ·rintro⟨x,hx,hb⟩
  obtain⟨i,hi,rfl⟩:=List.getElem_of_mem hx
  exact⟨i,by omega,hi,hb⟩
def Lm{α:Type}(key:α→Int)(l:List α):Prop:= ∀i (h:i+1<l.length),key l[i]<key l[i+1]
theorem Lm.lt{α:Type}{key:α→Int}{l:List α}(h:Lm key l): ∀{j i:Nat} (hj:j<l.length) (hij:i<j),key (l[i]'(by omega))<key l[j]:=by
 intro j
 induction j with
 |zero=>intro i _ hij;omega
 |succ j ih=>
  intro i hj hij
  have h1:=h j hj
  by_cases he:i=j
  ·subst he;exact h1
  ·have:=ih (i:=i) (by omega) (by omega)
   omega
theorem Lm.inj{α:Type}{key:α→Int}{l:List α}(h:Lm key l){i j:Nat}(hi:i<l.length)(hj:j<l.length)(he:key l[i]=key l[j]):i=j:=by
 by_cases h1:i<j
 ·have:=h.lt hj h1;omega
 ·by_cases h2:j<i
  ·have:=h.lt hi h2;omega
  ·omega
def Fc{α:Type}(key:α→Int)(l:List α)(i:Nat):Bool:=match l[i-1]?,l[i]? with
 |some a,some b=>decide (key a≥key b)
 |_,_=>false
theorem E6{α:Type}{key:α→Int}{l:List α}{i:Nat}(h0:0<i)(h:i<l.length):Fc key l i=decide (key (l[i-1]'(by omega))≥key l[i]):=by
 unfold Fc
 rw[List.getElem?_eq_getElem (by omega),List.getElem?_eq_getElem h]
theorem Wg{α:Type}{key:α→Int}{l:List α}:(List.range' 1 (l.length-1)).any (Fc key l)=true↔ ¬Lm key l:=by
 rw[List.any_eq_true]
 unfold Lm
 constructor
 ·rintro⟨i,hi,h⟩ hr
  simp only[List.mem_range'_1] at hi
  have:=hr (i-1) (by omega)
  rw[E6 (by omega) (by omega)] at h
  have e:i-1+1=i:=by omega
  simp only[e] at this
  simp only[decide_eq_true_eq] at h
  omega
 ·intro h
  simp only[Classical.not_forall] at h
  obtain⟨i,hi,h⟩:=h
  refine⟨i+1,by simp only[List.mem_range'_1];omega,?_⟩
  rw[E6 (by omega) hi]
  simp only[decide_eq_true_eq,Nat.add_sub_cancel]
  omega
theorem Ou{O:Type}{f:Int→Option (Int⊕O)}{n:Nat}{q:Nat→Bool}{o e:O}(hn:n<4611686018427387904)(hin: ∀i:Nat,0<i→i<n→f i=some (if q i=true then .inr o else .inl (IntKind.wrap .i64 ((i:Int)+1))))
  (hout: ∀i:Nat,n≤i→f i=some (.inr e)):loopO f 1=some (if (List.range' 1 (n-1)).any q=true then o else e):=by
 have key: ∀m s:Nat,n-s=m→0<s→loopO f s=some (if (List.range' s (n-s)).any q=true then o else e):=by
  intro m
  induction m with
  |zero=>intro s hm _;rw[Bz (hout s (by omega)),hm];rfl
  |succ m ih=>
   intro s hm h0
   have:=hin s h0 (by omega)
   have e1:n-s=n-(s+1)+1:=by omega
   rw[e1,List.range'_succ,List.any_cons]
   cases hq:q s with
   |true=>
    rw[hq,if_pos rfl] at this
    rw[Bz this]
    rfl
   |false=>
    rw[hq,if_neg (by simp),Df (by omega) (by omega)] at this
    rw[Cj this,Bool.false_or]
    exact ih (s+1) (by omega) (by omega)
 exact key _ 1 rfl (by omega)
theorem Mm{O:Type}{f:Int→Option (Int⊕O)}{n:Nat}{q:Nat→Bool}{o e:O}(hn:n<4611686018427387904)(hin: ∀i:Nat,i<n→f i=some (if q i=true then .inr o else .inl (IntKind.wrap .i64 ((i:Int)+1))))
  (hout: ∀i:Nat,n≤i→f i=some (.inr e)):loopO f 0=some (if (List.range' 0 n).any q=true then o else e):=Zf hn hin hout 0
end Go.Av
end
