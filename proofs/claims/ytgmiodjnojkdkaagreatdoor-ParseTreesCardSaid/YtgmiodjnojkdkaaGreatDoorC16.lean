import Derived.Laws.RangeAny
import Derived.Test.YtgmiodjnojkdkaaGreatDoorC15
set_option linter.all false
section
set_option linter.unusedVariables false
set_option linter.unusedSimpArgs false
namespace Go.Av
open Go
theorem wrap64{x:Int}(h1: -9223372036854775808≤x)(h2:x<9223372036854775808):IntKind.wrap .i64 x=x:=by
 have hb:IntKind.bits .i64=64:=rfl
 have hs:IntKind.signed .i64=true:=rfl
 unfold IntKind.wrap
 simp only[hb,hs,Bool.true_and,decide_eq_true_eq]
 split<;>omega
theorem Fu{α:Type}{l:List α}{i:Nat}(h:i<l.length):rdO l (i:Int)=some l[i]:=by
 unfold rdO
 rw[if_pos (by omega)]
 simp[List.getElem?_eq_getElem h]
theorem P9{s:List UInt8}{i:Nat}(h:i<s.length):byO s (i:Int)=some ((s[i].toNat:Nat):Int):=by
 unfold byO
 rw[if_pos (by omega)]
 simp[List.getElem?_eq_getElem h]
theorem Bsl{O:Type}{f:Int→Option (Int⊕O)}{n:Nat}{q:Nat→Bool}{o:Nat→O}{e:O}(hn:n<4611686018427387904)(hin: ∀i:Nat,i<n→f i=some (if q i=true then .inr (o i) else .inl (IntKind.wrap .i64 ((i:Int)+1))))
  (hout: ∀i:Nat,n≤i→f i=some (.inr e))(s:Nat):A1 f s=some (match (List.range' s (n-s)).find? q with|some i=>o i|none=>e):=by
 generalize hm:n-s=m
 induction m generalizing s with
 |zero=>rw[Aw (hout s (by omega))];rfl
 |succ m ih=>
  have:=hin s (by omega)
  rw[List.range'_succ,List.find?_cons]
  cases hq:q s with
  |true=>
   rw[hq,if_pos rfl] at this
   rw[Aw this]
  |false=>
   rw[hq,if_neg (by simp),wrap64 (by omega) (by omega)] at this
   rw[Bj this]
   exact ih (s+1) (by omega)
theorem Bn0{O:Type}{l:List Nat}{q:Nat→Bool}{o e:O}:(match l.find? q with|some i=>o|none=>e)=if l.any q=true then o else e:=by
 induction l with
 |nil=>rfl
 |cons x l ih=>
  rw[List.find?_cons,List.any_cons]
  cases q x with
  |true=>rfl
  |false=>simpa using ih
theorem A45{O:Type}{f:Int→Option (Int⊕O)}{n:Nat}{q:Nat→Bool}{o e:O}(hn:n<4611686018427387904)(hin: ∀i:Nat,i<n→f i=some (if q i=true then .inr o else .inl (IntKind.wrap .i64 ((i:Int)+1))))
  (hout: ∀i:Nat,n≤i→f i=some (.inr e))(s:Nat):A1 f s=some (if (List.range' s (n-s)).any q=true then o else e):=by
 rw[Bsl hn hin hout s,Bn0]
theorem Bku{α:Type}(l:List α)(p:α→Bool):(List.range' 0 l.length).any (fun i=>(l[i]?).any p)=l.any p:=by
 rw[Bool.eq_iff_iff,List.any_eq_true,List.any_eq_true]
 constructor
 ·rintro⟨i,hi,h⟩
  have hl:i<l.length:=by simpa using hi
  rw[List.getElem?_eq_getElem hl] at h
  exact⟨l[i],List.getElem_mem hl,h⟩
 ·rintro⟨x,hx,h⟩
  obtain⟨i,hi,rfl⟩:=List.getElem_of_mem hx
  exact⟨i,by simpa using hi,by simpa [List.getElem?_eq_getElem hi] using h⟩
theorem Al6{α O:Type}{f:Int→Option (Int⊕O)}{l:List α}(p:α→Bool){o e:O}(hn:l.length<4611686018427387904)(hin: ∀(i:Nat) (h:i<l.length),f i=some (if p l[i]=true then .inr o else .inl (IntKind.wrap .i64 ((i:Int)+1))))
  (hout: ∀i:Nat,l.length≤i→f i=some (.inr e)):A1 f 0=some (if l.any p=true then o else e):=by
 have:=A45 (q:=fun i=>(l[i]?).any p) hn (fun i hi=>by rw[hin i hi,List.getElem?_eq_getElem hi];rfl) hout 0
 rw[←Bku]
 exact this
def Apc{α:Type}(l:List α)(p:α→Bool):Option Nat:=(List.range' 0 l.length).find? (fun i=>(l[i]?).any p)
theorem Ai4{α:Type}{l:List α}{p:α→Bool}{i:Nat}(h:Apc l p=some i): ∃hi:i<l.length,p l[i]=true∧ ∀j (hj:j<i),p (l[j]'(by omega))=false:=by
 unfold Apc at h
 have hm:=List.mem_of_find?_eq_some h
 have hi:i<l.length:=by simpa using hm
 have hp:=List.find?_some h
 rw[List.getElem?_eq_getElem hi] at hp
 refine⟨hi,hp,fun j hj=>?_⟩
 obtain⟨_,as',bs,he,hall⟩:=List.find?_eq_some_iff_append.1 h
 have hlen:as'.length=i:=by
  have h1:(List.range' 0 l.length)[as'.length]? =some i:=by rw[he];simp
  rw[List.getElem?_range' (by
   have:=congrArg List.length he
   simp at this
   omega)] at h1
  simpa using h1
 have hmem:j∈as':=by
  have h2:(List.range' 0 l.length)[j]? =some j:=by rw[List.getElem?_range' (by omega)];simp
  rw[he,List.getElem?_append_left (by omega)] at h2
  exact List.mem_of_getElem? h2
 have:=hall j hmem
 rw[List.getElem?_eq_getElem (by omega)] at this
 simpa using this
theorem Ai3{α:Type}{l:List α}{p:α→Bool}(h:Apc l p=none): ∀x∈l,p x=false:=by
 intro x hx
 obtain⟨i,hi,rfl⟩:=List.getElem_of_mem hx
 have:=List.find?_eq_none.1 h i (by simpa using hi)
 rw[List.getElem?_eq_getElem hi] at this
 simpa using this
theorem Ate{α O:Type}{f:Int→Option (Int⊕O)}{l:List α}(p:α→Bool){o:Nat→O}{e:O}(hn:l.length<4611686018427387904)(hin: ∀(i:Nat) (h:i<l.length),f i=some (if p l[i]=true then .inr (o i) else .inl (IntKind.wrap .i64 ((i:Int)+1))))
  (hout: ∀i:Nat,l.length≤i→f i=some (.inr e)):A1 f 0=some (match Apc l p with|some i=>o i|none=>e):=
 Bsl (q:=fun i=>(l[i]?).any p) hn (fun i hi=>by rw[hin i hi,List.getElem?_eq_getElem hi];rfl) hout 0
theorem Ax6{α S O:Type}{f:Int×S→Option ((Int×S)⊕O)}{l:List α}(step:S→α→S)(out:S→O){s0:S}(hn:l.length<4611686018427387904)
  (hin: ∀(i:Nat) (h:i<l.length),f ((i:Int),(l.take i).foldl step s0)=some (.inl (IntKind.wrap .i64 ((i:Int)+1),step ((l.take i).foldl step s0) l[i])))
  (hout:f ((l.length:Int),l.foldl step s0)=some (.inr (out (l.foldl step s0)))):A1 f (0,s0)=some (out (l.foldl step s0)):=by
 have key: ∀k,k≤l.length→A1 f (0,s0)=A1 f ((k:Int),(l.take k).foldl step s0):=by
  intro k
  induction k with
  |zero=>intro _;rfl
  |succ k ih=>
   intro hk
   rw[ih (by omega),Bj (hin k (by omega)),wrap64 (by omega) (by omega),List.take_succ_eq_append_getElem (by omega),List.foldl_append]
   rfl
 rw[key l.length (Nat.le_refl _),List.take_length]
 exact Aw hout
def Bqw{α:Type}(key:α→Int)(l:List α):Prop:= ∀i (h:i+1<l.length),key l[i]<key l[i+1]
theorem Bqw.lt{α:Type}{key:α→Int}{l:List α}(h:Bqw key l): ∀{j i:Nat} (hj:j<l.length) (hij:i<j),key (l[i]'(by omega))<key l[j]:=by
 intro j
 induction j with
 |zero=>intro i _ hij;omega
 |succ j ih=>
  intro i hj hij
  have h1:=h j hj
  by_cases he:i=j
  ·subst he;exact h1
  ·have:=ih (i:=i) (by omega) (by omega)
   omega
theorem Bqw.inj{α:Type}{key:α→Int}{l:List α}(h:Bqw key l){i j:Nat}(hi:i<l.length)(hj:j<l.length)(he:key l[i]=key l[j]):i=j:=by
 by_cases h1:i<j
 ·have:=h.lt hj h1;omega
 ·by_cases h2:j<i
  ·have:=h.lt hi h2;omega
  ·omega
end Go.Av
end
section
set_option linter.unusedVariables false
set_option linter.unusedSimpArgs false
set_option maxRecDepth 4000
set_option maxHeartbeats 4000000
namespace Go.Av.G
open Go Go.Av Go.Proofs
theorem Bi{α β:Type}{a:Option α}{x:α}{f:α→Option β}{o:Option β}(h:a=some x)(h2:f x=o):a.bind f=o:=by subst h;exact h2
theorem A0{α:Type}(g:Bool)(a d:α):gdO g (some a) d=some (bif g then a else d):=by cases g<;>rfl
def Aj(q:UInt8→Bool)(s:List UInt8):Nat:=(s.takeWhile q).length
theorem Ho(q:UInt8→Bool):Aj q []=0:=rfl
theorem Cs(q:UInt8→Bool)(b:UInt8)(t:List UInt8):Aj q (b::t)=if q b=true then Aj q t+1 else 0:=by
 unfold Aj
 rw[List.takeWhile_cons]
 split<;>simp
theorem Dv(q:UInt8→Bool): ∀s:List UInt8,Aj q s≤s.length
 |[]=>by simp[Ho]
 |b::t=>by
  have:=Dv q t
  rw[Cs,List.length_cons]
  split<;>omega
theorem Mb(q:UInt8→Bool): ∀(s:List UInt8) (m:Nat),Aj q (s.take m)=min (Aj q s) m
 |[],m=>by simp[Ho]
 |b::t,0=>by simp[Ho]
 |b::t,m+1=>by
  rw[List.take_succ_cons,Cs,Cs,Mb q t m]
  split<;>omega
theorem Hh{α:Type}{l:List α}{n:Nat}(h:n≤l.length):slO l (n:Int) (l.length:Int)=some (l.drop n):=by
 unfold slO
 rw[if_pos ⟨by omega,by omega,by omega⟩]
 simp
theorem I1{α:Type}{l:List α}{n:Nat}(h:n≤l.length):slO l 0 (n:Int)=some (l.take n):=by
 unfold slO
 rw[if_pos ⟨by omega,by omega,by omega⟩]
 simp
theorem Baa{α:Type}{l:List α}{a b:Nat}(h1:a≤b)(h2:b≤l.length):slO l (a:Int) (b:Int)=some ((l.take b).drop a):=by
 unfold slO
 rw[if_pos ⟨by omega,by omega,by omega⟩]
 simp
theorem Bop{p:Nat→Bool}{q:UInt8→Bool}(h1: ∀x,128≤x→p x=true)(h2: ∀b:UInt8,b.toNat<128→p b.toNat= !q b)(h3: ∀b:UInt8,128≤b.toNat→q b=false)(s:List UInt8):Lib.idxFunc p true ⟨s.toArray⟩=if Aj q s=s.length then -1 else(Aj q s:Int):=by
 have hsz:(ByteArray.mk s.toArray).size=s.length:=by simp[ByteArray.size]
 have key: ∀f pos,s.length-pos≤f→pos≤s.length→Lib.idxFuncFrom p true ⟨s.toArray⟩ f pos=if Aj q (s.drop pos)=s.length-pos then -1 else((pos+Aj q (s.drop pos):Nat):Int):=by
  intro f
  induction f with
  |zero=>
   intro pos h hp
   have:pos=s.length:=by omega
   subst this
   simp[Lib.idxFuncFrom,Ho]
  |succ f ih=>
   intro pos h hp
   simp only[Lib.idxFuncFrom]
   by_cases hpos:pos<s.length
   ·rw[if_pos (by rw[hsz];exact hpos)]
    have hget:(ByteArray.mk s.toArray)[pos]'(by rw[hsz];exact hpos)=s[pos]:=rfl
    rw[List.drop_eq_getElem_cons hpos,Cs]
    have hle:=Dv q (s.drop (pos+1))
    rw[List.length_drop] at hle
    by_cases ha:(s[pos]).toNat<128
    ·have hd:=Go.decode_ascii (ByteArray.mk s.toArray) pos (by rw[hsz];exact hpos) (by rw[hget];exact ha)
     rw[hd,hget]
     simp only
     rw[h2 _ ha]
     cases hq:q s[pos] with
     |true=>
      simp only[Bool.not_true,Bool.false_eq_true,if_false,if_true]
      rw[ih (pos+1) (by omega) (by omega)]
      by_cases he:Aj q (s.drop (pos+1))=s.length-(pos+1)
      ·rw[if_pos he,if_pos (by omega)]
      ·rw[if_neg he,if_neg (by omega)]
       omega
     |false=>
      simp only[Bool.not_false,if_true,Bool.false_eq_true,if_false]
      rw[if_neg (by omega)]
      simp
    ·have hd:=Go.decode_high (ByteArray.mk s.toArray) pos (by rw[hsz];exact hpos) (by rw[hget];omega)
     rw[if_pos (h1 _ hd.1),h3 _ (by omega)]
     simp only[Bool.false_eq_true,if_false]
     rw[if_neg (by omega)]
     simp
   ·have:pos=s.length:=by omega
    subst this
    rw[if_neg (by rw[hsz];omega)]
    simp[Ho]
 unfold Lib.idxFunc
 rw[key _ 0 (by rw[hsz];omega) (by omega)]
 simp
def Apf(b:UInt8):Bool:=decide (97≤b.toNat∧b.toNat≤122)
def digB(b:UInt8):Bool:=decide (48≤b.toNat∧b.toNat≤57)
def Alt(b:UInt8):Bool:=decide ((97≤b.toNat∧b.toNat≤122)∨(48≤b.toNat∧b.toNat≤57)∨b.toNat=95)
def prB(b:UInt8):Bool:=decide (32≤b.toNat∧b.toNat≤126)
theorem Mt(n:Int):Hn n=some (decide (97≤n∧n≤122)):=by simp[Hn]
theorem Qg(n:Int):G9 n=some (decide (48≤n∧n≤57)):=by simp[G9]
theorem Bbp(n:Int):Ov n=some (decide ((97≤n∧n≤122)∨(48≤n∧n≤57)∨n=95)):=by
 simp only[Ov,Mt,Qg,Option.bind_some,A0,Option.some.injEq]
 by_cases h1:97≤n∧n≤122
 ·simp[h1]
 ·by_cases h2:48≤n∧n≤57
  ·simp[h1,h2]
  ·by_cases h3:n=95
   ·simp[h3]
   ·simp[h1,h2,h3]
theorem Bd2(n:Int):Ow n=some (decide (32≤n∧n≤126)):=by simp[Ow]
theorem Buz{n:Int}(h1:0≤n)(h2:n<256):IntKind.wrap .u8 n=n:=by
 have hb:IntKind.bits .u8=8:=rfl
 have hs:IntKind.signed .u8=false:=rfl
 unfold IntKind.wrap
 simp only[hb,hs,Bool.false_and]
 simp
 omega
theorem Bh1{f:Int→Option Bool}{g:Int→Bool}{q:UInt8→Bool}(hf: ∀n:Int,f n=some (bif decide (n>127) then true else !g (IntKind.wrap .u8 n)))(hg: ∀b:UInt8,g (b.toNat:Int)=q b)(hq: ∀b:UInt8,128≤b.toNat→q b=false)(s:List UInt8):strings_IndexFunc f s=some (if Aj q s=s.length then -1 else(Aj q s:Int)):=by
 rw[Alp (fun x=>bif decide ((x:Int)>127) then true else !g (IntKind.wrap .u8 (x:Int))) (fun x=>hf x),Bop (q:=q) ?_ ?_ hq]
 ·intro x hx
  have:decide ((x:Int)>127)=true:=decide_eq_true (by omega)
  simp only[this,cond_true]
 ·intro b hb
  have:decide ((b.toNat:Int)>127)=false:=decide_eq_false (by omega)
  simp only[this,cond_false,Buz (show 0≤(b.toNat:Int) by omega) (show(b.toNat:Int)<256 by omega),hg]
theorem Btv(s:List UInt8):Aww s=some (Aj Alt s:Int):=by
 unfold Aww
 rw[Bh1 (g:=fun n=>decide ((97≤n∧n≤122)∨(48≤n∧n≤57)∨n=95)) (q:=Alt)]
 ·simp only[Option.bind_some]
  by_cases h:Aj Alt s=s.length
  ·rw[if_pos h];simp[h]
  ·rw[if_neg h];simp;omega
 ·intro n
  simp only[P0,Bbp,Option.bind_some,A0]
  cases decide (n>127)<;>simp
 ·intro b
  unfold Alt
  rw[Bool.eq_iff_iff]
  simp
  omega
 ·intro b hb
  unfold Alt
  simp
  omega
theorem Bj8(s:List UInt8):P1 s=some (Aj digB s:Int):=by
 unfold P1
 rw[Bh1 (g:=fun n=>decide (48≤n∧n≤57)) (q:=digB)]
 ·simp only[Option.bind_some]
  by_cases h:Aj digB s=s.length
  ·rw[if_pos h];simp[h]
  ·rw[if_neg h];simp;omega
 ·intro n
  simp only[It,Qg,Option.bind_some,A0]
  cases decide (n>127)<;>simp
 ·intro b
  unfold digB
  rw[Bool.eq_iff_iff]
  simp
  omega
 ·intro b hb
  unfold digB
  simp
  omega
theorem Brx(s:List UInt8):Al4 s=some (Aj prB s:Int):=by
 unfold Al4
 rw[Bh1 (g:=fun n=>decide (32≤n∧n≤126)) (q:=prB)]
 ·simp only[Option.bind_some]
  by_cases h:Aj prB s=s.length
  ·rw[if_pos h];simp[h]
  ·rw[if_neg h];simp;omega
 ·intro n
  simp only[Iu,Bd2,Option.bind_some,A0]
  cases decide (n>127)<;>simp
 ·intro b
  unfold prB
  rw[Bool.eq_iff_iff]
  simp
  omega
 ·intro b hb
  unfold prB
  simp
  omega
end Go.Av.G
end
section
set_option linter.unusedVariables false
set_option linter.unusedSimpArgs false
set_option maxRecDepth 4000
set_option maxHeartbeats 4000000
namespace Go.Av.G
open Go Go.Av Go.Proofs
def E7(s:List UInt8):Nat:=match s with
 |b::c::t=>if b=46 then Aj digB (c::t) else 0
 |_=>0
def Aak(s:List UInt8):Nat×Nat:=if 32<Aj Alt s then(0,3) else(Aj Alt s,0)
def Ati(s:List UInt8):Nat×Nat:=
 if 15<Aj digB s∨9<E7 (s.drop (Aj digB s))∨1<Aj digB s∧s.head?=some 48 then(0,3)
 else if 0<E7 (s.drop (Aj digB s)) then(Aj digB s+1+E7 (s.drop (Aj digB s)),0) else(Aj digB s,0)
def Ca(b:UInt8):Bool:=b !=34
def Ats(s:List UInt8):Nat×Nat:=
 if Aj Ca (s.drop 1)=(s.drop 1).length then(0,14)
 else if 32<Aj Ca (s.drop 1)∨Aj prB ((s.drop 1).take (Aj Ca (s.drop 1)))<Aj Ca (s.drop 1) then(0,3)
 else(Aj Ca (s.drop 1)+2,0)
def Kg:List UInt8:=[123,125,40,41,91,93,59,58,44,37,61,60,62,43,45,42,47]
def Atw(s:List UInt8):Nat×Nat:=
 if s.take 2=[60,61]∨s.take 2=[62,61]∨s.take 2=[46,46] then(2,0)
 else match s with
 |b::_=>if b∈Kg then(1,0) else(0,14)
 |[]=>(0,14)
def Bk(s:List UInt8):Nat×Nat×Nat:=match s with
 |b::_=>if Apf b=true then(0,Aak s) else if digB b=true then(1,Ati s) else if b=34 then(2,Ats s) else(3,Atw s)
 |[]=>(0,0,14)
def prI(x:Nat×Nat):Int×Int:=((x.1:Int),(x.2:Int))
theorem Bsd(s:List UInt8):Ajf s=some (prI (Aak s)):=by
 unfold Ajf Aak prI
 rw[Btv]
 simp only[Option.bind_some,decide_eq_true_eq]
 by_cases h:32<Aj Alt s
 ·rw[if_pos (by omega),if_pos h];rfl
 ·rw[if_neg (by omega),if_neg h];rfl
theorem Dn{b:UInt8}{t:List UInt8}:byO (b::t) 0=some (b.toNat:Int):=by simp[byO]
theorem Als{b:UInt8}{n:Nat}(hn:n<256):b.toNat=n↔b=UInt8.ofNat n:=by
 constructor
 ·intro h
  apply UInt8.toNat_inj.1
  simp[h]
  omega
 ·rintro rfl
  simp
  omega
theorem Brl(s:List UInt8):((some (decide ((s.length:Int)>1))).bind fun c4=>
 (gdO c4 (byO s 0) 0).bind fun x5=>
 ((if (c4&&(x5==46))=true then
   (slO s 1 (s.length:Int)).bind fun x7=>
   (P1 x7).bind fun x8=>
   some x8
 else
  some 0):Option Int))=some (E7 s:Int):=by
 match s with
 |[]=>rfl
 |[b]=>rfl
 |b::c::t=>
  have h1:decide ((((b::c::t).length:Nat):Int)>1)=true:=by simp;omega
  have h2:=Hh (l:=b::c::t) (n:=1) (by simp)
  have e1:((1:Nat):Int)=1:=rfl
  rw[e1] at h2
  simp only[Option.bind_some,h1,gdO,Dn,Bool.true_and,h2,Bj8,List.drop_succ_cons,List.drop_zero]
  unfold E7
  by_cases hb:b=46
  ·subst hb;rfl
  ·have:((b.toNat:Int)==46)=false:=by
    have:=mt (Als (b:=b) (n:=46) (by omega)).1 hb
    simp
    omega
   rw[this]
   simp[hb]
theorem A06{q:UInt8→Bool}{b:UInt8}{t:List UInt8}(h:q b=true):1≤Aj q (b::t):=by
 rw[Cs,if_pos h];omega
theorem Arh(s:List UInt8):E7 s+1≤s.length∨E7 s=0:=by
 unfold E7
 split
 ·rename_i b c t
  have:=Dv digB (c::t)
  split
  ·left;simpa using this
  ·right;rfl
 ·right;rfl
theorem number_eq{b:UInt8}{t:List UInt8}(hl:(b::t).length<4611686018427387904):Qi (b::t)=some (prI (Ati (b::t))):=by
 generalize hs:b::t=s at hl
 have hd:=Dv digB s
 have hm:=Arh (s.drop (Aj digB s))
 rw[List.length_drop] at hm
 have h0:byO s 0=some (b.toNat:Int):=by rw[←hs];exact Dn
 have hh:s.head?=some b:=by rw[←hs];rfl
 unfold Qi Ati prI
 rw[Bj8]
 simp only[Option.bind_some,Hh hd]
 have hmore:=Brl (s.drop (Aj digB s))
 simp only[Option.bind_some] at hmore
 cases hg:gdO (decide (((s.drop (Aj digB s)).length:Int)>1)) (byO (s.drop (Aj digB s)) 0) 0 with
 |none=>rw[hg] at hmore;cases hmore
 |some x5=>
  rw[hg] at hmore
  simp only[Option.bind_some] at hmore⊢
  refine Bi hmore ?_
  have h48:((b.toNat:Int)==48)=decide (b=48):=by
   rw[Bool.eq_iff_iff]
   have:=Als (b:=b) (n:=48) (by omega)
   simp
   constructor
   ·intro h;exact this.1 (by omega)
   ·rintro rfl;rfl
  simp only[h0,A0,Option.bind_some,hh,Option.some.injEq]
  by_cases c1:15<Aj digB s
  ·have:decide (((Aj digB s:Nat):Int)>15)=true:=decide_eq_true (by omega)
   simp only[this,Bool.true_or,if_true]
   rw[if_pos (.inl c1)]
   rfl
  ·have e1:decide (((Aj digB s:Nat):Int)>15)=false:=decide_eq_false (by omega)
   by_cases c2:9<E7 (s.drop (Aj digB s))
   ·have:decide (((E7 (s.drop (Aj digB s)):Nat):Int)>9)=true:=decide_eq_true (by omega)
    simp only[e1,this,Bool.false_or,Bool.true_or,if_true]
    rw[if_pos (.inr (.inl c2))]
    rfl
   ·have e2:decide (((E7 (s.drop (Aj digB s)):Nat):Int)>9)=false:=decide_eq_false (by omega)
    simp only[e1,e2,Bool.or_self,Bool.not_false,Bool.true_and,Bool.false_or]
    by_cases c3:1<Aj digB s∧b=48
    ·have e3:decide (((Aj digB s:Nat):Int)>1)=true:=decide_eq_true (by omega)
     simp only[e3,cond_true,h48,decide_eq_true c3.2,Bool.and_self,if_true]
     rw[if_pos (.inr (.inr c3))]
     rfl
    ·have e3:(decide (((Aj digB s:Nat):Int)>1)&&((bif decide (((Aj digB s:Nat):Int)>1) then(b.toNat:Int) else 0)==48))=false:=by
      by_cases q:1<Aj digB s
      ·have e3:decide (((Aj digB s:Nat):Int)>1)=true:=decide_eq_true (by omega)
       simp only[e3,cond_true,h48,Bool.true_and]
       exact decide_eq_false (fun hb=>c3 ⟨q,hb⟩)
      ·have e3:decide (((Aj digB s:Nat):Int)>1)=false:=decide_eq_false (by omega)
       simp only[e3,Bool.false_and]
     have hno: ¬(15<Aj digB s∨9<E7 (s.drop (Aj digB s))∨1<Aj digB s∧b=48):=fun h=>h.elim c1 (fun h=>h.elim c2 c3)
     simp only[e3,Bool.false_eq_true,if_false,if_neg hno]
     by_cases c4:0<E7 (s.drop (Aj digB s))
     ·have e4:IntKind.wrap .i64 (((Aj digB s:Nat):Int)+1)=((Aj digB s+1:Nat):Int):=by rw[wrap64 (by omega) (by omega)];rfl
      have e5:IntKind.wrap .i64 (((Aj digB s+1:Nat):Int)+((E7 (s.drop (Aj digB s)):Nat):Int))=((Aj digB s+1+E7 (s.drop (Aj digB s)):Nat):Int):=by rw[wrap64 (by omega) (by omega)];omega
      rw[e4,e5,if_pos (decide_eq_true (show((E7 (s.drop (Aj digB s)):Nat):Int)>0 by omega)),if_pos c4]
      rfl
     ·rw[if_neg (show ¬(decide (((E7 (s.drop (Aj digB s)):Nat):Int)>0)=true) by simp;omega),if_neg c4]
      rfl
theorem Ji(c:UInt8): ∀s:List UInt8,Lib.indexByte s c=if Aj (fun b=>b !=c) s=s.length then -1 else(Aj (fun b=>b !=c) s:Int)
 |[]=>rfl
 |b::t=>by
  have hle:=Dv (fun b=>b !=c) t
  unfold Lib.indexByte
  rw[Ji c t,Cs,List.length_cons]
  by_cases h:b=c
  ·subst h;simp
  ·have h1:(b==c)=false:=by simpa using h
   have h2:(b !=c)=true:=by simpa using h
   rw[h1,if_neg (by simp)]
   simp only[h2,if_true]
   by_cases he:Aj (fun b=>b !=c) t=t.length
   ·rw[show(if Aj (fun b=>b !=c) t=t.length then(-1:Int) else(Aj (fun b=>b !=c) t:Int))= -1 from if_pos he,if_pos (show Aj (fun b=>b !=c) t+1=t.length+1 by omega)]
    rfl
   ·rw[show(if Aj (fun b=>b !=c) t=t.length then(-1:Int) else(Aj (fun b=>b !=c) t:Int))=(Aj (fun b=>b !=c) t:Int) from if_neg he,if_neg (show ¬Aj (fun b=>b !=c) t+1=t.length+1 by omega)]
    have:(((Aj (fun b=>b !=c) t:Nat):Int)== -1)=false:=by simp
    rw[this]
    simp
theorem Blv{b:UInt8}{t:List UInt8}(hl:(b::t).length<4611686018427387904):Qj (b::t)=some (prI (Ats (b::t))):=by
 have h1:=Hh (l:=b::t) (n:=1) (by simp)
 have e1:((1:Nat):Int)=1:=rfl
 rw[e1] at h1
 have e2:((34:Int).toNat.toUInt8)=34:=by decide
 have hn:=Dv Ca t
 have hidx:Lib.indexByte t 34=if Aj Ca t=t.length then -1 else(Aj Ca t:Int):=Ji 34 t
 simp only[List.length_cons] at hl
 unfold Qj Ats prI
 simp only[h1,List.drop_succ_cons,List.drop_zero,Option.bind_some,strings_IndexByte,e2]
 by_cases c1:Aj Ca t=t.length
 ·rw[if_pos c1] at hidx
  simp only[hidx,if_pos c1]
  rfl
 ·rw[if_neg c1] at hidx
  have e3:IntKind.wrap .i64 (1+((Aj Ca t:Nat):Int))=((Aj Ca t+1:Nat):Int):=by rw[wrap64 (by omega) (by omega)];omega
  have e4:IntKind.wrap .i64 (((Aj Ca t:Nat):Int)+2)=((Aj Ca t+2:Nat):Int):=by rw[wrap64 (by omega) (by omega)];rfl
  have h2:=Baa (l:=b::t) (a:=1) (b:=Aj Ca t+1) (by omega) (by simp;omega)
  rw[e1] at h2
  have e6:decide (((Aj Ca t:Nat):Int)<0)=false:=decide_eq_false (by omega)
  simp only[hidx,if_neg c1,e6,Bool.false_eq_true,if_false,e3,h2,List.take_succ_cons,List.drop_succ_cons,List.drop_zero,A0,Option.bind_some,Brx,e4]
  by_cases c2:32<Aj Ca t
  ·have:decide (((Aj Ca t:Nat):Int)>32)=true:=decide_eq_true (by omega)
   simp only[this,Bool.true_or,if_true,if_pos (show 32<Aj Ca t∨Aj prB (t.take (Aj Ca t))<Aj Ca t from .inl c2)]
   rfl
  ·have e5:decide (((Aj Ca t:Nat):Int)>32)=false:=decide_eq_false (by omega)
   simp only[e5,Bool.not_false,cond_true,Bool.false_or]
   by_cases c3:Aj prB (t.take (Aj Ca t))<Aj Ca t
   ·have:decide (((Aj prB (t.take (Aj Ca t)):Nat):Int)<((Aj Ca t:Nat):Int))=true:=decide_eq_true (by omega)
    simp only[this,if_true,if_pos (show 32<Aj Ca t∨Aj prB (t.take (Aj Ca t))<Aj Ca t from .inr c3)]
    rfl
   ·have:decide (((Aj prB (t.take (Aj Ca t)):Nat):Int)<((Aj Ca t:Nat):Int))=false:=decide_eq_false (by omega)
    have hno: ¬(32<Aj Ca t∨Aj prB (t.take (Aj Ca t))<Aj Ca t):=fun h=>h.elim c2 c3
    simp only[this,Bool.false_eq_true,if_false,if_neg hno]
    rfl
end Go.Av.G
end
section
set_option linter.unusedVariables false
set_option linter.unusedSimpArgs false
set_option maxRecDepth 4000
set_option maxHeartbeats 4000000
namespace Go.Av.G
open Go Go.Av Go.Proofs
theorem contains_nil(sub:List UInt8):Lib.contains [] sub=sub.isEmpty:=by
 unfold Lib.contains Lib.index
 cases sub<;>rfl
theorem contains_cons(b:UInt8)(l sub:List UInt8):Lib.contains (b::l) sub=(sub.isPrefixOf (b::l)||Lib.contains l sub):=by
 unfold Lib.contains
 have h:=Lib.index_ge l sub
 rw[show Lib.index (b::l) sub=if sub.isPrefixOf (b::l) then 0 else if Lib.index l sub== -1 then -1 else Lib.index l sub+1 from by rw[Lib.index]]
 cases hp:sub.isPrefixOf (b::l) with
 |true=>simp
 |false=>
  simp only[Bool.false_eq_true,if_false,Bool.false_or]
  by_cases he:Lib.index l sub= -1
  ·simp[he]
  ·have h1:(Lib.index l sub== -1)=false:=by simpa using he
   rw[h1]
   simp only[Bool.false_eq_true,if_false]
   rw[decide_eq_true (show(0:Int)≤Lib.index l sub+1 by omega),decide_eq_true (show(0:Int)≤Lib.index l sub by omega)]
theorem Bke(c:UInt8): ∀s:List UInt8,Aj (fun b=>b !=c) s=s.length↔c∉s
 |[]=>by simp[Ho]
 |b::t=>by
  have ih:=Bke c t
  have hle:=Dv (fun b=>b !=c) t
  rw[Cs,List.length_cons,List.mem_cons]
  by_cases h:b=c
  ·subst h;simp
  ·have h2:(b !=c)=true:=by simpa using h
   simp only[h2,if_true]
   constructor
   ·intro he hm
    rcases hm with rfl|hm
    ·exact h rfl
    ·exact ih.1 (by omega) hm
   ·intro hm
    have:=ih.2 (fun q=>hm (.inr q))
    omega
theorem index_one(c:UInt8): ∀s:List UInt8,Lib.index s [c]=Lib.indexByte s c
 |[]=>rfl
 |b::t=>by
  unfold Lib.index Lib.indexByte
  rw[index_one c t]
  have:([c]:List UInt8).isPrefixOf (b::t)=(b==c):=by
   simp[List.isPrefixOf]
   rw[Bool.eq_iff_iff]
   simp
   exact eq_comm
  rw[this]
theorem Br5{b:UInt8}{t:List UInt8}(hl:(b::t).length<4294967281):Aje (b::t)=some (prI (Atw (b::t))):=by
 have e8:(b.toNat:Int).toNat.toUInt8=b:=by simp
 have hone:decide ((Lib.indexByte [123,125,40,41,91,93,59,58,44,37,61,60,62,43,45,42,47] b)≥0)=decide (b∈Kg):=by
  rw[Ji,Bool.eq_iff_iff,decide_eq_true_eq,decide_eq_true_eq]
  have h:=Bke b Kg
  change (if Aj (fun c=>c !=b) Kg=Kg.length then(-1:Int) else(Aj (fun c=>c !=b) Kg:Int))≥0↔b∈Kg
  by_cases he:Aj (fun c=>c !=b) Kg=Kg.length
  ·rw[if_pos he]
   have:=h.1 he
   simp[this]
  ·rw[if_neg he]
   constructor
   ·intro _;exact Classical.byContradiction fun q=>he (h.2 q)
   ·intro _;omega
 have tail:((byO (b::t) 0).bind fun x8=>
  (strings_IndexByte [123,125,40,41,91,93,59,58,44,37,61,60,62,43,45,42,47] x8).bind fun x9=>
  if (decide (x9≥0))=true then
   some ((1:Int),(0:Int))
  else
   some (0,14))=some (prI (if b∈Kg then(1,0) else(0,14))):=by
  simp only[Dn,Option.bind_some,strings_IndexByte,e8,hone]
  by_cases hm:b∈Kg
  ·simp[hm,prI]
  ·simp[hm,prI]
 unfold Aje Atw
 match t,hl with
 |[],_=>
  have h1:decide ((([b]:List UInt8).length:Int)>1)=false:=by simp
  simp only[h1,Option.bind_some,gdO,Bool.false_and,Bool.false_eq_true,if_false]
  rw[tail]
  simp
 |c::t,hl=>
  have h1:decide (((b::c::t).length:Int)>1)=true:=by simp;omega
  have h2:=I1 (l:=b::c::t) (n:=2) (by simp)
  have e1:((2:Nat):Int)=2:=rfl
  rw[e1] at h2
  have h3:strings_Contains [60,61,32,62,61,32,46,46] [b,c]=some (Lib.contains [60,61,32,62,61,32,46,46] [b,c]):=by
   unfold strings_Contains;rw[if_pos (by simp)]
  have h4:strings_Contains [b,c] [32]=some (Lib.contains [b,c] [32]):=by
   unfold strings_Contains;rw[if_pos (by simp)]
  simp only[h1,Option.bind_some,gdO,h2,List.take_succ_cons,List.take_zero,h3,Bool.true_and]
  have h5:Lib.contains [60,61,32,62,61,32,46,46] [b,c]=(((b==60)&&(c==61))||(((b==61)&&(c==32))||(((b==32)&&(c==62))||(((b==62)&&(c==61))||(((b==61)&&(c==32))||(((b==32)&&(c==46))||((b==46)&&(c==46)))))))):=by
   simp only[contains_cons,contains_nil,List.isPrefixOf,List.isEmpty,Bool.and_true,Bool.or_false,Bool.and_false]
  have h6:Lib.contains [b,c] [32]=((32==b)||(32==c)):=by
   simp only[contains_cons,contains_nil,List.isPrefixOf,List.isEmpty,Bool.and_true,Bool.or_false]
  have hx:(Lib.contains [60,61,32,62,61,32,46,46] [b,c]&& !(Lib.contains [b,c] [32]))=decide ([b,c]=[60,61]∨[b,c]=[62,61]∨[b,c]=[46,46]):=by
   rw[h5,h6,Bool.eq_iff_iff]
   simp only[Bool.and_eq_true,Bool.or_eq_true,beq_iff_eq,Bool.not_eq_true',Bool.or_eq_false_iff,beq_eq_false_iff_ne,decide_eq_true_eq,List.cons.injEq,and_true]
   constructor
   ·rintro⟨h|h|h|h|h|h|h,h7,h8⟩
    ·exact .inl h
    ·exact absurd h.2.symm h8
    ·exact absurd h.1.symm h7
    ·exact .inr (.inl h)
    ·exact absurd h.2.symm h8
    ·exact absurd h.1.symm h7
    ·exact .inr (.inr h)
   ·rintro(⟨rfl,rfl⟩|⟨rfl,rfl⟩|⟨rfl,rfl⟩)
    ·exact⟨.inl ⟨rfl,rfl⟩,by decide,by decide⟩
    ·exact⟨.inr (.inr (.inr (.inl ⟨rfl,rfl⟩))),by decide,by decide⟩
    ·exact⟨.inr (.inr (.inr (.inr (.inr (.inr ⟨rfl,rfl⟩))))),by decide,by decide⟩
  have htk:(b::c::t).take 2=[b,c]:=rfl
  rw[htk] at*
  cases hc:Lib.contains [60,61,32,62,61,32,46,46] [b,c] with
  |false=>
   rw[hc,Bool.false_and] at hx
   have hno: ¬([b,c]=[60,61]∨[b,c]=[62,61]∨[b,c]=[46,46]):=of_decide_eq_false hx.symm
   simp only[gdO,Bool.false_and,Bool.false_eq_true,if_false,Option.bind_some]
   rw[tail]
   simp only[hno,if_false]
  |true=>
   rw[hc,Bool.true_and] at hx
   simp only[gdO,h4,Option.bind_some,Bool.true_and,hx,decide_eq_true_eq]
   by_cases hy:[b,c]=[60,61]∨[b,c]=[62,61]∨[b,c]=[46,46]
   ·simp only[hy,if_true]
    rfl
   ·simp only[hy,if_false]
    simp only[decide_eq_true_eq] at tail
    exact tail
def trI(x:Nat×Nat×Nat):Int×Int×Int:=((x.1:Int),(x.2.1:Int),(x.2.2:Int))
theorem Bjz{b:UInt8}{t:List UInt8}(hl:(b::t).length<4294967281):We (b::t)=some (trI (Bk (b::t))):=by
 have c57: ∀n,F0 127 n=Hn n∧F0 129 n=G9 n∧F0 131 n=Mv n∧F0 133 n=S9 n:=fun n=>⟨rfl,rfl,rfl,rfl⟩
 have c58: ∀s,F1 128 s=Ajf s∧F1 130 s=Qi s∧F1 132 s=Qj s∧F1 134 s=Aje s:=fun s=>⟨rfl,rfl,rfl,rfl⟩
 have hL: ∀x:Int,Apf b=decide (97≤(b.toNat:Int)∧(b.toNat:Int)≤122):=fun _=>by
  unfold Apf;rw[Bool.eq_iff_iff];simp;omega
 have hD: ∀x:Int,digB b=decide (48≤(b.toNat:Int)∧(b.toNat:Int)≤57):=fun _=>by
  unfold digB;rw[Bool.eq_iff_iff];simp;omega
 have hQ:((b.toNat:Int)==34)=decide (b=34):=by
  rw[Bool.eq_iff_iff]
  have:=Als (b:=b) (n:=34) (by omega)
  simp
  constructor
  ·intro h;exact this.1 (by omega)
  ·rintro rfl;rfl
 have r0:rdO ([⟨127,128⟩,⟨129,130⟩,⟨131,132⟩,⟨133,134⟩]:List Bo) 0=some ⟨127,128⟩:=rfl
 have r1:rdO ([⟨127,128⟩,⟨129,130⟩,⟨131,132⟩,⟨133,134⟩]:List Bo) 1=some ⟨129,130⟩:=rfl
 have r2:rdO ([⟨127,128⟩,⟨129,130⟩,⟨131,132⟩,⟨133,134⟩]:List Bo) 2=some ⟨131,132⟩:=rfl
 have r3:rdO ([⟨127,128⟩,⟨129,130⟩,⟨131,132⟩,⟨133,134⟩]:List Bo) 3=some ⟨133,134⟩:=rfl
 have d0:decide ((0:Int)<4)=true:=by decide
 have d1:decide ((1:Int)<4)=true:=by decide
 have d2:decide ((2:Int)<4)=true:=by decide
 have d3:decide ((3:Int)<4)=true:=by decide
 have w0:IntKind.wrap .i64 ((0:Int)+1)=1:=by rw[wrap64 (by omega) (by omega)];rfl
 have w1:IntKind.wrap .i64 ((1:Int)+1)=2:=by rw[wrap64 (by omega) (by omega)];rfl
 have w2:IntKind.wrap .i64 ((2:Int)+1)=3:=by rw[wrap64 (by omega) (by omega)];rfl
 have hn:Bk (b::t)=if Apf b=true then(0,Aak (b::t)) else if digB b=true then(1,Ati (b::t)) else if b=34 then(2,Ats (b::t)) else(3,Atw (b::t)):=rfl
 unfold We Atc
 simp only[Option.bind_some]
 rw[hn]
 cases h1:Apf b with
 |true=>
  have:=hL 0
  rw[h1] at this
  simp only[if_true]
  refine Bi (Aw (o:= .inr (0,(prI (Aak (b::t))).1,(prI (Aak (b::t))).2)) ?_) rfl
  simp only[d0,if_true,r0,Dn,(c57 _).1,Mt,←this,(c58 _).1,Bsd,Option.bind_some]
 |false=>
  have hl1:=hL 0
  rw[h1] at hl1
  simp only[Bool.false_eq_true,if_false]
  cases h2:digB b with
  |true=>
   have hd1:=hD 0
   rw[h2] at hd1
   simp only[if_true]
   refine Bi (o:=some _) ?_ ?_ (x:= .inr (1,(prI (Ati (b::t))).1,(prI (Ati (b::t))).2))
   ·rw[Bj (s':=(1:Int)),Aw]
    ·simp only[d1,if_true,r1,Dn,(c57 _).2.1,Qg,←hd1,(c58 _).2.1,number_eq (show(b::t).length<4611686018427387904 by omega),Option.bind_some]
    ·simp only[d0,if_true,r0,Dn,(c57 _).1,Mt,←hl1,Option.bind_some,Bool.false_eq_true,if_false,w0]
   ·rfl
  |false=>
   have hd1:=hD 0
   rw[h2] at hd1
   simp only[Bool.false_eq_true,if_false]
   by_cases h3:b=34
   ·rw[if_pos h3]
    have hq1:=hQ
    rw[decide_eq_true h3] at hq1
    refine Bi (o:=some _) ?_ ?_ (x:= .inr (2,(prI (Ats (b::t))).1,(prI (Ats (b::t))).2))
    ·rw[Bj (s':=(1:Int)),Bj (s':=(2:Int)),Aw]
     ·simp only[d2,if_true,r2,Dn,(c57 _).2.2.1,Mv,hq1,(c58 _).2.2.1,Blv (show(b::t).length<4611686018427387904 by omega),Option.bind_some]
     ·simp only[d1,if_true,r1,Dn,(c57 _).2.1,Qg,←hd1,Option.bind_some,Bool.false_eq_true,if_false,w1]
     ·simp only[d0,if_true,r0,Dn,(c57 _).1,Mt,←hl1,Option.bind_some,Bool.false_eq_true,if_false,w0]
    ·rfl
   ·rw[if_neg h3]
    have hq1:=hQ
    rw[decide_eq_false h3] at hq1
    refine Bi (o:=some _) ?_ ?_ (x:= .inr (3,(prI (Atw (b::t))).1,(prI (Atw (b::t))).2))
    ·rw[Bj (s':=(1:Int)),Bj (s':=(2:Int)),Bj (s':=(3:Int)),Aw]
     ·simp only[d3,if_true,r3,Dn,(c57 _).2.2.2,S9,(c58 _).2.2.2,Br5 hl,Option.bind_some]
     ·simp only[d2,if_true,r2,Dn,(c57 _).2.2.1,Mv,hq1,Option.bind_some,Bool.false_eq_true,if_false,w2]
     ·simp only[d1,if_true,r1,Dn,(c57 _).2.1,Qg,←hd1,Option.bind_some,Bool.false_eq_true,if_false,w1]
     ·simp only[d0,if_true,r0,Dn,(c57 _).1,Mt,←hl1,Option.bind_some,Bool.false_eq_true,if_false,w0]
    ·rfl
end Go.Av.G
end
section
set_option linter.unusedVariables false
set_option linter.unusedSimpArgs false
set_option maxRecDepth 4000
set_option maxHeartbeats 4000000
namespace Go.Av.G
open Go Go.Av Go.Proofs
def Ao4(b:UInt8):Bool:=b==32||b==9||b==10
def A8:Bool→List UInt8→Nat
 |_,[]=>0
 |true,b::t=>if b=10 then 1+A8 false t else 1+A8 true t
 |false,b::t=>if Ao4 b=true then 1+A8 false t else if b=35 then 1+A8 true t else 0
theorem H3: ∀(r:Bool) (s:List UInt8),A8 r s≤s.length
 |_,[]=>by simp[A8]
 |true,b::t=>by
  have h1:=H3 false t
  have h2:=H3 true t
  unfold A8
  simp only[List.length_cons]
  split<;>omega
 |false,b::t=>by
  have h1:=H3 false t
  have h2:=H3 true t
  unfold A8
  simp only[List.length_cons]
  split
  ·omega
  ·split<;>omega
theorem Ma: ∀(r:Bool) (s:List UInt8) (m:Nat),A8 r (s.take m)=min (A8 r s) m
 |_,[],m=>by simp[A8]
 |r,b::t,0=>by simp[A8]
 |true,b::t,m+1=>by
  have h1:=Ma false t m
  have h2:=Ma true t m
  rw[List.take_succ_cons]
  unfold A8
  rw[h1,h2]
  split<;>omega
 |false,b::t,m+1=>by
  have h1:=Ma false t m
  have h2:=Ma true t m
  rw[List.take_succ_cons]
  unfold A8
  rw[h1,h2]
  split
  ·omega
  ·split<;>omega
theorem A02: ∀s:List UInt8,A8 false s=(s.length-(Lib.trimLeftS s [32,9,10]).length)+A8 false (Lib.trimLeftS s [32,9,10])∧(Lib.trimLeftS s [32,9,10]).length≤s.length∧(∀b t,Lib.trimLeftS s [32,9,10]=b::t→Ao4 b=false)
 |[]=>by simp[A8,Lib.trimLeftS]
 |b::t=>by
  obtain⟨h1,h2,h3⟩:=A02 t
  have hc:([32,9,10]:List UInt8).contains b=Ao4 b:=by
   unfold Ao4
   simp only[List.contains_cons,List.contains_nil,Bool.or_false]
   cases b==32<;>cases b==9<;>cases b==10<;>rfl
  unfold Lib.trimLeftS at h1 h2 h3⊢
  rw[List.dropWhile_cons,hc]
  cases hb:Ao4 b with
  |true=>
   simp only[if_true,List.length_cons]
   rw[A8,if_pos hb]
   exact⟨by omega,by omega,h3⟩
  |false=>
   simp only[Bool.false_eq_true,if_false,Nat.sub_self,Nat.zero_add]
   exact⟨trivial,Nat.le_refl _,fun b' t' e=>by cases e;exact hb⟩
theorem A03: ∀t:List UInt8,A8 true t=if Aj (fun b=>b !=10) t=t.length then t.length else Aj (fun b=>b !=10) t+1+A8 false (t.drop (Aj (fun b=>b !=10) t+1))
 |[]=>by simp[A8,Ho]
 |b::t=>by
  have ih:=A03 t
  have hle:=Dv (fun b=>b !=10) t
  rw[A8,Cs,List.length_cons]
  by_cases hb:b=10
  ·subst hb
   simp
  ·have h2:(b !=10)=true:=by simpa using hb
   rw[if_neg hb,ih]
   simp only[h2,if_true,List.drop_succ_cons]
   by_cases he:Aj (fun b=>b !=10) t=t.length
   ·rw[if_pos he,if_pos (by omega)];omega
   ·rw[if_neg he,if_neg (by omega)];omega
theorem Bl8{s:List UInt8}(hl:s.length<4294967281): ∀(n:Nat) (rest:List UInt8),rest.length≤n→rest.length≤s.length→
  A1 (fun(qj2:List UInt8)=>match qj2 with
  |rest3=>(
   (Bw rest3 [32,9,10]).bind fun x4=>
   (strings_HasPrefix x4 [35]).bind fun x5=>
   if (!x5)=true then
    some (.inr (IntKind.wrap .i64 ((s.length:Int)-(x4.length:Int))))
   else
    (strings_Cut x4 [10]).bind fun x6=>
    if (!x6.2.2)=true then
     some (.inr (s.length:Int))
    else
     some (.inl x6.2.1):Option ((List UInt8)⊕Int))) rest=some ((s.length-rest.length+A8 false rest:Nat):Int):=by
 intro n
 induction n with
 |zero=>
  intro rest hn hs
  match rest,hn with
  |[],_=>
   have h1:Bw [] [32,9,10]=some []:=by unfold Bw;rw[if_pos (by decide)];rfl
   rw[Aw (o:=(s.length:Int))]
   ·simp[A8]
   ·have h2:strings_HasPrefix [] [35]=some false:=rfl
    simp only[h1,h2,Option.bind_some,Bool.not_false,if_true]
    rw[wrap64 (by simp<;>omega) (by simp<;>omega)]
    simp
 |succ n ih=>
  intro rest hn hs
  obtain⟨h1,h2,h3⟩:=A02 rest
  have ht:Bw rest [32,9,10]=some (Lib.trimLeftS rest [32,9,10]):=by unfold Bw;rw[if_pos (by decide)]
  generalize Lib.trimLeftS rest [32,9,10]=d at h1 h2 h3 ht
  have hstop:(∀t,d≠35::t)→strings_HasPrefix d [35]=some false∧A8 false d=0:=by
   intro hd
   match d,h3,hd with
   |[],_,_=>exact⟨rfl,rfl⟩
   |b::t,h3,hd=>
    have hb:=h3 b t rfl
    have hne:b≠35:=fun e=>hd t (by rw[e])
    refine⟨?_,?_⟩
    ·unfold strings_HasPrefix Lib.hasPrefix
     have:((35:UInt8)==b)=false:=by simpa using fun e=>hne e.symm
     simp[List.isPrefixOf,this]
    ·rw[A8,if_neg (by simp[hb]),if_neg hne]
  by_cases hd: ∃t,d=35::t
  ·obtain⟨t,rfl⟩:=hd
   have hp:strings_HasPrefix (35::t) [35]=some true:=by unfold strings_HasPrefix Lib.hasPrefix;simp[List.isPrefixOf]
   have hcut:strings_Cut (35::t) [10]=some (Lib.cut (35::t) [10]):=by unfold strings_Cut;rw[if_pos (by omega)]
   have hsk:A8 false (35::t)=1+A8 true t:=by rw[A8,if_neg (by decide),if_pos rfl]
   have hix:Lib.index (35::t) [10]=if Aj (fun b=>b !=10) t=t.length then -1 else((Aj (fun b=>b !=10) t+1:Nat):Int):=by
    rw[index_one,Ji,Cs]
    simp only[show((35:UInt8)!=10)=true from rfl,if_true,List.length_cons]
    by_cases he:Aj (fun b=>b !=10) t=t.length
    ·rw[if_pos he,if_pos (by omega)]
    ·rw[if_neg he,if_neg (by omega)]
   have hle:=Dv (fun b=>b !=10) t
   simp only[List.length_cons] at h1 h2
   have htr:=A03 t
   by_cases he:Aj (fun b=>b !=10) t=t.length
   ·rw[if_pos he] at hix htr
    rw[Aw (o:=(s.length:Int))]
    ·congr 1
     omega
    ·have:Lib.cut (35::t) [10]=(35::t,[],false):=by unfold Lib.cut;rw[hix,if_neg (by omega)]
     simp only[ht,hp,hcut,this,Option.bind_some,Bool.not_true,Bool.false_eq_true,if_false,Bool.not_false,if_true]
   ·rw[if_neg he] at hix htr
    have hc:Lib.cut (35::t) [10]=((35::t).take (Aj (fun b=>b !=10) t+1),t.drop (Aj (fun b=>b !=10) t+1),true):=by
     unfold Lib.cut
     rw[hix,if_pos (by omega)]
     simp
    have hlen:(t.drop (Aj (fun b=>b !=10) t+1)).length=t.length-(Aj (fun b=>b !=10) t+1):=List.length_drop ..
    rw[Bj (s':=t.drop (Aj (fun b=>b !=10) t+1)),ih _ (by omega) (by omega)]
    ·congr 1
     omega
    ·simp only[ht,hp,hcut,hc,Option.bind_some,Bool.not_true,Bool.false_eq_true,if_false]
  ·obtain⟨hp,hz⟩:=hstop (fun t e=>hd ⟨t,e⟩)
   rw[Aw (o:=((s.length-d.length:Nat):Int))]
   ·congr 1
    omega
   ·simp only[ht,hp,Option.bind_some,Bool.not_false,if_true]
    rw[wrap64 (by omega) (by omega)]
    congr 2
    omega
theorem Bkd{s:List UInt8}(hl:s.length<4294967281):Wf s=some (A8 false s:Int):=by
 unfold Wf
 rw[Bl8 hl s.length s (Nat.le_refl _) (Nat.le_refl _)]
 simp
def plS(s:List UInt8):Int×Int:=((s.count 10:Int)+1,(s.length:Int)-Lib.lastIndexByte ⟨s.toArray⟩ 10)
theorem Lc(s:List UInt8):(Lib.lastIndexByte ⟨s.toArray⟩ 10= -1∧10∉s)∨ ∃i:Nat,i<s.length∧Lib.lastIndexByte ⟨s.toArray⟩ 10=i∧s[i]? =some 10∧ ∀j,i<j→s[j]? ≠some 10:=by
 have hsz:(ByteArray.mk s.toArray).size=s.length:=by simp[ByteArray.size]
 have hat: ∀j,j<s.length→((((ByteArray.mk s.toArray).data[j]!).toNat:Int)=10↔s[j]? =some 10):=by
  intro j hj
  have e:(ByteArray.mk s.toArray).data[j]! =s[j]:=by
   simp[hj]
  rw[e,List.getElem?_eq_getElem hj,Option.some.injEq]
  have:=Als (b:=s[j]) (n:=10) (by omega)
  constructor
  ·intro h;exact this.1 (by omega)
  ·intro h;rw[h];rfl
 have h:=Lib.lastIdx_spec ⟨s.toArray⟩ 10 s.length
 unfold Lib.lastIndexByte
 rw[hsz]
 rcases h with⟨h1,h2⟩|⟨i,h1,h2,h3,h4⟩
 ·refine .inl ⟨h1,fun hm=>?_⟩
  obtain⟨j,hj,he⟩:=List.getElem_of_mem hm
  exact h2 j hj ((hat j hj).2 (by rw[List.getElem?_eq_getElem hj,he]))
 ·refine .inr ⟨i,h1,h2,(hat i h1).1 h3,fun j hij he=>?_⟩
  have hj:j<s.length:=(List.getElem?_eq_some_iff.1 he).1
  exact h4 j hij hj ((hat j hj).2 he)
theorem Bcj{s:List UInt8}(hl:s.length<4611686018427387904):Pz s=some (plS s):=by
 have hr: -1≤Lib.lastIndexByte ⟨s.toArray⟩ 10∧Lib.lastIndexByte ⟨s.toArray⟩ 10<s.length:=by
  rcases Lc s with⟨h,_⟩|⟨i,h1,h2,_⟩<;>omega
 have hc:s.count 10≤s.length:=List.count_le_length
 unfold Pz plS strings_LastIndexByte strings_Count Lib.countByte
 rw[if_pos hl]
 simp only[Option.bind_some]
 rw[wrap64 (by omega) (by omega),wrap64 (by omega) (by omega)]
end Go.Av.G
end
section
set_option linter.unusedVariables false
set_option linter.unusedSimpArgs false
set_option maxRecDepth 4000
set_option maxHeartbeats 4000000
namespace Go.Av.G
open Go Go.Av Go.Proofs
theorem P3: ∀{s:List UInt8} {k n:Nat},Bk s=(k,n,0)→1≤n∧n≤s.length
 |[],k,n,h=>by simp[Bk] at h
 |b::t,k,n,h=>by
  have hn:Bk (b::t)=if Apf b=true then(0,Aak (b::t)) else if digB b=true then(1,Ati (b::t)) else if b=34 then(2,Ats (b::t)) else(3,Atw (b::t)):=rfl
  rw[hn] at h
  by_cases h1:Apf b=true
  ·rw[if_pos h1] at h
   unfold Aak at h
   split at h
   ·simp at h
   ·simp only[Prod.mk.injEq] at h
    have hw:Alt b=true:=by
     have:=of_decide_eq_true h1
     unfold Alt;simp;omega
    have:=A06 (t:=t) hw
    have:=Dv Alt (b::t)
    omega
  ·rw[if_neg h1] at h
   by_cases h2:digB b=true
   ·rw[if_pos h2] at h
    have hd1:=A06 (t:=t) h2
    have hd2:=Dv digB (b::t)
    have hm:=Arh ((b::t).drop (Aj digB (b::t)))
    rw[List.length_drop] at hm
    unfold Ati at h
    split at h
    ·simp at h
    ·split at h
     ·simp only[Prod.mk.injEq] at h
      omega
     ·simp only[Prod.mk.injEq] at h
      omega
   ·rw[if_neg h2] at h
    by_cases h3:b=34
    ·rw[if_pos h3] at h
     have hq:=Dv Ca t
     unfold Ats at h
     simp only[List.drop_succ_cons,List.drop_zero] at h
     split at h
     ·simp at h
     ·split at h
      ·simp at h
      ·simp only[Prod.mk.injEq] at h
       simp only[List.length_cons]
       omega
    ·rw[if_neg h3] at h
     unfold Atw at h
     simp only[List.length_cons]
     by_cases hx:(b::t).take 2=[60,61]∨(b::t).take 2=[62,61]∨(b::t).take 2=[46,46]
     ·simp only[hx,if_true,Prod.mk.injEq] at h
      have:1≤t.length:=by
       match t,hx with
       |[],hx=>simp at hx
       |c::t,_=>simp
      omega
     ·simp only[hx,if_false] at h
      by_cases hm:b∈Kg
      ·simp only[hm,if_true,Prod.mk.injEq] at h;omega
      ·simp[hm] at h
theorem Ayg: ∀{s:List UInt8} {k n m:Nat},Bk s=(k,n,0)→n≤m→Bk (s.take m)=(k,n,0)
 |[],k,n,m,h,_=>by simp[Bk] at h
 |b::t,k,n,m,h,hm=>by
  have hlen:=P3 h
  obtain⟨m,rfl⟩: ∃m',m=m'+1:=⟨m-1,by omega⟩
  have hn: ∀t,Bk (b::t)=if Apf b=true then(0,Aak (b::t)) else if digB b=true then(1,Ati (b::t)) else if b=34 then(2,Ats (b::t)) else(3,Atw (b::t)):=fun _=>rfl
  rw[List.take_succ_cons,hn]
  rw[hn] at h
  have htk:b::t.take m=(b::t).take (m+1):=rfl
  by_cases h1:Apf b=true
  ·rw[if_pos h1] at h⊢
   rw[htk]
   unfold Aak at h⊢
   rw[Mb]
   split at h
   ·simp at h
   ·rename_i hw
    simp only[Prod.mk.injEq] at h
    have:min (Aj Alt (b::t)) (m+1)=Aj Alt (b::t):=by omega
    rw[this,if_neg hw]
    simp[h.1,h.2]
  ·rw[if_neg h1] at h⊢
   by_cases h2:digB b=true
   ·rw[if_pos h2] at h⊢
    rw[htk]
    generalize hs:b::t=s at h hlen⊢
    have hhead:(s.take (m+1)).head?=s.head?:=by rw[←hs];rfl
    unfold Ati at h⊢
    rw[Mb,hhead]
    split at h
    ·simp at h
    ·rename_i hno
     have hdm:Aj digB s≤m+1:=by
      split at h<;>(simp only[Prod.mk.injEq] at h;omega)
     have hmin:min (Aj digB s) (m+1)=Aj digB s:=by omega
     have hmore:E7 ((s.take (m+1)).drop (Aj digB s))=E7 (s.drop (Aj digB s)):=by
      rw[List.drop_take]
      generalize hr:s.drop (Aj digB s)=r at h
      by_cases hz:0<E7 r
      ·rw[if_pos hz] at h
       simp only[Prod.mk.injEq] at h
       unfold E7 at h hz⊢
       match r,h,hz with
       |[],h,hz=>simp at hz
       |[x],h,hz=>simp at hz
       |x::y::u,h,hz=>
        simp only at h hz
        by_cases hx:x=46
        ·rw[if_pos hx] at h hz
         obtain⟨q,hq⟩: ∃q,m+1-Aj digB s=q+2:=⟨m+1-Aj digB s-2,by omega⟩
         rw[hq,List.take_succ_cons,List.take_succ_cons]
         simp only
         rw[if_pos hx,if_pos hx,←List.take_succ_cons,Mb]
         omega
        ·rw[if_neg hx] at hz;omega
      ·have h0:E7 r=0:=by omega
       rw[h0]
       unfold E7 at h0⊢
       match r,h0 with
       |[],_=>simp
       |[x],_=>cases m+1-Aj digB s<;>simp
       |x::y::u,h0=>
        simp only at h0
        match m+1-Aj digB s with
        |0=>rfl
        |1=>rfl
        |q+2=>
         rw[List.take_succ_cons,List.take_succ_cons]
         simp only
         by_cases hx:x=46
         ·rw[if_pos hx] at h0⊢
          rw[←List.take_succ_cons,Mb]
          omega
         ·rw[if_neg hx]
     rw[hmin,hmore,if_neg hno]
     exact h
   ·rw[if_neg h2] at h⊢
    by_cases h3:b=34
    ·rw[if_pos h3] at h⊢
     unfold Ats at h⊢
     simp only[List.drop_succ_cons,List.drop_zero] at h⊢
     have hq:=Dv Ca t
     split at h
     ·simp at h
     ·rename_i hne
      split at h
      ·simp at h
      ·rename_i hno
       simp only[Prod.mk.injEq] at h
       have hmin:min (Aj Ca t) m=Aj Ca t:=by omega
       rw[Mb,hmin,List.length_take,List.take_take,hmin,if_neg (by omega),if_neg hno]
       obtain⟨rfl,rfl,_⟩:=h
       rfl
    ·rw[if_neg h3] at h⊢
     rw[htk]
     unfold Atw at h⊢
     rw[List.take_take]
     by_cases hx:(b::t).take 2=[60,61]∨(b::t).take 2=[62,61]∨(b::t).take 2=[46,46]
     ·simp only[hx,if_true,Prod.mk.injEq] at h
      have:min 2 (m+1)=2:=by omega
      rw[this]
      simp only[hx,if_true]
      simp[h.1,h.2]
     ·simp only[hx,if_false] at h
      have hy: ¬((b::t).take (min 2 (m+1))=[60,61]∨(b::t).take (min 2 (m+1))=[62,61]∨(b::t).take (min 2 (m+1))=[46,46]):=by
       by_cases hm2:1≤m
       ·rw[Nat.min_eq_left (by omega)];exact hx
       ·have:min 2 (m+1)=1:=by omega
        rw[this]
        simp
      simp only[hy,if_false,List.take_succ_cons]
      exact h
def N4:Nat→List UInt8→Nat→Nat→List (Nat×Nat×Nat)⊕(Nat×Nat)
 |0,_,_,_=> .inl []
 |f+1,rest,at_,k=>
  if rest=[] then .inl []
  else if (Bk rest).2.2≠0 then .inr (at_,(Bk rest).2.2)
  else if k=1500 then .inr (at_,6)
  else match N4 f ((rest.drop (Bk rest).2.1).drop (A8 false (rest.drop (Bk rest).2.1))) (at_+(Bk rest).2.1+A8 false (rest.drop (Bk rest).2.1)) (k+1) with
   | .inl l=> .inl ((at_,(Bk rest).1,(Bk rest).2.1)::l)
   | .inr e=> .inr e
def Aqo(text:List UInt8)(x:Nat×Nat×Nat):Ac:=⟨(x.2.1:Int),(plS (text.take x.1)).1,(plS (text.take x.1)).2,(text.drop x.1).take x.2.2⟩
def Ao1(text:List UInt8):List (Nat×Nat×Nat)⊕(Nat×Nat):=N4 (text.length+1) (text.drop (A8 false text)) (A8 false text) 0
theorem Bng{text:List UInt8}(hl:text.length≤8000): ∀(f at_:Nat) (row:List Ac),at_≤text.length→text.length-at_<f→row.length≤1500→
  A1 (fun(qj3:Int×(List Ac))=>match qj3 with
   |(at_4,row5)=>(
    if (decide (at_4<(text.length:Int)))=true then
     (slO text at_4 (text.length:Int)).bind fun x6=>
     (We x6).bind fun x7=>
     if (x7.2.2 !=0)=true then
      some (.inr (.inr (([]:List Ac),at_4,x7.2.2)))
     else
      if ((row5.length:Int)==1500)=true then
       some (.inr (.inr (([]:List Ac),at_4,6)))
      else
       (slO text 0 at_4).bind fun x8=>
       (Pz x8).bind fun x9=>
       (slO text at_4 (IntKind.wrap .i64 (at_4+x7.2.1))).bind fun x10=>
       (apO 40 row5 [(⟨x7.1,x9.1,x9.2,x10⟩:Ac)]).bind fun x11=>
       (slO text (IntKind.wrap .i64 (at_4+x7.2.1)) (text.length:Int)).bind fun x12=>
       (Wf x12).bind fun x13=>
       some (.inl (IntKind.wrap .i64 ((IntKind.wrap .i64 (at_4+x7.2.1))+x13),x11))
    else
     some (.inr (.inl row5)):Option ((Int×(List Ac))⊕((List Ac)⊕((List Ac)×Int×Int))))) ((at_:Int),row)
   =some (match N4 f (text.drop at_) at_ row.length with| .inl l=> .inl (row++l.map (Aqo text))| .inr e=> .inr ([],(e.1:Int),(e.2:Int))):=by
 intro f
 induction f with
 |zero=>intro at_ row h1 h2;omega
 |succ f ih=>
  intro at_ row h1 h2 h3
  by_cases he:at_=text.length
  ·subst he
   rw[Aw (o:= .inl row)]
   ·simp[N4]
   ·have:decide (((text.length:Nat):Int)<(text.length:Int))=false:=by simp
    simp only[this,Bool.false_eq_true,if_false]
  ·have hlt:at_<text.length:=by omega
   have hd:decide ((at_:Int)<(text.length:Int))=true:=by simp;omega
   have hrest:text.drop at_≠[]:=by simp;omega
   obtain⟨b,t,hbt⟩: ∃b t,text.drop at_=b::t:=by
    cases hx:text.drop at_ with
    |nil=>exact absurd hx hrest
    |cons b t=>exact⟨b,t,rfl⟩
   have hlr:(b::t).length=text.length-at_:=by rw[←hbt,List.length_drop]
   have hnext:=Bjz (b:=b) (t:=t) (by omega)
   rw[←hbt] at hnext
   have hs1:=Hh (l:=text) (n:=at_) h1
   have hs2:=I1 (l:=text) (n:=at_) h1
   rw[N4,if_neg hrest]
   generalize hnx:Bk (text.drop at_)=nx at hnext
   obtain⟨k,n,e⟩:=nx
   simp only[trI] at hnext
   by_cases hee:e=0
   ·subst hee
    obtain⟨hn1,hn2⟩:=P3 hnx
    rw[List.length_drop] at hn2
    simp only[ne_eq,not_true_eq_false,if_false]
    by_cases hfull:row.length=1500
    ·rw[if_pos hfull,Aw (o:= .inr ([],(at_:Int),6))]
     ·rfl
     ·have:((row.length:Int)==1500)=true:=by simp[hfull]
      simp only[hd,if_true,hs1,hnext,Option.bind_some,Int.natCast_zero,bne_self_eq_false,Bool.false_eq_true,if_false,this]
    ·rw[if_neg hfull]
     have e1:IntKind.wrap .i64 ((at_:Int)+(n:Int))=((at_+n:Nat):Int):=by rw[wrap64 (by omega) (by omega)];omega
     have hs3:=Baa (l:=text) (a:=at_) (b:=at_+n) (by omega) (by omega)
     have hs4:=Hh (l:=text) (n:=at_+n) (by omega)
     have hdd:text.drop (at_+n)=(text.drop at_).drop n:=by rw[List.drop_drop]
     have hsk:=H3 false ((text.drop at_).drop n)
     rw[List.length_drop,List.length_drop] at hsk
     have hskip:=Bkd (s:=(text.drop at_).drop n) (by rw[List.length_drop,List.length_drop];omega)
     have e2:IntKind.wrap .i64 (((at_+n:Nat):Int)+(A8 false ((text.drop at_).drop n):Int))=((at_+n+A8 false ((text.drop at_).drop n):Nat):Int):=by rw[wrap64 (by omega) (by omega)];omega
     have hpl:=Bcj (s:=text.take at_) (by simp;omega)
     have hap: ∀x:Ac,apO 40 row [x]=some (row++[x]):=fun x=>by
      unfold apO
      rw[if_pos (by simp;omega)]
     have hmid:(text.take (at_+n)).drop at_=(text.drop at_).take n:=by rw[List.drop_take];congr 1;omega
     have hlen:((row.length:Int)==1500)=false:=by simp;omega
     rw[Bj (s':=(((at_+n+A8 false ((text.drop at_).drop n):Nat):Int),row++[Aqo text (at_,k,n)])),ih (at_+n+A8 false ((text.drop at_).drop n)) (row++[Aqo text (at_,k,n)]) (by omega) (by omega) (by simp;omega)]
     ·have hdr:text.drop (at_+n+A8 false ((text.drop at_).drop n))=((text.drop at_).drop n).drop (A8 false ((text.drop at_).drop n)):=by
       rw[List.drop_drop,List.drop_drop]
      rw[hdr,List.length_append,List.length_singleton]
      cases N4 f (((text.drop at_).drop n).drop (A8 false ((text.drop at_).drop n))) (at_+n+A8 false ((text.drop at_).drop n)) (row.length+1) with
      |inl l=>simp
      |inr e=>rfl
     ·simp only[hd,if_true,hs1,hnext,Option.bind_some,Int.natCast_zero,bne_self_eq_false,Bool.false_eq_true,if_false,hlen,hs2,hpl,e1,hs3,hmid,hap,hs4,hdd,hskip,e2]
      rfl
   ·have hne:((e:Int)!=0)=true:=by simp;omega
    simp only[ne_eq,hee,not_false_eq_true,if_true]
    rw[Aw (o:= .inr ([],(at_:Int),(e:Int)))]
    simp only[hd,if_true,hs1,hnext,Option.bind_some,hne]
theorem Bs4{text:List UInt8}(hl:text.length≤8000):Aa4 text=some (match Ao1 text with| .inl l=>(l.map (Aqo text),0,0)| .inr e=>([],(e.1:Int),(e.2:Int))):=by
 have hs:=H3 false text
 unfold Aa4 Ao1
 have h1:decide ((text.length:Int)>8000)=false:=decide_eq_false (by omega)
 simp only[h1,Bool.false_eq_true,if_false,Bkd (show text.length<4294967281 by omega),Option.bind_some]
 have:=Bng hl (text.length+1) (A8 false text) [] hs (by omega) (by simp)
 refine Bi this ?_
 simp only[List.length_nil]
 cases N4 (text.length+1) (text.drop (A8 false text)) (A8 false text) 0 with
 |inl l=>simp
 |inr e=>rfl
theorem Bnf{text:List UInt8}(hl:8000<text.length):Aa4 text=some ([],0,4):=by
 unfold Aa4
 have h1:decide ((text.length:Int)>8000)=true:=decide_eq_true (by omega)
 simp only[h1,if_true]
end Go.Av.G
end
section
set_option linter.unusedVariables false
set_option linter.unusedSimpArgs false
set_option maxRecDepth 4000
set_option maxHeartbeats 4000000
namespace Go.Av.G
open Go Go.Av Go.Proofs
theorem Arb: ∀(f:Nat) (rest:List UInt8) (at_ k p e:Nat),N4 f rest at_ k= .inr (p,e)→e≠0∧at_≤p∧p<at_+rest.length
 |0,rest,at_,k,p,e,h=>by simp[N4] at h
 |f+1,rest,at_,k,p,e,h=>by
  rw[N4] at h
  by_cases h0:rest=[]
  ·rw[if_pos h0] at h;cases h
  ·rw[if_neg h0] at h
   have hpos:0<rest.length:=List.length_pos_iff.2 h0
   by_cases h1:(Bk rest).2.2=0
   ·rw[if_neg (not_not_intro h1)] at h
    obtain⟨hn1,hn2⟩:=P3 (s:=rest) (k:=(Bk rest).1) (n:=(Bk rest).2.1) (by rw[←h1])
    by_cases h2:k=1500
    ·rw[if_pos h2] at h
     cases h
     exact⟨by omega,by omega,by omega⟩
    ·rw[if_neg h2] at h
     have hsk:=H3 false (rest.drop (Bk rest).2.1)
     have hl1:(rest.drop (Bk rest).2.1).length=rest.length-(Bk rest).2.1:=List.length_drop ..
     have hl2:((rest.drop (Bk rest).2.1).drop (A8 false (rest.drop (Bk rest).2.1))).length=(rest.drop (Bk rest).2.1).length-A8 false (rest.drop (Bk rest).2.1):=List.length_drop ..
     split at h
     ·cases h
     ·rename_i e' hr
      cases h
      obtain⟨a1,a2,a3⟩:=Arb f _ _ _ _ _ hr
      exact⟨a1,by omega,by omega⟩
   ·rw[if_pos h1] at h
    cases h
    exact⟨h1,Nat.le_refl _,by omega⟩
theorem Axy: ∀(f:Nat) (rest:List UInt8) (at_ k p e:Nat),N4 f rest at_ k= .inr (p,e)→ ∀f',p-at_<f'→ ∃l,N4 f' (rest.take (p-at_)) at_ k= .inl l
 |0,rest,at_,k,p,e,h,f',hf=>by simp[N4] at h
 |f+1,rest,at_,k,p,e,h,0,hf=>by omega
 |f+1,rest,at_,k,p,e,h,f'+1,hf=>by
  have hb:=Arb _ _ _ _ _ _ h
  rw[N4] at h
  by_cases h0:rest=[]
  ·rw[if_pos h0] at h;cases h
  ·rw[if_neg h0] at h
   by_cases h1:(Bk rest).2.2=0
   ·rw[if_neg (not_not_intro h1)] at h
    have hnx:Bk rest=((Bk rest).1,(Bk rest).2.1,0):=by rw[←h1]
    by_cases h2:k=1500
    ·rw[if_pos h2] at h
     cases h
     exact⟨[],by simp[N4]⟩
    ·rw[if_neg h2] at h
     split at h
     ·cases h
     ·rename_i e' hr
      cases h
      obtain⟨a1,a2,a3⟩:=Arb f _ _ _ _ _ hr
      obtain⟨hn1,hn2⟩:=P3 hnx
      have htk:=Ayg (m:=p-at_) hnx (by omega)
      have hne:rest.take (p-at_)≠[]:=by
       intro q
       have:=congrArg List.length q
       rw[List.length_take] at this
       simp only[List.length_nil] at this
       omega
      rw[N4,if_neg hne,htk]
      simp only[ne_eq,not_true_eq_false,if_false,if_neg h2]
      have hdt:(rest.take (p-at_)).drop (Bk rest).2.1=(rest.drop (Bk rest).2.1).take (p-at_-(Bk rest).2.1):=List.drop_take ..
      have hsk:A8 false ((rest.take (p-at_)).drop (Bk rest).2.1)=A8 false (rest.drop (Bk rest).2.1):=by
       rw[hdt,Ma];omega
      obtain⟨l,hl⟩:=Axy f _ _ _ _ _ hr f' (by omega)
      have hdd:((rest.take (p-at_)).drop (Bk rest).2.1).drop (A8 false (rest.drop (Bk rest).2.1))=((rest.drop (Bk rest).2.1).drop (A8 false (rest.drop (Bk rest).2.1))).take (p-(at_+(Bk rest).2.1+A8 false (rest.drop (Bk rest).2.1))):=by
       rw[hdt,List.drop_take]
       congr 1
       omega
      rw[hsk,hdd,hl]
      exact⟨_,rfl⟩
   ·rw[if_pos h1] at h
    cases h
    exact⟨[],by simp[N4]⟩
theorem Bqx{text:List UInt8}{p e:Nat}(h:Ao1 text= .inr (p,e)):e≠0∧p<text.length∧ ∃l,Ao1 (text.take p)= .inl l:=by
 unfold Ao1 at h
 have hs:=H3 false text
 obtain⟨h1,h2,h3⟩:=Arb _ _ _ _ _ _ h
 rw[List.length_drop] at h3
 refine⟨h1,by omega,?_⟩
 have hlen:(text.take p).length=p:=by rw[List.length_take];omega
 obtain⟨l,hl⟩:=Axy _ _ _ _ _ _ h (p+1) (by omega)
 refine⟨l,?_⟩
 unfold Ao1
 have hsk:A8 false (text.take p)=A8 false text:=by rw[Ma];omega
 rw[hsk,hlen,List.drop_take]
 exact hl
theorem Buc{α:Type}(l:List α)(a b c:Nat):((l.drop a).drop b).drop c=l.drop (a+b+c):=by
 rw[List.drop_drop,List.drop_drop,Nat.add_assoc]
def An4(text:List UInt8):Nat→List (Nat×Nat×Nat)→Prop
 |_,[]=>True
 |at_,x::l=>at_≤x.1∧x.1<text.length∧Bk (text.drop x.1)=(x.2.1,x.2.2,0)∧An4 text (x.1+x.2.2) l
theorem An4.ahead{text:List UInt8}{a b:Nat}(hab:a≤b): ∀{l:List (Nat×Nat×Nat)},An4 text b l→An4 text a l
 |[],_=>trivial
 |x::l,h=>⟨Nat.le_trans hab h.1,h.2⟩
theorem Axx{text:List UInt8}: ∀(f at_ k:Nat) (l:List (Nat×Nat×Nat)),N4 f (text.drop at_) at_ k= .inl l→An4 text at_ l
 |0,at_,k,l,h=>by simp[N4] at h;subst h;trivial
 |f+1,at_,k,l,h=>by
  rw[N4] at h
  by_cases h0:text.drop at_=[]
  ·rw[if_pos h0] at h;cases h;trivial
  ·rw[if_neg h0] at h
   have hpos:0<(text.drop at_).length:=List.length_pos_iff.2 h0
   rw[List.length_drop] at hpos
   by_cases h1:(Bk (text.drop at_)).2.2=0
   ·rw[if_neg (not_not_intro h1)] at h
    have hnx:Bk (text.drop at_)=((Bk (text.drop at_)).1,(Bk (text.drop at_)).2.1,0):=by rw[←h1]
    by_cases h2:k=1500
    ·rw[if_pos h2] at h;cases h
    ·rw[if_neg h2] at h
     split at h
     ·rename_i l' hr
      cases h
      have hdr:((text.drop at_).drop (Bk (text.drop at_)).2.1).drop (A8 false ((text.drop at_).drop (Bk (text.drop at_)).2.1))=text.drop (at_+(Bk (text.drop at_)).2.1+A8 false ((text.drop at_).drop (Bk (text.drop at_)).2.1)):=Buc _ _ _ _
      rw[hdr] at hr
      exact⟨Nat.le_refl _,by omega,hnx,An4.ahead (Nat.le_add_right _ _) (Axx f _ _ _ hr)⟩
     ·cases h
   ·rw[if_pos h1] at h;cases h
end Go.Av.G
end
section
set_option linter.unusedVariables false
set_option linter.unusedSimpArgs false
set_option maxRecDepth 4000
set_option maxHeartbeats 4000000
namespace Go.Av.G
open Go Go.Av Go.Proofs
def okT(t:Ac):Bool:=decide (((Bk t.Af).1:Int)=t.Ae∧(Bk t.Af).2.1=t.Af.length∧(Bk t.Af).2.2=0)
theorem Bap{t:Ac}(hl:t.Af.length<4294967281):Wd t=some (okT t):=by
 unfold Wd okT
 cases ht:t.Af with
 |nil=>
  have e0:(([]:List UInt8)==[])=true:=rfl
  rw[if_pos e0]
  simp[Bk]
 |cons b u=>
  rw[ht] at hl
  have he:((b::u:List UInt8)==[])=false:=rfl
  simp only[he,Bool.false_eq_true,if_false,Bjz hl,trI,Option.bind_some,Option.some.injEq]
  rw[Bool.eq_iff_iff]
  simp only[Bool.and_eq_true,beq_iff_eq,decide_eq_true_eq]
  constructor
  ·rintro⟨⟨h1,h2⟩,h3⟩
   exact⟨h2,by omega,by omega⟩
  ·rintro⟨h1,h2,h3⟩
   exact⟨⟨by omega,h1⟩,by omega⟩
def Bev(l:List Ac):Nat:=(l.map fun t=>t.Af.length).sum
end Go.Av.G
end
section
set_option linter.unusedVariables false
set_option linter.unusedSimpArgs false
set_option maxRecDepth 4000
set_option maxHeartbeats 4000000
namespace Go.Av.G
open Go Go.Av Go.Proofs
theorem Bp2{l:List Ac}{t:Ac}(h:t∈l):t.Af.length≤Bev l:=by
 induction l with
 |nil=>cases h
 |cons u l ih=>
  simp only[Bev,List.map_cons,List.sum_cons]
  rcases List.mem_cons.1 h with rfl|h
  ·omega
  ·have:=ih h
   unfold Bev at this
   omega
theorem An4.toks{text:List UInt8}: ∀{l:List (Nat×Nat×Nat)} {at_:Nat},An4 text at_ l→at_≤text.length→l.length+at_≤text.length∧Bev (l.map (Aqo text))+at_≤text.length∧ ∀t∈l.map (Aqo text),okT t=true
 |[],at_,_,h=>by simp[Bev];omega
 |x::l,at_,hc,h=>by
  obtain⟨c1,c2,c3,c4⟩:=hc
  obtain⟨n1,n2⟩:=P3 c3
  rw[List.length_drop] at n2
  obtain⟨i1,i2,i3⟩:=An4.toks c4 (by omega)
  have htl:(Aqo text x).Af.length=x.2.2:=by
   show((text.drop x.1).take x.2.2).length=_
   rw[List.length_take,List.length_drop];omega
  refine⟨by simp only[List.length_cons];omega,?_,?_⟩
  ·unfold Bev at i2⊢
   simp only[List.map_cons,List.sum_cons,htl]
   omega
  ·intro t ht
   rw[List.map_cons,List.mem_cons] at ht
   rcases ht with rfl|ht
   ·have h3:=Ayg (m:=x.2.2) c3 (Nat.le_refl _)
    unfold okT
    refine decide_eq_true ?_
    rw[htl]
    have hT:(Aqo text x).Af=(text.drop x.1).take x.2.2:=rfl
    rw[hT,h3]
    exact⟨rfl,rfl,rfl⟩
   ·exact i3 t ht
theorem Bni{text:List UInt8}(hl:text.length≤8000){l:List (Nat×Nat×Nat)}(h:Ao1 text= .inl l):l.length≤text.length∧Bev (l.map (Aqo text))≤text.length∧ ∀t∈l.map (Aqo text),okT t=true:=by
 have hch:An4 text 0 l:=by
  unfold Ao1 at h
  exact(Axx _ _ _ _ h).ahead (Nat.zero_le _)
 have:=hch.toks (Nat.zero_le _)
 exact⟨by omega,by omega,this.2.2⟩
end Go.Av.G
end
section
set_option linter.unusedVariables false
set_option linter.unusedSimpArgs false
set_option maxRecDepth 4000
set_option maxHeartbeats 4000000
namespace Go.Av.G
open Go Go.Av Go.Proofs
theorem Amg{f:Int→Option (Int⊕Int)}{s:List UInt8}{q:UInt8→Bool}(hl:s.length<4611686018427387904)
  (hin: ∀(i:Nat) (h:i<s.length),f i=some (if q s[i]=true then .inl (IntKind.wrap .i64 ((i:Int)+1)) else .inr (i:Int)))
  (hout:f (s.length:Int)=some (.inr (s.length:Int))): ∀(n i:Nat),s.length-i=n→i≤s.length→A1 f (i:Int)=some ((i+Aj q (s.drop i):Nat):Int):=by
 intro n
 induction n with
 |zero=>
  intro i h1 h2
  have:i=s.length:=by omega
  subst this
  rw[Aw hout];simp[Ho]
 |succ n ih=>
  intro i h1 h2
  have hi:i<s.length:=by omega
  have h:=hin i hi
  rw[List.drop_eq_getElem_cons hi,Cs]
  by_cases hq:q s[i]=true
  ·rw[if_pos hq,wrap64 (by omega) (by omega),show(i:Int)+1=((i+1:Nat):Int) from rfl] at h
   rw[Bj h,if_pos hq,ih (i+1) (by omega) (by omega)]
   congr 2;omega
  ·rw[if_neg hq] at h
   rw[Aw h,if_neg hq];rfl
theorem Buh(b:UInt8):decide ((97:Int)≤(b.toNat:Int)∧(b.toNat:Int)≤122)=Apf b:=decide_eq_decide.2 (by omega)
theorem Bq3(b:UInt8):decide ((48:Int)≤(b.toNat:Int)∧(b.toNat:Int)≤57)=digB b:=decide_eq_decide.2 (by omega)
theorem A0u(n:Int):Da n=some (decide (97≤n∧n≤122)):=by simp[Da]
theorem Amd(n:Int):Bx n=some (decide (48≤n∧n≤57)):=by simp[Bx]
theorem Mg{b:UInt8}{n:Nat}(hn:n<256):((b.toNat:Int)==(n:Int))=decide (b=UInt8.ofNat n):=by
 rw[Bool.eq_iff_iff,decide_eq_true_eq,beq_iff_eq,←Als (b:=b) hn]
 omega
theorem A0t{s:List UInt8}(hl:s.length<4611686018427387904):Cn s=some (Aj digB s:Int):=by
 unfold Cn
 refine Bi (Amg (q:=digB) hl ?_ ?_ s.length 0 (by omega) (by omega)) (by simp)
 ·intro i hi
  have hd:decide ((i:Int)<(s.length:Int))=true:=decide_eq_true (by omega)
  simp only[hd,Option.bind_some,P9 hi,A0,cond_true,Amd,Bq3,Bool.true_and]
  split<;>rfl
 ·have hd:decide ((s.length:Int)<(s.length:Int))=false:=decide_eq_false (by omega)
  simp only[hd,Option.bind_some,gdO,cond_false,Bool.false_and,Bool.false_eq_true,if_false]
def reT(x:Nat×Nat×Nat):Ad:=if x.2.2=0 then⟨(x.1:Int),(x.2.1:Int),0⟩ else⟨0,0,(x.2.2:Int)⟩
theorem Bpr{s:List UInt8}(hl:s.length<4611686018427387904):Gb s=some (reT (0,Aak s)):=by
 unfold Gb
 refine Bi (Amg (q:=Alt) hl ?_ ?_ s.length 0 (by omega) (by omega)) ?_
 ·intro i hi
  have hd:decide ((i:Int)<(s.length:Int))=true:=decide_eq_true (by omega)
  have hw:(Apf s[i]||digB s[i]||((s[i].toNat:Int)==95))=Alt s[i]:=by
   have h95:((s[i].toNat:Int)==95)=decide (s[i].toNat=95):=by
    rw[Bool.eq_iff_iff,decide_eq_true_eq,beq_iff_eq];omega
   rw[h95]
   unfold Apf digB Alt
   rw[Bool.eq_iff_iff]
   simp
   omega
  simp only[hd,Option.bind_some,P9 hi,A0,cond_true,A0u,Buh,Bool.true_and]
  cases h1:Apf s[i] with
  |true=>
   rw[h1] at hw
   simp only[Bool.true_or] at hw
   simp only[gdO,Bool.not_true,cond_false,Option.bind_some,Bool.true_or,if_true,←hw]
  |false=>
   rw[h1] at hw
   simp only[Bool.not_false,cond_true,Amd,Bq3,A0,Option.bind_some,Bool.false_or]
   cases h2:digB s[i] with
   |true=>
    rw[h2] at hw
    simp only[Bool.false_or,Bool.true_or] at hw
    simp only[gdO,Bool.not_true,cond_false,Option.bind_some,Bool.true_or,if_true,←hw]
   |false=>
    rw[h2] at hw
    simp only[Bool.false_or] at hw
    simp only[Bool.not_false,cond_true,Bool.false_or,hw]
    split<;>rfl
 ·have hd:decide ((s.length:Int)<(s.length:Int))=false:=decide_eq_false (by omega)
  simp only[hd,Option.bind_some,gdO,cond_false,Bool.false_and,Bool.false_eq_true,if_false]
 ·simp only[Nat.zero_add,List.drop_zero,Aak]
  by_cases h:32<Aj Alt s
  ·rw[if_pos (decide_eq_true (by omega)),if_pos h];rfl
  ·rw[if_neg (by simp;omega),if_neg h];rfl
theorem Bpk{α:Type}{s:List UInt8}(hl:s.length<4611686018427387904){d:Nat}(hd:d≤s.length)(F:Int→Option α):
  ((some (decide ((IntKind.wrap .i64 ((d:Int)+1))<(s.length:Int)))).bind fun c3=>
 (gdO c3 (byO s (d:Int)) 0).bind fun x4=>
 (some (c3&&(x4==46))).bind fun c5=>
 (gdO c5 (byO s (IntKind.wrap .i64 ((d:Int)+1))) 0).bind fun x6=>
 (gdO c5 (Bx x6) (default:Bool)).bind fun x7=>
 ((if (c5&&x7)=true then
   (slO s (IntKind.wrap .i64 ((d:Int)+1)) (s.length:Int)).bind fun x9=>
   (Cn x9).bind fun x10=>
   some x10
 else
  some 0):Option Int).bind F)=F (E7 (s.drop d):Int):=by
 have e1:IntKind.wrap .i64 ((d:Int)+1)=((d+1:Nat):Int):=by rw[wrap64 (by omega) (by omega)];rfl
 rw[e1]
 by_cases h1:d+1<s.length
 ·have hc:decide (((d+1:Nat):Int)<(s.length:Int))=true:=decide_eq_true (by omega)
  have hdr:s.drop d=s[d]::s[d+1]::s.drop (d+2):=by
   rw[List.drop_eq_getElem_cons (show d<s.length by omega),List.drop_eq_getElem_cons h1]
  have hdr1:s.drop (d+1)=s[d+1]::s.drop (d+2):=List.drop_eq_getElem_cons h1
  have h46:((s[d].toNat:Int)==46)=decide (s[d]=46):=Mg (n:=46) (by omega)
  have hm:E7 (s.drop d)=if s[d]=46 then Aj digB (s[d+1]::s.drop (d+2)) else 0:=by rw[hdr];rfl
  simp only[hc,Option.bind_some,A0,P9 (show d<s.length by omega),cond_true,h46,Bool.true_and]
  rw[hm]
  by_cases h2:s[d]=46
  ·simp only[h2,decide_true,P9 h1,A0,cond_true,Option.bind_some,Amd,Bq3,Bool.true_and,if_true]
   cases h3:digB s[d+1] with
   |true=>
    have hs:=Hh (l:=s) (n:=d+1) (by omega)
    have hr:=A0t (s:=s.drop (d+1)) (by rw[List.length_drop];omega)
    simp only[if_true,hs,Option.bind_some,hr]
    rw[hdr1]
   |false=>
    simp only[Cs,h3,Bool.false_eq_true,if_false]
    rfl
  ·simp only[h2,decide_false,gdO,cond_false,Bool.false_and,Bool.false_eq_true,if_false,Option.bind_some]
   rfl
 ·have hc:decide (((d+1:Nat):Int)<(s.length:Int))=false:=decide_eq_false (by omega)
  have hm:E7 (s.drop d)=0:=by
   have:=Arh (s.drop d)
   rw[List.length_drop] at this
   unfold E7
   split
   ·rename_i b c t he
    have:=congrArg List.length he
    rw[List.length_drop] at this
    simp at this
    omega
   ·rfl
  rw[hm]
  simp only[hc,gdO,cond_false,Bool.false_and,Bool.false_eq_true,if_false,Option.bind_some]
  rfl
theorem Bhy{b:UInt8}{t:List UInt8}(hl:(b::t).length<4611686018427387904):Ep (b::t)=some (reT (1,Ati (b::t))):=by
 generalize hs:b::t=s at hl
 have hd:=Dv digB s
 have hm:=Arh (s.drop (Aj digB s))
 rw[List.length_drop] at hm
 have h0:byO s 0=some (b.toNat:Int):=by rw[←hs];exact Dn
 have hh:s.head?=some b:=by rw[←hs];rfl
 unfold Ep
 refine Bi (A0t hl) ?_
 refine(Bpk hl hd _).trans ?_
 unfold Ati
 generalize Aj digB s=d at hd hm
 generalize E7 (s.drop d)=m at hm
 have h48:((b.toNat:Int)==48)=decide (b=48):=Mg (n:=48) (by omega)
 simp only[h0,A0,Option.bind_some,hh,Option.some.injEq]
 by_cases c1:15<d
 ·have:decide ((d:Int)>15)=true:=decide_eq_true (by omega)
  simp only[this,Bool.true_or,if_true]
  rw[if_pos (.inl c1)]
  rfl
 ·have e1:decide ((d:Int)>15)=false:=decide_eq_false (by omega)
  by_cases c2:9<m
  ·have:decide ((m:Int)>9)=true:=decide_eq_true (by omega)
   simp only[e1,this,Bool.false_or,Bool.true_or,if_true]
   rw[if_pos (.inr (.inl c2))]
   rfl
  ·have e2:decide ((m:Int)>9)=false:=decide_eq_false (by omega)
   simp only[e1,e2,Bool.or_self,Bool.not_false,Bool.true_and,Bool.false_or]
   by_cases c3:1<d∧b=48
   ·have e3:decide ((d:Int)>1)=true:=decide_eq_true (by omega)
    simp only[e3,cond_true,h48,decide_eq_true c3.2,Bool.and_self,if_true]
    rw[if_pos (.inr (.inr c3))]
    rfl
   ·have e3:(decide ((d:Int)>1)&&((bif decide ((d:Int)>1) then(b.toNat:Int) else 0)==48))=false:=by
     by_cases q:1<d
     ·have e3:decide ((d:Int)>1)=true:=decide_eq_true (by omega)
      simp only[e3,cond_true,h48,Bool.true_and]
      exact decide_eq_false (fun hb=>c3 ⟨q,hb⟩)
     ·have e3:decide ((d:Int)>1)=false:=decide_eq_false (by omega)
      simp only[e3,Bool.false_and]
    have hno: ¬(15<d∨9<m∨1<d∧b=48):=fun h=>h.elim c1 (fun h=>h.elim c2 c3)
    simp only[e3,Bool.false_eq_true,if_false,if_neg hno]
    by_cases c4:0<m
    ·have e4:IntKind.wrap .i64 ((d:Int)+1)=((d+1:Nat):Int):=by rw[wrap64 (by omega) (by omega)];rfl
     have e5:IntKind.wrap .i64 (((d+1:Nat):Int)+(m:Int))=((d+1+m:Nat):Int):=by rw[wrap64 (by omega) (by omega)];omega
     rw[e4,e5,if_pos (decide_eq_true (show(m:Int)>0 by omega)),if_pos c4]
     rfl
    ·rw[if_neg (show ¬(decide ((m:Int)>0)=true) by simp;omega),if_neg c4]
     rfl
end Go.Av.G
end
section
set_option linter.unusedVariables false
set_option linter.unusedSimpArgs false
set_option maxRecDepth 4000
set_option maxHeartbeats 4000000
namespace Go.Av.G
open Go Go.Av Go.Proofs
theorem Bnk{O:Type}{f:Int→Option (Int⊕O)}{u:List UInt8}{q:UInt8→Bool}{o e:O}(hl:u.length<4611686018427387904)
  (hin: ∀(i:Nat) (h:i<u.length),f i=some (if q u[i]=true then .inl (IntKind.wrap .i64 ((i:Int)+1)) else .inr o))
  (hout:f (u.length:Int)=some (.inr e)): ∀(n i:Nat),u.length-i=n→i≤u.length→A1 f (i:Int)=some (if Aj q (u.drop i)<u.length-i then o else e):=by
 intro n
 induction n with
 |zero=>
  intro i h1 h2
  have:i=u.length:=by omega
  subst this
  rw[Aw hout,if_neg (by omega)]
 |succ n ih=>
  intro i h1 h2
  have hi:i<u.length:=by omega
  have h:=hin i hi
  rw[List.drop_eq_getElem_cons hi,Cs]
  by_cases hq:q u[i]=true
  ·rw[if_pos hq,wrap64 (by omega) (by omega),show(i:Int)+1=((i+1:Nat):Int) from rfl] at h
   rw[Bj h,ih (i+1) (by omega) (by omega)]
   simp only[hq,if_true]
   by_cases h3:Aj q (u.drop (i+1))<u.length-(i+1)
   ·rw[if_pos h3,if_pos (by omega)]
   ·rw[if_neg h3,if_neg (by omega)]
  ·rw[if_neg hq] at h
   rw[Aw h,if_neg hq,if_pos (by omega)]
theorem Bhz{b:UInt8}{t:List UInt8}(hl:(b::t).length<4611686018427387904):Er (b::t)=some (reT (2,Ats (b::t))):=by
 have hn:=Dv Ca t
 have hlt:(b::t).length=t.length+1:=rfl
 unfold Er
 refine Bi (Amg (q:=Ca) hl ?_ ?_ t.length 1 (by simp) (by simp)) ?_
 ·intro i hi
  have hd:decide ((i:Int)<((b::t).length:Int))=true:=decide_eq_true (by omega)
  have hq:(((b::t)[i].toNat:Int)!=34)=Ca (b::t)[i]:=by
   have:=Mg (b:=(b::t)[i]) (n:=34) (by omega)
   unfold Ca
   rw[show(((b::t)[i].toNat:Int)!=34)= !(((b::t)[i].toNat:Int)==((34:Nat):Int)) from rfl,this]
   rw[Bool.eq_iff_iff]
   simp
  simp only[hd,Option.bind_some,P9 hi,A0,cond_true,Bool.true_and,hq]
  split<;>rfl
 ·have hd:decide (((b::t).length:Int)<((b::t).length:Int))=false:=decide_eq_false (by omega)
  simp only[hd,Option.bind_some,gdO,cond_false,Bool.false_and,Bool.false_eq_true,if_false]
 ·simp only[List.drop_succ_cons,List.drop_zero,Ats]
  by_cases c1:Aj Ca t=t.length
  ·have:(((1+Aj Ca t:Nat):Int)==((b::t).length:Int))=true:=by rw[beq_iff_eq,hlt];omega
   rw[if_pos this,if_pos c1]
   rfl
  ·have:(((1+Aj Ca t:Nat):Int)==((b::t).length:Int))=false:=by rw[beq_eq_false_iff_ne,hlt];omega
   simp only[this,Bool.false_eq_true,if_false,c1]
   have hu:((b::t).take (1+Aj Ca t)).length=1+Aj Ca t:=by rw[List.length_take,hlt];omega
   have hu2:((b::t).take (1+Aj Ca t)).drop 1=t.take (Aj Ca t):=by
    rw[Nat.add_comm 1];rfl
   refine Bi (Bnk (u:=(b::t).take (1+Aj Ca t)) (q:=prB) (o:=(.inr (⟨0,0,3⟩:Ad):Unit⊕Ad)) (e:= .inl ()) (by rw[hu];omega) ?_ ?_ (Aj Ca t) 1 (by rw[hu];omega) (by rw[hu];omega)) ?_
   ·intro i hi
    have hi2:i<(b::t).length:=by rw[hu] at hi;rw[hlt];omega
    have hd:decide ((i:Int)<((1+Aj Ca t:Nat):Int))=true:=decide_eq_true (by rw[hu] at hi;omega)
    have hg:((b::t).take (1+Aj Ca t))[i]=(b::t)[i]:=by simp
    rw[hg]
    generalize hx:(b::t)[i]=x
    have hb:byO (b::t) (i:Int)=some (x.toNat:Int):=by rw[P9 hi2,hx]
    simp only[hd,if_true,hb,Option.bind_some,A0]
    have hp:(decide ((x.toNat:Int)<32)||decide ((bif !decide ((x.toNat:Int)<32) then(x.toNat:Int) else 0)>126))= !prB x:=by
     by_cases h1:(x.toNat:Int)<32
     ·simp only[h1,decide_true,Bool.true_or]
      unfold prB
      rw[decide_eq_false (by omega)]
      rfl
     ·simp only[h1,decide_false,Bool.false_or,Bool.not_false,cond_true]
      unfold prB
      rw[Bool.eq_iff_iff]
      simp
      omega
    rw[hp]
    cases prB x<;>rfl
   ·rw[hu]
    have hd:decide (((1+Aj Ca t:Nat):Int)<((1+Aj Ca t:Nat):Int))=false:=decide_eq_false (by omega)
    simp only[hd,Bool.false_eq_true,if_false]
   ·rw[hu,hu2,Nat.add_sub_cancel_left]
    have e1:IntKind.wrap .i64 (((1+Aj Ca t:Nat):Int)+1)=((Aj Ca t+2:Nat):Int):=by rw[wrap64 (by omega) (by omega)];omega
    by_cases c3:Aj prB (t.take (Aj Ca t))<Aj Ca t
    ·rw[if_pos c3,if_pos (show 32<Aj Ca t∨Aj prB (t.take (Aj Ca t))<Aj Ca t from .inr c3)]
     rfl
    ·rw[if_neg c3]
     simp only[e1]
     by_cases c2:32<Aj Ca t
     ·rw[if_pos (decide_eq_true (by omega)),if_pos (show 32<Aj Ca t∨Aj prB (t.take (Aj Ca t))<Aj Ca t from .inl c2)]
      rfl
     ·rw[if_neg (by simp only[decide_eq_true_eq];omega),if_neg (show ¬(32<Aj Ca t∨Aj prB (t.take (Aj Ca t))<Aj Ca t) from fun h=>h.elim c2 c3)]
      rfl
theorem Bpn{b:UInt8}{t:List UInt8}(hl:(b::t).length<4611686018427387904):Ga (b::t)=some (reT (3,Atw (b::t))):=by
 have tail:(((A1 (fun(qj8:Int)=>match qj8 with
   |i9=>(
    if (decide (i9<([123,125,40,41,91,93,59,58,44,37,61,60,62,43,45,42,47].length:Int)))=true then
     (byO [123,125,40,41,91,93,59,58,44,37,61,60,62,43,45,42,47] i9).bind fun x10=>
     (byO (b::t) 0).bind fun x11=>
     if (x10==x11)=true then
      some (.inr (.inr (⟨3,1,0⟩:Ad)))
     else
      some (.inl (IntKind.wrap .i64 (i9+1)))
    else
     some (.inr (.inl ())):Option (Int⊕(Unit⊕Ad)))) 0):Option (Unit⊕Ad)))=some (if b∈Kg then .inr ⟨3,1,0⟩ else .inl ()):=by
  rw[Al6 (l:=Kg) (fun c=>c==b) (o:= .inr (⟨3,1,0⟩:Ad)) (e:= .inl ()) (by decide)]
  ·have:Kg.any (fun c=>c==b)=true↔b∈Kg:=by
    simp only[List.any_eq_true,beq_iff_eq]
    exact⟨fun⟨x,h1,h2⟩=>h2▸h1,fun h=>⟨b,h,rfl⟩⟩
   by_cases h:b∈Kg
   ·rw[if_pos (this.2 h),if_pos h]
   ·rw[if_neg (mt this.1 h),if_neg h]
  ·intro i hi
   show(if decide ((i:Int)<(Kg.length:Int))=true then(byO Kg (i:Int)).bind _ else _)=_
   rw[if_pos (decide_eq_true (by omega)),P9 hi]
   simp only[Option.bind_some,Dn]
   have:((Kg[i].toNat:Int)==(b.toNat:Int))=(Kg[i]==b):=by
    rw[Bool.eq_iff_iff,beq_iff_eq,beq_iff_eq,←UInt8.toNat_inj];omega
   rw[this]
   split<;>rfl
  ·intro i hi
   show(if decide ((i:Int)<(Kg.length:Int))=true then _ else _)=_
   rw[if_neg (by simp only[decide_eq_true_eq];omega)]
 have fin: ∀x:Unit⊕Ad,x=(if b∈Kg then .inr ⟨3,1,0⟩ else .inl ())→(match x with
  | .inr o=>some o
  | .inl _=>some (⟨0,0,14⟩:Ad))=some (reT (3,if b∈Kg then(1,0) else(0,14))):=by
  rintro x rfl
  by_cases h:b∈Kg
  ·rw[if_pos h,if_pos h];rfl
  ·rw[if_neg h,if_neg h];rfl
 unfold Ga Atw
 cases t with
 |nil=>
  have e:decide ((([b]:List UInt8).length:Int)>1)=false:=by simp
  have h1: ¬([b].take 2=([60,61]:List UInt8)∨[b].take 2=[62,61]∨[b].take 2=[46,46]):=by simp
  rw[if_neg h1]
  simp only[e,Option.bind_some,gdO,Bool.false_and,Bool.false_eq_true,if_false]
  exact Bi tail (fin _ rfl)
 |cons c t=>
  have e:decide (((b::c::t).length:Int)>1)=true:=decide_eq_true (by simp;omega)
  have h2:=I1 (l:=b::c::t) (n:=2) (by simp)
  rw[show((2:Nat):Int)=2 from rfl,show(b::c::t).take 2=[b,c] from rfl] at h2
  rw[show(b::c::t).take 2=[b,c] from rfl]
  simp only[e,h2,A0,Option.bind_some,cond_true,Bool.true_and]
  by_cases p1:[b,c]=([60,61]:List UInt8)
  ·have e1:([b,c]==([60,61]:List UInt8))=true:=by rw[beq_iff_eq];exact p1
   simp only[e1,Bool.true_or,if_true]
   rw[if_pos (.inl p1)]
   rfl
  ·have e1:([b,c]==([60,61]:List UInt8))=false:=by rw[beq_eq_false_iff_ne];exact p1
   simp only[e1,Bool.false_or,Bool.not_false,cond_true]
   by_cases p2:[b,c]=([62,61]:List UInt8)
   ·have e2:([b,c]==([62,61]:List UInt8))=true:=by rw[beq_iff_eq];exact p2
    simp only[e2,Bool.true_or,if_true]
    rw[if_pos (.inr (.inl p2))]
    rfl
   ·have e2:([b,c]==([62,61]:List UInt8))=false:=by rw[beq_eq_false_iff_ne];exact p2
    simp only[e2,Bool.false_or,Bool.not_false,cond_true]
    by_cases p3:[b,c]=([46,46]:List UInt8)
    ·have e3:([b,c]==([46,46]:List UInt8))=true:=by rw[beq_iff_eq];exact p3
     simp only[e3,if_true]
     rw[if_pos (.inr (.inr p3))]
     rfl
    ·have e3:([b,c]==([46,46]:List UInt8))=false:=by rw[beq_eq_false_iff_ne];exact p3
     simp only[e3,Bool.false_eq_true,if_false]
     rw[if_neg (fun h=>h.elim p1 (fun h=>h.elim p2 p3))]
     exact Bi tail (fin _ rfl)
theorem Bd7{b:UInt8}{t:List UInt8}(hl:(b::t).length<4611686018427387904):C5 (b::t)=some (reT (Bk (b::t))):=by
 have hn:Bk (b::t)=if Apf b=true then(0,Aak (b::t)) else if digB b=true then(1,Ati (b::t)) else if b=34 then(2,Ats (b::t)) else(3,Atw (b::t)):=rfl
 unfold C5
 rw[hn]
 have hQ:((b.toNat:Int)==34)=decide (b=34):=Mg (n:=34) (by omega)
 simp only[Dn,Option.bind_some,A0u,Buh,Amd,Bq3,hQ,Bpr hl,Bhy hl,Bhz hl,Bpn hl]
 by_cases h1:Apf b=true
 ·rw[if_pos h1,if_pos h1]
 ·rw[if_neg h1,if_neg h1]
  by_cases h2:digB b=true
  ·rw[if_pos h2,if_pos h2]
  ·rw[if_neg h2,if_neg h2]
   by_cases h3:b=34
   ·rw[if_pos (decide_eq_true h3),if_pos h3]
   ·rw[if_neg (by simp only[decide_eq_true_eq];exact h3),if_neg h3]
theorem A5n{t:Ac}(hl:t.Af.length<4611686018427387904):Dp t=some (okT t):=by
 unfold Dp okT
 cases ht:t.Af with
 |nil=>
  have e0:(([]:List UInt8)==[])=true:=rfl
  rw[if_pos e0]
  simp[Bk]
 |cons b u=>
  rw[ht] at hl
  have he:((b::u:List UInt8)==[])=false:=rfl
  simp only[he,Bool.false_eq_true,if_false,Bd7 hl,Option.bind_some,Option.some.injEq]
  generalize Bk (b::u)=x
  obtain⟨k,n,e⟩:=x
  unfold reT
  by_cases h:e=0
  ·subst h
   rw[Bool.eq_iff_iff]
   simp only[if_true,Bool.and_eq_true,beq_iff_eq,decide_eq_true_eq]
   constructor
   ·rintro⟨⟨h1,h2⟩,h3⟩
    exact⟨h2,by omega,trivial⟩
   ·rintro⟨h1,h2,h3⟩
    exact⟨⟨trivial,h1⟩,by omega⟩
  ·rw[Bool.eq_iff_iff]
   simp only[h,if_false,Bool.and_eq_true,beq_iff_eq,decide_eq_true_eq]
   constructor
   ·rintro⟨⟨h1,h2⟩,h3⟩
    omega
   ·rintro⟨h1,h2,h3⟩
    exact h3.elim
end Go.Av.G
end
section
set_option linter.unusedVariables false
set_option linter.unusedSimpArgs false
set_option maxRecDepth 4000
set_option maxHeartbeats 4000000
namespace Go.Av.G
open Go Go.Av Go.Proofs
def Apk(b:UInt8):Bool:=b !=10
theorem A5v: ∀t:List UInt8,A8 true t=Aj Apk t+A8 false (t.drop (Aj Apk t))
 |[]=>by simp[A8,Ho]
 |b::t=>by
  have ih:=A5v t
  rw[A8,Cs]
  by_cases hb:b=10
  ·subst hb
   have:Apk 10=false:=rfl
   rw[if_pos rfl,this]
   simp only[Bool.false_eq_true,if_false,List.drop_zero,Nat.zero_add]
   rfl
  ·have h2:Apk b=true:=by unfold Apk;simpa using hb
   rw[if_neg hb,ih,if_pos h2,List.drop_succ_cons]
   omega
theorem Aoc{S O O':Type}{F:S→Option (S⊕O)}{F':S→Option (S⊕O')}{g:O→O'}(h: ∀s,F' s=(F s).map fun r=>match r with| .inl a=> .inl a| .inr o=> .inr (g o)){o:O}: ∀(n:Nat) (s:S),Mu F n s=some o→Mu F' n s=some (g o)
 |0,s,hn=>by cases hn
 |n+1,s,hn=>by
  rw[Mu] at hn⊢
  rw[h s]
  cases hf:F s with
  |none=>rw[hf] at hn;cases hn
  |some r=>
   rw[hf] at hn
   cases r with
   |inl a=>exact Aoc h n a hn
   |inr o'=>cases hn;rfl
theorem A12{S O O':Type}{F:S→Option (S⊕O)}{F':S→Option (S⊕O')}{g:O→O'}(h: ∀s,F' s=(F s).map fun r=>match r with| .inl a=> .inl a| .inr o=> .inr (g o)){s:S}{o:O}(hl:A1 F s=some o):A1 F' s=some (g o):=by
 obtain⟨n,hn⟩:=P2.1 hl
 exact P2.2 ⟨n,Aoc h n s hn⟩
theorem Bd4{s:List UInt8}(hl:s.length<4611686018427387904): ∀(n i:Nat),s.length-i≤n→i≤s.length→ ∃o:Int⊕Int,
  (A1 (fun(qj2:Int)=>match qj2 with
  |n3=>(
   if (decide (n3<(s.length:Int)))=true then
    (byO s n3).bind fun x4=>
    if (x4==35)=true then
     A1 (fun(qj5:Int)=>match qj5 with
      |n6=>(
       (some (decide (n6<(s.length:Int)))).bind fun c7=>
       (gdO c7 (byO s n6) 0).bind fun x8=>
       if (c7&&(x8 !=10))=true then
        some (.inl (IntKind.wrap .i64 (n6+1)))
       else
        some (.inr (.inl n6)):Option (Int⊕(Int⊕(Int⊕Int))))) n3
    else
     (byO s n3).bind fun x10=>
     (some (x10==32)).bind fun c11=>
     (gdO (!c11) (byO s n3) 0).bind fun x12=>
     (some (c11||(x12==9))).bind fun c13=>
     (gdO (!c13) (byO s n3) 0).bind fun x14=>
     if (c13||(x14==10))=true then
      some (.inl (IntKind.wrap .i64 (n3+1)))
     else
      some (.inr (.inr n3))
   else
    some (.inr (.inl n3)):Option (Int⊕(Int⊕Int)))) (i:Int):Option (Int⊕Int))=some o∧(match o with| .inr o=>some o| .inl n=>some n)=some ((i+A8 false (s.drop i):Nat):Int):=by
 intro n
 induction n with
 |zero=>
  intro i h1 h2
  have:i=s.length:=by omega
  subst this
  refine⟨.inl (s.length:Int),?_,by simp[A8]⟩
  rw[Aw]
  have hd:decide ((s.length:Int)<(s.length:Int))=false:=decide_eq_false (by omega)
  simp only[hd,Bool.false_eq_true,if_false]
 |succ n ih=>
  intro i h1 h2
  by_cases he:i=s.length
  ·exact ih i (by omega) h2
  have hi:i<s.length:=by omega
  have hd:decide ((i:Int)<(s.length:Int))=true:=decide_eq_true (by omega)
  have hdr:=List.drop_eq_getElem_cons hi
  have hb:=P9 hi
  rw[hdr]
  generalize s[i]=b at hb hdr
  have h35:((b.toNat:Int)==35)=decide (b=35):=Mg (n:=35) (by omega)
  have h32:((b.toNat:Int)==32)=decide (b=32):=Mg (n:=32) (by omega)
  have h9:((b.toNat:Int)==9)=decide (b=9):=Mg (n:=9) (by omega)
  have h10:((b.toNat:Int)==10)=decide (b=10):=Mg (n:=10) (by omega)
  have hw:IntKind.wrap .i64 ((i:Int)+1)=((i+1:Nat):Int):=by rw[wrap64 (by omega) (by omega)];rfl
  by_cases p1:b=35
  ·have hin:=Amg (s:=s) (q:=Apk) (f:=fun(qj5:Int)=>match qj5 with
      |n6=>(
       (some (decide (n6<(s.length:Int)))).bind fun c7=>
       (gdO c7 (byO s n6) 0).bind fun x8=>
       if (c7&&(x8 !=10))=true then
        some (.inl (IntKind.wrap .i64 (n6+1)))
       else
        some (.inr n6):Option (Int⊕Int))) hl (by
     intro k hk
     have hd:decide ((k:Int)<(s.length:Int))=true:=decide_eq_true (by omega)
     have hq:((s[k].toNat:Int)!=10)=Apk s[k]:=by
      rw[show((s[k].toNat:Int)!=10)= !((s[k].toNat:Int)==((10:Nat):Int)) from rfl,Mg (n:=10) (by omega)]
      unfold Apk
      rw[Bool.eq_iff_iff]
      simp
     simp only[hd,Option.bind_some,P9 hk,A0,cond_true,Bool.true_and,hq]
     split<;>rfl) (by
     have hd:decide ((s.length:Int)<(s.length:Int))=false:=decide_eq_false (by omega)
     simp only[hd,Option.bind_some,gdO,cond_false,Bool.false_and,Bool.false_eq_true,if_false]) (s.length-i) i rfl h2
   have hsp:Aj Apk (s.drop i)=Aj Apk (s.drop (i+1))+1:=by
    rw[hdr,Cs,if_pos (by subst p1;rfl)]
   have hle:=Dv Apk (s.drop i)
   rw[List.length_drop] at hle
   obtain⟨o,e1,e2⟩:=ih (i+Aj Apk (s.drop i)) (by omega) (by omega)
   refine⟨o,?_,?_⟩
   ·rw[Bj (s':=((i+Aj Apk (s.drop i):Nat):Int))]
    ·exact e1
    ·simp only[hd,if_true,hb,Option.bind_some,h35,p1,decide_true]
     exact A12 (fun n=>(by simp only[Option.bind_some];cases gdO (decide (n<(s.length:Int))) (byO s n) 0 with|none=>rfl|some x=>(simp only[Option.bind_some];split<;>rfl))) hin
   ·rw[e2]
    have:A8 false (b::s.drop (i+1))=1+A8 true (s.drop (i+1)):=by subst p1;rfl
    rw[this,A5v,hsp,List.drop_drop,show i+(Aj Apk (s.drop (i+1))+1)=i+1+Aj Apk (s.drop (i+1)) by omega]
    congr 2
    omega
  ·have e35:decide (b=35)=false:=decide_eq_false p1
   by_cases p2:Ao4 b=true
   ·obtain⟨o,e1,e2⟩:=ih (i+1) (by omega) (by omega)
    refine⟨o,?_,?_⟩
    ·rw[Bj (s':=((i+1:Nat):Int))]
     ·exact e1
     ·simp only[hd,if_true,hb,Option.bind_some,h35,e35,Bool.false_eq_true,if_false,A0,h32,h9,h10,hw]
      rw[if_pos]
      unfold Ao4 at p2
      have q1:(b==32)=decide (b=32):=rfl
      have q2:(b==9)=decide (b=9):=rfl
      have q3:(b==10)=decide (b=10):=rfl
      rw[q1,q2,q3] at p2
      cases c1:decide (b=32) with
      |true=>rfl
      |false=>
       rw[c1] at p2
       simp only[Bool.not_false,cond_true,h9,Bool.false_or] at p2⊢
       cases c2:decide (b=9) with
       |true=>rfl
       |false=>
        rw[c2] at p2
        simpa only[Bool.not_false,cond_true,h10,Bool.false_or] using p2
    ·rw[e2]
     have:A8 false (b::s.drop (i+1))=1+A8 false (s.drop (i+1)):=by rw[A8,if_pos p2]
     rw[this]
     congr 2
     omega
   ·refine⟨.inr (i:Int),?_,?_⟩
    ·rw[Aw]
     simp only[hd,if_true,hb,Option.bind_some,h35,e35,Bool.false_eq_true,if_false,A0,h32,hw]
     have q1:b≠32:=fun h=>p2 (by subst h;rfl)
     have q2:b≠9:=fun h=>p2 (by subst h;rfl)
     have q3:b≠10:=fun h=>p2 (by subst h;rfl)
     rw[if_neg]
     simp only[decide_eq_false q1,Bool.not_false,cond_true,h9,h10,decide_eq_false q2,decide_eq_false q3,Bool.or_self]
     simp
    ·have:A8 false (b::s.drop (i+1))=0:=by rw[A8,if_neg p2,if_neg p1]
     rw[this]
     rfl
theorem A5o{s:List UInt8}(hl:s.length<4611686018427387904):Cu s=some (A8 false s:Int):=by
 obtain⟨o,h1,h2⟩:=Bd4 hl s.length 0 (by omega) (by omega)
 unfold Cu
 refine Bi h1 ?_
 rw[List.drop_zero,Nat.zero_add] at h2
 rw[←h2]
 cases o<;>rfl
end Go.Av.G
end
section
set_option linter.unusedVariables false
set_option linter.unusedSimpArgs false
set_option maxRecDepth 4000
set_option maxHeartbeats 4000000
namespace Go.Av.G
open Go Go.Av Go.Proofs
theorem Brn:plS []=(1,1):=by decide +kernel
theorem Bpc(u:List UInt8)(b:UInt8):plS (u++[b])=if b=10 then((plS u).1+1,1) else((plS u).1,(plS u).2+1):=by
 have hlen:(u++[b]).length=u.length+1:=by simp
 have hge: ∀j,j<u.length→(u++[b])[j]? =u[j]? :=fun j hj=>List.getElem?_append_left hj
 have hlast:(u++[b])[u.length]? =some b:=by simp
 have out: ∀j,u.length<j→(u++[b])[j]? =none:=fun j hj=>List.getElem?_eq_none_iff.2 (by omega)
 by_cases hb:b=10
 ·subst hb
  rw[if_pos rfl]
  have hc:(u++[10]).count 10=u.count 10+1:=by simp
  have hi:Lib.lastIndexByte ⟨(u++[10]).toArray⟩ 10=(u.length:Int):=by
   rcases Lc (u++[10]) with⟨_,n1⟩|⟨i,i1,i2,i3,i4⟩
   ·exact absurd (by simp) n1
   ·rw[i2]
    by_cases h:i<u.length
    ·exact absurd hlast (i4 u.length h)
    ·congr 1;omega
  unfold plS
  rw[hc,hi,hlen]
  simp only[Prod.mk.injEq]
  constructor<;>omega
 ·rw[if_neg hb]
  have hc:(u++[b]).count 10=u.count 10:=by
   rw[List.count_append,List.count_singleton]
   simp[hb]
  have hi:Lib.lastIndexByte ⟨(u++[b]).toArray⟩ 10=Lib.lastIndexByte ⟨u.toArray⟩ 10:=by
   rcases Lc u with⟨e1,n1⟩|⟨i,i1,i2,i3,i4⟩
   ·rcases Lc (u++[b]) with⟨e2,n2⟩|⟨j,j1,j2,j3,j4⟩
    ·rw[e1,e2]
    ·exfalso
     have:=List.mem_of_getElem? j3
     rw[List.mem_append,List.mem_singleton] at this
     exact this.elim n1 (fun h=>hb h.symm)
   ·rcases Lc (u++[b]) with⟨e2,n2⟩|⟨j,j1,j2,j3,j4⟩
    ·exfalso
     exact n2 (List.mem_append.2 (.inl (List.mem_of_getElem? i3)))
    ·rw[i2,j2]
     have hj:j<u.length:=by
      by_cases h:j<u.length
      ·exact h
      ·exfalso
       have:j=u.length:=by omega
       subst this
       rw[hlast] at j3
       exact hb (Option.some.inj j3)
     rw[hge j hj] at j3
     by_cases h1:i<j
     ·exact absurd j3 (i4 j h1)
     ·by_cases h2:j<i
      ·have:=j4 i h2
       rw[hge i i1] at this
       exact absurd i3 this
      ·congr 1;omega
  unfold plS
  rw[hc,hi,hlen]
  generalize Lib.lastIndexByte ⟨u.toArray⟩ 10=x
  simp only[Prod.mk.injEq,true_and]
  omega
theorem Bln(u:List UInt8):1≤(plS u).1∧(plS u).1≤(u.length:Int)+1∧1≤(plS u).2∧(plS u).2≤(u.length:Int)+1:=by
 have hr: -1≤Lib.lastIndexByte ⟨u.toArray⟩ 10∧Lib.lastIndexByte ⟨u.toArray⟩ 10<u.length:=by
  rcases Lc u with⟨h,_⟩|⟨i,h1,h2,_⟩<;>omega
 have hc:u.count 10≤u.length:=List.count_le_length
 have e1:(plS u).1=(u.count 10:Int)+1:=rfl
 have e2:(plS u).2=(u.length:Int)-Lib.lastIndexByte ⟨u.toArray⟩ 10:=rfl
 rw[e1,e2]
 generalize Lib.lastIndexByte ⟨u.toArray⟩ 10=x at hr
 refine⟨by omega,by omega,by omega,by omega⟩
theorem Bd3{s:List UInt8}(hl:s.length<4611686018427387904){a:Nat}(ha:a≤s.length): ∀(n i:Nat),a-i=n→i≤a→
  A1 (fun(qj3:Int×Int×Int)=>match qj3 with
  |(line4,col5,i6)=>(
   if (decide (i6<(a:Int)))=true then
    (byO s i6).bind fun x7=>
    ((if (x7==10)=true then
      some (IntKind.wrap .i64 (line4+1),1)
    else
     some (line4,IntKind.wrap .i64 (col5+1))):Option (Int×Int)).bind fun(line9,col10)=>
    some (.inl (line9,col10,IntKind.wrap .i64 (i6+1)))
   else
    some (.inr (line4,col5)):Option ((Int×Int×Int)⊕(Int×Int)))) ((plS (s.take i)).1,(plS (s.take i)).2,(i:Int))=some (plS (s.take a)):=by
 intro n
 induction n with
 |zero=>
  intro i h1 h2
  have:i=a:=by omega
  subst this
  rw[Aw]
  have hd:decide ((i:Int)<(i:Int))=false:=decide_eq_false (by omega)
  simp only[hd,Bool.false_eq_true,if_false]
 |succ n ih=>
  intro i h1 h2
  have hi:i<s.length:=by omega
  have hd:decide ((i:Int)<(a:Int))=true:=decide_eq_true (by omega)
  have hw:IntKind.wrap .i64 ((i:Int)+1)=((i+1:Nat):Int):=by rw[wrap64 (by omega) (by omega)];rfl
  have hr:=Bln (s.take i)
  have hlt:(s.take i).length=i:=by rw[List.length_take];omega
  rw[hlt] at hr
  have htk:s.take (i+1)=s.take i++[s[i]]:=by rw[List.take_append_getElem hi]
  have h10:((s[i].toNat:Int)==10)=decide (s[i]=10):=Mg (n:=10) (by omega)
  have e1:IntKind.wrap .i64 ((plS (s.take i)).1+1)=(plS (s.take i)).1+1:=wrap64 (by omega) (by omega)
  have e2:IntKind.wrap .i64 ((plS (s.take i)).2+1)=(plS (s.take i)).2+1:=wrap64 (by omega) (by omega)
  rw[Bj,ih (i+1) (by omega) (by omega)]
  simp only[hd,if_true,P9 hi,Option.bind_some,hw,h10,e1,e2]
  rw[htk,Bpc]
  by_cases p:s[i]=10
  ·rw[if_pos (decide_eq_true p),if_pos p]
   rfl
  ·rw[if_neg (by simp only[decide_eq_true_eq];exact p),if_neg p]
   rfl
theorem Att{s:List UInt8}(hl:s.length<4611686018427387904){a:Nat}(ha:a≤s.length):Cc s (a:Int)=some (plS (s.take a)):=by
 have:=Bd3 hl ha a 0 (by omega) (by omega)
 rw[List.take_zero,Brn] at this
 unfold Cc
 exact Bi this rfl
end Go.Av.G
end
section
set_option linter.unusedVariables false
set_option linter.unusedSimpArgs false
set_option maxRecDepth 4000
set_option maxHeartbeats 4000000
namespace Go.Av.G
open Go Go.Av Go.Proofs
def Sz(r:Rs (List Nd))(n:Nat):Prop:= ∀a,r.1=some a→a.length+r.2.length≤n
theorem Bjt{N:Nat}(hr: ∀ts' k,ts'.length<N→Sz (CL ts' k) ts'.length)(n:Nat): ∀(f:Nat) (out:List Nd) (own:Nat) (ts:List Tk),ts.length≤N→ ∀x j,Cw CL n f out own ts=(some x,j)→x.1.length+j.length≤out.length+ts.length
 |f,out,own,[],_,x,j,h=>by
  have:Cw CL n f out own []=(some (out,own),[]):=by cases f<;>rfl
  rw[this] at h;cases h;exact Nat.le_refl _
 |0,out,own,t::r,_,x,j,h=>by
  rw[Cw] at h;cases h;exact Nat.le_refl _
 |f+1,out,own,t::r,hN,x,j,h=>by
  simp only[List.length_cons] at hN⊢
  by_cases hs:(Bf t).2=0∨(Bf t).2<n∨own<Rl (Bf t).2
  ·rw[El hs] at h;cases h;exact Nat.le_refl _
  ·rw[Jm hs] at h
   have hl:=(Fk r ((Bf t).2+1)).length_le
   have hz:=hr r ((Bf t).2+1) (by omega)
   cases hc:CL r ((Bf t).2+1) with
   |mk o i=>
    rw[hc] at h hl hz
    cases o with
    |none=>cases h
    |some b=>
     have h1:=hz b rfl
     simp only at hl h1
     have:=Bjt hr n f _ _ i (by omega) x j h
     simp at this
     omega
theorem Bs{s:By}{ts:List Tk}(h:isT s ts=true): ∃t r,ts=t::r∧t.Ae≠2∧t.Af=s:=by
 cases ts with
 |nil=>cases h
 |cons t r=>exact⟨t,r,rfl,of_decide_eq_true h⟩
theorem Cm{α β:Type}{r:Rs α}{k:α→List Tk→Rs β}{b:β}{j:List Tk}(h:bnd r k=(some b,j)): ∃a i,r=(some a,i)∧k a i=(some b,j):=by
 obtain⟨o,i⟩:=r
 cases o with
 |none=>cases h
 |some a=>exact⟨a,i,rfl,h⟩
theorem Em{β:Type}{s:By}{ts:List Tk}{k:List Tk→Rs β}{b:β}{j:List Tk}(h:Hk s ts k=(some b,j)): ∃t r,ts=t::r∧t.Ae≠2∧t.Af=s∧k r=(some b,j):=by
 unfold Hk at h
 split at h
 ·obtain⟨t,r,rfl,h1,h2⟩:=Bs (by assumption)
  exact⟨t,r,rfl,h1,h2,h⟩
 ·cases h
theorem Bt7: ∀(N:Nat) (ts:List Tk) (n:Nat),ts.length≤N→Sz (CL ts n) ts.length:=by
 intro N
 induction N with
 |zero=>
  intro ts n h
  obtain rfl:ts=[]:=List.eq_nil_of_length_eq_zero (by omega)
  rw[Bsx]
  intro a ha;cases ha
 |succ N ih=>
  intro ts n hN
  have hp: ∀a i,Dg CL ts=(some a,i)→a.length+i.length≤ts.length:=by
   intro a i h
   cases ts with
   |nil=>cases h
   |cons t r=>
    simp only[List.length_cons] at hN⊢
    unfold Dg at h
    simp only at h
    split at h
    ·obtain⟨a1,i1,h1,h2⟩:=Cm h
     obtain⟨t1,r1,rfl,_,_,h3⟩:=Em h2
     cases h3
     have:=ih r 0 (by omega) _ (by rw[h1])
     rw[h1] at this
     simp at this
     omega
    ·split at h
     ·obtain⟨t1,r1,rfl,_,_,h3⟩:=Em h
      obtain⟨a1,i1,h1,h2⟩:=Cm h3
      obtain⟨t2,r2,rfl,_,_,h4⟩:=Em h2
      obtain⟨a2,i2,h5,h6⟩:=Cm h4
      obtain⟨t3,r3,rfl,_,_,h7⟩:=Em h6
      cases h7
      simp only[List.length_cons] at hN⊢
      have e1:=ih r1 0 (by omega) _ (by rw[h1])
      rw[h1] at e1
      simp at e1
      have e2:=ih r2 0 (by omega) _ (by rw[h5])
      rw[h5] at e2
      simp at e2⊢
      omega
     ·split at h
      ·split at h
       ·obtain⟨t1,r1,rfl,_,_⟩:=Bs (by assumption)
        cases h;simp;omega
       ·cases h;simp;omega
      ·split at h
       ·cases h;simp;omega
       ·cases h
  have hf: ∀x i,B9 CL ts n=(some x,i)→x.1.length+i.length≤ts.length:=by
   intro x i h
   unfold B9 at h
   split at h
   ·obtain⟨t,r,rfl,_,_⟩:=Bs (And.right (by assumption))
    obtain⟨a1,i1,h1,h2⟩:=Cm h
    obtain⟨t1,r1,rfl,_,_,h3⟩:=Em h2
    obtain⟨a2,i2,h4,h5⟩:=Cm h3
    obtain⟨t2,r2,rfl,_,_,h6⟩:=Em h5
    obtain⟨a3,i3,h7,h8⟩:=Cm h6
    cases h8
    simp only[List.length_cons,List.tail_cons] at*
    have e1:=ih r 0 (by omega) _ (by rw[h1])
    rw[h1] at e1
    simp at e1
    have e2:=ih r1 0 (by omega) _ (by rw[h4])
    rw[h4] at e2
    simp at e2
    have e3:=ih r2 0 (by omega) _ (by rw[h7])
    rw[h7] at e3
    simp at e3⊢
    omega
   ·split at h
    ·obtain⟨t,r,rfl,_,_⟩:=Bs (And.right (by assumption))
     obtain⟨a1,i1,h1,h2⟩:=Cm h
     cases h2
     simp only[List.length_cons,List.tail_cons] at*
     have e1:=ih r 3 (by omega) _ (by rw[h1])
     rw[h1] at e1
     simp at e1⊢
     omega
    ·split at h
     ·obtain⟨t,r,rfl,_,_⟩:=Bs (by assumption)
      obtain⟨a1,i1,h1,h2⟩:=Cm h
      cases h2
      simp only[List.length_cons,List.tail_cons] at*
      have e1:=ih r 7 (by omega) _ (by rw[h1])
      rw[h1] at e1
      simp at e1⊢
      omega
     ·obtain⟨a1,i1,h1,h2⟩:=Cm h
      cases h2
      exact hp _ _ h1
  rw[An3]
  intro a ha
  generalize hr:bnd (B9 CL ts n) (fun x i=>bnd (Cw CL n i.length x.1 x.2 i) fun y j=>(some y.1,j))=res at ha
  obtain⟨o,j⟩:=res
  cases ha
  obtain⟨x,i,h1,h2⟩:=Cm hr
  obtain⟨y,j',h3,h4⟩:=Cm h2
  cases h4
  have e1:=hf x i h1
  have hlt:=Bbg ts n (by rw[h1];simp)
  rw[h1] at hlt
  have e2:=Bjt (N:=N) (fun ts' k hk=>ih ts' k (by omega)) n i.length x.1 x.2 i (by simp at hlt;omega) y j h3
  simp only at e1 e2⊢
  omega
theorem B7{ts i:List Tk}{n:Nat}{a:List Nd}(h:CL ts n=(some a,i)):a.length+i.length≤ts.length:=by
 have:=Bt7 ts.length ts n (Nat.le_refl _) a (by rw[h])
 rw[h] at this
 exact this
def ps(l ts:List Tk):Int:=((l.length-ts.length:Nat):Int)
def RD(l ts:List Tk)(b:Bool):Ab:=⟨l,ps l ts,b⟩
theorem Bpv{l ts:List Tk}(h:ts <:+ l):l.drop (l.length-ts.length)=ts:=by
 obtain⟨p,rfl⟩:=h
 simp
theorem Aad{l r:List Tk}{t:Tk}(h:t::r <:+ l):rdO l (ps l (t::r))=some t:=by
 have hd:=Bpv h
 have hle:=h.length_le
 unfold ps
 have hi:l.length-(t::r).length<l.length:=by simp at hle⊢;omega
 rw[Fu hi]
 have:=List.drop_eq_getElem_cons hi
 rw[hd] at this
 exact congrArg some (List.cons.inj this).1.symm
theorem Td{l ts:List Tk}(h:ts <:+ l):decide (ps l ts<(l.length:Int))= !ts.isEmpty:=by
 have hle:=h.length_le
 unfold ps
 cases ts with
 |nil=>simp
 |cons t r=>
  simp only[List.length_cons] at hle⊢
  simp
  omega
theorem Bpg{l ts:List Tk}(h:ts <:+ l):decide (ps l ts≥(l.length:Int))=ts.isEmpty:=by
 have:=Td h
 cases ts with
 |nil=>
  simp only[List.isEmpty_nil,Bool.not_true,decide_eq_false_iff_not] at this
  simp only[List.isEmpty_nil,decide_eq_true_eq]
  omega
 |cons t r=>
  simp only[List.isEmpty_cons,Bool.not_false,decide_eq_true_eq] at this
  simp only[List.isEmpty_cons,decide_eq_false_iff_not]
  omega
theorem Ei{l r:List Tk}{t:Tk}(h:t::r <:+ l)(hl:l.length≤1000000):IntKind.wrap .i64 (ps l (t::r)+1)=ps l r:=by
 have hle:=h.length_le
 unfold ps
 simp only[List.length_cons] at hle⊢
 rw[wrap64 (by omega) (by omega)]
 omega
theorem Bj5{l r:List Tk}{t:Tk}(h:t::r <:+ l)(hl:l.length≤1000000):IntKind.wrap .i64 (ps l r-1)=ps l (t::r):=by
 have hle:=h.length_le
 unfold ps
 simp only[List.length_cons] at hle⊢
 rw[wrap64 (by omega) (by omega)]
 omega
theorem C2{l r:List Tk}{t:Tk}(h:t::r <:+ l):r <:+ l:=(List.suffix_cons t r).trans h
theorem Bbq(k:Int)(x s:By):((k !=2)&&(x==s))=decide (k≠2∧x=s):=by
 by_cases h1:k=2<;>by_cases h2:x=s<;>simp[h1,h2]
theorem A4y{l ts:List Tk}(h:ts <:+ l)(s:By)(b:Bool):Br s (RD l ts b)=some (!b&&isT s ts):=by
 unfold Br RD
 simp only[Option.bind_some,Td h]
 cases b with
 |true=>rfl
 |false=>
  cases ts with
  |nil=>rfl
  |cons t r=>
   rw[Aad h]
   simp only[List.isEmpty_cons,Bool.not_false,Bool.and_true,Bool.true_and,A0,Option.bind_some,cond_true,Option.some.injEq,isT]
   rw[←Bbq]
   cases (t.Ae !=2)<;>rfl
theorem Asm{l ts:List Tk}(h:ts <:+ l)(hl:l.length≤1000000)(s:By)(b:Bool):Bc s (RD l ts b)=some (if (!b&&isT s ts)=true then(true,RD l ts.tail b) else(false,RD l ts b)):=by
 unfold Bc
 rw[A4y h]
 simp only[Option.bind_some]
 cases hc:(!b&&isT s ts) with
 |false=>simp
 |true=>
  simp only[Bool.and_eq_true] at hc
  obtain⟨t,r,rfl,_,_⟩:=Bs hc.2
  simp only[Bool.not_true,Bool.false_eq_true,if_false,if_true,Option.some.injEq,Prod.mk.injEq,true_and]
  unfold RD
  simp only[Ei h hl,List.tail_cons]
def K8:List By→List Tk×Bool→List Tk×Bool
 |[],x=>x
 |s::ss,x=>if (!x.2&&isT s x.1)=true then K8 ss (x.1.tail,x.2) else(x.1,true)
theorem A5a: ∀(L:List By) (x:List Tk×Bool),(K8 L x).1 <:+ x.1
 |[],x=>List.suffix_refl _
 |s::ss,x=>by
  rw[K8]
  split
  ·exact(A5a ss _).trans Rh
  ·exact List.suffix_refl _
theorem Ari{l ts:List Tk}(h:ts <:+ l)(hl:l.length≤1000000)(L:List By)(hL:L.length≤1000000)(b:Bool):Am L (RD l ts b)=some (RD l (K8 L (ts,b)).1 (K8 L (ts,b)).2):=by
 unfold Am
 have key: ∀(t pre:List By) (ts:List Tk) (b:Bool),L=pre++t→ts <:+ l→A1 (fun(qj3:Int×Ab)=>match qj3 with
  |(x4,r5)=>(
   if (decide (x4<(L.length:Int)))=true then
    (rdO L x4).bind fun x6=>
    (Bc x6 r5).bind fun x7=>
    if (!x7.1)=true then
     some (.inr (⟨x7.2.Jg,x7.2.Cr,true⟩:Ab))
    else
     some (.inl (IntKind.wrap .i64 (x4+1),x7.2))
   else
    some (.inr r5):Option ((Int×Ab)⊕Ab))) ((pre.length:Int),RD l ts b)=some (RD l (K8 t (ts,b)).1 (K8 t (ts,b)).2):=by
  intro t
  induction t with
  |nil=>
   intro pre ts b he hs
   refine Aw ?_
   subst he
   simp[K8]
  |cons s t ih=>
   intro pre ts b he hs
   have hlen:pre.length<L.length:=by subst he;simp
   have hg:L[pre.length]=s:=by subst he;simp
   by_cases hc:(!b&&isT s ts)=true
   ·rw[Bj (s':=((((pre++[s]).length:Nat):Int),RD l ts.tail b)),ih (pre++[s]) ts.tail b (by simp[he]) (Rh.trans hs),K8,if_pos hc]
    show(if _ then _ else _)=_
    rw[if_pos (by simp;omega),Fu hlen,hg]
    simp only[Option.bind_some]
    rw[Asm hs hl,if_pos hc]
    simp only[Option.bind_some,Bool.not_true,Bool.false_eq_true,if_false,List.length_append,List.length_cons,List.length_nil,Option.some.injEq,Sum.inl.injEq,Prod.mk.injEq,and_true]
    rw[wrap64 (by omega) (by omega)]
    omega
   ·rw[K8,if_neg hc]
    refine Aw ?_
    show(if _ then _ else _)=_
    rw[if_pos (by simp;omega),Fu hlen,hg]
    simp only[Option.bind_some]
    rw[Asm hs hl,if_neg hc]
    rfl
 exact key L [] ts b rfl h
theorem Ajg{s:By}{ss:List By}{ts:List Tk}:K8 (s::ss) (ts,true)=(ts,true):=by simp[K8]
theorem Arj{s:By}{ts:List Tk}:K8 [s] (ts,false)=if isT s ts=true then(ts.tail,false) else(ts,true):=by simp[K8]
theorem A4w{L:List By}(hL:L.length≤1000000)(s:By):Ch L s=some (L.contains s):=by
 unfold Ch Ed
 have h:=Ate (f:=fun(qj3:Int)=>match qj3 with
  |x4=>(
   if (decide (x4<(L.length:Int)))=true then
    (rdO L x4).bind fun x5=>
    if (s==x5)=true then
     some (.inr (.inr x4))
    else
     some (.inl (IntKind.wrap .i64 (x4+1)))
   else
    some (.inr (.inl ())):Option (Int⊕(Unit⊕Int)))) (l:=L) (p:=fun x=>s==x) (o:=fun i=> .inr (i:Int)) (e:= .inl ()) (by omega)
  (fun i hi=>by
   show(if _ then _ else _)=_
   rw[if_pos (by simp;omega),Fu hi]
   simp only[Option.bind_some]
   split<;>rfl)
  (fun i hi=>by
   show(if _ then _ else _)=_
   rw[if_neg (by simp;omega)])
 rw[h]
 simp only[Option.bind_some]
 cases hf:Apc L (fun x=>s==x) with
 |none=>
  have:=Ai3 hf
  simp only[Option.bind_some,Option.some.injEq]
  have h1:L.contains s=false:=by
   rw[←Bool.not_eq_true,List.contains_iff_mem]
   intro hm
   have:=this s hm
   simp at this
  rw[h1]
  rfl
 |some i=>
  obtain⟨hi,h1,_⟩:=Ai4 hf
  simp only[Option.bind_some,Option.some.injEq]
  have h2:L.contains s=true:=by
   rw[List.contains_iff_mem]
   have:=eq_of_beq h1
   rw[this]
   exact List.getElem_mem hi
  rw[h2]
  simp
theorem Bo7(s:By)(p:Bool):Wk s p=some (Atk s p):=by
 unfold Wk
 cases p with
 |false=>
  simp only[Bool.false_eq_true,if_false,Option.bind_some]
  rw[A4w (by simp)]
  simp only[Option.bind_some,Atk,Bool.false_and,Bool.or_false]
  rfl
 |true=>
  simp only[if_true]
  have:apO 16 [[105,102],[116,104,101,110],[101,108,115,101],[97,110,100],[111,114],[110,111,116],[109,105,110],[109,97,120]] [[112,114,111,100,117,99,116],[98,97,115,105,115],[112,101,114,105,111,100],[116,105,101,114,115],[102,101,101],[109,105,110,105,109,117,109],[111,118,101,114,100,114,97,102,116],[110,111,116,105,99,101]]=some (Bts++Btt):=rfl
  rw[this]
  simp only[Option.bind_some]
  rw[A4w (by simp[Bts,Btt])]
  simp only[Option.bind_some,Atk,Bool.true_and,List.contains_eq_any_beq,List.any_append]
def Kd(kind:Int)(p:Bool)(x:List Tk×Bool):By×List Tk×Bool:=match x with
 |(ts,true)=>([],ts,true)
 |([],false)=>([],[],true)
 |(t::r,false)=>if t.Ae≠kind∨(kind=0∧Atk t.Af p=true) then([],t::r,true) else(t.Af,r,false)
theorem Bl9(kind:Int)(p:Bool)(x:List Tk×Bool):(Kd kind p x).2.1 <:+ x.1:=by
 obtain⟨ts,b⟩:=x
 cases b with
 |true=>cases ts<;>exact List.suffix_refl _
 |false=>
  cases ts with
  |nil=>exact List.suffix_refl _
  |cons t r=>
   unfold Kd
   simp only
   split
   ·exact List.suffix_refl _
   ·exact List.suffix_cons t r
theorem Amf{l ts:List Tk}(h:ts <:+ l)(hl:l.length≤1000000)(kind:Int)(p b:Bool):A7 kind p (RD l ts b)=some ((Kd kind p (ts,b)).1,RD l (Kd kind p (ts,b)).2.1 (Kd kind p (ts,b)).2.2):=by
 unfold A7
 have e1:(RD l ts b).Cr=ps l ts:=rfl
 have e2:(RD l ts b).Jg=l:=rfl
 have e3:(RD l ts b).B5=b:=rfl
 simp only[Option.bind_some,e1,e2,e3,Bpg h]
 cases b with
 |true=>cases ts<;>simp[gdO,Kd,RD]
 |false=>
  cases ts with
  |nil=>simp[gdO,Kd,RD]
  |cons t r=>
   rw[Aad h]
   simp only[List.isEmpty_cons,Bool.or_false,Bool.false_or,Bool.not_false,A0,cond_true,Option.bind_some]
   by_cases h1:t.Ae=kind
   ·have hb:(t.Ae !=kind)=false:=by simp[h1]
    simp only[hb,Bool.not_false,Bool.true_and,Bool.false_or]
    rw[Bo7]
    by_cases h2:kind=0
    ·subst h2
     simp only[beq_self_eq_true,A0,cond_true,Option.bind_some,Bool.true_and]
     cases ho:Atk t.Af p with
     |true=>simp[Kd,h1,ho,RD]
     |false=>
      simp only[Bool.false_eq_true,if_false]
      rw[Ei h hl,Bj5 h hl,Aad h]
      simp[Kd,h1,ho,RD]
    ·have hz:(kind==0)=false:=by simp[h2]
     simp only[hz,A0,cond_false,Option.bind_some,Bool.false_and,Bool.false_eq_true,if_false]
     rw[Ei h hl,Bj5 h hl,Aad h]
     simp[Kd,h1,h2,RD]
   ·have hb:(t.Ae !=kind)=true:=by simp[h1]
    simp only[hb,Bool.not_true,Bool.false_and,A0,gdO,Option.bind_some,Bool.true_or,if_true]
    simp[Kd,h1,RD]
theorem Bk1{L:List (List Nd)}(hL:L.length≤1000)(hs:L.flatten.length≤1000000):Dk L=some L.flatten:=by
 unfold Dk
 have h1:A1 (fun(qj2:Int×Int)=>match qj2 with
  |(size3,x4)=>(
   if (decide (x4<(L.length:Int)))=true then
    (rdO L x4).bind fun x5=>
    ((if (decide ((IntKind.wrap .i64 (size3+(x5.length:Int)))<0))=true then
      none
    else
     some ()):Option Unit).bind fun _=>
    some (.inl (IntKind.wrap .i64 (size3+(x5.length:Int)),IntKind.wrap .i64 (x4+1)))
   else
    some (.inr size3):Option ((Int×Int)⊕Int))) (0,0)=some (L.flatten.length:Int):=by
  have key: ∀(t pre:List (List Nd)),L=pre++t→A1 (fun(qj2:Int×Int)=>match qj2 with
  |(size3,x4)=>(
   if (decide (x4<(L.length:Int)))=true then
    (rdO L x4).bind fun x5=>
    ((if (decide ((IntKind.wrap .i64 (size3+(x5.length:Int)))<0))=true then
      none
    else
     some ()):Option Unit).bind fun _=>
    some (.inl (IntKind.wrap .i64 (size3+(x5.length:Int)),IntKind.wrap .i64 (x4+1)))
   else
    some (.inr size3):Option ((Int×Int)⊕Int))) ((pre.flatten.length:Int),(pre.length:Int))=some (L.flatten.length:Int):=by
   intro t
   induction t with
   |nil=>
    intro pre he
    refine Aw ?_
    subst he
    simp
   |cons x t ih=>
    intro pre he
    have hlen:pre.length<L.length:=by subst he;simp
    have hg:L[pre.length]=x:=by subst he;simp
    have hfl:pre.flatten.length+x.length≤L.flatten.length:=by subst he;simp
    rw[Bj (s':=((((pre++[x]).flatten.length:Nat):Int),(((pre++[x]).length:Nat):Int))),ih (pre++[x]) (by simp[he])]
    show(if _ then _ else _)=_
    rw[if_pos (by simp;omega),Fu hlen,hg]
    simp only[Option.bind_some]
    rw[wrap64 (x:=(pre.flatten.length:Int)+(x.length:Int)) (by omega) (by omega),wrap64 (by omega) (by omega),if_neg (by simp;omega)]
    simp
  exact key L [] rfl
 rw[h1]
 simp only[Option.bind_some]
 have hg:Cy Aa 24 (L.flatten.length:Int)=some []:=by
  unfold Cy D2
  rw[if_pos ⟨by omega,by omega⟩]
  rfl
 rw[hg]
 simp only[Option.bind_some]
 have key: ∀(t pre:List (List Nd)),L=pre++t→A1 (fun(qj9:Int×(List Aa))=>match qj9 with
  |(x10,row11)=>(
   if (decide (x10<(L.length:Int)))=true then
    (rdO L x10).bind fun x12=>
    (apO 24 row11 x12).bind fun x13=>
    some (.inl (IntKind.wrap .i64 (x10+1),x13))
   else
    some (.inr row11):Option ((Int×(List Aa))⊕(List Aa)))) ((pre.length:Int),pre.flatten)=some L.flatten:=by
  intro t
  induction t with
  |nil=>
   intro pre he
   refine Aw ?_
   subst he
   simp
  |cons x t ih=>
   intro pre he
   have hlen:pre.length<L.length:=by subst he;simp
   have hg:L[pre.length]=x:=by subst he;simp
   have hfl:pre.flatten.length+x.length≤L.flatten.length:=by subst he;simp
   rw[Bj (s':=((((pre++[x]).length:Nat):Int),(pre++[x]).flatten)),ih (pre++[x]) (by simp[he])]
   show(if _ then _ else _)=_
   rw[if_pos (by simp;omega),Fu hlen,hg]
   simp only[Option.bind_some]
   unfold apO
   rw[if_pos (by omega)]
   simp only[Option.bind_some]
   rw[wrap64 (by omega) (by omega)]
   simp
 exact Bi (key L [] rfl) rfl
theorem A7f{k:Int}{L:List (List Nd)}(hL:L.length≤1000)(hs:L.flatten.length≤1000000):Cd k L=some (⟨k,[]⟩::L.flatten):=by
 unfold Cd
 rw[Bk1 hL hs]
 simp only[Option.bind_some]
 unfold apO
 rw[if_pos (by simp only[List.length_cons,List.length_nil];omega)]
 rfl
def Atx:List (By×Aq):=[(sOr,⟨13,1⟩),(Bea,⟨12,2⟩),([60],⟨7,4⟩),([60,61],⟨8,4⟩),([61],⟨9,4⟩),([62],⟨10,4⟩),([62,61],⟨11,4⟩),([43],⟨3,5⟩),([45],⟨4,5⟩),([42],⟨5,6⟩),([47],⟨6,6⟩)]
theorem Bpx:Ajq=some Atx:=by decide +kernel
theorem Bl7(s:By):(((A13 Atx s).getD ⟨0,0⟩).Ao6,((A13 Atx s).getD ⟨0,0⟩).Aa1)=((Aqm s).1,((Aqm s).2:Int))∧((A13 Atx s).isSome=decide ((Aqm s).2≠0)):=by
 unfold Aqm
 by_cases h0:s=sOr
 ·subst h0;exact⟨rfl,rfl⟩
 simp only[if_neg h0]
 by_cases h1:s=Bea
 ·subst h1;exact⟨rfl,rfl⟩
 simp only[if_neg h1]
 by_cases h2:s=[60]
 ·subst h2;exact⟨rfl,rfl⟩
 simp only[if_neg h2]
 by_cases h3:s=[60,61]
 ·subst h3;exact⟨rfl,rfl⟩
 simp only[if_neg h3]
 by_cases h4:s=[61]
 ·subst h4;exact⟨rfl,rfl⟩
 simp only[if_neg h4]
 by_cases h5:s=[62]
 ·subst h5;exact⟨rfl,rfl⟩
 simp only[if_neg h5]
 by_cases h6:s=[62,61]
 ·subst h6;exact⟨rfl,rfl⟩
 simp only[if_neg h6]
 by_cases h7:s=[43]
 ·subst h7;exact⟨rfl,rfl⟩
 simp only[if_neg h7]
 by_cases h8:s=[45]
 ·subst h8;exact⟨rfl,rfl⟩
 simp only[if_neg h8]
 by_cases h9:s=[42]
 ·subst h9;exact⟨rfl,rfl⟩
 simp only[if_neg h9]
 by_cases h10:s=[47]
 ·subst h10;exact⟨rfl,rfl⟩
 simp only[if_neg h10]
 have hn:A13 Atx s=none:=by
  unfold A13
  rw[List.find?_eq_none.2 (by
   intro x hx
   simp only[Atx,List.mem_cons,List.not_mem_nil,or_false] at hx
   rcases hx with rfl|rfl|rfl|rfl|rfl|rfl|rfl|rfl|rfl|rfl|rfl<;>simp[*])]
  rfl
 rw[hn]
 exact⟨rfl,rfl⟩
end Go.Av.G
end
section
set_option linter.unusedVariables false
set_option linter.unusedSimpArgs false
set_option maxRecDepth 4000
set_option maxHeartbeats 4000000
namespace Go.Av.G
open Go Go.Av Go.Proofs
theorem Bkc{t:Tk}(h:t.Ae≠2):Bf t=Aqm t.Af:=by unfold Bf;rw[if_neg h]
def Amk(n:Nat)(ts:List Tk)(b:Bool):Bool:= !b&&match ts with
 |[]=>false
 |t::_=>decide ((Bf t).2=n)
theorem Ao2{l ts:List Tk}(h:ts <:+ l){n:Nat}(hn:1≤n)(b:Bool): ∃k,B2 (n:Int) (RD l ts b)=some (k,Amk n ts b)∧(Amk n ts b=true→ ∃t r,ts=t::r∧b=false∧(Bf t).2=n∧k=(Bf t).1):=by
 unfold B2
 have e1:(RD l ts b).Cr=ps l ts:=rfl
 have e2:(RD l ts b).Jg=l:=rfl
 have e3:(RD l ts b).B5=b:=rfl
 simp only[Option.bind_some,e1,e2,e3,Bpg h]
 cases b with
 |true=>exact⟨0,by simp[gdO,Amk],by simp[Amk]⟩
 |false=>
  cases ts with
  |nil=>exact⟨0,by simp[gdO,Amk],by simp[Amk]⟩
  |cons t r=>
   rw[Aad h,Bpx]
   simp only[List.isEmpty_cons,Bool.or_false,Bool.false_or,Bool.not_false,A0,cond_true,Option.bind_some]
   by_cases h2:t.Ae=2
   ·refine⟨0,(by simp[h2,Amk,Bf];omega),fun hb=>?_⟩
    simp[h2,Amk,Bf] at hb
    omega
   ·have hb:(t.Ae==2)=false:=by simp[h2]
    obtain⟨g1,g2⟩:=Bl7 t.Af
    have g3:=congrArg Prod.fst g1
    have g4:=congrArg Prod.snd g1
    simp only at g3 g4
    rw[hb,g2]
    simp only[Bool.false_eq_true,if_false,Option.bind_some]
    rw[g3,g4]
    refine⟨(Aqm t.Af).1,?_,fun hb2=>⟨t,r,(by simp),(by simp),?_,?_⟩⟩
    ·simp only[Amk,Option.some.injEq,Prod.mk.injEq,true_and,Bkc h2,Bool.not_false]
     rw[Bool.eq_iff_iff]
     simp only[Bool.and_eq_true,decide_eq_true_eq,beq_iff_eq,Bool.true_and]
     constructor
     ·rintro⟨h3,h4⟩;omega
     ·intro h3;omega
    ·simpa [Amk] using hb2
    ·rw[Bkc h2]
theorem Axd{l ts:List Tk}(h:ts <:+ l){n:Nat}(hn:1≤n): ∃k,B2 (n:Int) (RD l ts true)=some (k,false):=by
 obtain⟨k,h1,_⟩:=Ao2 h hn true
 exact⟨k,h1⟩
theorem Alq{l ts:List Tk}(h:ts <:+ l)(hl:l.length≤1000000){s:By}(hs:isT s ts=true):Bc s (RD l ts false)=some (true,RD l ts.tail false):=by
 rw[Asm h hl];simp[hs]
theorem Afe{l ts:List Tk}(h:ts <:+ l)(hl:l.length≤1000000){s:By}(hs: ¬isT s ts=true):Bc s (RD l ts false)=some (false,RD l ts false):=by
 rw[Asm h hl];simp[hs]
theorem Bp5{l ts:List Tk}(h:ts <:+ l)(hl:l.length≤1000000){s:By}:Bc s (RD l ts true)=some (false,RD l ts true):=by
 rw[Asm h hl];simp
theorem Fh{l ts:List Tk}(h:ts <:+ l)(hl:l.length≤1000000){s:By}(hs:isT s ts=true):Am [s] (RD l ts false)=some (RD l ts.tail false):=by
 rw[Ari h hl _ (by simp),Arj,if_pos hs]
theorem Atj{l ts:List Tk}(h:ts <:+ l)(hl:l.length≤1000000){s:By}(hs: ¬isT s ts=true):Am [s] (RD l ts false)=some (RD l ts true):=by
 rw[Ari h hl _ (by simp),Arj,if_neg hs]
theorem Jn{l ts:List Tk}(h:ts <:+ l)(hl:l.length≤1000000){s:By}:Am [s] (RD l ts true)=some (RD l ts true):=by
 rw[Ari h hl _ (by simp),Ajg]
theorem Ble(f:Nat)(n:Int)(l ts:List Tk):parse_reader_level (f+1) n (RD l ts true)=some ([],RD l ts true):=by
 rw[parse_reader_level]
 rfl
theorem I5{l ts:List Tk}(h:ts <:+ l)(hl:l.length≤1000000)(f:Nat):parse_reader_any (f+2) (RD l ts true)=some ([],RD l ts true):=by
 rw[parse_reader_any,Bp5 h hl]
 simp only[Option.bind_some,Bool.not_false,if_true]
 rw[Ble]
 rfl
def NB(o:List Nd):Prop:= ∀n∈o,n.Af.length≤1000000
theorem C4:NB []↔True:=by simp[NB]
theorem B8{n:Nd}{o:List Nd}:NB (n::o)↔n.Af.length≤1000000∧NB o:=by simp[NB]
theorem C3{a b:List Nd}:NB (a++b)↔NB a∧NB b:=by
 unfold NB
 constructor
 ·intro h;exact⟨fun n hn=>h n (by simp[hn]),fun n hn=>h n (by simp[hn])⟩
 ·rintro⟨h1,h2⟩ n hn
  rcases List.mem_append.1 hn with h|h
  ·exact h1 n h
  ·exact h2 n h
def PG(F:Ab→Option (List Nd×Ab))(l ts:List Tk)(r:Rs (List Nd)):Prop:=
 ∃o,F (RD l ts false)=some (o,RD l r.2 r.1.isNone)∧(∀a,r.1=some a→o=a)∧o.length≤ts.length+1∧NB o
structure Fit (l:List Tk):Prop where
 len:l.length≤100000
 tx: ∀t∈l,t.Af.length≤100000
theorem Fit.l6{l:List Tk}(h:Fit l):l.length≤1000000:=by have:=h.len;omega
theorem Fit.le{l ts:List Tk}(h:Fit l)(hs:ts <:+ l):ts.length≤100000:=by have:=h.len;have:=hs.length_le;omega
theorem Aog{k:Int}{a b:List Nd}(h:a.length+b.length≤1000000):Cd k [a,b]=some (⟨k,[]⟩::(a++b)):=by
 rw[A7f (by simp) (by simp;omega)];simp
theorem Bj0{k:Int}{a:List Nd}(h:a.length≤1000000):Cd k [a]=some (⟨k,[]⟩::a):=by
 rw[A7f (by simp) (by simp;omega)];simp
theorem node3{k:Int}{a b c:List Nd}(h:a.length+b.length+c.length≤1000000):Cd k [a,b,c]=some (⟨k,[]⟩::(a++b++c)):=by
 rw[A7f (by simp) (by simp;omega)];simp
theorem PG.of{F:Ab→Option (List Nd×Ab)}{l ts:List Tk}{r:Rs (List Nd)}(h:PG F l ts r):(∃a i,r=(some a,i)∧F (RD l ts false)=some (a,RD l i false)∧NB a)∨(∃o i,r=(none,i)∧F (RD l ts false)=some (o,RD l i true)∧o.length≤ts.length+1∧NB o):=by
 obtain⟨o,h1,h2,h3,h4⟩:=h
 obtain⟨x,i⟩:=r
 cases x with
 |none=>exact Or.inr ⟨o,i,rfl,h1,h3,h4⟩
 |some a=>
  have:=h2 a rfl
  subst this
  exact Or.inl ⟨o,i,rfl,h1,h4⟩
theorem Aip{F:Ab→Option (List Nd×Ab)}{l ts i:List Tk}{a:List Nd}(h:F (RD l ts false)=some (a,RD l i false))(hz:a.length≤ts.length+1)(hn:NB a):PG F l ts (some a,i):=
 ⟨a,h,fun b hb=>Option.some.inj hb,hz,hn⟩
theorem PG.no{F:Ab→Option (List Nd×Ab)}{l ts i:List Tk}{o:List Nd}(h:F (RD l ts false)=some (o,RD l i true))(hz:o.length≤ts.length+1)(hn:NB o):PG F l ts (none,i):=
 ⟨o,h,(fun b hb=>by cases hb),hz,hn⟩
theorem A5l{l ts:List Tk}(hF:Fit l)(h:ts <:+ l){f:Nat}(hf:2≤f)(ih: ∀r,r <:+ l→r.length<ts.length→PG (parse_reader_any f) l r (CL r 0)):PG (parse_reader_primary (f+1)) l ts (Dg CL ts):=by
 have hl:=hF.l6
 obtain⟨f,rfl⟩: ∃g,f=g+2:=⟨f-2,by omega⟩
 have hle:=hF.le h
 cases ts with
 |nil=>
  refine PG.no (o:=[⟨1,[]⟩]) ?_ (by simp) (by(try simp only[C4,B8,C3,List.length_append,List.length_cons,List.length_nil]);(repeat' apply And.intro)<;>first|assumption|omega|trivial)
  rw[parse_reader_primary,Afe h hl (by simp[isT])]
  simp only[Option.bind_some,A4y h]
  have e0:ps l []<(l.length:Int)↔False:=by have:=Td h;simpa using this
  have e1:(RD l [] false).Cr=ps l []:=rfl
  have e2:(RD l [] false).Jg=l:=rfl
  simp only[isT,Bool.and_false,Bool.not_false,Bool.false_eq_true,if_false,A0,Option.bind_some,cond_true,Bool.or_false,Bool.cond_self,e1,e2,e0,decide_false,gdO,Bool.false_and]
  have:=Amf h hl 0 false false
  rw[show(⟨l,ps l [],(RD l [] false).B5⟩:Ab)=RD l [] false from rfl,this]
  rfl
 |cons t r=>
  have hr:=C2 h
  simp only[List.length_cons] at hle
  by_cases hp:isT [40] (t::r)=true
  ·have hspec:Dg CL (t::r)=bnd (CL r 0) fun a i=>Hk [41] i fun j=>(some a,j):=by unfold Dg;simp only[if_pos hp]
   rw[hspec]
   have hprog:parse_reader_primary (f+2+1) (RD l (t::r) false)=(parse_reader_any (f+2) (RD l r false)).bind fun x3=>(Am [[41]] x3.2).bind fun x4=>some (x3.1,x4):=by
    rw[parse_reader_primary,Alq h hl hp]
    rfl
   rcases(ih r hr (by simp)).of with⟨a,i,e1,e2,nb1⟩|⟨o,i,e1,e2,e3,nb3⟩
   ·rw[e1]
    have hz:=B7 e1
    have hi:i <:+ l:=by have:=(Fk r 0).trans hr;rw[e1] at this;exact this
    show PG _ _ _ (Hk [41] i fun j=>(some a,j))
    unfold Hk
    by_cases hc:isT [41] i=true
    ·rw[if_pos hc]
     refine Aip ?_ (by simp;omega) (by(try simp only[C4,B8,C3,List.length_append,List.length_cons,List.length_nil]);(repeat' apply And.intro)<;>first|assumption|omega|trivial)
     rw[hprog,e2]
     simp only[Option.bind_some]
     rw[Fh hi hl hc]
     rfl
    ·rw[if_neg hc]
     refine PG.no (o:=a) ?_ (by simp;omega) (by(try simp only[C4,B8,C3,List.length_append,List.length_cons,List.length_nil]);(repeat' apply And.intro)<;>first|assumption|omega|trivial)
     rw[hprog,e2]
     simp only[Option.bind_some]
     rw[Atj hi hl hc]
     rfl
   ·rw[e1]
    have hi:i <:+ l:=by have:=(Fk r 0).trans hr;rw[e1] at this;exact this
    refine PG.no (o:=o) ?_ (by simp;omega) (by(try simp only[C4,B8,C3,List.length_append,List.length_cons,List.length_nil]);(repeat' apply And.intro)<;>first|assumption|omega|trivial)
    rw[hprog,e2]
    simp only[Option.bind_some]
    rw[Jn hi hl]
    rfl
  ·by_cases hm:(isT Aik (t::r)||isT Awp (t::r))=true
   ·have hspec:Dg CL (t::r)=Hk [40] r fun r2=>bnd (CL r2 0) fun a i=>Hk [44] i fun i2=>bnd (CL i2 0) fun b j=>Hk [41] j fun j2=>
      (some (⟨if t.Af=Aik then 16 else 17,[]⟩::(a++b)),j2):=by unfold Dg;simp only[if_neg hp,if_pos hm]
    rw[hspec]
    generalize hk:(if t.Af=Aik then(16:Int) else 17)=k
    have hprog:parse_reader_primary (f+2+1) (RD l (t::r) false)=(Am [[40]] (RD l r false)).bind fun x10=>(parse_reader_any (f+2) x10).bind fun x11=>
      (Am [[44]] x11.2).bind fun x12=>(parse_reader_any (f+2) x12).bind fun x13=>(Am [[41]] x13.2).bind fun x14=>(Cd k [x11.1,x13.1]).bind fun x15=>some (x15,x14):=by
     rw[parse_reader_primary,Afe h hl hp]
     simp only[Option.bind_some,A4y h,Bool.not_false,Bool.true_and,A0,Bool.cond_self]
     have hm2:(isT [109,105,110] (t::r)||bif !isT [109,105,110] (t::r) then isT [109,97,120] (t::r) else default)=true:=by
      have e1:Aik=[109,105,110]:=rfl
      have e2:Awp=[109,97,120]:=rfl
      rw[e1,e2] at hm
      cases hx:isT [109,105,110] (t::r) with
      |true=>rfl
      |false=>rw[hx] at hm;simpa using hm
     rw[if_pos hm2]
     have e3:(⟨(RD l (t::r) false).Jg,(RD l (t::r) false).Cr,(RD l (t::r) false).B5⟩:Ab)=RD l (t::r) false:=rfl
     have e4:IntKind.wrap .i64 ((RD l (t::r) false).Cr+1)=ps l r:=Ei h hl
     rw[e4]
     have e5:(⟨(RD l (t::r) false).Jg,ps l r,(RD l (t::r) false).B5⟩:Ab)=RD l r false:=rfl
     rw[e5]
     have hk2:(if (isT [109,97,120] (t::r))=true then some (17:Int) else some 16)=some k:=by
      rw[←hk]
      by_cases hx:t.Af=Aik
      ·have:isT [109,97,120] (t::r)=false:=by simp[isT,hx,Aik]
       rw[this,if_pos hx];rfl
      ·have:isT [109,97,120] (t::r)=true:=by
        rcases(Bool.or_eq_true_iff).1 hm with hy|hy
        ·exact absurd (of_decide_eq_true hy).2 hx
        ·exact hy
       rw[this,if_neg hx];rfl
     simp only[Bool.false_eq_true,if_false,hk2,Option.bind_some]
    unfold Hk
    by_cases hc:isT [40] r=true
    ·rw[if_pos hc]
     obtain⟨t1,r1,rfl,_,_⟩:=Bs hc
     simp only[List.tail_cons,List.length_cons] at hle⊢
     have hr1:=C2 hr
     rcases(ih r1 hr1 (by simp;omega)).of with⟨a,i,e1,e2,nb1⟩|⟨o,i,e1,e2,e3,nb3⟩
     ·rw[e1]
      have hz:=B7 e1
      have hi:i <:+ l:=by have:=(Fk r1 0).trans hr1;rw[e1] at this;exact this
      have hil:i.length≤r1.length:=by have:=(Fk r1 0).length_le;rw[e1] at this;exact this
      show PG _ _ _ (if isT [44] i=true then _ else _)
      by_cases hc2:isT [44] i=true
      ·rw[if_pos hc2]
       obtain⟨t2,r2,rfl,_,_⟩:=Bs hc2
       simp only[List.tail_cons,List.length_cons] at hz hil⊢
       have hr2:=C2 hi
       rcases(ih r2 hr2 (by simp;omega)).of with⟨b,j,e4,e5,nb4⟩|⟨o,j,e4,e5,e6,nb6⟩
       ·rw[e4]
        have hz2:=B7 e4
        have hj:j <:+ l:=by have:=(Fk r2 0).trans hr2;rw[e4] at this;exact this
        show PG _ _ _ (if isT [41] j=true then _ else _)
        by_cases hc3:isT [41] j=true
        ·rw[if_pos hc3]
         refine Aip ?_ (by simp;omega) (by(try simp only[C4,B8,C3,List.length_append,List.length_cons,List.length_nil]);(repeat' apply And.intro)<;>first|assumption|omega|trivial)
         rw[hprog,Fh hr hl hc]
         simp only[Option.bind_some,List.tail_cons,e2]
         rw[Fh hi hl hc2]
         simp only[Option.bind_some,List.tail_cons,e5]
         rw[Fh hj hl hc3]
         simp only[Option.bind_some,List.tail_cons]
         rw[Aog (by omega)]
         rfl
        ·rw[if_neg hc3]
         refine PG.no (o:=⟨k,[]⟩::(a++b)) ?_ (by simp;omega) (by(try simp only[C4,B8,C3,List.length_append,List.length_cons,List.length_nil]);(repeat' apply And.intro)<;>first|assumption|omega|trivial)
         rw[hprog,Fh hr hl hc]
         simp only[Option.bind_some,List.tail_cons,e2]
         rw[Fh hi hl hc2]
         simp only[Option.bind_some,List.tail_cons,e5]
         rw[Atj hj hl hc3]
         simp only[Option.bind_some,List.tail_cons]
         rw[Aog (by omega)]
         rfl
       ·rw[e4]
        have hj:j <:+ l:=by have:=(Fk r2 0).trans hr2;rw[e4] at this;exact this
        refine PG.no (o:=⟨k,[]⟩::(a++o)) ?_ (by simp;omega) (by(try simp only[C4,B8,C3,List.length_append,List.length_cons,List.length_nil]);(repeat' apply And.intro)<;>first|assumption|omega|trivial)
        rw[hprog,Fh hr hl hc]
        simp only[Option.bind_some,List.tail_cons,e2]
        rw[Fh hi hl hc2]
        simp only[Option.bind_some,List.tail_cons,e5]
        rw[Jn hj hl]
        simp only[Option.bind_some,List.tail_cons]
        rw[Aog (by omega)]
        rfl
      ·rw[if_neg hc2]
       refine PG.no (o:=⟨k,[]⟩::(a++[])) ?_ (by simp;omega) (by(try simp only[C4,B8,C3,List.length_append,List.length_cons,List.length_nil]);(repeat' apply And.intro)<;>first|assumption|omega|trivial)
       rw[hprog,Fh hr hl hc]
       simp only[Option.bind_some,List.tail_cons,e2]
       rw[Atj hi hl hc2]
       simp only[Option.bind_some,List.tail_cons]
       rw[I5 hi hl]
       simp only[Option.bind_some]
       rw[Jn hi hl]
       simp only[Option.bind_some]
       rw[Aog (by simp;omega)]
       rfl
     ·rw[e1]
      have hi:i <:+ l:=by have:=(Fk r1 0).trans hr1;rw[e1] at this;exact this
      refine PG.no (o:=⟨k,[]⟩::(o++[])) ?_ (by simp;omega) (by(try simp only[C4,B8,C3,List.length_append,List.length_cons,List.length_nil]);(repeat' apply And.intro)<;>first|assumption|omega|trivial)
      rw[hprog,Fh hr hl hc]
      simp only[Option.bind_some,List.tail_cons,e2]
      rw[Jn hi hl]
      simp only[Option.bind_some,List.tail_cons]
      rw[I5 hi hl]
      simp only[Option.bind_some]
      rw[Jn hi hl]
      simp only[Option.bind_some]
      rw[Aog (by simp;omega)]
      rfl
    ·rw[if_neg hc]
     refine PG.no (o:=[⟨k,[]⟩]) ?_ (by simp) (by(try simp only[C4,B8,C3,List.length_append,List.length_cons,List.length_nil]);(repeat' apply And.intro)<;>first|assumption|omega|trivial)
     rw[hprog,Atj hr hl hc]
     simp only[Option.bind_some]
     rw[I5 hr hl]
     simp only[Option.bind_some]
     rw[Jn hr hl]
     simp only[Option.bind_some]
     rw[I5 hr hl]
     simp only[Option.bind_some]
     rw[Jn hr hl]
     simp only[Option.bind_some]
     rw[Aog (by simp)]
     rfl
   ·have hspec:Dg CL (t::r)=if t.Ae=1 then(if isT [37] r=true then(some [⟨0,t.Af++[37]⟩],r.tail) else(some [⟨0,t.Af⟩],r))
      else if t.Ae=0∧Atk t.Af false=false then(some [⟨1,t.Af⟩],r) else(none,t::r):=by unfold Dg;simp only[if_neg hp,if_neg hm]
    rw[hspec]
    have hprog:parse_reader_primary (f+2+1) (RD l (t::r) false)=if (t.Ae==1)=true then
      (A7 1 false (RD l (t::r) false)).bind fun x18=>
      (Bc [37] x18.2).bind fun x19=>
      ((if x19.1=true then
        (Bfu x18.1 [37]).bind fun x21=>
        some x21
      else
       some x18.1):Option (List UInt8)).bind fun j20=>
      some ([(⟨0,j20⟩:Aa)],x19.2)
     else
      (A7 0 false (RD l (t::r) false)).bind fun x23=>
      some ([(⟨1,x23.1⟩:Aa)],x23.2):=by
     rw[parse_reader_primary,Afe h hl hp]
     simp only[Option.bind_some,A4y h,Bool.not_false,Bool.true_and,A0,Bool.cond_self]
     have hm2:(isT [109,105,110] (t::r)||bif !isT [109,105,110] (t::r) then isT [109,97,120] (t::r) else default)=false:=by
      have e1:Aik=[109,105,110]:=rfl
      have e2:Awp=[109,97,120]:=rfl
      rw[e1,e2] at hm
      cases hx:isT [109,105,110] (t::r) with
      |true=>rw[hx] at hm;simp at hm
      |false=>rw[hx] at hm;simpa using hm
     rw[hm2]
     have e4:(decide ((RD l (t::r) false).Cr<((RD l (t::r) false).Jg.length:Int)))=true:=Td h
     have e5:rdO (RD l (t::r) false).Jg (RD l (t::r) false).Cr=some t:=Aad h
     simp only[Bool.false_eq_true,if_false,e4,e5,A0,cond_true,Option.bind_some,Bool.true_and]
    have htx:t.Af.length≤100000:=hF.tx t (h.subset (by simp))
    by_cases h1:t.Ae=1
    ·have hb:(t.Ae==1)=true:=by simp[h1]
     have hs:Kd 1 false (t::r,false)=(t.Af,r,false):=by simp[Kd,h1]
     rw[if_pos h1]
     by_cases hc:isT [37] r=true
     ·rw[if_pos hc]
      refine Aip ?_ (by simp) (by(try simp only[C4,B8,C3,List.length_append,List.length_cons,List.length_nil]);(repeat' apply And.intro)<;>first|assumption|omega|trivial)
      rw[hprog,if_pos hb,Amf h hl,hs]
      simp only[Option.bind_some]
      rw[Alq hr hl hc]
      simp only[Option.bind_some,if_true]
      unfold Bfu
      rw[if_pos (by simp;omega)]
      rfl
     ·rw[if_neg hc]
      refine Aip ?_ (by simp) (by(try simp only[C4,B8,C3,List.length_append,List.length_cons,List.length_nil]);(repeat' apply And.intro)<;>first|assumption|omega|trivial)
      rw[hprog,if_pos hb,Amf h hl,hs]
      simp only[Option.bind_some]
      rw[Afe hr hl hc]
      rfl
    ·have hb:(t.Ae==1)=false:=by simp[h1]
     rw[if_neg h1]
     by_cases h2:t.Ae=0∧Atk t.Af false=false
     ·rw[if_pos h2]
      have hs:Kd 0 false (t::r,false)=(t.Af,r,false):=by simp[Kd,h2.1,h2.2]
      refine Aip ?_ (by simp) (by(try simp only[C4,B8,C3,List.length_append,List.length_cons,List.length_nil]);(repeat' apply And.intro)<;>first|assumption|omega|trivial)
      rw[hprog,hb]
      simp only[Bool.false_eq_true,if_false]
      rw[Amf h hl,hs]
      rfl
     ·rw[if_neg h2]
      have hs:Kd 0 false (t::r,false)=([],t::r,true):=by
       simp only[Kd]
       rw[if_pos]
       by_cases h3:t.Ae=0
       ·right
        cases ho:Atk t.Af false with
        |true=>simp
        |false=>exact absurd ⟨h3,ho⟩ h2
       ·exact Or.inl h3
      refine PG.no (o:=[⟨1,[]⟩]) ?_ (by simp) (by(try simp only[C4,B8,C3,List.length_append,List.length_cons,List.length_nil]);(repeat' apply And.intro)<;>first|assumption|omega|trivial)
      rw[hprog,hb]
      simp only[Bool.false_eq_true,if_false]
      rw[Amf h hl,hs]
      rfl
end Go.Av.G
end
section
set_option linter.unusedVariables false
set_option linter.unusedSimpArgs false
set_option maxRecDepth 4000
set_option maxHeartbeats 4000000
namespace Go.Av.G
open Go Go.Av Go.Proofs
theorem Hg{ts l i:List Tk}{n:Nat}{o:Option (List Nd)}(h:ts <:+ l)(e:CL ts n=(o,i)):i <:+ l:=by
 have:=(Fk ts n).trans h;rw[e] at this;exact this
theorem Ara{ts i:List Tk}{n:Nat}{o:Option (List Nd)}(e:CL ts n=(o,i)):i.length≤ts.length:=by
 have:=(Fk ts n).length_le;rw[e] at this;exact this
theorem A01{l ts:List Tk}(hF:Fit l)(h:ts <:+ l){f:Nat}(hp:PG (parse_reader_primary f) l ts (Dg CL ts))
  (ih: ∀r,r <:+ l→r.length<ts.length→PG (parse_reader_level f 7) l r (CL r 7)):PG (parse_reader_level (f+1) 7) l ts (CL ts 7):=by
 have hl:=hF.l6
 have hle:=hF.le h
 rw[Bmt]
 by_cases hc:isT [45] ts=true
 ·rw[if_pos hc]
  obtain⟨t,r,rfl,_,_⟩:=Bs hc
  have hr:=C2 h
  have hprog:parse_reader_level (f+1) 7 (RD l (t::r) false)=(parse_reader_level f 7 (RD l r false)).bind fun x8=>(Cd 2 [x8.1]).bind fun x9=>some (x9,x8.2):=by
   rw[parse_reader_level]
   have e:(RD l (t::r) false).B5=false:=rfl
   simp only[e,Bool.false_eq_true,if_false]
   rw[if_neg (by simp),if_pos (by simp),Alq h hl hc]
   rfl
  simp only[List.tail_cons,List.length_cons] at hle⊢
  rcases(ih r hr (by simp)).of with⟨a,i,e1,e2,nb1⟩|⟨o,i,e1,e2,e3,nb3⟩
  ·rw[e1]
   have hz:=B7 e1
   refine Aip ?_ (by simp;omega) (by(try simp only[C4,B8,C3,List.length_append,List.length_cons,List.length_nil]);(repeat' apply And.intro)<;>first|assumption|omega|trivial)
   rw[hprog,e2]
   simp only[Option.bind_some]
   rw[Bj0 (by omega)]
   rfl
  ·rw[e1]
   refine PG.no (o:=⟨2,[]⟩::o) ?_ (by simp;omega) (by(try simp only[C4,B8,C3,List.length_append,List.length_cons,List.length_nil]);(repeat' apply And.intro)<;>first|assumption|omega|trivial)
   rw[hprog,e2]
   simp only[Option.bind_some]
   rw[Bj0 (by omega)]
   rfl
 ·rw[if_neg hc]
  have hprog:parse_reader_level (f+1) 7 (RD l ts false)=parse_reader_primary f (RD l ts false):=by
   rw[parse_reader_level]
   have e:(RD l ts false).B5=false:=rfl
   simp only[e,Bool.false_eq_true,if_false]
   rw[if_neg (by simp),if_pos (by simp),Afe h hl hc]
   simp only[Option.bind_some,Bool.false_eq_true,if_false]
   cases parse_reader_primary f (RD l ts false)<;>rfl
  unfold PG at hp⊢
  rw[hprog]
  exact hp
theorem A1e{l ts:List Tk}(hF:Fit l)(h:ts <:+ l){f:Nat}(hp:PG (parse_reader_level f 4) l ts (CL ts 4))
  (ih: ∀r,r <:+ l→r.length<ts.length→PG (parse_reader_level f 3) l r (CL r 3)):PG (parse_reader_level (f+1) 3) l ts (CL ts 3):=by
 have hl:=hF.l6
 have hle:=hF.le h
 rw[Bmu]
 by_cases hc:isT Alk ts=true
 ·rw[if_pos hc]
  obtain⟨t,r,rfl,_,_⟩:=Bs hc
  have hr:=C2 h
  have hprog:parse_reader_level (f+1) 3 (RD l (t::r) false)=(parse_reader_level f 3 (RD l r false)).bind fun x8=>(Cd 14 [x8.1]).bind fun x9=>some (x9,x8.2):=by
   rw[parse_reader_level]
   have e:(RD l (t::r) false).B5=false:=rfl
   simp only[e,Bool.false_eq_true,if_false]
   rw[if_pos (by simp),show([110,111,116]:By)=Alk from rfl,Alq h hl hc]
   rfl
  simp only[List.tail_cons,List.length_cons] at hle⊢
  rcases(ih r hr (by simp)).of with⟨a,i,e1,e2,nb1⟩|⟨o,i,e1,e2,e3,nb3⟩
  ·rw[e1]
   have hz:=B7 e1
   refine Aip ?_ (by simp;omega) (by(try simp only[C4,B8,C3,List.length_append,List.length_cons,List.length_nil]);(repeat' apply And.intro)<;>first|assumption|omega|trivial)
   rw[hprog,e2]
   simp only[Option.bind_some]
   rw[Bj0 (by omega)]
   rfl
  ·rw[e1]
   refine PG.no (o:=⟨14,[]⟩::o) ?_ (by simp;omega) (by(try simp only[C4,B8,C3,List.length_append,List.length_cons,List.length_nil]);(repeat' apply And.intro)<;>first|assumption|omega|trivial)
   rw[hprog,e2]
   simp only[Option.bind_some]
   rw[Bj0 (by omega)]
   rfl
 ·rw[if_neg hc]
  have hprog:parse_reader_level (f+1) 3 (RD l ts false)=parse_reader_level f 4 (RD l ts false):=by
   rw[parse_reader_level]
   have e:(RD l ts false).B5=false:=rfl
   simp only[e,Bool.false_eq_true,if_false]
   rw[if_pos (by simp),show([110,111,116]:By)=Alk from rfl,Afe h hl hc]
   simp only[Option.bind_some,Bool.false_eq_true,if_false]
   cases parse_reader_level f 4 (RD l ts false)<;>rfl
  unfold PG at hp⊢
  rw[hprog]
  exact hp
theorem Bav{l ts:List Tk}(hF:Fit l)(h:ts <:+ l){f:Nat}(hf:2≤f)(hp:PG (parse_reader_level f 1) l ts (CL ts 1))
  (ih: ∀r,r <:+ l→r.length<ts.length→PG (parse_reader_any f) l r (CL r 0)):PG (parse_reader_any (f+1)) l ts (CL ts 0):=by
 have hl:=hF.l6
 have hle:=hF.le h
 obtain⟨f,rfl⟩: ∃g,f=g+2:=⟨f-2,by omega⟩
 rw[Bqs]
 by_cases hc:isT sIf ts=true
 ·rw[if_pos hc]
  obtain⟨t,r,rfl,_,_⟩:=Bs hc
  have hr:=C2 h
  have hprog:parse_reader_any (f+2+1) (RD l (t::r) false)=(parse_reader_any (f+2) (RD l r false)).bind fun x4=>
   (Am [Aou] x4.2).bind fun x5=>
   (parse_reader_any (f+2) x5).bind fun x6=>
   (Am [Alj] x6.2).bind fun x7=>
   (parse_reader_any (f+2) x7).bind fun x8=>
   (Cd 15 [x4.1,x6.1,x8.1]).bind fun x9=>
   some (x9,x8.2):=by
   rw[parse_reader_any,show([105,102]:By)=sIf from rfl,Alq h hl hc]
   rfl
  simp only[List.tail_cons,List.length_cons] at hle⊢
  rcases(ih r hr (by simp)).of with⟨a,i,e1,e2,nb1⟩|⟨o,i,e1,e2,e3,nb3⟩
  ·rw[e1]
   have hz:=B7 e1
   have hi:=Hg hr e1
   have hil:=Ara e1
   show PG _ _ _ (Hk Aou i fun i2=>bnd (CL i2 0) fun b j=>Hk Alj j fun j2=>bnd (CL j2 0) fun c k=>(some (⟨15,[]⟩::(a++b++c)),k))
   unfold Hk
   by_cases hc2:isT Aou i=true
   ·rw[if_pos hc2]
    obtain⟨t2,r2,rfl,_,_⟩:=Bs hc2
    simp only[List.tail_cons,List.length_cons] at hz hil⊢
    have hr2:=C2 hi
    rcases(ih r2 hr2 (by simp;omega)).of with⟨b,j,e4,e5,nb4⟩|⟨o,j,e4,e5,e6,nb6⟩
    ·rw[e4]
     have hz2:=B7 e4
     have hj:=Hg hr2 e4
     have hjl:=Ara e4
     show PG _ _ _ (if isT Alj j=true then _ else _)
     by_cases hc3:isT Alj j=true
     ·rw[if_pos hc3]
      obtain⟨t3,r3,rfl,_,_⟩:=Bs hc3
      simp only[List.tail_cons,List.length_cons] at hz2 hjl⊢
      have hr3:=C2 hj
      rcases(ih r3 hr3 (by simp;omega)).of with⟨c,k,e7,e8,nb7⟩|⟨o,k,e7,e8,e9,nb9⟩
      ·rw[e7]
       have hz3:=B7 e7
       refine Aip ?_ (by simp;omega) (by(try simp only[C4,B8,C3,List.length_append,List.length_cons,List.length_nil]);(repeat' apply And.intro)<;>first|assumption|omega|trivial)
       rw[hprog,e2]
       simp only[Option.bind_some]
       rw[Fh hi hl hc2]
       simp only[Option.bind_some,List.tail_cons,e5]
       rw[Fh hj hl hc3]
       simp only[Option.bind_some,List.tail_cons,e8]
       rw[node3 (by omega)]
       rfl
      ·rw[e7]
       refine PG.no (o:=⟨15,[]⟩::(a++b++o)) ?_ (by simp;omega) (by(try simp only[C4,B8,C3,List.length_append,List.length_cons,List.length_nil]);(repeat' apply And.intro)<;>first|assumption|omega|trivial)
       rw[hprog,e2]
       simp only[Option.bind_some]
       rw[Fh hi hl hc2]
       simp only[Option.bind_some,List.tail_cons,e5]
       rw[Fh hj hl hc3]
       simp only[Option.bind_some,List.tail_cons,e8]
       rw[node3 (by omega)]
       rfl
     ·rw[if_neg hc3]
      refine PG.no (o:=⟨15,[]⟩::(a++b++[])) ?_ (by simp;omega) (by(try simp only[C4,B8,C3,List.length_append,List.length_cons,List.length_nil]);(repeat' apply And.intro)<;>first|assumption|omega|trivial)
      rw[hprog,e2]
      simp only[Option.bind_some]
      rw[Fh hi hl hc2]
      simp only[Option.bind_some,List.tail_cons,e5]
      rw[Atj hj hl hc3]
      simp only[Option.bind_some]
      rw[I5 hj hl]
      simp only[Option.bind_some]
      rw[node3 (by simp;omega)]
      rfl
    ·rw[e4]
     have hj:=Hg hr2 e4
     refine PG.no (o:=⟨15,[]⟩::(a++o++[])) ?_ (by simp;omega) (by(try simp only[C4,B8,C3,List.length_append,List.length_cons,List.length_nil]);(repeat' apply And.intro)<;>first|assumption|omega|trivial)
     rw[hprog,e2]
     simp only[Option.bind_some]
     rw[Fh hi hl hc2]
     simp only[Option.bind_some,List.tail_cons,e5]
     rw[Jn hj hl]
     simp only[Option.bind_some]
     rw[I5 hj hl]
     simp only[Option.bind_some]
     rw[node3 (by simp;omega)]
     rfl
   ·rw[if_neg hc2]
    refine PG.no (o:=⟨15,[]⟩::(a++[]++[])) ?_ (by simp;omega) (by(try simp only[C4,B8,C3,List.length_append,List.length_cons,List.length_nil]);(repeat' apply And.intro)<;>first|assumption|omega|trivial)
    rw[hprog,e2]
    simp only[Option.bind_some]
    rw[Atj hi hl hc2]
    simp only[Option.bind_some]
    rw[I5 hi hl]
    simp only[Option.bind_some]
    rw[Jn hi hl]
    simp only[Option.bind_some]
    rw[I5 hi hl]
    simp only[Option.bind_some]
    rw[node3 (by simp;omega)]
    rfl
  ·rw[e1]
   have hi:=Hg hr e1
   refine PG.no (o:=⟨15,[]⟩::(o++[]++[])) ?_ (by simp;omega) (by(try simp only[C4,B8,C3,List.length_append,List.length_cons,List.length_nil]);(repeat' apply And.intro)<;>first|assumption|omega|trivial)
   rw[hprog,e2]
   simp only[Option.bind_some]
   rw[Jn hi hl]
   simp only[Option.bind_some]
   rw[I5 hi hl]
   simp only[Option.bind_some]
   rw[Jn hi hl]
   simp only[Option.bind_some]
   rw[I5 hi hl]
   simp only[Option.bind_some]
   rw[node3 (by simp;omega)]
   rfl
 ·rw[if_neg hc]
  have hprog:parse_reader_any (f+2+1) (RD l ts false)=parse_reader_level (f+2) 1 (RD l ts false):=by
   rw[parse_reader_any,show([105,102]:By)=sIf from rfl,Afe h hl hc]
   simp only[Option.bind_some,Bool.not_false,if_true]
   cases parse_reader_level (f+2) 1 (RD l ts false)<;>rfl
  unfold PG at hp⊢
  rw[hprog]
  exact hp
theorem Bo1{l:List Tk}(hF:Fit l){f n:Nat}(hn:n=1∨n=2∨n=4∨n=5∨n=6){N T:Nat}(hT:T≤100000)
  (ih: ∀r,r <:+ l→r.length<N→PG (parse_reader_level f ((n+1:Nat):Int)) l r (CL r (n+1))): ∀(k:Nat) (out:List Nd) (i:List Tk),i <:+ l→i.length≤k→i.length≤N→out.length+i.length≤T→NB out→ ∀kk,
   (Amk n i false=true→ ∃t r,i=t::r∧(Bf t).2=n∧kk=(Bf t).1)→
   ∃o,A1 (fun(qj13:(List Aa)×Int×Bool×Ab)=>match qj13 with
      |(out14,kind15,is16,r17)=>(
       if is16=true then
        (parse_reader_level f (IntKind.wrap .i64 ((n:Int)+1)) (⟨r17.Jg,IntKind.wrap .i64 (r17.Cr+1),r17.B5⟩:Ab)).bind fun x18=>
        (Cd kind15 [out14,x18.1]).bind fun x19=>
        if ((n:Int)==4)=true then
         some (.inr (x19,x18.2))
        else
         (B2 (n:Int) x18.2).bind fun x20=>
         some (.inl (x19,x20.1,x20.2,x18.2))
       else
        some (.inr (out14,r17)):Option (((List Aa)×Int×Bool×Ab)⊕((List Aa)×Ab)))) (out,kk,Amk n i false,RD l i false)=some (o,RD l (Aft n k out i).2 (Aft n k out i).1.isNone)∧(∀a,(Aft n k out i).1=some a→o=a)∧o.length≤T+1∧NB o:=by
 have hl:=hF.l6
 have hw:IntKind.wrap .i64 ((n:Int)+1)=((n+1:Nat):Int):=by rw[wrap64 (by omega) (by omega)];rfl
 intro k
 induction k with
 |zero=>
  intro out i hi hk hN hout hnb kk hkk
  obtain rfl:i=[]:=List.eq_nil_of_length_eq_zero (by omega)
  exact⟨out,Aw (by rfl),(fun a ha=>Option.some.inj ha),by omega,hnb⟩
 |succ k ihk=>
  intro out i hi hk hN hout hnb kk hkk
  cases i with
  |nil=>exact⟨out,Aw (by rfl),(fun a ha=>Option.some.inj ha),by omega,hnb⟩
  |cons t r=>
   simp only[List.length_cons] at hk hN hout
   have hr:=C2 hi
   have hrl:=hF.le hr
   rw[Aft]
   by_cases hs:(Bf t).2=n
   ·rw[if_pos hs]
    have hb:Amk n (t::r) false=true:=by simp[Amk,hs]
    obtain⟨t',r',he,h2,h3⟩:=hkk hb
    cases he
    subst h3
    rw[hb]
    have hstep:(⟨(RD l (t::r) false).Jg,IntKind.wrap .i64 ((RD l (t::r) false).Cr+1),(RD l (t::r) false).B5⟩:Ab)=RD l r false:=by
     have e:IntKind.wrap .i64 ((RD l (t::r) false).Cr+1)=ps l r:=Ei hi hl
     rw[e];rfl
    rcases(ih r hr (by omega)).of with⟨b,j,e1,e2,nb1⟩|⟨o,j,e1,e2,e3,nb3⟩
    ·have hz:=B7 e1
     have hj:=Hg hr e1
     have hjl:=Ara e1
     rw[e1]
     show ∃o,_∧(∀a,(if n=4 then _ else _:Rs (List Nd)).1=some a→o=a)∧_
     by_cases h4:n=4
     ·have e4:bnd ((some b,j):Rs (List Nd)) (fun b j=>if n=4 then((some (⟨(Bf t).1,[]⟩::(out++b)),j):Rs (List Nd)) else Aft n k (⟨(Bf t).1,[]⟩::(out++b)) j)=(some (⟨(Bf t).1,[]⟩::(out++b)),j):=by
       show(if n=4 then _ else _)=_
       rw[if_pos h4]
      rw[e4,if_pos h4]
      refine⟨⟨(Bf t).1,[]⟩::(out++b),Aw ?_,(fun a ha=>Option.some.inj ha),(by simp;omega),(by(try simp only[C4,B8,C3,List.length_append,List.length_cons,List.length_nil]);(repeat' apply And.intro)<;>first|assumption|omega|trivial)⟩
      show(if true=true then _ else _)=_
      rw[if_pos rfl,hstep,hw,e2]
      simp only[Option.bind_some]
      rw[Aog (by omega)]
      simp only[Option.bind_some]
      rw[if_pos (by simp;omega)]
      rfl
     ·have e4:bnd ((some b,j):Rs (List Nd)) (fun b j=>if n=4 then((some (⟨(Bf t).1,[]⟩::(out++b)),j):Rs (List Nd)) else Aft n k (⟨(Bf t).1,[]⟩::(out++b)) j)=Aft n k (⟨(Bf t).1,[]⟩::(out++b)) j:=by
       show(if n=4 then _ else _)=_
       rw[if_neg h4]
      rw[e4,if_neg h4]
      obtain⟨k2,h5,h6⟩:=Ao2 hj (n:=n) (by omega) false
      obtain⟨o,h7,h8,h9⟩:=ihk (⟨(Bf t).1,[]⟩::(out++b)) j hj (by omega) (by omega) (by simp;omega) (by(try simp only[C4,B8,C3,List.length_append,List.length_cons,List.length_nil]);(repeat' apply And.intro)<;>first|assumption|omega|trivial) k2 (fun hb=>by
       obtain⟨t,r,g1,_,g2,g3⟩:=h6 hb
       exact⟨t,r,g1,g2,g3⟩)
      refine⟨o,?_,h8,h9⟩
      rw[←h7]
      refine Bj ?_
      show(if true=true then _ else _)=_
      rw[if_pos rfl,hstep,hw,e2]
      simp only[Option.bind_some]
      rw[Aog (by omega)]
      simp only[Option.bind_some]
      rw[if_neg (by simp;omega),h5]
      rfl
    ·have hj:=Hg hr e1
     have e4:bnd (CL r (n+1)) (fun b j=>if n=4 then((some (⟨(Bf t).1,[]⟩::(out++b)),j):Rs (List Nd)) else Aft n k (⟨(Bf t).1,[]⟩::(out++b)) j)=(none,j):=by rw[e1];rfl
     rw[e4]
     refine⟨⟨(Bf t).1,[]⟩::(out++o),?_,(fun a ha=>by cases ha),(by simp;omega),(by(try simp only[C4,B8,C3,List.length_append,List.length_cons,List.length_nil]);(repeat' apply And.intro)<;>first|assumption|omega|trivial)⟩
     by_cases h4:n=4
     ·refine Aw ?_
      show(if true=true then _ else _)=_
      rw[if_pos rfl,hstep,hw,e2]
      simp only[Option.bind_some]
      rw[Aog (by omega)]
      simp only[Option.bind_some]
      rw[if_pos (by simp;omega)]
      rfl
     ·obtain⟨k2,h5⟩:=Axd hj (n:=n) (by omega)
      refine(Bj (s':=(⟨(Bf t).1,[]⟩::(out++o),k2,false,RD l j true)) ?_).trans (Aw (by rfl))
      show(if true=true then _ else _)=_
      rw[if_pos rfl,hstep,hw,e2]
      simp only[Option.bind_some]
      rw[Aog (by omega)]
      simp only[Option.bind_some]
      rw[if_neg (by simp;omega),h5]
      rfl
   ·rw[if_neg hs]
    have hb:Amk n (t::r) false=false:=by simp[Amk,hs]
    rw[hb]
    exact⟨out,Aw (by rfl),(fun a ha=>Option.some.inj ha),by omega,hnb⟩
theorem mid_step{l ts:List Tk}(hF:Fit l)(h:ts <:+ l){f n:Nat}(hn:n=1∨n=2∨n=4∨n=5∨n=6)(hp:PG (parse_reader_level f ((n+1:Nat):Int)) l ts (CL ts (n+1)))
  (ih: ∀r,r <:+ l→r.length<ts.length→PG (parse_reader_level f ((n+1:Nat):Int)) l r (CL r (n+1))):PG (parse_reader_level (f+1) (n:Int)) l ts (CL ts n):=by
 have hl:=hF.l6
 have hle:=hF.le h
 rw[Bsw hn]
 have hw:IntKind.wrap .i64 ((n:Int)+1)=((n+1:Nat):Int):=by rw[wrap64 (by omega) (by omega)];rfl
 have h3: ¬(((n:Int)==3)=true):=by simp;omega
 have h7: ¬(((n:Int)==7)=true):=by simp;omega
 rcases hp.of with⟨a,i,e1,e2,nb1⟩|⟨o,i,e1,e2,e3,nb3⟩
 ·have hz:=B7 e1
  have hi:=Hg h e1
  have hil:=Ara e1
  rw[e1]
  show PG _ _ _ (Aft n i.length a i)
  obtain⟨k2,h5,h6⟩:=Ao2 hi (n:=n) (by omega) false
  obtain⟨o,g1,g2,g3⟩:=Bo1 hF hn (N:=ts.length) (T:=ts.length) hle ih i.length a i hi (Nat.le_refl _) hil hz nb1 k2 (fun hb=>by
   obtain⟨t,r,g1,_,g2,g3⟩:=h6 hb
   exact⟨t,r,g1,g2,g3⟩)
  refine⟨o,?_,g2,g3⟩
  rw[parse_reader_level]
  have e:(RD l ts false).B5=false:=rfl
  simp only[e,Bool.false_eq_true,if_false]
  rw[if_neg h3,if_neg h7,hw,e2]
  simp only[Option.bind_some]
  rw[h5]
  simp only[Option.bind_some]
  rw[hw] at g1
  exact Bi g1 rfl
 ·have hi:=Hg h e1
  rw[e1]
  refine PG.no (o:=o) ?_ e3 nb3
  rw[parse_reader_level]
  have e:(RD l ts false).B5=false:=rfl
  simp only[e,Bool.false_eq_true,if_false]
  obtain⟨k2,h5⟩:=Axd hi (n:=n) (by omega)
  rw[if_neg h3,if_neg h7,hw,e2]
  simp only[Option.bind_some]
  rw[h5]
  simp only[Option.bind_some]
  refine Bi (Aw (o:=(o,RD l i true)) ?_) rfl
  rfl
theorem Bph{l:List Tk}(hF:Fit l): ∀(N:Nat) (ts:List Tk),ts <:+ l→ts.length≤N→
  (∀f,12*ts.length+3≤f→PG (parse_reader_primary f) l ts (Dg CL ts))∧
  (∀(n f:Nat),1≤n→n≤7→12*ts.length+11≤f+n→PG (parse_reader_level f (n:Int)) l ts (CL ts n))∧
  (∀f,12*ts.length+12≤f→PG (parse_reader_any f) l ts (CL ts 0)):=by
 intro N
 induction N with
 |zero=>
  intro ts hts hN
  obtain rfl:ts=[]:=List.eq_nil_of_length_eq_zero (by omega)
  have hp: ∀f,12*([]:List Tk).length+3≤f→PG (parse_reader_primary f) l [] (Dg CL []):=by
   intro f hf
   obtain⟨g,rfl⟩: ∃g,f=g+1:=⟨f-1,by omega⟩
   exact A5l hF hts (by simp at hf;omega) (fun r _ hr=>absurd hr (by simp))
  have hlv: ∀(d n f:Nat),n+d=7→1≤n→12*([]:List Tk).length+11≤f+n→PG (parse_reader_level f (n:Int)) l [] (CL [] n):=by
   intro d
   induction d with
   |zero=>
    intro n f hd _ hf
    obtain rfl:n=7:=by omega
    obtain⟨g,rfl⟩: ∃g,f=g+1:=⟨f-1,by simp at hf;omega⟩
    exact A01 hF hts (hp g (by simp at hf⊢;omega)) (fun r _ hr=>absurd hr (by simp))
   |succ d ihd=>
    intro n f hd hn hf
    obtain⟨g,rfl⟩: ∃g,f=g+1:=⟨f-1,by simp at hf;omega⟩
    have hnx:=ihd (n+1) g (by omega) (by omega) (by simp at hf⊢;omega)
    by_cases h3:n=3
    ·subst h3
     exact A1e hF hts hnx (fun r _ hr=>absurd hr (by simp))
    ·exact mid_step hF hts (by omega) hnx (fun r _ hr=>absurd hr (by simp))
  refine⟨hp,fun n f h1 h2 hf=>hlv (7-n) n f (by omega) h1 hf,fun f hf=>?_⟩
  obtain⟨g,rfl⟩: ∃g,f=g+1:=⟨f-1,by simp at hf;omega⟩
  exact Bav hF hts (by simp at hf;omega) (hlv 6 1 g rfl (by omega) (by simp at hf⊢;omega)) (fun r _ hr=>absurd hr (by simp))
 |succ N ih=>
  intro ts hts hN
  have hp: ∀f,12*ts.length+3≤f→PG (parse_reader_primary f) l ts (Dg CL ts):=by
   intro f hf
   obtain⟨g,rfl⟩: ∃g,f=g+1:=⟨f-1,by omega⟩
   exact A5l hF hts (by omega) (fun r h1 hr=>(ih r h1 (by omega)).2.2 g (by omega))
  have hlv: ∀(d n f:Nat),n+d=7→1≤n→12*ts.length+11≤f+n→PG (parse_reader_level f (n:Int)) l ts (CL ts n):=by
   intro d
   induction d with
   |zero=>
    intro n f hd _ hf
    obtain rfl:n=7:=by omega
    obtain⟨g,rfl⟩: ∃g,f=g+1:=⟨f-1,by omega⟩
    exact A01 hF hts (hp g (by omega)) (fun r h1 hr=>(ih r h1 (by omega)).2.1 7 g (by omega) (by omega) (by omega))
   |succ d ihd=>
    intro n f hd hn hf
    obtain⟨g,rfl⟩: ∃g,f=g+1:=⟨f-1,by omega⟩
    have hnx:=ihd (n+1) g (by omega) (by omega) (by omega)
    by_cases h3:n=3
    ·subst h3
     exact A1e hF hts hnx (fun r h1 hr=>(ih r h1 (by omega)).2.1 3 g (by omega) (by omega) (by omega))
    ·exact mid_step hF hts (by omega) hnx (fun r h1 hr=>(ih r h1 (by omega)).2.1 (n+1) g (by omega) (by omega) (by omega))
  refine⟨hp,fun n f h1 h2 hf=>hlv (7-n) n f (by omega) h1 hf,fun f hf=>?_⟩
  obtain⟨g,rfl⟩: ∃g,f=g+1:=⟨f-1,by omega⟩
  exact Bav hF hts (by omega) (hlv 6 1 g rfl (by omega) (by omega)) (fun r h1 hr=>(ih r h1 (by omega)).2.2 g (by omega))
theorem Bfk{l ts:List Tk}(hF:Fit l)(h:ts <:+ l)(hl:l.length≤8000):PG (parse_reader_any 100000) l ts (CL ts 0):=
 (Bph hF ts.length ts h (Nat.le_refl _)).2.2 100000 (by have:=h.length_le;omega)
end Go.Av.G
end
section
set_option linter.unusedVariables false
set_option linter.unusedSimpArgs false
set_option maxRecDepth 4000
set_option maxHeartbeats 4000000
namespace Go.Av.G
open Go Go.Av Go.Proofs
theorem L7{l ts:List Tk}(h:ts <:+ l)(s:By):Ba l (ps l ts) s=some (isT s ts):=by
 unfold Ba
 simp only[Option.bind_some,Td h]
 cases ts with
 |nil=>rfl
 |cons t r=>
  rw[Aad h]
  simp only[List.isEmpty_cons,Bool.not_false,Bool.and_true,Bool.true_and,A0,Option.bind_some,cond_true,Option.some.injEq,isT]
  rw[←Bbq]
  cases (t.Ae !=2)<;>rfl
theorem Bse{L:List By}(hL:L.length≤1000000)(s:By):Fo L s=some (L.contains s):=by
 unfold Fo
 refine Bi (Al6 (l:=L) (fun x=>x==s) (o:=Sum.inr true) (e:=Sum.inl ()) (by omega) (fun i hi=>?_) (fun i hi=>?_)) ?_
 ·show(if _ then _ else _)=_
  rw[if_pos (by simp;omega),Fu hi]
  simp only[Option.bind_some]
  split<;>rfl
 ·show(if _ then _ else _)=_
  rw[if_neg (by simp;omega)]
 ·have:L.contains s=L.any (fun x=>x==s):=by
   rw[List.contains_eq_any_beq]
   congr 1
   funext x
   exact Bool.beq_comm
  rw[this]
  cases hx:L.any (fun x=>x==s)<;>rfl
theorem Bmx(s:By)(p:Bool):Et s p=some (Atk s p):=by
 unfold Et
 rw[Bse (by simp),Bse (by simp)]
 simp only[Option.bind_some]
 rfl
theorem A97(t:Tk):D9 t=some ((Bf t).1,((Bf t).2:Int)):=by
 unfold D9 Bf Aqm
 simp only[beq_iff_eq]
 by_cases h:t.Ae=2
 ·simp only[if_pos h];rfl
 ·simp only[if_neg h]
  have e1:sOr=[111,114]:=rfl
  have e2:Bea=[97,110,100]:=rfl
  rw[e1,e2]
  by_cases h0:t.Af=[111,114]
  ·simp only[if_pos h0];rfl
  simp only[if_neg h0]
  by_cases h1:t.Af=[97,110,100]
  ·simp only[if_pos h1];rfl
  simp only[if_neg h1]
  by_cases h2:t.Af=[60]
  ·simp only[if_pos h2];rfl
  simp only[if_neg h2]
  by_cases h3:t.Af=[60,61]
  ·simp only[if_pos h3];rfl
  simp only[if_neg h3]
  by_cases h4:t.Af=[61]
  ·simp only[if_pos h4];rfl
  simp only[if_neg h4]
  by_cases h5:t.Af=[62]
  ·simp only[if_pos h5];rfl
  simp only[if_neg h5]
  by_cases h6:t.Af=[62,61]
  ·simp only[if_pos h6];rfl
  simp only[if_neg h6]
  by_cases h7:t.Af=[43]
  ·simp only[if_pos h7];rfl
  simp only[if_neg h7]
  by_cases h8:t.Af=[45]
  ·simp only[if_pos h8];rfl
  simp only[if_neg h8]
  by_cases h9:t.Af=[42]
  ·simp only[if_pos h9];rfl
  simp only[if_neg h9]
  by_cases h10:t.Af=[47]
  ·simp only[if_pos h10];rfl
  simp only[if_neg h10]
  rfl
theorem Al2{k:Int}{a b c:List Nd}(h:a.length+b.length+c.length≤1000000):Bp k a b c=some (⟨k,[]⟩::(a++b++c)):=by
 unfold Bp apO
 rw[if_pos (by simp only[List.length_cons,List.length_nil];omega)]
 simp only[Option.bind_some]
 rw[if_pos (by simp only[List.length_cons,List.length_nil,List.length_append];omega)]
 simp only[Option.bind_some]
 rw[if_pos (by simp only[List.length_cons,List.length_nil,List.length_append];omega)]
 simp
def Afs(l:List Tk)(r:Rs (List Nd)):List Nd×Int×Bool:=match r with
 |(some a,i)=>(a,ps l i,true)
 |(none,i)=>([],ps l i,false)
def A6r(l:List Tk)(r:Rs (List Nd×Nat)):List Nd×Int×Int:=match r with
 |(some x,i)=>(x.1,ps l i,(x.2:Int))
 |(none,i)=>([],ps l i,-1)
theorem Bss{l ts:List Tk}(hF:Fit l)(h:ts <:+ l){f:Nat}(ih: ∀r,r <:+ l→r.length<ts.length→cashbookref15_climb f l (ps l r) 0=some (Afs l (CL r 0))):
  cashbookref15_primary (f+1) l (ps l ts)=some (A6r l (bnd (Dg CL ts) fun a i=>(some (a,8),i))):=by
 have hl:=hF.l6
 have hle:=hF.le h
 rw[cashbookref15_primary,Bpg h]
 cases ts with
 |nil=>rfl
 |cons t r=>
  have hr:=C2 h
  simp only[List.length_cons] at hle
  simp only[List.isEmpty_cons,Bool.false_eq_true,if_false]
  rw[Aad h,L7 h]
  simp only[Option.bind_some]
  by_cases hp:isT [40] (t::r)=true
  ·have hspec:Dg CL (t::r)=bnd (CL r 0) fun a i=>Hk [41] i fun j=>(some a,j):=by unfold Dg;simp only[if_pos hp]
   rw[hspec,if_pos hp,Ei h hl,ih r hr (by simp)]
   simp only[Option.bind_some]
   cases e1:CL r 0 with
   |mk o i=>
    have hi:=Hg hr e1
    cases o with
    |none=>rfl
    |some a=>
     simp only[Afs,Bool.not_true,Bool.not_false]
     rw[L7 hi]
     simp only[A0,cond_true,Option.bind_some,Bool.false_or,bnd,Hk]
     by_cases hc:isT [41] i=true
     ·obtain⟨t2,r2,rfl,_,_⟩:=Bs hc
      simp only[hc,Bool.not_true,Bool.false_eq_true,if_false,if_true,List.tail_cons,Ei hi hl]
      rfl
     ·simp only[Bool.not_eq_true] at hc
      simp only[hc,Bool.not_false,if_true,Bool.false_eq_true,if_false]
      rfl
  ·rw[if_neg hp,L7 h]
   simp only[Option.bind_some]
   rw[L7 h]
   have e1:Aik=[109,105,110]:=rfl
   have e2:Awp=[109,97,120]:=rfl
   have hm2:(isT [109,105,110] (t::r)||bif !isT [109,105,110] (t::r) then isT [109,97,120] (t::r) else default)=(isT Aik (t::r)||isT Awp (t::r)):=by
    rw[e1,e2]
    cases hx:isT [109,105,110] (t::r) with
    |true=>rfl
    |false=>rfl
   simp only[A0,Option.bind_some,hm2]
   by_cases hm:(isT Aik (t::r)||isT Awp (t::r))=true
   ·have hspec:Dg CL (t::r)=Hk [40] r fun r2=>bnd (CL r2 0) fun a i=>Hk [44] i fun i2=>bnd (CL i2 0) fun b j=>Hk [41] j fun j2=>
      (some (⟨if t.Af=Aik then 16 else 17,[]⟩::(a++b)),j2):=by unfold Dg;simp only[if_neg hp,if_pos hm]
    rw[hspec,if_pos hm,Ei h hl,L7 hr]
    simp only[Option.bind_some,Hk]
    by_cases hc:isT [40] r=true
    ·obtain⟨t1,r1,rfl,_,_⟩:=Bs hc
     have hr1:=C2 hr
     have hw2:IntKind.wrap .i64 (ps l (t::t1::r1)+2)=ps l r1:=by
      have hlen:=h.length_le
      unfold ps
      simp only[List.length_cons] at hlen⊢
      rw[wrap64 (by omega) (by omega)]
      omega
     simp only[hc,Bool.not_true,Bool.false_eq_true,if_false,if_true,List.tail_cons,hw2]
     rw[ih r1 hr1 (by simp;omega)]
     simp only[Option.bind_some]
     cases e3:CL r1 0 with
     |mk o i=>
      have hi:=Hg hr1 e3
      cases o with
      |none=>rfl
      |some a=>
       have hz:=B7 e3
       have hil:=Ara e3
       simp only[List.length_cons] at hle
       simp only[Afs,Bool.not_true,Bool.not_false]
       rw[L7 hi]
       simp only[A0,cond_true,Option.bind_some,Bool.false_or,bnd]
       by_cases hc2:isT [44] i=true
       ·obtain⟨t2,r2,rfl,_,_⟩:=Bs hc2
        have hr2:=C2 hi
        simp only[List.length_cons] at hz hil
        simp only[hc2,Bool.not_true,Bool.false_eq_true,if_false,if_true,List.tail_cons,Ei hi hl]
        rw[ih r2 hr2 (by simp;omega)]
        simp only[Option.bind_some]
        cases e4:CL r2 0 with
        |mk o j=>
         have hj:=Hg hr2 e4
         cases o with
         |none=>rfl
         |some b=>
          have hz2:=B7 e4
          have hjl:=Ara e4
          simp only[Afs,Bool.not_true,Bool.not_false]
          rw[L7 hj]
          simp only[A0,cond_true,Option.bind_some,Bool.false_or]
          by_cases hc3:isT [41] j=true
          ·obtain⟨t3,r3,rfl,_,_⟩:=Bs hc3
           simp only[hc3,Bool.not_true,Bool.false_eq_true,if_false,if_true,List.tail_cons,Ei hj hl,beq_iff_eq]
           rw[Al2 (by simp;omega),Al2 (by simp;omega)]
           rw[e1]
           by_cases hx:t.Af=[109,105,110]
           ·rw[if_pos hx,if_pos hx]
            simp[A6r]
           ·rw[if_neg hx,if_neg hx]
            simp[A6r]
          ·simp only[Bool.not_eq_true] at hc3
           simp only[hc3,Bool.not_false,if_true,Bool.false_eq_true,if_false]
           rfl
       ·simp only[Bool.not_eq_true] at hc2
        simp only[hc2,Bool.not_false,if_true,Bool.false_eq_true,if_false]
        rfl
    ·simp only[Bool.not_eq_true] at hc
     simp only[hc,Bool.not_false,if_true,Bool.false_eq_true,if_false]
     rfl
   ·have hspec:Dg CL (t::r)=if t.Ae=1 then(if isT [37] r=true then(some [⟨0,t.Af++[37]⟩],r.tail) else(some [⟨0,t.Af⟩],r))
      else if t.Ae=0∧Atk t.Af false=false then(some [⟨1,t.Af⟩],r) else(none,t::r):=by unfold Dg;simp only[if_neg hp,if_neg hm]
    rw[hspec,if_neg hm,Ei h hl,L7 hr,Bmx]
    simp only[A0,Option.bind_some]
    have htx:t.Af.length≤100000:=hF.tx t (h.subset (by simp))
    by_cases h1:t.Ae=1
    ·simp only[h1,beq_self_eq_true,cond_true,Bool.true_and,if_true,Bool.true_or]
     by_cases hc:isT [37] r=true
     ·obtain⟨t1,r1,rfl,_,_⟩:=Bs hc
      have hw2:IntKind.wrap .i64 (ps l (t::t1::r1)+2)=ps l r1:=by
       have hlen:=h.length_le
       unfold ps
       simp only[List.length_cons] at hlen⊢
       rw[wrap64 (by omega) (by omega)]
       omega
      rw[if_pos hc,if_pos hc,hw2]
      unfold Bfu
      rw[if_pos (by simp;omega)]
      rfl
     ·rw[if_neg hc,if_neg hc]
      rfl
    ·have hb:(t.Ae==1)=false:=by simp[h1]
     simp only[hb,h1,cond_false,Bool.false_and,Bool.false_or,Bool.false_eq_true,if_false]
     by_cases h2:t.Ae=0∧Atk t.Af false=false
     ·rw[if_pos h2,if_pos (by simp[h2.1,h2.2])]
      rw[h2.1]
      rfl
     ·rw[if_neg h2,if_neg (by
       intro hx
       simp only[Bool.and_eq_true,beq_iff_eq,Bool.not_eq_true'] at hx
       exact h2 hx)]
      rfl
theorem Bpj{l ts:List Tk}(hF:Fit l)(h:ts <:+ l){f n:Nat}(hn:n≤7)(hp:cashbookref15_primary f l (ps l ts)=some (A6r l (bnd (Dg CL ts) fun a i=>(some (a,8),i))))
  (ih: ∀r (k:Nat),k≤7→r <:+ l→r.length<ts.length→cashbookref15_climb f l (ps l r) (k:Int)=some (Afs l (CL r k))):
  cashbookref15_first (f+1) l (ps l ts) (n:Int)=some (A6r l (B9 CL ts n)):=by
 have hl:=hF.l6
 have hle:=hF.le h
 rw[cashbookref15_first,L7 h,L7 h,L7 h]
 simp only[Option.bind_some,A0]
 have hb1:(((n:Int)==0)&&bif ((n:Int)==0) then isT [105,102] ts else default)=decide (n=0∧isT sIf ts=true):=by
  have e:sIf=[105,102]:=rfl
  rw[e]
  by_cases h0:n=0
  ·subst h0;simp
  ·have:((n:Int)==0)=false:=by simp;omega
   rw[this];simp[h0]
 have hb2:(decide ((n:Int)≤3)&&bif decide ((n:Int)≤3) then isT [110,111,116] ts else default)=decide (n≤3∧isT Alk ts=true):=by
  have e:Alk=[110,111,116]:=rfl
  rw[e]
  by_cases h0:n≤3
  ·have:decide ((n:Int)≤3)=true:=by simp;omega
   rw[this];simp[h0]
  ·have:decide ((n:Int)≤3)=false:=by simp;omega
   rw[this];simp[h0]
 rw[hb1,hb2]
 simp only[decide_eq_true_eq]
 unfold B9
 by_cases c1:n=0∧isT sIf ts=true
 ·rw[if_pos c1,if_pos c1]
  obtain⟨t,r,rfl,_,_⟩:=Bs c1.2
  have hr:=C2 h
  simp only[List.length_cons,List.tail_cons] at hle⊢
  rw[Ei h hl,show(0:Int)=((0:Nat):Int) from rfl,ih r 0 (by omega) hr (by simp)]
  simp only[Option.bind_some]
  cases e1:CL r 0 with
  |mk o i=>
   have hi:=Hg hr e1
   cases o with
   |none=>rfl
   |some a=>
    have hz:=B7 e1
    have hil:=Ara e1
    simp only[Afs,Bool.not_true,Bool.not_false]
    rw[L7 hi]
    simp only[A0,cond_true,Option.bind_some,Bool.false_or,bnd,Hk]
    by_cases hc2:isT Aou i=true
    ·obtain⟨t2,r2,rfl,_,_⟩:=Bs hc2
     have hr2:=C2 hi
     simp only[List.length_cons] at hz hil
     have hc2':isT [116,104,101,110] (t2::r2)=true:=hc2
     simp only[hc2,hc2',Bool.not_true,Bool.false_eq_true,if_false,if_true,List.tail_cons,Ei hi hl]
     rw[ih r2 0 (by omega) hr2 (by simp;omega)]
     simp only[Option.bind_some]
     cases e4:CL r2 0 with
     |mk o j=>
      have hj:=Hg hr2 e4
      cases o with
      |none=>rfl
      |some b=>
       have hz2:=B7 e4
       have hjl:=Ara e4
       simp only[Afs,Bool.not_true,Bool.not_false]
       rw[L7 hj]
       simp only[A0,cond_true,Option.bind_some,Bool.false_or]
       by_cases hc3:isT Alj j=true
       ·obtain⟨t3,r3,rfl,_,_⟩:=Bs hc3
        have hr3:=C2 hj
        simp only[List.length_cons] at hz2 hjl
        have hc3':isT [101,108,115,101] (t3::r3)=true:=hc3
        simp only[hc3,hc3',Bool.not_true,Bool.false_eq_true,if_false,if_true,List.tail_cons,Ei hj hl]
        rw[ih r3 0 (by omega) hr3 (by simp;omega)]
        simp only[Option.bind_some]
        cases e5:CL r3 0 with
        |mk o k=>
         cases o with
         |none=>rfl
         |some c=>
          have hz3:=B7 e5
          simp only[Afs,Bool.not_true,Bool.false_eq_true,if_false]
          rw[Al2 (by omega)]
          rfl
       ·have hc3':isT [101,108,115,101] j=false:=by rw[←Bool.not_eq_true];exact hc3
        simp only[hc3,hc3',Bool.not_false,if_true,Bool.false_eq_true,if_false]
        rfl
    ·have hc2':isT [116,104,101,110] i=false:=by rw[←Bool.not_eq_true];exact hc2
     simp only[hc2,hc2',Bool.not_false,if_true,Bool.false_eq_true,if_false]
     rfl
 ·rw[if_neg c1,if_neg c1]
  by_cases c2:n≤3∧isT Alk ts=true
  ·rw[if_pos c2,if_pos c2]
   obtain⟨t,r,rfl,_,_⟩:=Bs c2.2
   have hr:=C2 h
   simp only[List.length_cons,List.tail_cons] at hle⊢
   rw[Ei h hl,show(3:Int)=((3:Nat):Int) from rfl,ih r 3 (by omega) hr (by simp)]
   simp only[Option.bind_some]
   cases e1:CL r 3 with
   |mk o i=>
    cases o with
    |none=>rfl
    |some a=>
     have hz:=B7 e1
     simp only[Afs,Bool.not_true,Bool.false_eq_true,if_false]
     rw[Al2 (by simp;omega)]
     simp[A6r,bnd]
  ·rw[if_neg c2,if_neg c2]
   by_cases c3:isT [45] ts=true
   ·rw[if_pos c3,if_pos c3]
    obtain⟨t,r,rfl,_,_⟩:=Bs c3
    have hr:=C2 h
    simp only[List.length_cons,List.tail_cons] at hle⊢
    rw[Ei h hl,show(7:Int)=((7:Nat):Int) from rfl,ih r 7 (by omega) hr (by simp)]
    simp only[Option.bind_some]
    cases e1:CL r 7 with
    |mk o i=>
     cases o with
     |none=>rfl
     |some a=>
      have hz:=B7 e1
      simp only[Afs,Bool.not_true,Bool.false_eq_true,if_false]
      rw[Al2 (by simp;omega)]
      simp[A6r,bnd]
   ·rw[if_neg c3,if_neg c3,hp]
    rfl
theorem Buu{l:List Tk}(hF:Fit l){f n:Nat}(hn:n≤7){N T:Nat}(hT:T≤100000)
  (ih: ∀r (k:Nat),k≤7→r <:+ l→r.length<N→cashbookref15_climb f l (ps l r) (k:Int)=some (Afs l (CL r k))): ∀(k:Nat) (out:List Nd) (own:Nat) (i:List Tk),i <:+ l→i.length≤k→i.length≤N→out.length+i.length≤T→
   ∃o,A1 (fun(qj5:(List Aa)×Int×Int)=>match qj5 with
    |(out6,i7,own8)=>(
     if (decide (i7<(l.length:Int)))=true then
      (rdO l i7).bind fun x9=>
      (D9 x9).bind fun x10=>
      ((if (x10.2==4)=true then
        some 5
      else
       some x10.2):Option Int).bind fun j11=>
      (some (x10.2==0)).bind fun c13=>
      (some (c13||(decide (x10.2<(n:Int))))).bind fun c14=>
      if (c14||(decide (own8<j11)))=true then
       some (.inr (.inr (out6,i7,true)))
      else
       (cashbookref15_climb f l (IntKind.wrap .i64 (i7+1)) (IntKind.wrap .i64 (x10.2+1))).bind fun x15=>
       if (!x15.2.2)=true then
        some (.inr (.inr (([]:List Aa),x15.2.1,false)))
       else
        (Bp x10.1 out6 x15.1 ([]:List Aa)).bind fun x16=>
        some (.inl (x16,x15.2.1,x10.2))
     else
      some (.inr (.inl (out6,i7))):Option (((List Aa)×Int×Int)⊕(((List Aa)×Int)⊕((List Aa)×Int×Bool))))) (out,ps l i,(own:Int))=some o∧(match o with
     | .inr o=>some o
     | .inl (out17,i18)=>some (out17,i18,true))=some (Afs l (bnd (Cw CL n k out own i) fun y j=>(some y.1,j))):=by
 have hl:=hF.l6
 intro k
 induction k with
 |zero=>
  intro out own i hi hk hN hout
  obtain rfl:i=[]:=List.eq_nil_of_length_eq_zero (by omega)
  refine⟨.inl (out,ps l []),Aw ?_,rfl⟩
  show(if decide (ps l []<(l.length:Int))=true then _ else _)=_
  rw[Td hi]
  rfl
 |succ k ihk=>
  intro out own i hi hk hN hout
  cases i with
  |nil=>
   refine⟨.inl (out,ps l []),Aw ?_,rfl⟩
   show(if decide (ps l []<(l.length:Int))=true then _ else _)=_
   rw[Td hi]
   rfl
  |cons t r=>
   simp only[List.length_cons] at hk hN hout
   have hr:=C2 hi
   have hrl:=hF.le hr
   have hd:=Ps t
   have hneed:(if (((Bf t).2:Int)==4)=true then some (5:Int) else some ((Bf t).2:Int))=some ((Rl (Bf t).2:Nat):Int):=by
    unfold Rl
    by_cases h4:(Bf t).2=4
    ·rw[h4];rfl
    ·rw[if_neg (by simp;omega),if_neg h4]
   have hcond:(((Bf t).2:Int)==0||decide (((Bf t).2:Int)<(n:Int))||decide ((own:Int)<((Rl (Bf t).2:Nat):Int)))=decide ((Bf t).2=0∨(Bf t).2<n∨own<Rl (Bf t).2):=by
    rw[Bool.eq_iff_iff]
    simp only[Bool.or_eq_true,beq_iff_eq,decide_eq_true_eq]
    omega
   have hstep: ∀(F:List Nd×Int×Bool→Option (((List Aa)×Int×Int)⊕(((List Aa)×Int)⊕((List Aa)×Int×Bool)))),True:=fun _=>trivial
   by_cases hs:(Bf t).2=0∨(Bf t).2<n∨own<Rl (Bf t).2
   ·rw[El hs]
    refine⟨.inr (out,ps l (t::r),true),Aw ?_,rfl⟩
    show(if decide (ps l (t::r)<(l.length:Int))=true then _ else _)=_
    rw[Td hi,Aad hi]
    simp only[List.isEmpty_cons,Bool.not_false,if_true,Option.bind_some]
    rw[A97]
    simp only[Option.bind_some]
    rw[hneed]
    simp only[Option.bind_some]
    rw[hcond,if_pos (by simpa using hs)]
   ·rw[Jm hs]
    have hw:IntKind.wrap .i64 (((Bf t).2:Int)+1)=(((Bf t).2+1:Nat):Int):=by rw[wrap64 (by omega) (by omega)];rfl
    have hc:=ih r ((Bf t).2+1) (by omega) hr (by omega)
    cases e1:CL r ((Bf t).2+1) with
    |mk o j=>
     rw[e1] at hc
     cases o with
     |none=>
      refine⟨.inr ([],ps l j,false),Aw ?_,rfl⟩
      show(if decide (ps l (t::r)<(l.length:Int))=true then _ else _)=_
      rw[Td hi,Aad hi]
      simp only[List.isEmpty_cons,Bool.not_false,if_true,Option.bind_some]
      rw[A97]
      simp only[Option.bind_some]
      rw[hneed]
      simp only[Option.bind_some]
      rw[hcond,if_neg (by simpa using hs),hw,Ei hi hl,hc]
      rfl
     |some b=>
      have hz:=B7 e1
      have hj:=Hg hr e1
      have hjl:=Ara e1
      obtain⟨o,g1,g2⟩:=ihk (⟨(Bf t).1,[]⟩::(out++b)) (Bf t).2 j hj (by omega) (by omega) (by simp;omega)
      refine⟨o,?_,g2⟩
      rw[←g1]
      refine Bj ?_
      show(if decide (ps l (t::r)<(l.length:Int))=true then _ else _)=_
      rw[Td hi,Aad hi]
      simp only[List.isEmpty_cons,Bool.not_false,if_true,Option.bind_some]
      rw[A97]
      simp only[Option.bind_some]
      rw[hneed]
      simp only[Option.bind_some]
      rw[hcond,if_neg (by simpa using hs),hw,Ei hi hl,hc]
      simp only[Afs,Option.bind_some,Bool.not_true,Bool.false_eq_true,if_false]
      rw[Al2 (by simp;omega)]
      simp
theorem Axi{l ts:List Tk}(hF:Fit l)(h:ts <:+ l){f n:Nat}(hn:n≤7)(hf:cashbookref15_first f l (ps l ts) (n:Int)=some (A6r l (B9 CL ts n)))(hz: ∀x i,B9 CL ts n=(some x,i)→x.1.length+i.length≤ts.length)
  (ih: ∀r (k:Nat),k≤7→r <:+ l→r.length<ts.length→cashbookref15_climb f l (ps l r) (k:Int)=some (Afs l (CL r k))):
  cashbookref15_climb (f+1) l (ps l ts) (n:Int)=some (Afs l (CL ts n)):=by
 rw[cashbookref15_climb,hf,An3]
 simp only[Option.bind_some]
 cases e1:B9 CL ts n with
 |mk o i=>
  have hi:i <:+ l:=by have:=(Al1 Fk ts n).trans h;rw[e1] at this;exact this
  have hlt:=Bbg ts n
  rw[e1] at hlt
  cases o with
  |none=>rfl
  |some x=>
   have hz:=hz x i e1
   have hlt:=hlt (by simp)
   simp only at hlt
   have hneg: ¬decide ((A6r l (some x,i)).2.2<0)=true:=by
    show ¬decide ((x.2:Int)<0)=true
    rw[decide_eq_true_eq]
    omega
   rw[if_neg hneg]
   obtain⟨o,g1,g2⟩:=Buu hF hn (N:=ts.length) (T:=ts.length) (hF.le h) ih i.length x.1 x.2 i hi (Nat.le_refl _) (by omega) hz
   exact Bi g1 g2
theorem Bbh(ts:List Tk)(n:Nat): ∀x i,B9 CL ts n=(some x,i)→x.1.length+i.length≤ts.length:=by
 intro x i h
 unfold B9 at h
 split at h
 ·obtain⟨t,r,rfl,_,_⟩:=Bs (And.right (by assumption))
  obtain⟨a1,i1,h1,h2⟩:=Cm h
  obtain⟨t1,r1,rfl,_,_,h3⟩:=Em h2
  obtain⟨a2,i2,h4,h5⟩:=Cm h3
  obtain⟨t2,r2,rfl,_,_,h6⟩:=Em h5
  obtain⟨a3,i3,h7,h8⟩:=Cm h6
  cases h8
  have e1:=B7 h1
  have e2:=B7 h4
  have e3:=B7 h7
  simp at e1 e2 e3⊢
  omega
 ·split at h
  ·obtain⟨t,r,rfl,_,_⟩:=Bs (And.right (by assumption))
   obtain⟨a1,i1,h1,h2⟩:=Cm h
   cases h2
   have e1:=B7 h1
   simp at e1⊢
   omega
  ·split at h
   ·obtain⟨t,r,rfl,_,_⟩:=Bs (by assumption)
    obtain⟨a1,i1,h1,h2⟩:=Cm h
    cases h2
    have e1:=B7 h1
    simp at e1⊢
    omega
   ·obtain⟨a1,i1,h1,h2⟩:=Cm h
    cases h2
    cases ts with
    |nil=>cases h1
    |cons t r=>
     unfold Dg at h1
     simp only at h1
     split at h1
     ·obtain⟨a2,i2,h3,h4⟩:=Cm h1
      obtain⟨t1,r1,rfl,_,_,h5⟩:=Em h4
      cases h5
      have:=B7 h3
      simp at this⊢
      omega
     ·split at h1
      ·obtain⟨t1,r1,rfl,_,_,h3⟩:=Em h1
       obtain⟨a1,i1,h4,h5⟩:=Cm h3
       obtain⟨t2,r2,rfl,_,_,h6⟩:=Em h5
       obtain⟨a2,i2,h7,h8⟩:=Cm h6
       obtain⟨t3,r3,rfl,_,_,h9⟩:=Em h8
       cases h9
       have e1:=B7 h4
       have e2:=B7 h7
       simp at e1 e2⊢
       omega
      ·split at h1
       ·split at h1
        ·obtain⟨t1,r1,rfl,_,_⟩:=Bs (by assumption)
         cases h1;simp;omega
        ·cases h1;simp;omega
       ·split at h1
        ·cases h1;simp;omega
        ·cases h1
theorem Bk0{l:List Tk}(hF:Fit l): ∀(N:Nat) (ts:List Tk),ts <:+ l→ts.length≤N→ ∀(n f:Nat),n≤7→3*ts.length+3≤f→cashbookref15_climb f l (ps l ts) (n:Int)=some (Afs l (CL ts n)):=by
 intro N
 induction N with
 |zero=>
  intro ts hts hN n f hn hf
  obtain⟨g,rfl⟩: ∃g,f=g+3:=⟨f-3,by omega⟩
  have hemp: ∀r:List Tk,¬r.length<ts.length:=fun r=>by omega
  exact Axi hF hts hn (Bpj hF hts hn (Bss hF hts (fun r _ hr=>absurd hr (hemp r))) (fun r k _ _ hr=>absurd hr (hemp r))) (Bbh ts n) (fun r k _ _ hr=>absurd hr (hemp r))
 |succ N ih=>
  intro ts hts hN n f hn hf
  obtain⟨g,rfl⟩: ∃g,f=g+3:=⟨f-3,by omega⟩
  exact Axi hF hts hn (Bpj hF hts hn (Bss hF hts (fun r h1 hr=>ih r h1 (by omega) 0 g (by omega) (by omega))) (fun r k hk h1 hr=>ih r h1 (by omega) k _ hk (by omega))) (Bbh ts n) (fun r k hk h1 hr=>ih r h1 (by omega) k _ hk (by omega))
theorem Bnm{l ts:List Tk}(hF:Fit l)(h:ts <:+ l)(hl:l.length≤8000):cashbookref15_climb 100000 l (ps l ts) 0=some (Afs l (CL ts 0)):=
 Bk0 hF ts.length ts h (Nat.le_refl _) 0 100000 (by omega) (by have:=h.length_le;omega)
end Go.Av.G
end
section
set_option linter.unusedVariables false
set_option linter.unusedSimpArgs false
set_option maxRecDepth 4000
set_option maxHeartbeats 4000000
namespace Go.Av.G
open Go Go.Av Go.Proofs
def Ht(k:Int):Option Nat:=if k<0∨17<k then none else if k≤1 then some 0 else if k=2∨k=14 then some 1 else if k=15 then some 3 else some 2
theorem A60{k:Int}{n:Nat}(h1:Ht k=some n):n≤3:=by
 unfold Ht at h1
 split at h1
 ·cases h1
 ·split at h1
  ·cases h1;omega
  ·split at h1
   ·cases h1;omega
   ·split at h1
    ·cases h1;omega
    ·cases h1;omega
def A6y(k:Int):Int:=match Ht k with|none=> -1|some n=>(n:Int)
theorem has_eq(k:Int):Lf k=some (A6y k):=by
 unfold Lf A6y Ht
 simp only[Option.bind_some,Bool.or_eq_true,decide_eq_true_eq,beq_iff_eq]
 by_cases h0:k<0∨17<k
 ·rw[if_pos (by omega),if_pos h0]
 ·rw[if_neg (by omega),if_neg h0]
  by_cases h1:k≤1
  ·rw[if_pos h1,if_pos h1];rfl
  ·rw[if_neg h1,if_neg h1]
   by_cases h2:k=2∨k=14
   ·rw[if_pos h2,if_pos h2];rfl
   ·rw[if_neg h2,if_neg h2]
    by_cases h3:k=15
    ·rw[if_pos h3,if_pos h3];rfl
    ·rw[if_neg h3,if_neg h3];rfl
theorem Bj7(k:Int):Es k=some (A6y k):=by
 rw[←has_eq]
 unfold Lf Es
 simp only[Option.bind_some,Bool.or_eq_true,decide_eq_true_eq,beq_iff_eq]
 have:k<2↔k≤1:=by omega
 simp only[this]
def trimS(s:By):By:=if s.getLast?=some 37 then s.dropLast else s
def Oe(s:By):Bool:=okT ⟨1,0,0,s⟩
def Asq(s:By)(p:Bool):Bool:=okT ⟨0,0,0,s⟩&& !Atk s p
def Aof(n:Nd):Bool:=if n.Ae=0 then Oe (trimS n.Af) else if n.Ae=1 then Asq n.Af false else decide (n.Af=[])
theorem A4v{s:By}(hl:s.length≤1000000):stringslite_HasSuffix s [37]=some (decide (s.getLast?=some 37)):=by
 unfold stringslite_HasSuffix
 simp only[Option.bind_some]
 rcases List.eq_nil_or_concat s with rfl|⟨u,b,rfl⟩
 ·rfl
 ·have hlen:((u++[b]).length:Int)=(u.length:Int)+1:=by simp
  have hle:u.length≤1000000:=by simp only[List.length_append,List.length_cons,List.length_nil,List.concat_eq_append] at hl;omega
  simp only[List.concat_eq_append] at*
  have hw:IntKind.wrap .i64 (((u++[b]).length:Int)-(([37]:By).length:Int))=(u.length:Int):=by
   rw[wrap64 (by simp only[List.length_append,List.length_cons,List.length_nil];omega) (by simp only[List.length_append,List.length_cons,List.length_nil];omega)];simp
  have hg:decide (((u++[b]).length:Int)≥(([37]:By).length:Int))=true:=by simp only[List.length_append,List.length_cons,List.length_nil,decide_eq_true_eq];omega
  rw[hw,hg,Hh (by simp),List.drop_left]
  simp only[A0,cond_true,Option.bind_some,Bool.true_and,Option.some.injEq]
  by_cases hb:b=37<;>simp[hb]
theorem Auf{s:By}(hl:s.length≤1000000)(h:s.getLast?=some 37):slO s 0 (IntKind.wrap .i64 ((s.length:Int)-(([37]:By).length:Int)))=some s.dropLast:=by
 rcases List.eq_nil_or_concat s with rfl|⟨u,b,rfl⟩
 ·cases h
 ·simp only[List.concat_eq_append] at*
  have hle:u.length≤1000000:=by simp only[List.length_append,List.length_cons,List.length_nil,List.concat_eq_append] at hl;omega
  have hw:IntKind.wrap .i64 (((u++[b]).length:Int)-(([37]:By).length:Int))=(u.length:Int):=by
   rw[wrap64 (by simp only[List.length_append,List.length_cons,List.length_nil];omega) (by simp only[List.length_append,List.length_cons,List.length_nil];omega)];simp
  rw[hw,I1 (by simp)]
  simp
theorem Bsb{s:By}(hl:s.length≤1000000):strings_TrimSuffix s [37]=some (trimS s):=by
 unfold strings_TrimSuffix stringslite_TrimSuffix trimS
 rw[A4v hl]
 simp only[Option.bind_some,decide_eq_true_eq]
 split
 ·rw[Auf hl (by assumption)];rfl
 ·rfl
theorem Be1(s:By):(trimS s).length≤s.length:=by unfold trimS;split<;>simp
theorem Ama{s:By}(hl:s.length≤1000000):Ez s=some (Oe s):=by
 unfold Ez
 rw[Bap (t:=⟨1,0,0,s⟩) (by show s.length<_;omega)]
 rfl
theorem Bkr{s:By}(hl:s.length≤1000000)(p:Bool):Lg s p=some (Asq s p):=by
 unfold Lg Asq
 rw[Bap (t:=⟨0,0,0,s⟩) (by show s.length<_;omega)]
 simp only[Option.bind_some]
 rw[Bo7]
 simp only[A0,Option.bind_some,Option.some.injEq]
 cases okT ⟨0,0,0,s⟩<;>rfl
theorem Brh{n:Nd}(hl:n.Af.length≤1000000):Abd n=some (Aof n):=by
 unfold Abd Aof
 simp only[beq_iff_eq]
 by_cases h0:n.Ae=0
 ·rw[if_pos h0,if_pos h0,Bsb hl]
  simp only[Option.bind_some]
  rw[Ama (Nat.le_trans (Be1 _) hl)]
  rfl
 ·rw[if_neg h0,if_neg h0]
  by_cases h1:n.Ae=1
  ·rw[if_pos h1,if_pos h1,Bkr hl];rfl
  ·rw[if_neg h1,if_neg h1]
   cases n.Af<;>rfl
theorem Bru{s:By}(hl:s.length≤1000000):Ew s=some (Oe s):=by
 unfold Ew
 rw[A5n (t:=⟨1,0,0,s⟩) (by show s.length<_;omega)]
 rfl
theorem Bps{s:By}(hl:s.length≤1000000)(p:Bool):Gd s p=some (Asq s p):=by
 unfold Gd Asq
 rw[A5n (t:=⟨0,0,0,s⟩) (by show s.length<_;omega)]
 simp only[Option.bind_some]
 rw[Bmx]
 rfl
theorem Blb{s:By}(hl:s.length≤1000000)(h:s≠[]):byO s (IntKind.wrap .i64 ((s.length:Int)-1))=(s.getLast?).map fun b=>(b.toNat:Int):=by
 rcases List.eq_nil_or_concat s with rfl|⟨u,b,rfl⟩
 ·exact absurd rfl h
 ·simp only[List.concat_eq_append] at*
  have hle:u.length≤1000000:=by simp only[List.length_append,List.length_cons,List.length_nil,List.concat_eq_append] at hl;omega
  have hw:IntKind.wrap .i64 (((u++[b]).length:Int)-1)=(u.length:Int):=by
   rw[wrap64 (by simp only[List.length_append,List.length_cons,List.length_nil];omega) (by simp only[List.length_append,List.length_cons,List.length_nil];omega)];simp
  rw[hw,P9 (by simp)]
  simp
theorem Bd6{n:Nd}(hl:n.Af.length≤1000000):D8 n=some (Aof n):=by
 unfold D8 Aof
 simp only[beq_iff_eq]
 by_cases h0:n.Ae=0
 ·rw[if_pos h0,if_pos h0]
  simp only[Option.bind_some]
  have key:(gdO (decide ((n.Af.length:Int)>0)) (byO n.Af (IntKind.wrap .i64 ((n.Af.length:Int)-1))) 0).bind (fun x3=>
    ((if (decide ((n.Af.length:Int)>0)&&(x3==37))=true then
      some (IntKind.wrap .i64 ((n.Af.length:Int)-1))
    else
     some (n.Af.length:Int)):Option Int))=some ((trimS n.Af).length:Int)∧slO n.Af 0 ((trimS n.Af).length:Int)=some (trimS n.Af):=by
   rcases List.eq_nil_or_concat n.Af with he|⟨u,b,he⟩
   ·rw[he];exact⟨rfl,rfl⟩
   ·rw[List.concat_eq_append] at he
    have hle:u.length≤1000000:=by rw[he] at hl;simp only[List.length_append,List.length_cons,List.length_nil] at hl;omega
    have hne:n.Af≠[]:=by rw[he];simp
    have hd:decide ((n.Af.length:Int)>0)=true:=by rw[he];simp only[List.length_append,List.length_cons,List.length_nil,decide_eq_true_eq];omega
    have hw:IntKind.wrap .i64 ((n.Af.length:Int)-1)=(u.length:Int):=by
     rw[he,wrap64 (by simp only[List.length_append,List.length_cons,List.length_nil];omega) (by simp only[List.length_append,List.length_cons,List.length_nil];omega)];simp
    rw[hd,Blb hl hne,hw]
    unfold trimS
    rw[he]
    simp only[List.getLast?_append,List.getLast?_singleton,Option.some_or,Option.map_some,A0,cond_true,Option.bind_some,Bool.true_and,Option.some.injEq,List.dropLast_concat]
    by_cases hb:b=37
    ·subst hb
     refine⟨rfl,?_⟩
     simp only[if_true]
     rw[I1 (by simp)]
     simp
    ·have hb2:((b.toNat:Int)==37)=false:=by
      rw[beq_eq_false_iff_ne]
      intro hc
      refine hb (UInt8.toNat_inj.1 ?_)
      show b.toNat=37
      omega
     rw[hb2,if_neg hb]
     refine⟨rfl,?_⟩
     rw[I1 (Nat.le_refl _),List.take_length]
  obtain⟨k1,k2⟩:=key
  obtain⟨x3,k3,k4⟩:=Aqw k1
  rw[k3]
  simp only[Option.bind_some]
  refine Bi k4 ?_
  refine Bi k2 ?_
  rw[Bru (Nat.le_trans (Be1 _) hl)]
  rfl
 ·rw[if_neg h0,if_neg h0]
  by_cases h1:n.Ae=1
  ·rw[if_pos h1,if_pos h1,Bps hl];rfl
  ·rw[if_neg h1,if_neg h1]
   cases n.Af<;>rfl
def stk:List Nd→Option (List Nat)
 |[]=>some []
 |n::l=>match stk l with
  |none=>none
  |some st=>match Ht n.Ae with
   |none=>none
   |some k=>if Aof n=true∧k≤st.length then some (((st.take k).foldl max 0+1)::st.drop k) else none
def Rk(l:List Nd):Nat:=if 200<l.length then 0 else match stk l with
 |some [d]=>if d≤24 then d else 0
 |_=>0
theorem Beu: ∀(p:List Nd) {l:List Nd},stk l=none→stk (p++l)=none
 |[],l,h=>h
 |n::p,l,h=>by rw[List.cons_append,stk,Beu p h]
theorem Bkf: ∀{l:List Nd} {st:List Nat},stk l=some st→st.length≤l.length
 |[],st,h=>by cases h;exact Nat.le_refl _
 |n::l,st,h=>by
  rw[stk] at h
  cases h1:stk l with
  |none=>rw[h1] at h;cases h
  |some s=>
   have:=Bkf h1
   rw[h1] at h
   simp only at h
   cases h2:Ht n.Ae with
   |none=>rw[h2] at h;cases h
   |some k=>
    rw[h2] at h
    simp only at h
    split at h
    ·cases h;simp;omega
    ·cases h
theorem Br8{l:List Nd}(h:stk l=some []):l=[]:=by
 cases l with
 |nil=>rfl
 |cons n l=>
  rw[stk] at h
  cases h1:stk l with
  |none=>rw[h1] at h;cases h
  |some s=>
   rw[h1] at h
   simp only at h
   cases h2:Ht n.Ae with
   |none=>rw[h2] at h;cases h
   |some k=>
    rw[h2] at h
    simp only at h
    split at h<;>cases h
theorem Apb: ∀(l:List Nat) (m b:Nat),m≤b→(∀x∈l,x≤b)→l.foldl max m≤b
 |[],m,b,h,_=>h
 |x::l,m,b,h,hx=>Apb l _ b (Nat.max_le.2 ⟨h,hx x (by simp)⟩) (fun y hy=>hx y (by simp[hy]))
theorem A50: ∀{l:List Nd} {st:List Nat},stk l=some st→ ∀d∈st,d≤l.length
 |[],st,h=>by cases h;simp
 |n::l,st,h=>by
  rw[stk] at h
  cases h1:stk l with
  |none=>rw[h1] at h;cases h
  |some s=>
   have hb:=A50 h1
   rw[h1] at h
   simp only at h
   cases h2:Ht n.Ae with
   |none=>rw[h2] at h;cases h
   |some k=>
    rw[h2] at h
    simp only at h
    split at h
    ·cases h
     intro d hd
     rw[List.mem_cons] at hd
     rcases hd with rfl|hd
     ·have:=Apb (s.take k) 0 l.length (by omega) (fun x hx=>hb x (List.mem_of_mem_take hx))
      simp only[List.length_cons]
      omega
     ·have:=hb d (List.mem_of_mem_drop hd)
      simp only[List.length_cons]
      omega
    ·cases h
def stI(st:List Nat):List Int:=(st.map fun(d:Nat)=>(d:Int)).reverse
theorem Boz{st:List Nat}{k:Nat}(hk:k≤st.length)(hl:st.length≤100000):A1 (fun(qj11:Int×Int)=>match qj11 with
       |(deep12,k13)=>(
        if (decide (k13<(k:Int)))=true then
         (rdO (stI st) (IntKind.wrap .i64 ((IntKind.wrap .i64 (((stI st).length:Int)-1))-k13))).bind fun x14=>
         some (.inl ((if x14>deep12 then x14 else deep12),IntKind.wrap .i64 (k13+1)))
        else
         some (.inr deep12):Option ((Int×Int)⊕Int))) (0,0)=some (((st.take k).foldl max 0:Nat):Int):=by
 have key: ∀(d j:Nat),j+d=k→A1 (fun(qj11:Int×Int)=>match qj11 with
       |(deep12,k13)=>(
        if (decide (k13<(k:Int)))=true then
         (rdO (stI st) (IntKind.wrap .i64 ((IntKind.wrap .i64 (((stI st).length:Int)-1))-k13))).bind fun x14=>
         some (.inl ((if x14>deep12 then x14 else deep12),IntKind.wrap .i64 (k13+1)))
        else
         some (.inr deep12):Option ((Int×Int)⊕Int))) ((((st.take j).foldl max 0:Nat):Int),(j:Int))=some (((st.take k).foldl max 0:Nat):Int):=by
  intro d
  induction d with
  |zero=>
   intro j hj
   obtain rfl:j=k:=by omega
   refine Aw ?_
   show(if _ then _ else _)=_
   rw[if_neg (by simp)]
  |succ d ih=>
   intro j hj
   have hjl:j<st.length:=by omega
   rw[←ih (j+1) (by omega)]
   refine Bj ?_
   show(if _ then _ else _)=_
   have hlen:(stI st).length=st.length:=by simp[stI]
   have hw:IntKind.wrap .i64 ((IntKind.wrap .i64 (((stI st).length:Int)-1))-(j:Int))=((st.length-1-j:Nat):Int):=by
    rw[hlen,wrap64 (x:=(st.length:Int)-1) (by omega) (by omega),wrap64 (by omega) (by omega)]
    omega
   rw[if_pos (by simp;omega),hw,Fu (by rw[hlen];omega)]
   have hg:(stI st)[st.length-1-j]'(by rw[hlen];omega)=(st[j]:Int):=by
    simp only[stI,List.getElem_reverse,List.length_map,List.getElem_map]
    congr 2
    omega
   rw[hg]
   simp only[Option.bind_some]
   rw[List.take_succ_eq_append_getElem hjl,List.foldl_append,wrap64 (by omega) (by omega)]
   simp only[List.foldl_cons,List.foldl_nil,Option.some.injEq,Sum.inl.injEq,Prod.mk.injEq]
   refine⟨?_,rfl⟩
   generalize (st.take j).foldl max 0=m
   split<;>omega
 exact key k 0 (by omega)
theorem Bfz{l:List Nd}(hl:l.length≤200)(hx: ∀n∈l,n.Af.length≤1000000): ∀(pre suf:List Nd),l=pre++suf→ ∀st,stk suf=some st→A1 (fun(qj2:(List Int)×Int)=>match qj2 with
   |(stack3,i4)=>(
    if (decide (i4≥0))=true then
     (rdO l i4).bind fun x5=>
     (Es x5.Ae).bind fun x6=>
     (rdO l i4).bind fun x7=>
     (D8 x7).bind fun x8=>
     (some (decide (x6<0))).bind fun c9=>
     (some (c9||(!x8))).bind fun c10=>
     if (c10||(decide (x6>(stack3.length:Int))))=true then
      some (.inr (.inr 0))
     else
      ((A1 (fun(qj11:Int×Int)=>match qj11 with
        |(deep12,k13)=>(
         if (decide (k13<x6))=true then
          (rdO stack3 (IntKind.wrap .i64 ((IntKind.wrap .i64 ((stack3.length:Int)-1))-k13))).bind fun x14=>
          some (.inl ((if x14>deep12 then x14 else deep12),IntKind.wrap .i64 (k13+1)))
         else
          some (.inr deep12):Option ((Int×Int)⊕Int))) (0,0)):Option Int).bind fun j11=>
      (slO stack3 0 (IntKind.wrap .i64 ((stack3.length:Int)-x6))).bind fun x16=>
      (apO 8 ([]:List Int) x16).bind fun x17=>
      (apO 8 x17 [IntKind.wrap .i64 (j11+1)]).bind fun x18=>
      some (.inl (x18,IntKind.wrap .i64 (i4-1)))
    else
     some (.inr (.inl stack3)):Option (((List Int)×Int)⊕((List Int)⊕Int)))) (stI st,(pre.length:Int)-1)=some (match stk l with|some s=> .inl (stI s)|none=> .inr 0):=by
 intro pre
 induction hn:pre.length generalizing pre with
 |zero=>
  intro suf he st hst
  obtain rfl:pre=[]:=List.eq_nil_of_length_eq_zero hn
  rw[List.nil_append] at he
  subst he
  rw[hst]
  refine Aw ?_
  rfl
 |succ m ih=>
  intro suf he st hst
  rcases List.eq_nil_or_concat pre with rfl|⟨q,n,rfl⟩
  ·cases hn
  ·rw[List.concat_eq_append] at*
   have hq:q.length=m:=by simp at hn;omega
   have he2:l=q++(n::suf):=by simp[he]
   have hlen:q.length<l.length:=by rw[he2];simp
   have hg:l[q.length]=n:=by simp[he2]
   have hm:((m+1:Nat):Int)-1=(q.length:Int):=by omega
   have hnx:n.Af.length≤1000000:=hx n (by rw[he2];simp)
   have hstl:=Bkf hst
   have hsl:suf.length+q.length+1≤200:=by rw[he2] at hl;simp at hl;omega
   have hstI:(stI st).length=st.length:=by simp[stI]
   rw[hm]
   by_cases hgood: ∃k,Ht n.Ae=some k∧Aof n=true∧k≤st.length
   ·obtain⟨k,h1,h2,h3⟩:=hgood
    have hk3:k≤3:=A60 h1
    have hst2:stk (n::suf)=some (((st.take k).foldl max 0+1)::st.drop k):=by
     rw[stk,hst]
     simp only[h1]
     rw[if_pos ⟨h2,h3⟩]
    have:=ih q hq (n::suf) he2 _ hst2
    rw[←this]
    refine Bj ?_
    show(if _ then _ else _)=_
    rw[if_pos (by simp),Fu hlen,hg]
    simp only[Option.bind_some]
    rw[Bj7,Bd6 hnx]
    have hI:A6y n.Ae=(k:Int):=by unfold A6y;rw[h1]
    simp only[Option.bind_some,hI,h2]
    rw[if_neg (by rw[hstI];simp;omega),Boz h3 (by omega)]
    have hb:(st.take k).foldl max 0≤200:=Apb _ _ _ (by omega) (fun x hx=>by
     have:=A50 hst x (List.mem_of_mem_take hx);omega)
    simp only[Option.bind_some]
    have hw:IntKind.wrap .i64 (((stI st).length:Int)-(k:Int))=((st.length-k:Nat):Int):=by
     rw[hstI,wrap64 (by omega) (by omega)];omega
    rw[hw,I1 (by rw[hstI];omega)]
    simp only[Option.bind_some]
    unfold apO
    rw[if_pos (by simp[hstI];omega)]
    simp only[Option.bind_some]
    rw[if_pos (by simp[hstI];omega)]
    simp only[Option.bind_some]
    rw[wrap64 (by omega) (by omega),wrap64 (by omega) (by omega)]
    simp only[List.nil_append,Option.some.injEq,Sum.inl.injEq,Prod.mk.injEq]
    refine⟨?_,by omega⟩
    simp only[stI,List.map_cons,List.reverse_cons]
    congr 1
    rw[List.take_reverse]
    congr 1
    simp only[List.length_map]
    rw[show st.length-(st.length-k)=k by omega,List.map_drop]
   ·have hnone:stk (n::suf)=none:=by
     rw[stk,hst]
     simp only
     cases h1:Ht n.Ae with
     |none=>rfl
     |some k=>
      simp only
      rw[if_neg]
      rintro⟨h2,h3⟩
      exact hgood ⟨k,h1,h2,h3⟩
    have hln:stk l=none:=by rw[he2];exact Beu q hnone
    rw[hln]
    refine Aw ?_
    show(if _ then _ else _)=_
    rw[if_pos (by simp),Fu hlen,hg]
    simp only[Option.bind_some]
    rw[Bj7,Bd6 hnx]
    simp only[Option.bind_some]
    rw[if_pos]
    rw[hstI]
    simp only[Bool.or_eq_true,decide_eq_true_eq,Bool.not_eq_true']
    unfold A6y
    cases h1:Ht n.Ae with
    |none=>left;left;simp
    |some k=>
     simp only
     by_cases h2:Aof n=true
     ·right
      have: ¬k≤st.length:=fun h3=>hgood ⟨k,h1,h2,h3⟩
      omega
     ·left;right
      simpa using h2
theorem Blz{l:List Nd}(hx: ∀n∈l,n.Af.length≤1000000):Dq l=some (Rk l:Int):=by
 unfold Dq Rk
 by_cases hl:200<l.length
 ·rw[if_pos (by simp;omega),if_pos hl];rfl
 ·rw[if_neg (by simp;omega),if_neg hl]
  have h1:=Bfz (by omega) hx l [] (by simp) [] rfl
  have hw:IntKind.wrap .i64 ((l.length:Int)-1)=(l.length:Int)-1:=wrap64 (by omega) (by omega)
  rw[hw]
  refine Bi h1 ?_
  cases hs:stk l with
  |none=>rfl
  |some st=>
   simp only
   have hstI:(stI st).length=st.length:=by simp[stI]
   match st with
   |[]=>rfl
   |[d]=>
    have e0:rdO (stI [d]) 0=some (d:Int):=rfl
    have e1:(((stI [d]).length:Int)!=1)=false:=rfl
    simp only[Option.bind_some,e1,e0,Bool.not_false,A0,cond_true,Bool.false_or]
    by_cases hd:d≤24
    ·rw[if_neg (by simp;omega),if_pos hd]
    ·rw[if_pos (by simp;omega),if_neg hd]
     rfl
   |a::b::st=>
    have e1:(((stI (a::b::st)).length:Int)!=1)=true:=by simp[stI];omega
    simp only[Option.bind_some,e1,Bool.not_true,gdO,Bool.true_or,if_true]
    rfl
def Iq(w:List Nd→Option (List Nd×Nat)):Nat→List Nd→Nat→Option (List Nd×Nat)
 |0,l,deep=>some (l,deep)
 |k+1,l,deep=>match w l with
  |none=>none
  |some (r,d)=>Iq w k r (max deep d)
def Ff:Nat→List Nd→Option (List Nd×Nat)
 |0,_=>none
 |_+1,[]=>none
 |f+1,n::l=>match Ht n.Ae with
  |none=>none
  |some k=>if Aof n=true then(Iq (Ff f) k l 0).map (fun x=>(x.1,x.2+1)) else none
theorem Axv{w:List Nd→Option (List Nd×Nat)}(hw: ∀l r d,w l=some (r,d)→r <:+ l): ∀(k:Nat) (l:List Nd) (m:Nat) (r:List Nd) (d:Nat),Iq w k l m=some (r,d)→r <:+ l
 |0,l,m,r,d,h=>by cases h;exact List.suffix_refl _
 |k+1,l,m,r,d,h=>by
  rw[Iq] at h
  cases h1:w l with
  |none=>rw[h1] at h;cases h
  |some x=>
   rw[h1] at h
   exact(Axv hw k _ _ r d h).trans (hw l x.1 x.2 h1)
theorem A1m: ∀(f:Nat) (l r:List Nd) (d:Nat),Ff f l=some (r,d)→r <:+ l
 |0,l,r,d,h=>by cases h
 |f+1,[],r,d,h=>by cases h
 |f+1,n::l,r,d,h=>by
  rw[Ff] at h
  cases h1:Ht n.Ae with
  |none=>rw[h1] at h;cases h
  |some k=>
   rw[h1] at h
   simp only at h
   split at h
   ·cases h2:Iq (Ff f) k l 0 with
    |none=>rw[h2] at h;cases h
    |some x=>
     rw[h2] at h
     cases h
     exact(Axv (A1m f) k l 0 x.1 x.2 h2).trans (List.suffix_cons n l)
   ·cases h
theorem Be5(f:Nat)(l r:List Nd)(d:Nat)(h:Ff f l=some (r,d)):1≤d∧r.length<l.length:=by
 match f,l with
 |0,l=>cases h
 |f+1,[]=>cases h
 |f+1,n::l=>
  rw[Ff] at h
  cases h1:Ht n.Ae with
  |none=>rw[h1] at h;cases h
  |some k=>
   rw[h1] at h
   simp only at h
   split at h
   ·cases h2:Iq (Ff f) k l 0 with
    |none=>rw[h2] at h;cases h
    |some x=>
     rw[h2] at h
     cases h
     have:=(Axv (A1m f) k l 0 x.1 x.2 h2).length_le
     simp
     omega
   ·cases h
theorem Bjq{w:List Nd→Option (List Nd×Nat)}{N:Nat}(hw: ∀l d st,l.length≤N→stk l=some (d::st)→ ∃r,w l=some (r,d)∧r.length<l.length∧stk r=some st): ∀(k:Nat) (l:List Nd) (m:Nat) (st:List Nat),l.length≤N→stk l=some st→k≤st.length→ ∃r,Iq w k l m=some (r,(st.take k).foldl max m)∧stk r=some (st.drop k)
 |0,l,m,st,_,h,_=>⟨l,rfl,h⟩
 |k+1,l,m,[],_,h,hk=>absurd hk (by simp)
 |k+1,l,m,d::st,hN,h,hk=>by
  obtain⟨r,h1,h2,h3⟩:=hw l d st hN h
  obtain⟨r2,h4,h5⟩:=Bjq hw k r (max m d) st (by omega) h3 (by simpa using hk)
  refine⟨r2,?_,h5⟩
  rw[Iq,h1]
  exact h4
theorem Bkp: ∀(N f:Nat) (l:List Nd) (d:Nat) (st:List Nat),l.length≤N→l.length<f→stk l=some (d::st)→ ∃r,Ff f l=some (r,d)∧r.length<l.length∧stk r=some st:=by
 intro N
 induction N with
 |zero=>
  intro f l d st hN hf h
  obtain rfl:l=[]:=List.eq_nil_of_length_eq_zero (by omega)
  cases h
 |succ N ih=>
  intro f l d st hN hf h
  cases l with
  |nil=>cases h
  |cons n l=>
   obtain⟨g,rfl⟩: ∃g,f=g+1:=⟨f-1,by omega⟩
   simp only[List.length_cons] at hN hf
   rw[stk] at h
   cases h1:stk l with
   |none=>rw[h1] at h;cases h
   |some s=>
    rw[h1] at h
    simp only at h
    cases h2:Ht n.Ae with
    |none=>rw[h2] at h;cases h
    |some k=>
     rw[h2] at h
     simp only at h
     split at h
     ·rename_i h3
      cases h
      obtain⟨r,h4,h5⟩:=Bjq (w:=Ff g) (N:=l.length) (fun l' d' st' hl' hs'=>ih g l' d' st' (by omega) (by omega) hs') k l 0 s (Nat.le_refl _) h1 h3.2
      have h6:Ff (g+1) (n::l)=some (r,(s.take k).foldl max 0+1):=by
       rw[Ff,h2]
       simp only
       rw[if_pos h3.1,h4]
       rfl
      exact⟨r,h6,(Be5 _ _ _ _ h6).2,h5⟩
     ·cases h
theorem Bjr{w:List Nd→Option (List Nd×Nat)}(hw: ∀l r d st,w l=some (r,d)→stk r=some st→stk l=some (d::st)): ∀(k:Nat) (l:List Nd) (m:Nat) (r:List Nd) (d:Nat) (st:List Nat),Iq w k l m=some (r,d)→stk r=some st→ ∃ds:List Nat,ds.length=k∧stk l=some (ds++st)∧d=ds.foldl max m
 |0,l,m,r,d,st,h,hs=>by cases h;exact⟨[],rfl,hs,rfl⟩
 |k+1,l,m,r,d,st,h,hs=>by
  rw[Iq] at h
  cases h1:w l with
  |none=>rw[h1] at h;cases h
  |some x=>
   rw[h1] at h
   obtain⟨ds,h2,h3,h4⟩:=Bjr hw k x.1 (max m x.2) r d st h hs
   exact⟨x.2::ds,by simp[h2],hw l x.1 x.2 _ h1 h3,h4⟩
theorem Bkq: ∀(f:Nat) (l r:List Nd) (d:Nat) (st:List Nat),Ff f l=some (r,d)→stk r=some st→stk l=some (d::st)
 |0,l,r,d,st,h,hs=>by cases h
 |f+1,[],r,d,st,h,hs=>by cases h
 |f+1,n::l,r,d,st,h,hs=>by
  rw[Ff] at h
  cases h1:Ht n.Ae with
  |none=>rw[h1] at h;cases h
  |some k=>
   rw[h1] at h
   simp only at h
   split at h
   ·rename_i h3
    cases h2:Iq (Ff f) k l 0 with
    |none=>rw[h2] at h;cases h
    |some x=>
     rw[h2] at h
     cases h
     obtain⟨ds,g1,g2,g3⟩:=Bjr (Bkq f) k l 0 x.1 x.2 st h2 hs
     rw[stk,g2]
     simp only[h1]
     rw[if_pos ⟨h3,by simp;omega⟩]
     have e1:(ds++st).take k=ds:=by rw[←g1];simp
     have e2:(ds++st).drop k=st:=by rw[←g1];simp
     rw[e1,e2,g3]
   ·cases h
theorem walk_eq: ∀(f:Nat) (l:List Nd),l.length<f→l.length≤100000→(∀n∈l,n.Af.length≤1000000)→Ii f l=some (match Ff f l with|some x=>(x.1,(x.2:Int))|none=>([],0))
 |0,l,h,_,_=>absurd h (by simp)
 |f+1,[],_,_,_=>by
  rw[Ii]
  rfl
 |f+1,n::l,hf,hl,hx=>by
  simp only[List.length_cons] at hf hl
  have hnx:=hx n (by simp)
  rw[Ii]
  have e0:rdO (n::l) 0=some n:=rfl
  have e1:(((n::l).length:Int)==0)=false:=by simp;omega
  rw[e0]
  simp only[Option.bind_some,e1,Bool.not_false,A0,cond_true,Bool.false_or]
  rw[has_eq]
  simp only[A0,cond_true,Option.bind_some]
  rw[Ff]
  have hI:A6y n.Ae=match Ht n.Ae with|none=> -1|some n=>(n:Int):=rfl
  cases h1:Ht n.Ae with
  |none=>
   rw[h1] at hI
   rw[hI]
   rfl
  |some k=>
   have hk3:k≤3:=A60 h1
   rw[h1] at hI
   simp only at hI⊢
   rw[hI]
   have hneg:decide ((k:Int)<0)=false:=by simp
   rw[hneg]
   simp only[Bool.not_false,cond_true,Bool.false_or]
   rw[Brh hnx]
   simp only[A0,cond_true,Option.bind_some]
   by_cases h2:Aof n=true
   ·rw[if_neg (by simp[h2]),if_pos h2]
    have e2:slO (n::l) 1 ((n::l).length:Int)=some l:=by
     have:=Hh (l:=n::l) (n:=1) (by simp)
     simpa using this
    rw[e2]
    simp only[Option.bind_some]
    have key: ∀(d j:Nat) (rest:List Nd) (m:Nat),j+d=k→rest.length≤l.length→m≤100000→(∀n∈rest,n.Af.length≤1000000)→(∀r d',Iq (Ff f) d rest m=some (r,d')→d'≤1000000)→A1 (fun(qj11:(List Aa)×Int×Int)=>match qj11 with
    |(rest12,deep13,x14)=>(
     if (decide (x14<(k:Int)))=true then
      (Ii f rest12).bind fun x15=>
      if (x15.2==0)=true then
       some (.inr (.inr (([]:List Aa),0)))
      else
       some (.inl (x15.1,(if x15.2>deep13 then x15.2 else deep13),IntKind.wrap .i64 (x14+1)))
     else
      some (.inr (.inl (rest12,deep13))):Option (((List Aa)×Int×Int)⊕(((List Aa)×Int)⊕((List Aa)×Int))))) (rest,(m:Int),(j:Int))=some (match Iq (Ff f) d rest m with|some x=> .inl (x.1,(x.2:Int))|none=> .inr ([],0)):=by
     intro d
     induction d with
     |zero=>
      intro j rest m hj _ _ _ _
      refine Aw ?_
      show(if _ then _ else _)=_
      rw[if_neg (by simp;omega)]
      rfl
     |succ d ihd=>
      intro j rest m hj hr hm hxr hb
      have hw:=walk_eq f rest (by omega) (by omega) hxr
      rw[Iq]
      rw[Iq] at hb
      cases h3:Ff f rest with
      |none=>
       rw[h3] at hw
       simp only
       refine Aw ?_
       show(if _ then _ else _)=_
       rw[if_pos (by simp;omega),hw]
       rfl
      |some x=>
       rw[h3] at hw hb
       simp only at hw hb⊢
       have hp:=Be5 f rest x.1 x.2 h3
       have hs:=A1m f rest x.1 x.2 h3
       have hxd:x.2≤100000:=by
        have:=walk_depth f rest x.1 x.2 h3
        omega
       rw[←ihd (j+1) x.1 (max m x.2) (by omega) (by omega) (by omega) (fun n hn=>hxr n (hs.subset hn)) hb]
       refine Bj ?_
       show(if _ then _ else _)=_
       rw[if_pos (by simp;omega),hw]
       simp only[Option.bind_some]
       rw[if_neg (by simp;omega),wrap64 (by omega) (by omega)]
       simp only[Option.some.injEq,Sum.inl.injEq,Prod.mk.injEq,true_and]
       refine⟨?_,rfl⟩
       split<;>omega
    have hb: ∀r d',Iq (Ff f) k l 0=some (r,d')→d'≤1000000:=by
     intro r d' h
     have:=walk_depth (f+1) (n::l) r (d'+1) (by rw[Ff,h1];simp only;rw[if_pos h2,h];rfl)
     simp at this
     omega
    refine Bi (key k 0 l 0 (by omega) (Nat.le_refl _) (by omega) (fun n hn=>hx n (by simp[hn])) hb) ?_
    cases h3:Iq (Ff f) k l 0 with
    |none=>rfl
    |some x=>
     have:=hb x.1 x.2 h3
     simp only[Option.map_some]
     rw[wrap64 (by omega) (by omega)]
     rfl
   ·rw[if_pos (by simpa using h2),if_neg h2]
where walk_depth: ∀(f:Nat) (l r:List Nd) (d:Nat),Ff f l=some (r,d)→d+r.length≤l.length
 |0,l,r,d,h=>by cases h
 |f+1,[],r,d,h=>by cases h
 |f+1,n::l,r,d,h=>by
  rw[Ff] at h
  cases h1:Ht n.Ae with
  |none=>rw[h1] at h;cases h
  |some k=>
   rw[h1] at h
   simp only at h
   split at h
   ·cases h2:Iq (Ff f) k l 0 with
    |none=>rw[h2] at h;cases h
    |some x=>
     rw[h2] at h
     cases h
     have key: ∀(k:Nat) (l:List Nd) (m:Nat) (r:List Nd) (d:Nat),Iq (Ff f) k l m=some (r,d)→d+r.length≤max (m+r.length) l.length∧r.length≤l.length:=by
      intro k
      induction k with
      |zero=>intro l m r d h;cases h;omega
      |succ k ih=>
       intro l m r d h
       rw[Iq] at h
       cases h3:Ff f l with
       |none=>rw[h3] at h;cases h
       |some x=>
        rw[h3] at h
        have e1:=walk_depth f l x.1 x.2 h3
        have e2:=ih x.1 (max m x.2) r d h
        omega
     have:=key k l 0 x.1 x.2 h2
     simp
     omega
   ·cases h
theorem Ba9{l:List Nd}(hx: ∀n∈l,n.Af.length≤1000000):Mw l=some (Rk l:Int):=by
 unfold Mw Rk
 by_cases hl:200<l.length
 ·rw[if_pos (by simp;omega),if_pos hl];rfl
 ·rw[if_neg (by simp;omega),if_neg hl,walk_eq 100000 l (by omega) (by omega) hx]
  simp only[Option.bind_some]
  cases hw:Ff 100000 l with
  |none=>
   simp only
   cases hs:stk l with
   |none=>rfl
   |some st=>
    cases st with
    |nil=>rfl
    |cons d st=>
     obtain⟨r,h1,_⟩:=Bkp l.length 100000 l d st (Nat.le_refl _) (by omega) hs
     rw[hw] at h1
     cases h1
  |some x=>
   obtain⟨r,d⟩:=x
   simp only
   cases r with
   |nil=>
    have hs:=Bkq _ _ _ _ [] hw rfl
    rw[hs]
    simp only
    by_cases hd:d≤24
    ·rw[if_neg (by simp;omega),if_pos hd]
    ·rw[if_pos (by simp;omega),if_neg hd];rfl
   |cons a r=>
    rw[if_pos (by simp)]
    cases hs:stk l with
    |none=>rfl
    |some st=>
     match st with
     |[]=>rfl
     |[d']=>
      obtain⟨r',h1,_,h3⟩:=Bkp l.length 100000 l d' [] (Nat.le_refl _) (by omega) hs
      rw[hw] at h1
      cases h1
      exact absurd (Br8 h3) (by simp)
     |a::b::st=>rfl
theorem right_eq{l:List Nd}(hx: ∀n∈l,n.Af.length≤1000000):D4 l=some (decide (0<Rk l)):=by
 unfold D4
 rw[Ba9 hx]
 simp only[Option.bind_some,Option.some.injEq,decide_eq_decide]
 omega
end Go.Av.G
end
section
set_option linter.unusedVariables false
set_option linter.unusedSimpArgs false
set_option maxRecDepth 4000
set_option maxHeartbeats 4000000
namespace Go.Av.G
open Go Go.Av Go.Proofs
theorem Bao{text:List UInt8}(hl:text.length<4611686018427387904){i:Nat}(hi:i≤text.length):Wc text (i:Int)=some ((plS (text.take i)).1,(plS (text.take i)).2,0):=by
 unfold Wc
 have h1:decide ((i:Int)<0)=false:=decide_eq_false (by omega)
 have h2:decide ((i:Int)>(text.length:Int))=false:=decide_eq_false (by omega)
 simp only[h1,h2,Option.bind_some,Bool.or_self,Bool.false_eq_true,if_false,I1 hi,Bcj (s:=text.take i) (by simp;omega)]
end Go.Av.G
end
section
set_option linter.unusedVariables false
set_option linter.unusedSimpArgs false
set_option maxRecDepth 4000
set_option maxHeartbeats 4000000
namespace Go.Av.G
open Go Go.Av Go.Proofs
theorem Blx{text:List UInt8}(hl:text.length≤8000): ∀(f at_:Nat) (row:List Ac),at_≤text.length→text.length-at_<f→row.length≤1500→
  A1 (fun(qj3:Int×(List Ac))=>match qj3 with
   |(at_4,row5)=>(
    if (decide (at_4<(text.length:Int)))=true then
     (slO text at_4 (text.length:Int)).bind fun x6=>
     (C5 x6).bind fun x7=>
     if (x7.f_E !=0)=true then
      some (.inr (.inr (([]:List Ac),at_4,x7.f_E)))
     else
      if ((row5.length:Int)==1500)=true then
       some (.inr (.inr (([]:List Ac),at_4,6)))
      else
       (Cc text at_4).bind fun x8=>
       (slO text at_4 (IntKind.wrap .i64 (at_4+x7.N2))).bind fun x9=>
       (apO 40 row5 [(⟨x7.Ae,x8.1,x8.2,x9⟩:Ac)]).bind fun x10=>
       (slO text (IntKind.wrap .i64 (at_4+x7.N2)) (text.length:Int)).bind fun x11=>
       (Cu x11).bind fun x12=>
       some (.inl (IntKind.wrap .i64 ((IntKind.wrap .i64 (at_4+x7.N2))+x12),x10))
    else
     some (.inr (.inl row5)):Option ((Int×(List Ac))⊕((List Ac)⊕((List Ac)×Int×Int))))) ((at_:Int),row)
   =some (match N4 f (text.drop at_) at_ row.length with| .inl l=> .inl (row++l.map (Aqo text))| .inr e=> .inr ([],(e.1:Int),(e.2:Int))):=by
 intro f
 induction f with
 |zero=>intro at_ row h1 h2;omega
 |succ f ih=>
  intro at_ row h1 h2 h3
  by_cases he:at_=text.length
  ·subst he
   rw[Aw (o:= .inl row)]
   ·simp[N4]
   ·have:decide (((text.length:Nat):Int)<(text.length:Int))=false:=by simp
    simp only[this,Bool.false_eq_true,if_false]
  ·have hlt:at_<text.length:=by omega
   have hd:decide ((at_:Int)<(text.length:Int))=true:=by simp;omega
   have hrest:text.drop at_≠[]:=by simp;omega
   obtain⟨b,t,hbt⟩: ∃b t,text.drop at_=b::t:=by
    cases hx:text.drop at_ with
    |nil=>exact absurd hx hrest
    |cons b t=>exact⟨b,t,rfl⟩
   have hlr:(b::t).length=text.length-at_:=by rw[←hbt,List.length_drop]
   have hnext:=Bd7 (b:=b) (t:=t) (by omega)
   rw[←hbt] at hnext
   have hs1:=Hh (l:=text) (n:=at_) h1
   rw[N4,if_neg hrest]
   generalize hnx:Bk (text.drop at_)=nx at hnext
   obtain⟨k,n,e⟩:=nx
   by_cases hee:e=0
   ·subst hee
    simp only[reT,if_true] at hnext
    obtain⟨hn1,hn2⟩:=P3 hnx
    rw[List.length_drop] at hn2
    simp only[ne_eq,not_true_eq_false,if_false]
    by_cases hfull:row.length=1500
    ·rw[if_pos hfull,Aw (o:= .inr ([],(at_:Int),6))]
     ·rfl
     ·have:((row.length:Int)==1500)=true:=by simp[hfull]
      simp only[hd,if_true,hs1,hnext,Option.bind_some,bne_self_eq_false,Bool.false_eq_true,if_false,this]
    ·rw[if_neg hfull]
     have e1:IntKind.wrap .i64 ((at_:Int)+(n:Int))=((at_+n:Nat):Int):=by rw[wrap64 (by omega) (by omega)];omega
     have hs3:=Baa (l:=text) (a:=at_) (b:=at_+n) (by omega) (by omega)
     have hs4:=Hh (l:=text) (n:=at_+n) (by omega)
     have hdd:text.drop (at_+n)=(text.drop at_).drop n:=by rw[List.drop_drop]
     have hsk:=H3 false ((text.drop at_).drop n)
     rw[List.length_drop,List.length_drop] at hsk
     have hskip:=A5o (s:=(text.drop at_).drop n) (by rw[List.length_drop,List.length_drop];omega)
     have e2:IntKind.wrap .i64 (((at_+n:Nat):Int)+(A8 false ((text.drop at_).drop n):Int))=((at_+n+A8 false ((text.drop at_).drop n):Nat):Int):=by rw[wrap64 (by omega) (by omega)];omega
     have hpl:=Att (s:=text) (by omega) h1
     have hap: ∀x:Ac,apO 40 row [x]=some (row++[x]):=fun x=>by
      unfold apO
      rw[if_pos (by simp;omega)]
     have hmid:(text.take (at_+n)).drop at_=(text.drop at_).take n:=by rw[List.drop_take];congr 1;omega
     have hlen:((row.length:Int)==1500)=false:=by simp;omega
     rw[Bj (s':=(((at_+n+A8 false ((text.drop at_).drop n):Nat):Int),row++[Aqo text (at_,k,n)])),ih (at_+n+A8 false ((text.drop at_).drop n)) (row++[Aqo text (at_,k,n)]) (by omega) (by omega) (by simp;omega)]
     ·have hdr:text.drop (at_+n+A8 false ((text.drop at_).drop n))=((text.drop at_).drop n).drop (A8 false ((text.drop at_).drop n)):=by
       rw[List.drop_drop,List.drop_drop]
      rw[hdr,List.length_append,List.length_singleton]
      cases N4 f (((text.drop at_).drop n).drop (A8 false ((text.drop at_).drop n))) (at_+n+A8 false ((text.drop at_).drop n)) (row.length+1) with
      |inl l=>simp
      |inr e=>rfl
     ·simp only[hd,if_true,hs1,hnext,Option.bind_some,bne_self_eq_false,Bool.false_eq_true,if_false,hlen,hpl,e1,hs3,hmid,hap,hs4,hdd,hskip,e2]
      rfl
   ·have hne:((e:Int)!=0)=true:=by simp;omega
    simp only[reT,if_neg hee] at hnext
    simp only[ne_eq,hee,not_false_eq_true,if_true]
    rw[Aw (o:= .inr ([],(at_:Int),(e:Int)))]
    simp only[hd,if_true,hs1,hnext,Option.bind_some,hne]
theorem Brs{text:List UInt8}(hl:text.length≤8000):Cq text=some (match Ao1 text with| .inl l=>(l.map (Aqo text),0,0)| .inr e=>([],(e.1:Int),(e.2:Int))):=by
 have hs:=H3 false text
 unfold Cq Ao1
 have h1:decide ((text.length:Int)>8000)=false:=decide_eq_false (by omega)
 simp only[h1,Bool.false_eq_true,if_false,A5o (show text.length<4611686018427387904 by omega),Option.bind_some]
 have:=Blx hl (text.length+1) (A8 false text) [] hs (by omega) (by simp)
 refine Bi this ?_
 simp only[List.length_nil]
 cases N4 (text.length+1) (text.drop (A8 false text)) (A8 false text) 0 with
 |inl l=>simp
 |inr e=>rfl
theorem Blw{text:List UInt8}(hl:8000<text.length):Cq text=some ([],0,4):=by
 unfold Cq
 have h1:decide ((text.length:Int)>8000)=true:=decide_eq_true (by omega)
 simp only[h1,if_true]
end Go.Av.G
end
section
set_option linter.unusedVariables false
set_option linter.unusedSimpArgs false
set_option maxRecDepth 4000
set_option maxHeartbeats 4000000
namespace Go.Av.G
open Go Go.Av Go.Proofs
def LX(s:By):List Tk⊕(Nat×Nat):=if 8000<s.length then .inr (0,4) else match Ao1 s with
 | .inl l=> .inl (l.map (Aqo s))
 | .inr e=> .inr e
theorem Bsy(s:By):Aa4 s=some (match LX s with| .inl l=>(l,0,0)| .inr e=>([],(e.1:Int),(e.2:Int))):=by
 unfold LX
 by_cases h:8000<s.length
 ·rw[if_pos h,Bnf h];rfl
 ·rw[if_neg h,Bs4 (by omega)]
  cases Ao1 s<;>rfl
theorem Bqu(s:By):Cq s=some (match LX s with| .inl l=>(l,0,0)| .inr e=>([],(e.1:Int),(e.2:Int))):=by
 unfold LX
 by_cases h:8000<s.length
 ·rw[if_pos h,Blw h];rfl
 ·rw[if_neg h,Brs (by omega)]
  cases Ao1 s<;>rfl
theorem A56{s:By}{l:List Tk}(h:LX s= .inl l):Fit l∧l.length≤8000∧s.length≤8000∧(∀t∈l,okT t=true)∧Bev l≤s.length:=by
 unfold LX at h
 split at h
 ·cases h
 ·rename_i hs
  have hs:s.length≤8000:=by omega
  cases ha:Ao1 s with
  |inr e=>rw[ha] at h;cases h
  |inl m=>
   rw[ha] at h
   cases h
   obtain⟨h1,h2,h3⟩:=Bni hs ha
   refine⟨⟨by simp;omega,fun t ht=>?_⟩,by simp;omega,hs,h3,h2⟩
   have:=Bp2 ht
   omega
theorem A57{s:By}{e:Nat×Nat}(h:LX s= .inr e):e.2≠0∧e.1≤s.length:=by
 unfold LX at h
 split at h
 ·cases h;exact⟨by simp,by simp⟩
 ·cases ha:Ao1 s with
  |inl m=>rw[ha] at h;cases h
  |inr e'=>
   rw[ha] at h
   cases h
   obtain⟨h1,h2,_⟩:=Bqx (p:=e.1) (e:=e.2) ha
   exact⟨h1,by omega⟩
def Ti(s:By):List Nd×Int×Int×Int:=match LX s with
 | .inr e=>([],(plS (s.take e.1)).1,(plS (s.take e.1)).2,(e.2:Int))
 | .inl l=>match CL l 0 with
  |(_,t::_)=>([],t.Qe,t.Aix,14)
  |(none,[])=>([],(plS s).1,(plS s).2,14)
  |(some a,[])=>if Rk a=0 then([],1,1,4) else(a,0,0,0)
theorem Bqv(l:List Tk):(⟨l,0,false⟩:Ab)=RD l l false:=by
 unfold RD ps
 simp
theorem Brq(l:List Tk):ps l l=0:=by unfold ps;simp
theorem Baz{s:By}(hs:s.length≤1000000):My s=some (match LX s with| .inl l=> .inl (0,0,0,RD l l false)| .inr e=> .inr ((plS (s.take e.1)).1,(plS (s.take e.1)).2,(e.2:Int))):=by
 unfold My
 rw[Bsy]
 simp only[Option.bind_some]
 cases h:LX s with
 |inl l=>
  simp only[beq_self_eq_true,if_true]
  rw[Bqv]
 |inr e=>
  obtain⟨h1,h2⟩:=A57 h
  simp only
  rw[if_neg (by simp;omega),Bao (by omega) h2]
  rfl
theorem Bf1{s:By}(hs:s.length≤1000000){l ts:List Tk}(h:ts <:+ l)(fits b:Bool):Fq s fits (RD l ts b)=some (match ts with
  |t::_=>(t.Qe,t.Aix,14)
  |[]=>if b=true then((plS s).1,(plS s).2,14) else if fits=false then(1,1,4) else(0,0,0)):=by
 unfold Fq
 have e1:(RD l ts b).Cr=ps l ts:=rfl
 have e2:(RD l ts b).Jg=l:=rfl
 have e3:(RD l ts b).B5=b:=rfl
 rw[e1,e2,e3,Td h]
 cases ts with
 |cons t r=>
  rw[Aad h]
  rfl
 |nil=>
  have:=Bao (text:=s) (i:=s.length) (by omega) (Nat.le_refl _)
  rw[List.take_length] at this
  cases b with
  |true=>simp[this]
  |false=>cases fits<;>rfl
theorem Bbf{s:By}(hs:s.length≤1000000){l ts:List Tk}(h:ts <:+ l):Ds s l (ps l ts)=some (match ts with
  |t::_=>(t.Qe,t.Aix,14)
  |[]=>((plS s).1,(plS s).2,14)):=by
 unfold Ds
 rw[Td h]
 cases ts with
 |cons t r=>
  rw[Aad h]
  rfl
 |nil=>
  have:=Att (s:=s) (a:=s.length) (by omega) (Nat.le_refl _)
  rw[List.take_length] at this
  simp[this]
theorem Bt5{l ts i:List Tk}{a:List Nd}(hF:Fit l)(h:ts <:+ l)(hl:l.length≤8000)(e:CL ts 0=(some a,i)):NB a:=by
 rcases(Bfk hF h hl).of with⟨a',i',e1,_,e3⟩|⟨o,i',e1,_⟩
 ·rw[e] at e1;cases e1;exact e3
 ·rw[e] at e1;cases e1
theorem Aso{s:By}(hs:s.length≤1000000):Dm s=some (Ti s):=by
 unfold Dm Ti
 rw[Baz hs]
 simp only[Option.bind_some]
 cases h:LX s with
 |inr e=>
  obtain⟨h1,_⟩:=A57 h
  simp only
  rw[if_pos (by simp;omega)]
 |inl l=>
  obtain⟨hF,hl,_⟩:=A56 h
  simp only[bne_self_eq_false,Bool.false_eq_true,if_false]
  have hsf:=List.suffix_refl l
  rcases(Bfk hF hsf hl).of with⟨a,i,e1,e2,e3⟩|⟨o,i,e1,e2,e3,e4⟩
  ·have hi:=Hg hsf e1
   rw[e1,e2]
   simp only[Option.bind_some]
   rw[right_eq e3]
   simp only[Option.bind_some]
   rw[Bf1 hs hi]
   cases i with
   |cons t r=>rfl
   |nil=>
    simp only[Option.bind_some]
    by_cases hd:Rk a=0
    ·rw[if_pos hd]
     have:decide (0<Rk a)=false:=by simp[hd]
     rw[this];rfl
    ·rw[if_neg hd]
     have:decide (0<Rk a)=true:=by simp;omega
     rw[this];rfl
  ·have hi:=Hg hsf e1
   rw[e1,e2]
   simp only[Option.bind_some]
   rw[right_eq e4]
   simp only[Option.bind_some]
   rw[Bf1 hs hi]
   cases i with
   |cons t r=>rfl
   |nil=>rfl
theorem Bpo{s:By}(hs:s.length≤1000000):Gc s=some (Ti s):=by
 unfold Gc Ti
 rw[Bqu]
 simp only[Option.bind_some]
 cases h:LX s with
 |inr e=>
  obtain⟨h1,h2⟩:=A57 h
  simp only
  rw[if_pos (by simp;omega),Att (by omega) h2]
  rfl
 |inl l=>
  obtain⟨hF,hl,_⟩:=A56 h
  simp only[bne_self_eq_false,Bool.false_eq_true,if_false]
  have hsf:=List.suffix_refl l
  have hc:=Bnm hF hsf hl
  rw[Brq] at hc
  rw[hc]
  simp only[Option.bind_some]
  cases e1:CL l 0 with
  |mk o i=>
   have hi:=Hg hsf e1
   cases o with
   |none=>
    simp only[Afs,Bool.not_false,Bool.true_or,if_true]
    rw[Bbf hs hi]
    cases i<;>rfl
   |some a=>
    show(if (!true||decide (ps l i<(l.length:Int)))=true then(Ds s l (ps l i)).bind fun x6=>some (([]:List Aa),x6.1,x6.2.1,x6.2.2) else(Dq a).bind fun x7=>if (x7==0)=true then some (([]:List Aa),1,1,4) else some (a,0,0,0))=_
    rw[Td hi]
    cases i with
    |cons t r=>
     simp only[List.isEmpty_cons,Bool.not_false,Bool.or_true,if_true]
     rw[Bbf hs hi]
     rfl
    |nil=>
     simp only[List.isEmpty_nil,Bool.not_true,Bool.or_false,Bool.false_eq_true,if_false]
     rw[Blz (Bt5 hF hsf hl e1)]
     simp only[Option.bind_some]
     by_cases hd:Rk a=0
     ·rw[if_pos hd,if_pos (by simp[hd])]
     ·rw[if_neg hd,if_neg (by simp;omega)]
theorem A5t(x y:Nd):Aa.same x y=decide (x=y):=Aa.same_iff x y
theorem Bi4{α:Type} [DecidableEq α]: ∀{a b:List α},a.length=b.length→((List.range' 0 a.length).any fun i=>decide (a[i]? ≠b[i]?))=decide (a≠b)
 |[],[],_=>rfl
 |[],y::b,h=>by simp at h
 |x::a,[],h=>by simp at h
 |x::a,y::b,h=>by
  have ih:=Bi4 (a:=a) (b:=b) (by simpa using h)
  rw[List.length_cons,List.range'_succ,List.any_cons]
  have hs:(List.range' (0+1) a.length).any (fun i=>decide ((x::a)[i]? ≠(y::b)[i]?))=(List.range' 0 a.length).any fun i=>decide (a[i]? ≠b[i]?):=by
   rw[show(0+1:Nat)=1 from rfl,List.range'_eq_map_range,List.range'_eq_map_range,List.any_map,List.any_map]
   congr 1
   funext i
   simp only[Function.comp_apply,Nat.zero_add]
   rw[Nat.add_comm 1 i]
   simp
  rw[hs,ih]
  by_cases hxy:x=y<;>by_cases hab:a=b<;>simp[hxy,hab]
theorem A6s{α:Type} [DecidableEq α]{a b:List α}{same:α→α→Bool}(hsame: ∀x y,same x y=decide (x=y))(hn:a.length≤1000000)(h:a.length=b.length):A1 (fun(qj3:Int)=>match qj3 with
   |i4=>(
    if (decide (i4<(a.length:Int)))=true then
     (rdO a i4).bind fun x5=>
     (rdO b i4).bind fun x6=>
     if (!(same x5 x6))=true then
      some (.inr (.inr false))
     else
      some (.inl (IntKind.wrap .i64 (i4+1)))
    else
     some (.inr (.inl ())):Option (Int⊕(Unit⊕Bool)))) 0=some (if a=b then .inl () else .inr false):=by
 have:=A45 (n:=a.length) (q:=fun i=>decide (a[i]? ≠b[i]?)) (o:=(.inr false:Unit⊕Bool)) (e:= .inl ()) (f:=fun(qj3:Int)=>match qj3 with
   |i4=>(
    if (decide (i4<(a.length:Int)))=true then
     (rdO a i4).bind fun x5=>
     (rdO b i4).bind fun x6=>
     if (!(same x5 x6))=true then
      some (.inr (.inr false))
     else
      some (.inl (IntKind.wrap .i64 (i4+1)))
    else
     some (.inr (.inl ())):Option (Int⊕(Unit⊕Bool)))) (by omega) (fun i hi=>by
   show(if _ then _ else _)=_
   rw[if_pos (by simp;omega),Fu hi,Fu (by omega)]
   simp only[Option.bind_some]
   rw[hsame,List.getElem?_eq_getElem hi,List.getElem?_eq_getElem (h▸hi)]
   by_cases hx:a[i]=b[i]
   ·simp[hx]
   ·simp[hx]) (fun i hi=>by
   show(if _ then _ else _)=_
   rw[if_neg (by simp;omega)]) 0
 refine this.trans ?_
 rw[Nat.sub_zero,Bi4 h]
 by_cases hab:a=b<;>simp[hab]
theorem Ban{a b:List Nd}(hn:a.length≤1000000):Dr a b=some (decide (a=b)):=by
 unfold Dr
 by_cases h:a.length=b.length
 ·rw[if_neg (by simp;omega)]
  refine Bi (A6s A5t hn h) ?_
  by_cases hab:a=b
  ·simp[hab]
  ·simp[hab]
 ·rw[if_pos (by simp;omega)]
  have:a≠b:=fun c=>h (by rw[c])
  simp[this]
theorem Bqm{s:By}:(Ti s).1.length≤8000:=by
 unfold Ti
 cases h:LX s with
 |inr e=>simp
 |inl l=>
  obtain⟨hF,hl,_⟩:=A56 h
  simp only
  cases e1:CL l 0 with
  |mk o i=>
   cases i with
   |cons t r=>simp
   |nil=>
    cases o with
    |none=>simp
    |some a=>
     have:=B7 e1
     simp only
     split
     ·simp
     ·simp at this⊢;omega
theorem Bmm{s:By}(ha:Ct=some true):C8 s=some true:=by
 unfold C8
 by_cases hs:s.length≤9000
 ·rw[if_neg (by simp;omega),Aso (by omega),Bpo (by omega)]
  simp only[Option.bind_some]
  rw[Ban (by have:=Bqm (s:=s);omega),ha]
  simp
 ·rw[if_pos (by simp;omega),ha]
  rfl
end Go.Av.G
end
section
set_option linter.unusedVariables false
set_option linter.unusedSimpArgs false
set_option maxRecDepth 4000
set_option maxHeartbeats 4000000
namespace Go.Av.G
open Go Go.Av Go.Proofs
abbrev St:=List Tk×Bool
def mT(s:By)(x:St):St:=K8 [s] x
def sm(k:Int)(x:St):By×St:=Kd k true x
theorem Dc(s:By)(x:St):(mT s x).1 <:+ x.1:=A5a _ _
theorem Afa(k:Int)(x:St):(sm k x).2.1 <:+ x.1:=Bl9 _ _ _
theorem Box{s:By}{ts:List Tk}:mT s (ts,true)=(ts,true):=Ajg
theorem Btz{k:Int}{ts:List Tk}:sm k (ts,true)=([],ts,true):=by cases ts<;>rfl
theorem Fg{s:By}{x:St}(h:(mT s x).2=false):x.2=false∧(mT s x).1.length+1=x.1.length:=by
 obtain⟨ts,b⟩:=x
 cases b with
 |true=>rw[Box] at h;cases h
 |false=>
  unfold mT at h⊢
  rw[Arj] at h⊢
  split at h
  ·rename_i hs
   rw[if_pos hs]
   exact⟨rfl,Jk hs⟩
  ·cases h
theorem Ame{k:Int}{x:St}(h:(sm k x).2.2=false):x.2=false∧(sm k x).2.1.length+1=x.1.length:=by
 obtain⟨ts,b⟩:=x
 cases b with
 |true=>rw[Btz] at h;cases h
 |false=>
  cases ts with
  |nil=>cases h
  |cons t r=>
   unfold sm Kd at h⊢
   simp only at h⊢
   split at h
   ·cases h
   ·rename_i hs
    rw[if_neg hs]
    simp
theorem Bo2(s u:By)(ss:List By)(x:St):K8 (s::u::ss) x=K8 (u::ss) (mT s x):=by
 obtain⟨ts,b⟩:=x
 cases b with
 |true=>rw[Box,Ajg,Ajg]
 |false=>
  unfold mT
  rw[Arj,K8]
  simp only[Bool.not_false,Bool.true_and]
  split
  ·rfl
  ·rw[Ajg]
def RX(l:List Tk)(x:St):Ab:=RD l x.1 x.2
theorem Apj{l:List Tk}(hl:l.length≤1000000){x:St}(h:x.1 <:+ l)(s:By):Am [s] (RX l x)=some (RX l (mT s x)):=Ari h hl [s] (by simp) x.2
theorem Awx{l:List Tk}(hl:l.length≤1000000){x:St}(h:x.1 <:+ l)(s u:By):Am [s,u] (RX l x)=some (RX l (mT u (mT s x))):=by
 have:=Ari h hl [s,u] (by simp) x.2
 rw[Bo2] at this
 exact this
theorem Atz{l:List Tk}(hl:l.length≤1000000){x:St}(h:x.1 <:+ l)(k:Int):A7 k true (RX l x)=some ((sm k x).1,RX l (sm k x).2):=Amf h hl k true x.2
def Ia(s:By)(x:St):By×St:=((sm 1 (mT s x)).1,mT [59] (sm 1 (mT s x)).2)
theorem Aa0(s:By)(x:St):(Ia s x).2.1 <:+ x.1:=(Dc _ _).trans ((Afa _ _).trans (Dc _ _))
theorem S5{s:By}{x:St}(h:(Ia s x).2.2=false):x.2=false:=(Fg (Ame (Fg h).1).1).1
theorem Aqy{l:List Tk}(hl:l.length≤1000000){x:St}(h:x.1 <:+ l)(s:By):Ce s (RX l x)=some ((Ia s x).1,RX l (Ia s x).2):=by
 unfold Ce
 rw[Apj hl h]
 simp only[Option.bind_some]
 have h1:=(Dc s x).trans h
 rw[Atz hl h1]
 simp only[Option.bind_some]
 rw[Apj hl ((Afa _ _).trans h1)]
 rfl
def Gw(x:St):Ap×St:=(⟨(sm 1 x).1,(sm 1 (mT [58] (sm 1 x).2)).1⟩,mT [59] (mT [37] (sm 1 (mT [58] (sm 1 x).2)).2))
theorem Axc(x:St):(Gw x).2.1 <:+ x.1:=(Dc _ _).trans ((Dc _ _).trans ((Afa _ _).trans ((Dc _ _).trans (Afa _ _))))
theorem A4j{x:St}(h:(Gw x).2.2=false):x.2=false∧(Gw x).2.1.length<x.1.length:=by
 have h1:=Fg h
 have h2:=Fg h1.1
 have h3:=Ame h2.1
 have h4:=Fg h3.1
 have h5:=Ame h4.1
 refine⟨h5.1,?_⟩
 have e:(Gw x).2.1.length+1=_:=h1.2
 omega
def Fl:Nat→St→List Ap×St
 |0,x=>([],x)
 |f+1,x=>if x.2=true then([],x) else if isT [125] (Gw x).2.1=true then([(Gw x).1],(Gw x).2) else((Gw x).1::(Fl f (Gw x).2).1,(Fl f (Gw x).2).2)
def Bs6(x:St):List Ap×St:=Fl (x.1.length+2) x
theorem A4k: ∀(f:Nat) (x:St),(Fl f x).2.1 <:+ x.1
 |0,x=>List.suffix_refl _
 |f+1,x=>by
  rw[Fl]
  split
  ·exact List.suffix_refl _
  ·split
   ·exact Axc x
   ·exact(A4k f _).trans (Axc x)
theorem Bfm: ∀(f:Nat) (x:St),(Fl f x).2.2=false→x.2=false
 |0,x,h=>h
 |f+1,x,h=>by
  rw[Fl] at h
  cases hx:x.2 with
  |false=>rfl
  |true=>rw[if_pos hx] at h;exact h.symm.trans hx |>.symm▸rfl
theorem Bfn{l:List Tk}(hl:l.length≤100000)(d13 d14 d15 d16:By)(d17:List Nd)(d18 d19 d20:By): ∀(f:Nat) (x:St) (first:Bool) (row:List Ap),x.1 <:+ l→(x.2=false→x.1.length+2≤f)→1≤f→(x.2=false→row.length+x.1.length≤100000)→row.length≤100001→
  A1 (fun(qj10:Bool×Ab×(List UInt8)×(List UInt8)×(List UInt8)×(List UInt8)×(List Aa)×(List UInt8)×(List UInt8)×(List UInt8)×(List Ap))=>match qj10 with
  |(first11,r12,d13,d14,d15,d16,d17,d18,d19,d20,row21)=>(
   (some (!r12.B5)).bind fun c22=>
   (gdO (c22&& !first11) (Br [125] r12) (default:Bool)).bind fun x23=>
   if (c22&&(first11||(!x23)))=true then
    (A7 1 true (⟨(bif (c22&& !first11) then r12.Jg else r12.Jg),(bif (c22&& !first11) then r12.Cr else r12.Cr),(bif (c22&& !first11) then r12.B5 else r12.B5)⟩:Ab)).bind fun x24=>
    (Am [[58]] x24.2).bind fun x25=>
    (A7 1 true x25).bind fun x26=>
    (Am [[37],[59]] x26.2).bind fun x27=>
    (apO 32 row21 [(⟨x24.1,x26.1⟩:Ap)]).bind fun x28=>
    some (.inl (false,x27,d13,d14,d15,d16,d17,d18,d19,d20,x28))
   else
    some (.inr ((⟨(bif (c22&& !first11) then r12.Jg else r12.Jg),(bif (c22&& !first11) then r12.Cr else r12.Cr),(bif (c22&& !first11) then r12.B5 else r12.B5)⟩:Ab),(⟨d13,d14,d15,d16,row21,d17,d18,d19,d20⟩:Ai))):Option ((Bool×Ab×(List UInt8)×(List UInt8)×(List UInt8)×(List UInt8)×(List Aa)×(List UInt8)×(List UInt8)×(List UInt8)×(List Ap))⊕(Ab×Ai)))) (first,RX l x,d13,d14,d15,d16,d17,d18,d19,d20,row)
  =some (if first=false∧isT [125] x.1=true then(RX l x,⟨d13,d14,d15,d16,row,d17,d18,d19,d20⟩) else(RX l (Fl f x).2,⟨d13,d14,d15,d16,row++(Fl f x).1,d17,d18,d19,d20⟩)):=by
 have hl6:l.length≤1000000:=by omega
 intro f
 induction f with
 |zero=>intro x first row _ _ h;exact absurd h (by simp)
 |succ f ih=>
  intro x first row hx hf _ hrow hrow2
  have e3:(RX l x).B5=x.2:=rfl
  cases hb:x.2 with
  |true=>
   have hbs:Fl (f+1) x=([],x):=by rw[Fl,if_pos hb]
   rw[hbs]
   simp only[List.append_nil,ite_self]
   refine Aw ?_
   simp only[Option.bind_some,e3,hb,Bool.not_true,Bool.false_and,gdO,Bool.false_eq_true,if_false,cond_false]
   rw[show(⟨(RX l x).Jg,(RX l x).Cr,true⟩:Ab)=RX l x by unfold RX;rw[hb];rfl]
  |false=>
   have hf:=hf hb
   have hrow:=hrow hb
   by_cases hc:first=false∧isT [125] x.1=true
   ·rw[if_pos hc]
    refine Aw ?_
    simp only[Option.bind_some,e3,hb,Bool.not_false,Bool.true_and,hc.1]
    rw[show Br [125] (RX l x)=some (!x.2&&isT [125] x.1) from A4y hx _ _,hb,hc.2]
    simp only[Bool.not_false,Bool.true_and,A0,cond_true,Option.bind_some,Bool.not_true,Bool.or_self,Bool.false_eq_true,if_false]
    rw[show(⟨(RX l x).Jg,(RX l x).Cr,false⟩:Ab)=RX l x by unfold RX;rw[hb];rfl]
   ·rw[if_neg hc]
    have hy:=Axc x
    have hbs:Fl (f+1) x=if isT [125] (Gw x).2.1=true then([(Gw x).1],(Gw x).2) else((Gw x).1::(Fl f (Gw x).2).1,(Fl f (Gw x).2).2):=by
     rw[Fl,if_neg (by simp[hb])]
    have hih:=ih (Gw x).2 false (row++[(Gw x).1]) (hy.trans hx) (fun hg=>by have:=(A4j hg).2;omega) (by omega) (fun hg=>by have:=(A4j hg).2;simp;omega) (by simp;omega)
    have hgoal:(if isT [125] (Gw x).2.1=true then(RX l (Gw x).2,(⟨d13,d14,d15,d16,row++[(Gw x).1],d17,d18,d19,d20⟩:Ai)) else(RX l (Fl f (Gw x).2).2,⟨d13,d14,d15,d16,(row++[(Gw x).1])++(Fl f (Gw x).2).1,d17,d18,d19,d20⟩))=(RX l (Fl (f+1) x).2,⟨d13,d14,d15,d16,row++(Fl (f+1) x).1,d17,d18,d19,d20⟩):=by
     rw[hbs]
     split
     ·rfl
     ·simp
    rw[←hgoal]
    simp only[true_and] at hih
    rw[←hih]
    refine Bj ?_
    have hx23:gdO (!false&& !first) (Br [125] (RX l x)) (default:Bool)=some (bif !first then isT [125] x.1 else default):=by
     rw[show Br [125] (RX l x)=some (!x.2&&isT [125] x.1) from A4y hx _ _,hb]
     simp[A0]
    simp only[Option.bind_some,e3,hb]
    rw[hx23]
    simp only[Option.bind_some,Bool.not_false,Bool.true_and,Bool.cond_self]
    rw[if_pos (by
     cases first with
     |true=>rfl
     |false=>
      have:isT [125] x.1=false:=by rw[←Bool.not_eq_true];exact fun h=>hc ⟨rfl,h⟩
      simp[this])]
    rw[show(⟨(RX l x).Jg,(RX l x).Cr,false⟩:Ab)=RX l x by unfold RX;rw[hb];rfl]
    have s1:=Afa 1 x
    rw[Atz hl6 hx]
    simp only[Option.bind_some]
    rw[Apj hl6 (s1.trans hx)]
    simp only[Option.bind_some]
    have s2:=(Dc [58] (sm 1 x).2).trans (s1.trans hx)
    rw[Atz hl6 s2]
    simp only[Option.bind_some]
    rw[Awx hl6 ((Afa 1 _).trans s2)]
    simp only[Option.bind_some]
    unfold apO
    rw[if_pos (by simp only[List.length_cons,List.length_nil];omega)]
    rfl
def Au5(x:St):List Nd×St:=if x.2=true then([],x) else match CL x.1 0 with
 |(some a,i)=>(a,i,false)
 |(none,i)=>([],i,true)
theorem Bq5(x:St):(Au5 x).2.1 <:+ x.1:=by
 unfold Au5
 split
 ·exact List.suffix_refl _
 ·have:=Fk x.1 0
  cases h:CL x.1 0 with
  |mk o i=>rw[h] at this;cases o<;>exact this
theorem Bnx{x:St}(h:(Au5 x).2.2=false):x.2=false:=by
 unfold Au5 at h
 cases hx:x.2 with
 |false=>rfl
 |true=>rw[if_pos hx] at h;rw[hx] at h;exact h
theorem Bny{l:List Tk}(hF:Fit l)(hl:l.length≤8000){x:St}(h:x.1 <:+ l): ∃o,parse_reader_any 100000 (RX l x)=some (o,RX l (Au5 x).2)∧((Au5 x).2.2=false→o=(Au5 x).1)∧NB o:=by
 obtain⟨ts,b⟩:=x
 cases b with
 |true=>
  refine⟨[],?_,fun hh=>by simp[Au5] at hh,fun n hn=>by simp at hn⟩
  exact I5 h hF.l6 99998
 |false=>
  have hfe:Au5 (ts,false)=match CL ts 0 with
   |(some a,i)=>(a,i,false)
   |(none,i)=>([],i,true):=by unfold Au5;rw[if_neg (by simp)]
  rcases(Bfk hF h hl).of with⟨a,i,e1,e2,e3⟩|⟨o,i,e1,e2,e3,e4⟩
  ·rw[e1] at hfe
   rw[hfe]
   exact⟨a,e2,fun _=>rfl,e3⟩
  ·rw[e1] at hfe
   rw[hfe]
   exact⟨o,e2,(fun hh=>by cases hh),e4⟩
def Asf:By:=[112,114,111,100,117,99,116]
def A98:By:=[98,97,115,105,115]
def Aw1:By:=[112,101,114,105,111,100]
def All:By:=[116,105,101,114,115]
def Bpt:By:=[102,101,101]
def Ase:By:=[109,105,110,105,109,117,109]
def Ae9:By:=[111,118,101,114,100,114,97,102,116]
def Aw0:By:=[110,111,116,105,99,101]
def pA(x:St):By×St:=sm 0 (mT Asf x)
def pB(x:St):By×St:=sm 0 (pA x).2
def pC(x:St):By×St:=sm 0 (mT A98 (mT [123] (pB x).2))
def pD(x:St):By×St:=Ia Aw1 (mT [59] (pC x).2)
def pE(x:St):List Ap×St:=Bs6 (mT [123] (mT All (pD x).2))
def pF(x:St):List Nd×St:=Au5 (mT Bpt (mT [125] (pE x).2))
def pG(x:St):By×St:=Ia Ase (mT [59] (pF x).2)
def pH(x:St):By×St:=Ia Ae9 (pG x).2
def pI(x:St):By×St:=Ia Aw0 (pH x).2
def pZ(x:St):St:=mT [125] (pI x).2
def Afj(x:St):Ai×St:=(⟨(pA x).1,(pB x).1,(pC x).1,(pD x).1,(pE x).1,(pF x).1,(pG x).1,(pH x).1,(pI x).1⟩,pZ x)
theorem Bo8(x:St):(pA x).2.1 <:+ x.1:=(Afa _ _).trans (Dc _ _)
theorem Bgv(x:St):(pB x).2.1 <:+ x.1:=(Afa _ _).trans (Bo8 x)
theorem Bgw(x:St):(pC x).2.1 <:+ x.1:=(Afa _ _).trans ((Dc _ _).trans ((Dc _ _).trans (Bgv x)))
theorem Bgx(x:St):(pD x).2.1 <:+ x.1:=(Aa0 _ _).trans ((Dc _ _).trans (Bgw x))
theorem Bgy(x:St):(pE x).2.1 <:+ x.1:=(A4k _ _).trans ((Dc _ _).trans ((Dc _ _).trans (Bgx x)))
theorem Bgz(x:St):(pF x).2.1 <:+ x.1:=(Bq5 _).trans ((Dc _ _).trans ((Dc _ _).trans (Bgy x)))
theorem Bo9(x:St):(pG x).2.1 <:+ x.1:=(Aa0 _ _).trans ((Dc _ _).trans (Bgz x))
theorem Bpa(x:St):(pH x).2.1 <:+ x.1:=(Aa0 _ _).trans (Bo9 x)
theorem Bg0(x:St):(pI x).2.1 <:+ x.1:=(Aa0 _ _).trans (Bpa x)
theorem Bd0(x:St):(Afj x).2.1 <:+ x.1:=(Dc _ _).trans (Bg0 x)
theorem Bdz{x:St}(h:(Afj x).2.2=false):(pF x).2.2=false:=(Fg (S5 (S5 (S5 (Fg h).1)))).1
theorem A5m{x:St}(h:(Afj x).2.2=false):x.2=false∧(Afj x).2.1.length<x.1.length:=by
 have h1:=(Fg (Fg (Bnx (Bdz h))).1).1
 have h2:=Bfm _ _ h1
 have h3:=S5 (Fg (Fg h2).1).1
 have h4:=(Fg h3).1
 have h5:=(Fg (Fg (Ame h4).1).1).1
 have h6:=(Ame h5).1
 have h7:=(Ame h6).1
 refine⟨(Fg h7).1,?_⟩
 have e:=Fg h
 have:=(Bg0 x).length_le
 have e2:(Afj x).2.1.length+1=(pI x).2.1.length:=e.2
 omega
theorem Blt{l:List Tk}(hF:Fit l)(hl:l.length≤8000){x:St}(h:x.1 <:+ l): ∃d,Dd (RX l x)=some (d,RX l (Afj x).2)∧((Afj x).2.2=false→d=(Afj x).1)∧NB d.Gx:=by
 have hl6:=hF.l6
 obtain⟨o,f1,f2,f3⟩:=Bny hF hl (x:=mT Bpt (mT [125] (pE x).2)) ((Dc _ _).trans ((Dc _ _).trans ((Bgy x).trans h)))
 refine⟨⟨(pA x).1,(pB x).1,(pC x).1,(pD x).1,(pE x).1,o,(pG x).1,(pH x).1,(pI x).1⟩,?_,fun hh=>?_,f3⟩
 ·unfold Dd
  rw[show([112,114,111,100,117,99,116]:By)=Asf from rfl,show([98,97,115,105,115]:By)=A98 from rfl,show([112,101,114,105,111,100]:By)=Aw1 from rfl,show([116,105,101,114,115]:By)=All from rfl,show([102,101,101]:By)=Bpt from rfl,show([109,105,110,105,109,117,109]:By)=Ase from rfl,show([111,118,101,114,100,114,97,102,116]:By)=Ae9 from rfl,show([110,111,116,105,99,101]:By)=Aw0 from rfl]
  rw[Apj hl6 h]
  simp only[Option.bind_some]
  rw[Atz hl6 ((Dc _ _).trans h)]
  simp only[Option.bind_some]
  rw[show sm 0 (mT Asf x)=pA x from rfl,Atz hl6 ((Bo8 x).trans h)]
  simp only[Option.bind_some]
  rw[show sm 0 (pA x).2=pB x from rfl,Awx hl6 ((Bgv x).trans h)]
  simp only[Option.bind_some]
  rw[Atz hl6 ((Dc _ _).trans ((Dc _ _).trans ((Bgv x).trans h)))]
  simp only[Option.bind_some]
  rw[show sm 0 (mT A98 (mT [123] (pB x).2))=pC x from rfl,Apj hl6 ((Bgw x).trans h)]
  simp only[Option.bind_some]
  rw[Aqy hl6 ((Dc _ _).trans ((Bgw x).trans h))]
  simp only[Option.bind_some]
  rw[show Ia Aw1 (mT [59] (pC x).2)=pD x from rfl,Awx hl6 ((Bgx x).trans h)]
  simp only[Option.bind_some]
  have hE:(mT [123] (mT All (pD x).2)).1 <:+ l:=(Dc _ _).trans ((Dc _ _).trans ((Bgx x).trans h))
  have hEl:=hE.length_le
  have hb:=Bfn (l:=l) (by omega) (pA x).1 (pB x).1 (pC x).1 (pD x).1 [] [] [] [] ((mT [123] (mT All (pD x).2)).1.length+2) (mT [123] (mT All (pD x).2)) true [] hE (fun _=>Nat.le_refl _) (by omega) (fun _=>by simp;omega) (by simp)
  refine Bi hb ?_
  rw[if_neg (by simp)]
  rw[show Fl ((mT [123] (mT All (pD x).2)).1.length+2) (mT [123] (mT All (pD x).2))=pE x from rfl]
  simp only[List.nil_append]
  rw[Awx hl6 ((Bgy x).trans h)]
  simp only[Option.bind_some]
  rw[f1]
  simp only[Option.bind_some]
  rw[show Au5 (mT Bpt (mT [125] (pE x).2))=pF x from rfl,Apj hl6 ((Bgz x).trans h)]
  simp only[Option.bind_some]
  rw[Aqy hl6 ((Dc _ _).trans ((Bgz x).trans h))]
  simp only[Option.bind_some]
  rw[show Ia Ase (mT [59] (pF x).2)=pG x from rfl,Aqy hl6 ((Bo9 x).trans h)]
  simp only[Option.bind_some]
  rw[show Ia Ae9 (pG x).2=pH x from rfl,Aqy hl6 ((Bpa x).trans h)]
  simp only[Option.bind_some]
  rw[show Ia Aw0 (pH x).2=pI x from rfl,Apj hl6 ((Bg0 x).trans h)]
  rfl
 ·rw[f2 (Bdz hh)]
  rfl
end Go.Av.G
end
section
set_option linter.unusedVariables false
set_option linter.unusedSimpArgs false
set_option maxRecDepth 4000
set_option maxHeartbeats 4000000
namespace Go.Av.G
open Go Go.Av Go.Proofs
def Bf6(d:Ai):Bool:=decide (d.A6.length≤8)&&decide (0<Rk d.Gx)
def Lb:Nat→St→List Ai×St
 |0,x=>([],x)
 |f+1,x=>if x.2=false∧x.1≠[] then((Afj x).1::(Lb f (Afj x).2).1,(Lb f (Afj x).2).2) else([],x)
theorem A4q: ∀(f:Nat) (x:St),(Lb f x).2.1 <:+ x.1
 |0,x=>List.suffix_refl _
 |f+1,x=>by
  rw[Lb]
  split
  ·exact(A4q f _).trans (Bd0 x)
  ·exact List.suffix_refl _
theorem Bfx: ∀(f:Nat) (x:St),(Lb f x).2.2=false→x.2=false
 |0,x,h=>h
 |f+1,x,h=>by
  cases hb:x.2 with
  |false=>rfl
  |true=>
   rw[Lb,if_neg (by simp[hb])] at h
   exact hb▸h
theorem Bfy{l:List Tk}(hF:Fit l)(hl:l.length≤8000): ∀(f:Nat) (x:St) (fits:Bool) (row:List Ai),x.1 <:+ l→(x.2=false→x.1.length<f)→1≤f→(x.2=false→row.length+x.1.length≤100000)→row.length≤100001→
  ∃o ft,A1 (fun(qj5:Bool×Ab×(List Ai))=>match qj5 with
    |(fits6,x7,row8)=>(
     (some (!x7.B5)).bind fun c9=>
     if (c9&&(decide (x7.Cr<(x7.Jg.length:Int))))=true then
      (Dd x7).bind fun x10=>
      (some (fits6&&(decide ((x10.1.A6.length:Int)≤8)))).bind fun c11=>
      (gdO c11 (D4 x10.1.Gx) (default:Bool)).bind fun x12=>
      (apO 160 row8 [x10.1]).bind fun x13=>
      some (.inl ((c11&&x12),x10.2,x13))
     else
      some (.inr (row8,fits6,x7)):Option ((Bool×Ab×(List Ai))⊕((List Ai)×Bool×Ab)))) (fits,RX l x,row)=some (o,ft,RX l (Lb f x).2)∧((Lb f x).2.2=false→o=row++(Lb f x).1∧ft=(fits&&(Lb f x).1.all Bf6)):=by
 have hl6:=hF.l6
 intro f
 induction f with
 |zero=>intro x fits row _ _ h;exact absurd h (by simp)
 |succ f ih=>
  intro x fits row hx hf _ hrow hrow2
  have e1:(RX l x).B5=x.2:=rfl
  have e2:decide ((RX l x).Cr<((RX l x).Jg.length:Int))= !x.1.isEmpty:=Td hx
  rw[Lb]
  by_cases hc:x.2=false∧x.1≠[]
  ·rw[if_pos hc]
   have hf:=hf hc.1
   have hrow:=hrow hc.1
   obtain⟨d,p1,p2,p3⟩:=Blt hF hl hx
   have hne:0<x.1.length:=List.length_pos_iff.2 hc.2
   obtain⟨o,ft,g1,g2⟩:=ih (Afj x).2 (fits&&Bf6 d) (row++[d]) ((Bd0 x).trans hx) (fun hg=>by have:=(A5m hg).2;omega) (by omega) (fun hg=>by have:=(A5m hg).2;simp;omega) (by simp;omega)
   refine⟨o,ft,?_,fun hg=>?_⟩
   ·rw[←g1]
    refine Bj ?_
    simp only[Option.bind_some,e1,e2,hc.1]
    rw[if_pos (by cases hx1:x.1 with|nil=>exact absurd hx1 hc.2|cons a b=>rfl),p1]
    simp only[Option.bind_some]
    rw[right_eq p3]
    simp only[A0,Option.bind_some]
    unfold apO
    rw[if_pos (by simp only[List.length_cons,List.length_nil];omega)]
    simp only[Option.bind_some,Option.some.injEq,Sum.inl.injEq,Prod.mk.injEq,and_true]
    unfold Bf6
    have:decide ((d.A6.length:Int)≤8)=decide (d.A6.length≤8):=by rw[decide_eq_decide];omega
    rw[this]
    cases fits<;>cases decide (d.A6.length≤8)<;>rfl
   ·have hd:=p2 (Bfx f _ hg)
    obtain⟨g3,g4⟩:=g2 hg
    refine⟨by rw[g3,hd];simp,?_⟩
    rw[g4,hd,List.all_cons,Bool.and_assoc]
  ·rw[if_neg hc]
   refine⟨row,fits,Aw ?_,fun _=>⟨by simp,by simp⟩⟩
   simp only[Option.bind_some,e1,e2]
   rw[if_neg]
   intro h
   simp only[Bool.and_eq_true,Bool.not_eq_true'] at h
   refine hc ⟨h.1,?_⟩
   intro he
   rw[he] at h
   simp at h
def A94(s:By):List Ai×Int×Int×Int:=match LX s with
 | .inr e=>([],(plS (s.take e.1)).1,(plS (s.take e.1)).2,(e.2:Int))
 | .inl l=>match Lb (l.length+1) (l,false) with
  |(_,t::_,_)=>([],t.Qe,t.Aix,14)
  |(_,[],true)=>([],(plS s).1,(plS s).2,14)
  |(ds,[],false)=>if ds.all Bf6=true∧ds.length≤16 then(ds,0,0,0) else([],1,1,4)
theorem Bnh{s:By}(hs:s.length≤1000000):Wi s=some (A94 s):=by
 unfold Wi A94
 rw[Baz hs]
 simp only[Option.bind_some]
 cases h:LX s with
 |inr e=>
  obtain⟨h1,_⟩:=A57 h
  simp only
  rw[if_pos (by simp;omega)]
 |inl l=>
  obtain⟨hF,hl,_⟩:=A56 h
  simp only[bne_self_eq_false,Bool.false_eq_true,if_false]
  have hsf:=List.suffix_refl l
  obtain⟨o,ft,g1,g2⟩:=Bfy hF hl (l.length+1) (l,false) true [] hsf (fun _=>by simp) (by omega) (fun _=>by simp;omega) (by simp)
  refine Bi g1 ?_
  have hy:=A4q (l.length+1) (l,false)
  generalize hr:Lb (l.length+1) (l,false)=r at g1 g2 hy
  obtain⟨ds,ts,b⟩:=r
  have hy:ts <:+ l:=hy
  simp only
  rw[show RX l (ts,b)=RD l ts b from rfl,Bf1 hs hy]
  cases ts with
  |cons t r=>cases b<;>rfl
  |nil=>
   cases b with
   |true=>rfl
   |false=>
    obtain⟨g3,g4⟩:=g2 rfl
    simp only[List.nil_append,Bool.true_and] at g3 g4
    subst g3;subst g4
    simp only[Option.bind_some,Bool.false_eq_true,if_false]
    by_cases hc:List.all o Bf6=true∧o.length≤16
    ·have e:(List.all o Bf6&&decide ((o.length:Int)≤16))=true:=by
      rw[hc.1];simp;omega
     rw[if_pos hc,e]
     rfl
    ·have e:(List.all o Bf6&&decide ((o.length:Int)≤16))=false:=by
      rw[←Bool.not_eq_true]
      intro h
      simp only[Bool.and_eq_true,decide_eq_true_eq] at h
      exact hc ⟨h.1,by omega⟩
     rw[if_neg hc,e]
     rfl
def Bec(a b:Ai):Bool:=decide (a.A6=b.A6)&&decide (a.Gx=b.Gx)&&decide (a.G7=b.G7)&&decide (a.Ms=b.Ms)&&decide (a.Ey=b.Ey)&&decide (a.Db=b.Db)&&decide (a.Cv=b.Cv)&&decide (a.Bz=b.Bz)&&decide (a.C1=b.C1)
theorem Bh2(a:Ai):Bec a a=true:=by simp[Bec]
theorem Bl3(x y:Ap):Ap.same x y=decide (x=y):=Ap.same_iff x y
theorem Bs7(a b:By):(a==b)=decide (a=b):=by
 by_cases h:a=b<;>simp[h]
theorem Bf3{a b:List Ap}(hn:a.length≤1000000):D0 a b=some (decide (a=b)):=by
 unfold D0
 by_cases h:a.length=b.length
 ·rw[if_neg (by simp;omega)]
  refine Bi (A6s Bl3 hn h) ?_
  by_cases hab:a=b<;>simp[hab]
 ·rw[if_pos (by simp;omega)]
  have:a≠b:=fun c=>h (by rw[c])
  simp[this]
theorem Bf4{a b:List Nd}(hn:a.length≤1000000):D1 a b=some (decide (a=b)):=by
 unfold D1
 by_cases h:a.length=b.length
 ·rw[if_neg (by simp;omega)]
  refine Bi (A6s A5t hn h) ?_
  by_cases hab:a=b<;>simp[hab]
 ·rw[if_pos (by simp;omega)]
  have:a≠b:=fun c=>h (by rw[c])
  simp[this]
theorem Bl4{a b:Ai}(h1:a.A6.length≤1000000)(h2:a.Gx.length≤1000000):Ql a b=some (Bec a b):=by
 unfold Ql
 rw[Bf3 h1,Bf4 h2]
 simp only[Option.bind_some,A0,Bs7]
 unfold Bec
 cases decide (a.A6=b.A6)<;>rfl
end Go.Av.G
end
section
set_option linter.unusedVariables false
set_option linter.unusedSimpArgs false
set_option maxRecDepth 4000
set_option maxHeartbeats 4000000
namespace Go.Av.G
open Go Go.Av Go.Proofs
theorem Cl{L:List (List By)}(hL:L.length≤1000)(hs:L.flatten.length≤1000000):Ak L=some L.flatten:=by
 unfold Ak
 have h1:A1 (fun(qj2:Int×Int)=>match qj2 with
  |(size3,x4)=>(
   if (decide (x4<(L.length:Int)))=true then
    (rdO L x4).bind fun x5=>
    ((if (decide ((IntKind.wrap .i64 (size3+(x5.length:Int)))<0))=true then
      none
    else
     some ()):Option Unit).bind fun _=>
    some (.inl (IntKind.wrap .i64 (size3+(x5.length:Int)),IntKind.wrap .i64 (x4+1)))
   else
    some (.inr size3):Option ((Int×Int)⊕Int))) (0,0)=some (L.flatten.length:Int):=by
  have key: ∀(t pre:List (List By)),L=pre++t→A1 (fun(qj2:Int×Int)=>match qj2 with
  |(size3,x4)=>(
   if (decide (x4<(L.length:Int)))=true then
    (rdO L x4).bind fun x5=>
    ((if (decide ((IntKind.wrap .i64 (size3+(x5.length:Int)))<0))=true then
      none
    else
     some ()):Option Unit).bind fun _=>
    some (.inl (IntKind.wrap .i64 (size3+(x5.length:Int)),IntKind.wrap .i64 (x4+1)))
   else
    some (.inr size3):Option ((Int×Int)⊕Int))) ((pre.flatten.length:Int),(pre.length:Int))=some (L.flatten.length:Int):=by
   intro t
   induction t with
   |nil=>
    intro pre he
    refine Aw ?_
    subst he
    simp
   |cons x t ih=>
    intro pre he
    have hlen:pre.length<L.length:=by subst he;simp
    have hg:L[pre.length]=x:=by subst he;simp
    have hfl:pre.flatten.length+x.length≤L.flatten.length:=by subst he;simp
    rw[Bj (s':=((((pre++[x]).flatten.length:Nat):Int),(((pre++[x]).length:Nat):Int))),ih (pre++[x]) (by simp[he])]
    show(if _ then _ else _)=_
    rw[if_pos (by simp;omega),Fu hlen,hg]
    simp only[Option.bind_some]
    rw[wrap64 (x:=(pre.flatten.length:Int)+(x.length:Int)) (by omega) (by omega),wrap64 (by omega) (by omega),if_neg (by simp;omega)]
    simp
  exact key L [] rfl
 rw[h1]
 simp only[Option.bind_some]
 have hg:Cy (List UInt8) 16 (L.flatten.length:Int)=some []:=by
  unfold Cy D2
  rw[if_pos ⟨by omega,by omega⟩]
  rfl
 rw[hg]
 simp only[Option.bind_some]
 have key: ∀(t pre:List (List By)),L=pre++t→A1 (fun(qj9:Int×(List (List UInt8)))=>match qj9 with
  |(x10,row11)=>(
   if (decide (x10<(L.length:Int)))=true then
    (rdO L x10).bind fun x12=>
    (apO 16 row11 x12).bind fun x13=>
    some (.inl (IntKind.wrap .i64 (x10+1),x13))
   else
    some (.inr row11):Option ((Int×(List (List UInt8)))⊕(List (List UInt8))))) ((pre.length:Int),pre.flatten)=some L.flatten:=by
  intro t
  induction t with
  |nil=>
   intro pre he
   refine Aw ?_
   subst he
   simp
  |cons x t ih=>
   intro pre he
   have hlen:pre.length<L.length:=by subst he;simp
   have hg:L[pre.length]=x:=by subst he;simp
   have hfl:pre.flatten.length+x.length≤L.flatten.length:=by subst he;simp
   rw[Bj (s':=((((pre++[x]).length:Nat):Int),(pre++[x]).flatten)),ih (pre++[x]) (by simp[he])]
   show(if _ then _ else _)=_
   rw[if_pos (by simp;omega),Fu hlen,hg]
   simp only[Option.bind_some]
   unfold apO
   rw[if_pos (by omega)]
   simp only[Option.bind_some]
   rw[wrap64 (by omega) (by omega)]
   simp
 exact Bi (key L [] rfl) rfl
abbrev Pc:=Nat×List By
def atS(p:Pc)(lvl:Nat):List By:=if p.1<lvl then [40]::(p.2++[[41]]) else p.2
def E5(k:Int):Nat×By×Nat×Nat:=
 if k=2 then(7,[45],7,7) else if k=3 then(5,[43],5,6) else if k=4 then(5,[45],5,6) else if k=5 then(6,[42],6,7) else if k=6 then(6,[47],6,7)
 else if k=7 then(4,[60],5,5) else if k=8 then(4,[60,61],5,5) else if k=9 then(4,[61],5,5) else if k=10 then(4,[62],5,5) else if k=11 then(4,[62,61],5,5)
 else if k=12 then(2,Bea,2,3) else if k=13 then(1,sOr,1,2) else if k=14 then(3,Alk,3,3) else if k=15 then(0,sIf,0,0) else if k=16 then(8,Aik,0,0)
 else if k=17 then(8,Awp,0,0) else(8,[],0,0)
def Beg(k:Int)(i:Nat):Nat:=if i=0 then(E5 k).2.2.1 else if i=1 then(E5 k).2.2.2 else 0
def Ri(n:Nd)(p0 p1 p2:List By):List By:=
 if n.Ae=0 then(if n.Af.getLast?=some 37 then [n.Af.dropLast,[37]] else [n.Af])
 else if n.Ae=1 then [n.Af]
 else if n.Ae=2 then [45]::p0
 else if n.Ae=14 then Alk::p0
 else if n.Ae=15 then sIf::(p0++Aou::(p1++Alj::p2))
 else if n.Ae=16∨n.Ae=17 then(if n.Ae=17 then Awp else Aik)::[40]::(p0++[44]::(p1++[[41]]))
 else p0++(E5 n.Ae).2.1::p1
def gP(st:List Pc)(k:Int)(i:Nat):List By:=atS (st.getD i (0,[])) (Beg k i)
def As7(k:Int):Nat:=(Ht k).getD 0
def pst:List Nd→List Pc
 |[]=>[]
 |n::l=>((E5 n.Ae).1,Ri n (gP (pst l) n.Ae 0) (gP (pst l) n.Ae 1) (gP (pst l) n.Ae 2))::(pst l).drop (As7 n.Ae)
theorem kinds{k:Int}(h:Ht k≠none):k=0∨k=1∨k=2∨k=3∨k=4∨k=5∨k=6∨k=7∨k=8∨k=9∨k=10∨k=11∨k=12∨k=13∨k=14∨k=15∨k=16∨k=17:=by
 unfold Ht at h
 split at h
 ·exact absurd rfl h
 ·omega
theorem Asl{n:Nd}{l:List Nd}{s:List Nat}(h:stk (n::l)=some s): ∃st k,stk l=some st∧Ht n.Ae=some k∧Aof n=true∧k≤st.length∧s=((st.take k).foldl max 0+1)::st.drop k:=by
 rw[stk] at h
 cases h1:stk l with
 |none=>rw[h1] at h;cases h
 |some st=>
  rw[h1] at h
  simp only at h
  cases h2:Ht n.Ae with
  |none=>rw[h2] at h;cases h
  |some k=>
   rw[h2] at h
   simp only at h
   split at h
   ·rename_i h3
    cases h
    exact⟨st,k,rfl,rfl,h3.1,h3.2,rfl⟩
   ·cases h
theorem Amc: ∀{l:List Nd} {st:List Nat},stk l=some st→(pst l).length=st.length
 |[],st,h=>by cases h;rfl
 |n::l,s,h=>by
  obtain⟨st,k,h1,h2,h3,h4,rfl⟩:=Asl h
  have:=Amc h1
  rw[pst]
  simp only[List.length_cons,List.length_drop,As7,h2,Option.getD_some]
  omega
def tw(st:List Pc):Nat:=(st.map fun p=>p.2.length).sum
theorem Bsc(st:List Pc)(k:Nat):tw (st.take k)+tw (st.drop k)=tw st:=by
 unfold tw
 rw[←List.sum_append,←List.map_append,List.take_append_drop]
theorem Bi6(p:Pc)(lvl:Nat):(atS p lvl).length≤p.2.length+2:=by
 unfold atS
 split
 ·simp
 ·omega
theorem Bmr(n:Nd)(p0 p1 p2:List By):(Ri n p0 p1 p2).length≤(if As7 n.Ae=0 then 0 else p0.length)+(if As7 n.Ae≤1 then 0 else p1.length)+(if As7 n.Ae≤2 then 0 else p2.length)+4∨Ht n.Ae=none:=by
 by_cases h:Ht n.Ae=none
 ·exact Or.inr h
 ·left
  unfold Ri
  rcases kinds h with e|e|e|e|e|e|e|e|e|e|e|e|e|e|e|e|e|e<;>rw[e]<;>simp[As7,Ht]<;>(try split)<;>(try simp)<;>(try omega)
theorem Aab: ∀{l:List Nd} {st:List Nat},stk l=some st→tw (pst l)≤10*l.length
 |[],st,h=>by simp[pst,tw]
 |n::l,s,h=>by
  obtain⟨st,k,h1,h2,h3,h4,rfl⟩:=Asl h
  have ih:=Aab h1
  have hlen:=Amc h1
  have hd:=Bsc (pst l) k
  have hk:=A60 h2
  rcases Bmr n (gP (pst l) n.Ae 0) (gP (pst l) n.Ae 1) (gP (pst l) n.Ae 2) with hw|hw
  ·rw[pst]
   have hN:As7 n.Ae=k:=by simp[As7,h2]
   rw[hN] at hw⊢
   have hg: ∀i,(gP (pst l) n.Ae i).length≤((pst l).getD i (0,[])).2.length+2:=fun i=>Bi6 _ _
   have g0:=hg 0;have g1:=hg 1;have g2:=hg 2
   have hsum:(if k=0 then 0 else((pst l).getD 0 (0,[])).2.length)+(if k≤1 then 0 else((pst l).getD 1 (0,[])).2.length)+(if k≤2 then 0 else((pst l).getD 2 (0,[])).2.length)=tw ((pst l).take k):=by
    match hp:pst l,k,hk with
    |[],0,_=>rfl
    |[],k+1,_=>rw[hp] at hlen;simp at hlen;omega
    |a::s,0,_=>rfl
    |a::s,1,_=>simp[tw]
    |[a],2,_=>rw[hp] at hlen;simp at hlen;omega
    |[a],3,_=>rw[hp] at hlen;simp at hlen;omega
    |a::b::s,2,_=>simp[tw]
    |[a,b],3,_=>rw[hp] at hlen;simp at hlen;omega
    |a::b::c::s,3,_=>simp[tw];omega
   have htw:tw (((E5 n.Ae).1,Ri n (gP (pst l) n.Ae 0) (gP (pst l) n.Ae 1) (gP (pst l) n.Ae 2))::(pst l).drop k)=(Ri n (gP (pst l) n.Ae 0) (gP (pst l) n.Ae 1) (gP (pst l) n.Ae 2)).length+tw ((pst l).drop k):=by simp[tw]
   rw[htw]
   simp only[List.length_cons]
   split at hw<;>(try split at hw)<;>(try split at hw)<;>(try split at hsum)<;>(try split at hsum)<;>(try split at hsum)<;>omega
  ·rw[hw] at h2;cases h2
theorem Bai{st:List Pc}{p:Pc}(h:p∈st):p.2.length≤tw st:=by
 unfold tw
 exact List.single_le_sum_nat (List.mem_map.2 ⟨p,h,rfl⟩)
where
 List.single_le_sum_nat: ∀{l:List Nat} {x:Nat},x∈l→x≤l.sum:=by
  intro l
  induction l with
  |nil=>intro x h;cases h
  |cons a l ih=>
   intro x h
   rw[List.sum_cons]
   rcases List.mem_cons.1 h with rfl|h
   ·omega
   ·have:=ih h;omega
theorem Btd{s:By}(hl:s.length≤1000000):strings_CutSuffix s [37]=some (if s.getLast?=some 37 then(s.dropLast,true) else(s,false)):=by
 unfold strings_CutSuffix stringslite_CutSuffix
 rw[A4v hl]
 simp only[Option.bind_some]
 by_cases h:s.getLast?=some 37
 ·rw[if_neg (by simp[h]),Auf hl h,if_pos h]
  rfl
 ·rw[if_pos (by simp[h]),if_neg h]
  rfl
def A7l(k:Nat)(p0 p1 p2:List By):List (List By):=[p0,p1,p2].take k
theorem Bqp{n:Nd}(hx:n.Af.length≤1000000){k:Nat}(hk:Ht n.Ae=some k){p0 p1 p2:List By}(hb:p0.length≤100000∧p1.length≤100000∧p2.length≤100000):Tb n (placeOf n.Ae).2.1 (A7l k p0 p1 p2)=some (Ri n p0 p1 p2):=by
 have hb0:=hb.1
 have hb1:=hb.2.1
 have hb2:=hb.2.2
 have hne:Ht n.Ae≠none:=by rw[hk];simp
 unfold Tb Ri
 rcases kinds hne with e|e|e|e|e|e|e|e|e|e|e|e|e|e|e|e|e|e<;>rw[e] at hk⊢ <;>(have hk:=Option.some.inj hk)<;>subst hk
 ·simp only[beq_self_eq_true,if_true]
  rw[Btd hx]
  simp only[Option.bind_some]
  split<;>simp
 ·rfl
 ·show(apO 16 [[45]] p0).bind _=_
  unfold apO
  rw[if_pos (by simp;omega)]
  rfl
 ·show(Ak [p0,[[43]],p1]).bind _=_
  rw[Cl (by simp) (by simp;omega)]
  simp[E5]
 ·show(Ak [p0,[[45]],p1]).bind _=_
  rw[Cl (by simp) (by simp;omega)]
  simp[E5]
 ·show(Ak [p0,[[42]],p1]).bind _=_
  rw[Cl (by simp) (by simp;omega)]
  simp[E5]
 ·show(Ak [p0,[[47]],p1]).bind _=_
  rw[Cl (by simp) (by simp;omega)]
  simp[E5]
 ·show(Ak [p0,[[60]],p1]).bind _=_
  rw[Cl (by simp) (by simp;omega)]
  simp[E5]
 ·show(Ak [p0,[[60,61]],p1]).bind _=_
  rw[Cl (by simp) (by simp;omega)]
  simp[E5]
 ·show(Ak [p0,[[61]],p1]).bind _=_
  rw[Cl (by simp) (by simp;omega)]
  simp[E5]
 ·show(Ak [p0,[[62]],p1]).bind _=_
  rw[Cl (by simp) (by simp;omega)]
  simp[E5]
 ·show(Ak [p0,[[62,61]],p1]).bind _=_
  rw[Cl (by simp) (by simp;omega)]
  simp[E5]
 ·show(Ak [p0,[[97,110,100]],p1]).bind _=_
  rw[Cl (by simp) (by simp;omega)]
  simp[E5,Bea]
 ·show(Ak [p0,[[111,114]],p1]).bind _=_
  rw[Cl (by simp) (by simp;omega)]
  simp[E5,sOr]
 ·show(apO 16 [[110,111,116]] p0).bind _=_
  unfold apO
  rw[if_pos (by simp;omega)]
  rfl
 ·show(Ak [[[105,102]],p0,[[116,104,101,110]],p1,[[101,108,115,101]],p2]).bind _=_
  rw[Cl (by simp) (by simp;omega)]
  simp[sIf,Aou,Alj]
 ·show(Ak [[[109,105,110],[40]],p0,[[44]],p1,[[41]]]).bind _=_
  rw[Cl (by simp) (by simp;omega)]
  simp[Aik]
 ·show(Ak [[[109,97,120],[40]],p0,[[44]],p1,[[41]]]).bind _=_
  rw[Cl (by simp) (by simp;omega)]
  simp[Awp]
theorem Bpw{kind:Int}(h:Ht kind≠none): ∃sd:List Int,((if (kind==2)=true then
   some (7,[7])
  else
   if (kind==14)=true then
    some (3,[3])
   else
    if (kind==15)=true then
     some (0,[(placeOf kind).2.2.1,(placeOf kind).2.2.2,0])
    else
     some ((placeOf kind).1,[(placeOf kind).2.2.1,(placeOf kind).2.2.2,0])):Option (Int×(List Int)))=some (((E5 kind).1:Int),sd)∧ ∀i,i<As7 kind→rdO sd (i:Int)=some (Beg kind i:Int):=by
 rcases kinds h with rfl|rfl|rfl|rfl|rfl|rfl|rfl|rfl|rfl|rfl|rfl|rfl|rfl|rfl|rfl|rfl|rfl|rfl
 ·exact⟨_,rfl,fun i hi=>absurd hi (by simp[As7,Ht])⟩
 ·exact⟨_,rfl,fun i hi=>absurd hi (by simp[As7,Ht])⟩
 ·refine⟨_,rfl,fun i hi=>?_⟩
  have:i<1:=hi
  obtain rfl:i=0:=by omega
  rfl
 ·refine⟨_,rfl,fun i hi=>?_⟩
  have:i<2:=hi
  rcases(show i=0∨i=1 by omega) with rfl|rfl<;>rfl
 ·refine⟨_,rfl,fun i hi=>?_⟩
  have:i<2:=hi
  rcases(show i=0∨i=1 by omega) with rfl|rfl<;>rfl
 ·refine⟨_,rfl,fun i hi=>?_⟩
  have:i<2:=hi
  rcases(show i=0∨i=1 by omega) with rfl|rfl<;>rfl
 ·refine⟨_,rfl,fun i hi=>?_⟩
  have:i<2:=hi
  rcases(show i=0∨i=1 by omega) with rfl|rfl<;>rfl
 ·refine⟨_,rfl,fun i hi=>?_⟩
  have:i<2:=hi
  rcases(show i=0∨i=1 by omega) with rfl|rfl<;>rfl
 ·refine⟨_,rfl,fun i hi=>?_⟩
  have:i<2:=hi
  rcases(show i=0∨i=1 by omega) with rfl|rfl<;>rfl
 ·refine⟨_,rfl,fun i hi=>?_⟩
  have:i<2:=hi
  rcases(show i=0∨i=1 by omega) with rfl|rfl<;>rfl
 ·refine⟨_,rfl,fun i hi=>?_⟩
  have:i<2:=hi
  rcases(show i=0∨i=1 by omega) with rfl|rfl<;>rfl
 ·refine⟨_,rfl,fun i hi=>?_⟩
  have:i<2:=hi
  rcases(show i=0∨i=1 by omega) with rfl|rfl<;>rfl
 ·refine⟨_,rfl,fun i hi=>?_⟩
  have:i<2:=hi
  rcases(show i=0∨i=1 by omega) with rfl|rfl<;>rfl
 ·refine⟨_,rfl,fun i hi=>?_⟩
  have:i<2:=hi
  rcases(show i=0∨i=1 by omega) with rfl|rfl<;>rfl
 ·refine⟨_,rfl,fun i hi=>?_⟩
  have:i<1:=hi
  obtain rfl:i=0:=by omega
  rfl
 ·refine⟨_,rfl,fun i hi=>?_⟩
  have:i<3:=hi
  rcases(show i=0∨i=1∨i=2 by omega) with rfl|rfl|rfl<;>rfl
 ·refine⟨_,rfl,fun i hi=>?_⟩
  have:i<2:=hi
  rcases(show i=0∨i=1 by omega) with rfl|rfl<;>rfl
 ·refine⟨_,rfl,fun i hi=>?_⟩
  have:i<2:=hi
  rcases(show i=0∨i=1 by omega) with rfl|rfl<;>rfl
theorem Bey: ∀(N f:Nat) (l:List Nd) (d:Nat) (st:List Nat) (lvl:Nat),l.length≤N→l.length<f→l.length≤1000→(∀n∈l,n.Af.length≤1000000)→stk l=some (d::st)→
  ∃rest,F3 f l (lvl:Int)=some (atS ((pst l).getD 0 (0,[])) lvl,rest)∧stk rest=some st∧pst rest=(pst l).drop 1∧rest <:+ l∧rest.length<l.length:=by
 intro N
 induction N with
 |zero=>
  intro f l d st lvl hN hf hl hx hs
  obtain rfl:l=[]:=List.eq_nil_of_length_eq_zero (by omega)
  cases hs
 |succ N ih=>
  intro f l d st lvl hN hf hl hx hs
  cases l with
  |nil=>cases hs
  |cons n l=>
   obtain⟨g,rfl⟩: ∃g,f=g+1:=⟨f-1,by omega⟩
   simp only[List.length_cons] at hN hf hl
   obtain⟨st',k,h1,h2,h3,h4,h5⟩:=Asl hs
   have hst:st=st'.drop k:=(List.cons.inj h5).2
   have hNk:As7 n.Ae=k:=by simp[As7,h2]
   have hk3:=A60 h2
   have hnx:=hx n (by simp)
   have hplen:=Amc h1
   have htw:=Aab h1
   obtain⟨sd,s1,s2⟩:=Bpw (kind:=n.Ae) (by rw[h2];simp)
   rw[hNk] at s2
   have hP: ∀i,(gP (pst l) n.Ae i).length≤10*l.length+2:=by
    intro i
    have:=Bi6 ((pst l).getD i (0,[])) (Beg n.Ae i)
    have h6:((pst l).getD i (0,[])).2.length≤tw (pst l):=by
     rw[List.getD_eq_getElem?_getD]
     cases hg:(pst l)[i]? with
     |none=>simp
     |some p=>exact Bai (List.mem_of_getElem? hg)
    unfold gP
    omega
   have key: ∀(j:Nat) (rest:List Nd),j≤k→rest <:+ l→stk rest=some (st'.drop j)→pst rest=(pst l).drop j→ ∃rest',rest' <:+ l∧stk rest'=some (st'.drop k)∧pst rest'=(pst l).drop k∧A1 (fun(qj10:(List Aa)×Int×(List (List (List UInt8))))=>match qj10 with
   |(rest11,x12,row13)=>(
    if (decide (x12<(k:Int)))=true then
     (rdO sd x12).bind fun x14=>
     (F3 g rest11 x14).bind fun x15=>
     (apO 24 row13 [x15.1]).bind fun x16=>
     some (.inl (x15.2,IntKind.wrap .i64 (x12+1),x16))
    else
     some (.inr (rest11,row13)):Option (((List Aa)×Int×(List (List (List UInt8))))⊕((List Aa)×(List (List (List UInt8))))))) (rest,(j:Int),A7l j (gP (pst l) n.Ae 0) (gP (pst l) n.Ae 1) (gP (pst l) n.Ae 2))=some (rest',A7l k (gP (pst l) n.Ae 0) (gP (pst l) n.Ae 1) (gP (pst l) n.Ae 2)):=by
    intro j
    generalize hd:k-j=dd
    induction dd generalizing j with
    |zero=>
     intro rest hj hr hs1 hs2
     obtain rfl:j=k:=by omega
     refine⟨rest,hr,hs1,hs2,Aw ?_⟩
     show(if _ then _ else _)=_
     rw[if_neg (by simp)]
    |succ dd ihd=>
     intro rest hj hr hs1 hs2
     have hjk:j<k:=by omega
     have hjl:j<st'.length:=by omega
     have hcons:st'.drop j=st'[j]::st'.drop (j+1):=List.drop_eq_getElem_cons hjl
     rw[hcons] at hs1
     have hrl:=hr.length_le
     obtain⟨r2,t1,t2,t3,t4,t5⟩:=ih g rest st'[j] (st'.drop (j+1)) (Beg n.Ae j) (by omega) (by omega) (by omega) (fun m hm=>hx m (by simp[hr.subset hm])) hs1
     obtain⟨rest',q1,q2,q3,q4⟩:=ihd (j+1) (by omega) r2 (by omega) (t4.trans hr) t2 (by rw[t3,hs2,List.drop_drop])
     refine⟨rest',q1,q2,q3,?_⟩
     rw[←q4]
     refine Bj ?_
     show(if _ then _ else _)=_
     rw[if_pos (by simp;omega),s2 j hjk]
     simp only[Option.bind_some]
     rw[t1]
     simp only[Option.bind_some]
     have hat:atS ((pst rest).getD 0 (0,[])) (Beg n.Ae j)=gP (pst l) n.Ae j:=by
      rw[hs2]
      unfold gP
      congr 1
      simp
     rw[hat]
     unfold apO
     rw[if_pos (by simp[A7l];omega)]
     simp only[Option.bind_some]
     rw[wrap64 (by omega) (by omega)]
     simp only[Option.some.injEq,Sum.inl.injEq,Prod.mk.injEq,true_and]
     refine⟨rfl,?_⟩
     rcases(show j=0∨j=1∨j=2 by omega) with rfl|rfl|rfl<;>rfl
   obtain⟨rest',q1,q2,q3,q4⟩:=key 0 l (by omega) (List.suffix_refl l) (by simpa using h1) (by simp)
   refine⟨rest',?_,by rw[hst];exact q2,?_,q1.trans (List.suffix_cons n l),by have:=q1.length_le;simp;omega⟩
   ·rw[F3]
    have e0:rdO (n::l) 0=some n:=rfl
    have e2:slO (n::l) 1 ((n::l).length:Int)=some l:=by
     have:=Hh (l:=n::l) (n:=1) (by simp)
     simpa using this
    rw[e0,e2]
    simp only[Option.bind_some]
    rw[show Ajp n.Ae=some (placeOf n.Ae) from rfl]
    simp only[Option.bind_some]
    refine Bi s1 ?_
    simp only
    rw[has_eq]
    have hI:A6y n.Ae=(k:Int):=by unfold A6y;rw[h2]
    rw[hI]
    simp only[Option.bind_some]
    refine Bi q4 ?_
    simp only
    rw[Bqp hnx h2 ⟨by have:=hP 0;omega,by have:=hP 1;omega,by have:=hP 2;omega⟩]
    simp only[Option.bind_some]
    have hhead:(pst (n::l)).getD 0 (0,[])=((E5 n.Ae).1,Ri n (gP (pst l) n.Ae 0) (gP (pst l) n.Ae 1) (gP (pst l) n.Ae 2)):=rfl
    rw[hhead]
    unfold atS
    have htw2:=Aab hs
    have hwl:(Ri n (gP (pst l) n.Ae 0) (gP (pst l) n.Ae 1) (gP (pst l) n.Ae 2)).length≤20000:=by
     have:=Bai (st:=pst (n::l)) (p:=((E5 n.Ae).1,Ri n (gP (pst l) n.Ae 0) (gP (pst l) n.Ae 1) (gP (pst l) n.Ae 2))) (by rw[pst];simp)
     simp at this htw2
     omega
    by_cases hb:(E5 n.Ae).1<lvl
    ·rw[if_pos hb,if_pos (by simp;omega),Cl (by simp) (by simp;omega)]
     simp
    ·rw[if_neg hb,if_neg (by simp;omega)]
     rfl
   ·rw[q3]
    rw[pst,hNk]
    simp
def jw(ws:List By):By:=Lib.join ws [32]
theorem Bti:jw []=[]:=rfl
theorem Btj(w:By):jw [w]=w:=by simp[jw,Lib.join,List.intercalate]
theorem Brd(w v:By)(ws:List By):jw (w::v::ws)=w++32::jw (v::ws):=by simp[jw,Lib.join,List.intercalate]
theorem Bgg: ∀(ws:List By) (b:Nat),(∀w∈ws,w.length≤b)→(jw ws).length≤ws.length*(b+1)
 |[],b,h=>by simp[Bti]
 |[w],b,h=>by
  have:=h w (by simp)
  rw[Btj];simp;omega
 |w::v::ws,b,h=>by
  have h1:=h w (by simp)
  have h2:=Bgg (v::ws) b (fun x hx=>h x (by simp[hx]))
  rw[Brd]
  simp only[List.length_append,List.length_cons] at h2⊢
  rw[Nat.add_mul,Nat.add_mul] at*
  omega
theorem Bjp{ws:List By}(h1:ws.length≤1000000)(h2:(jw ws).length≤140737488355328):strings_Join ws [32]=some (jw ws):=by
 unfold strings_Join
 rw[if_pos ⟨by omega,h2⟩]
 rfl
def Mc(l:List Nd):List By:=((pst l).getD 0 (0,[])).2
def A93(l:List Nd):By×Int:=if Rk l=0 then([],1) else(jw (Mc l),0)
theorem Awu{l:List Nd}(h:Rk l≠0):l.length≤200∧ ∃d,stk l=some [d]∧d≤24∧Rk l=d:=by
 unfold Rk at h⊢
 by_cases hl:200<l.length
 ·rw[if_pos hl] at h;exact absurd rfl h
 ·rw[if_neg hl] at h⊢
  refine⟨by omega,?_⟩
  match hs:stk l with
  |none=>rw[hs] at h;exact absurd rfl h
  |some []=>rw[hs] at h;exact absurd rfl h
  |some [d]=>
   rw[hs] at h
   simp only at h
   split at h
   ·exact⟨d,rfl,by assumption,by simp only;rw[if_pos (by assumption)]⟩
   ·exact absurd rfl h
  |some (a::b::s)=>rw[hs] at h;exact absurd rfl h
theorem Atq{B:Nat}(hB:10≤B): ∀(l:List Nd) (st:List Nat),stk l=some st→(∀n∈l,n.Af.length≤B)→ ∀p∈pst l,∀w∈p.2,w.length≤B
 |[],st,h,hx,p,hp=>by simp[pst] at hp
 |n::l,s,h,hx,p,hp=>by
  obtain⟨st,k,h1,h2,h3,h4,rfl⟩:=Asl h
  have ih:=Atq hB l st h1 (fun m hm=>hx m (by simp[hm]))
  have hn:=hx n (by simp)
  have hg: ∀i,∀w∈gP (pst l) n.Ae i,w.length≤B:=by
   intro i w hw
   have hq: ∀w∈((pst l).getD i (0,[])).2,w.length≤B:=by
    rw[List.getD_eq_getElem?_getD]
    cases hg:(pst l)[i]? with
    |none=>simp
    |some q=>exact ih q (List.mem_of_getElem? hg)
   unfold gP atS at hw
   split at hw
   ·simp only[List.mem_cons,List.mem_append,List.not_mem_nil,or_false] at hw
    rcases hw with rfl|hw|rfl
    ·simp;omega
    ·exact hq w hw
    ·simp;omega
   ·exact hq w hw
  rw[pst,List.mem_cons] at hp
  rcases hp with rfl|hp
  ·have hne:Ht n.Ae≠none:=by rw[h2];simp
   intro w hw
   simp only at hw
   unfold Ri at hw
   have h0:=hg 0 w;have h1:=hg 1 w;have h2:=hg 2 w
   generalize gP (pst l) n.Ae 0=p0 at hw h0
   generalize gP (pst l) n.Ae 1=p1 at hw h1
   generalize gP (pst l) n.Ae 2=p2 at hw h2
   have hdl:n.Af.dropLast.length≤B:=by simp;omega
   rcases kinds hne with e|e|e|e|e|e|e|e|e|e|e|e|e|e|e|e|e|e<;>rw[e] at hw<;>simp[E5,Bea,sOr,Alk,sIf,Aou,Alj,Aik,Awp] at hw<;>(try split at hw)<;>(try simp at hw)<;>(repeat' (refine Or.elim hw (fun hw=>?_) (fun hw=>?_)))<;>first|exact h0 hw|exact h1 hw|exact h2 hw|(rw[hw];simp at hn hdl⊢;omega)
  ·exact ih p (List.mem_of_mem_drop hp)
theorem Bdy{l:List Nd}(hx: ∀n∈l,n.Af.length≤1000000):Mx l=some (A93 l):=by
 unfold Mx A93
 rw[right_eq hx]
 simp only[Option.bind_some]
 by_cases hd:Rk l=0
 ·rw[if_pos (by simp[hd]),if_pos hd]
 ·rw[if_neg (by simp;omega),if_neg hd]
  obtain⟨hl,d,hs,_⟩:=Awu hd
  obtain⟨rest,h1,_⟩:=Bey l.length 100000 l d [] 0 (Nat.le_refl _) (by omega) (by omega) hx hs
  rw[show(0:Int)=((0:Nat):Int) from rfl,h1]
  simp only[Option.bind_some]
  have e:atS ((pst l).getD 0 (0,[])) 0=Mc l:=by unfold atS Mc;rw[if_neg (by omega)]
  rw[e]
  have htw:=Aab hs
  have hlen:=Amc hs
  have hmem:(pst l).getD 0 (0,[])∈pst l:=by
   match hp:pst l with
   |[]=>rw[hp] at hlen;simp at hlen
   |p::q=>simp
  have hwl:=Bai hmem
  have hwt:=Atq (B:=1000000) (by omega) l [d] hs hx _ hmem
  have hjl:=Bgg (Mc l) 1000000 hwt
  have hc:(Mc l).length≤2000:=by unfold Mc;omega
  have hm:(Mc l).length*(1000000+1)≤2000*(1000000+1):=Nat.mul_le_mul_right _ hc
  rw[Bjp (by omega) (by omega)]
  rfl
end Go.Av.G
end
section
set_option linter.unusedVariables false
set_option linter.unusedSimpArgs false
set_option maxRecDepth 20000
set_option maxHeartbeats 4000000
namespace Go.Av.G
open Go Go.Av Go.Proofs
def Aaq(b:Ap):Bool:=Oe b.Je&&Oe b.Jf
def Tp(d:Ai):Bool:=Asq d.G7 true&&Asq d.Ms true&&Asq d.Ey true&&Oe d.Db&&Oe d.Cv&&Oe d.Bz&&Oe d.C1&&decide (1≤d.A6.length)&&decide (d.A6.length≤8)&&d.A6.all Aaq&&decide (0<Rk d.Gx)
structure DB (d:Ai):Prop where
 name:d.G7.length≤1000000
 cur:d.Ms.length≤1000000
 basis:d.Ey.length≤1000000
 period:d.Db.length≤1000000
 minimum:d.Cv.length≤1000000
 overdraft:d.Bz.length≤1000000
 notice:d.C1.length≤1000000
 fee:NB d.Gx
 bands:d.A6.length≤1000000
 band: ∀b∈d.A6,b.Je.length≤1000000∧b.Jf.length≤1000000
theorem Bi1{L:List By}(hL:L.length≤1000)(hx: ∀w∈L,w.length≤1000000):A1 (fun(qj2:Int)=>match qj2 with
  |x3=>(
   if (decide (x3<(L.length:Int)))=true then
    (rdO L x3).bind fun x4=>
    (Lg x4 true).bind fun x5=>
    if (!x5)=true then
     some (.inr (.inr false))
    else
     some (.inl (IntKind.wrap .i64 (x3+1)))
   else
    some (.inr (.inl ())):Option (Int⊕(Unit⊕Bool)))) 0=some (if L.all (fun w=>Asq w true)=true then .inl () else .inr false):=by
 rw[Al6 (l:=L) (fun w=> !Asq w true) (o:=(.inr false:Unit⊕Bool)) (e:= .inl ()) (by omega) (fun i hi=>?_) (fun i hi=>?_)]
 ·have:L.any (fun w=> !Asq w true)= !L.all (fun w=>Asq w true):=by rw[List.not_all_eq_any_not]
  rw[this]
  cases L.all (fun w=>Asq w true)<;>rfl
 ·show(if _ then _ else _)=_
  rw[if_pos (by simp;omega),Fu hi]
  simp only[Option.bind_some]
  rw[Bkr (hx _ (List.getElem_mem hi))]
  simp only[Option.bind_some]
  split<;>rfl
 ·show(if _ then _ else _)=_
  rw[if_neg (by simp;omega)]
theorem Blj{L:List By}(hL:L.length≤1000)(hx: ∀w∈L,w.length≤1000000):A1 (fun(qj2:Int)=>match qj2 with
  |x3=>(
   if (decide (x3<(L.length:Int)))=true then
    (rdO L x3).bind fun x4=>
    (Ez x4).bind fun x5=>
    if (!x5)=true then
     some (.inr (.inr false))
    else
     some (.inl (IntKind.wrap .i64 (x3+1)))
   else
    some (.inr (.inl ())):Option (Int⊕(Unit⊕Bool)))) 0=some (if L.all Oe=true then .inl () else .inr false):=by
 rw[Al6 (l:=L) (fun w=> !Oe w) (o:=(.inr false:Unit⊕Bool)) (e:= .inl ()) (by omega) (fun i hi=>?_) (fun i hi=>?_)]
 ·have:L.any (fun w=> !Oe w)= !L.all Oe:=by rw[List.not_all_eq_any_not]
  rw[this]
  cases L.all Oe<;>rfl
 ·show(if _ then _ else _)=_
  rw[if_pos (by simp;omega),Fu hi]
  simp only[Option.bind_some]
  rw[Ama (hx _ (List.getElem_mem hi))]
  simp only[Option.bind_some]
  split<;>rfl
 ·show(if _ then _ else _)=_
  rw[if_neg (by simp;omega)]
theorem Bok{l:List Ap}(hl:l.length≤1000000)(hx: ∀b∈l,b.Je.length≤1000000∧b.Jf.length≤1000000):Cf l=some (!l.all Aaq):=by
 unfold Cf Eb
 have h:=Ate (l:=l) (p:=fun b=> !Aaq b) (o:=fun i=>(.inr (i:Int):Unit⊕Int)) (e:= .inl ()) (f:=fun(qj2:Int)=>match qj2 with
  |x3=>(
   if (decide (x3<(l.length:Int)))=true then
    (rdO l x3).bind fun x4=>
    (Mz x4).bind fun x5=>
    if x5=true then
     some (.inr (.inr x3))
    else
     some (.inl (IntKind.wrap .i64 (x3+1)))
   else
    some (.inr (.inl ())):Option (Int⊕(Unit⊕Int)))) (by omega) (fun i hi=>by
   have hb:=hx l[i] (List.getElem_mem hi)
   have hm:Mz l[i]=some (!Aaq l[i]):=by
    unfold Mz Aaq
    rw[Ama hb.1,Ama hb.2]
    simp only[Option.bind_some,A0]
    cases Oe l[i].Je<;>rfl
   show(if _ then _ else _)=_
   rw[if_pos (by simp;omega),Fu hi]
   simp only[Option.bind_some]
   rw[hm]
   simp only[Option.bind_some]
   split<;>rfl) (fun i hi=>by
   show(if _ then _ else _)=_
   rw[if_neg (by simp;omega)])
 rw[h]
 simp only[Option.bind_some]
 cases hf:Apc l (fun b=> !Aaq b) with
 |none=>
  have:=Ai3 hf
  have ha:l.all Aaq=true:=List.all_eq_true.2 fun b hb=>by simpa using this b hb
  rw[ha]
  rfl
 |some i=>
  obtain⟨hi,h1,_⟩:=Ai4 hf
  have ha:l.all Aaq=false:=by
   rw[←Bool.not_eq_true,List.all_eq_true]
   intro h
   have:=h l[i] (List.getElem_mem hi)
   rw[this] at h1
   cases h1
  rw[ha]
  simp
theorem Btn{d:Ai}(h:DB d):Amb d=some (Tp d):=by
 unfold Amb
 refine Bi (Bi1 (L:=[d.G7,d.Ms,d.Ey]) (by simp) (fun w hw=>?_)) ?_
 ·simp at hw
  rcases hw with rfl|rfl|rfl
  ·exact h.name
  ·exact h.cur
  ·exact h.basis
 ·by_cases c1:[d.G7,d.Ms,d.Ey].all (fun w=>Asq w true)=true
  ·rw[if_pos c1]
   simp only
   refine Bi (Blj (L:=[d.Db,d.Cv,d.Bz,d.C1]) (by simp) (fun w hw=>?_)) ?_
   ·simp at hw
    rcases hw with rfl|rfl|rfl|rfl
    ·exact h.period
    ·exact h.minimum
    ·exact h.overdraft
    ·exact h.notice
   ·by_cases c2:[d.Db,d.Cv,d.Bz,d.C1].all Oe=true
    ·rw[if_pos c2]
     simp only[Option.bind_some]
     rw[Bok h.bands h.band,right_eq h.fee]
     simp only[A0,Option.bind_some,Option.some.injEq]
     simp only[List.all_cons,List.all_nil,Bool.and_true,Bool.and_eq_true] at c1 c2
     have e1:decide ((d.A6.length:Int)≥1)=decide (1≤d.A6.length):=by rw[decide_eq_decide];omega
     have e2:decide ((d.A6.length:Int)≤8)=decide (d.A6.length≤8):=by rw[decide_eq_decide];omega
     unfold Tp
     rw[c1.1,c1.2.1,c1.2.2,c2.1,c2.2.1,c2.2.2.1,c2.2.2.2,e1,e2]
     cases decide (1≤d.A6.length)<;>cases decide (d.A6.length≤8)<;>cases d.A6.all Aaq<;>rfl
    ·rw[if_neg c2]
     simp only[Option.some.injEq]
     symm
     rw[←Bool.not_eq_true]
     intro hm
     unfold Tp at hm
     simp only[Bool.and_eq_true] at hm
     refine c2 ?_
     simp[hm]
  ·rw[if_neg c1]
   simp only[Option.some.injEq]
   symm
   rw[←Bool.not_eq_true]
   intro hm
   unfold Tp at hm
   simp only[Bool.and_eq_true] at hm
   refine c1 ?_
   simp[hm]
theorem Bol{l:List Ai}(hl:l.length≤1000000)(hx: ∀d∈l,DB d):Cg l=some (!l.all Tp):=by
 unfold Cg Ec
 have h:=Ate (l:=l) (p:=fun b=> !Tp b) (o:=fun i=>(.inr (i:Int):Unit⊕Int)) (e:= .inl ()) (f:=fun(qj2:Int)=>match qj2 with
  |x3=>(
   if (decide (x3<(l.length:Int)))=true then
    (rdO l x3).bind fun x4=>
    (Fp x4).bind fun x5=>
    if x5=true then
     some (.inr (.inr x3))
    else
     some (.inl (IntKind.wrap .i64 (x3+1)))
   else
    some (.inr (.inl ())):Option (Int⊕(Unit⊕Int)))) (by omega) (fun i hi=>by
   have hb:=hx l[i] (List.getElem_mem hi)
   have hm:Fp l[i]=some (!Tp l[i]):=by
    unfold Fp
    rw[Btn hb]
    rfl
   show(if _ then _ else _)=_
   rw[if_pos (by simp;omega),Fu hi]
   simp only[Option.bind_some]
   rw[hm]
   simp only[Option.bind_some]
   split<;>rfl) (fun i hi=>by
   show(if _ then _ else _)=_
   rw[if_neg (by simp;omega)])
 rw[h]
 simp only[Option.bind_some]
 cases hf:Apc l (fun b=> !Tp b) with
 |none=>
  have:=Ai3 hf
  have ha:l.all Tp=true:=List.all_eq_true.2 fun b hb=>by simpa using this b hb
  rw[ha]
  rfl
 |some i=>
  obtain⟨hi,h1,_⟩:=Ai4 hf
  have ha:l.all Tp=false:=by
   rw[←Bool.not_eq_true,List.all_eq_true]
   intro h
   have:=h l[i] (List.getElem_mem hi)
   rw[this] at h1
   cases h1
  rw[ha]
  simp
def Axb(b:Ap):List By:=[b.Je,[58],b.Jf,[37],[59]]
def Aun(d:Ai):List By:=[Asf,d.G7,d.Ms,[123],A98,d.Ey,[59],Aw1,d.Db,[59],All,[123]]
def Bp4(d:Ai):List By:=[[59],Ase,d.Cv,[59],Ae9,d.Bz,[59],Aw0,d.C1,[59],[125]]
def V8(d:Ai):List By:=Aun d++(d.A6.flatMap Axb++([125]::Bpt::(Mc d.Gx++Bp4 d)))
def Atp(l:List Ai):By×Int:=if 16<l.length∨l.all Tp=false then([],1) else(jw (l.flatMap V8),0)
theorem foldl_flat{α β:Type}(f:α→List β): ∀(l:List α) (s:List β),l.foldl (fun s x=>s++f x) s=s++l.flatMap f
 |[],s=>by simp
 |x::l,s=>by rw[List.foldl_cons,foldl_flat f l];simp
theorem A7d{d:Ai}(h:Tp d=true):Rk d.Gx≠0∧d.A6.length≤8:=by
 unfold Tp at h
 simp only[Bool.and_eq_true,decide_eq_true_eq] at h
 exact⟨by omega,by omega⟩
theorem A1n{l:List Nd}(h:Rk l≠0):(Mc l).length≤2000:=by
 obtain⟨hl,d,hs,_⟩:=Awu h
 have htw:=Aab hs
 have hlen:=Amc hs
 have hmem:(pst l).getD 0 (0,[])∈pst l:=by
  match hp:pst l with
  |[]=>rw[hp] at hlen;simp at hlen
  |p::q=>simp
 have hwl:=Bai hmem
 unfold Mc
 omega
theorem Be6{B:Nat}(hB:10≤B){l:List Nd}(h:Rk l≠0)(hx: ∀n∈l,n.Af.length≤B): ∀w∈Mc l,w.length≤B:=by
 obtain⟨hl,d,hs,_⟩:=Awu h
 have hlen:=Amc hs
 have hmem:(pst l).getD 0 (0,[])∈pst l:=by
  match hp:pst l with
  |[]=>rw[hp] at hlen;simp at hlen
  |p::q=>simp
 exact Atq hB l [d] hs hx _ hmem
theorem Aar: ∀(l:List Ap),(l.flatMap Axb).length=5*l.length
 |[]=>rfl
 |b::l=>by
  rw[List.flatMap_cons,List.length_append,Aar l]
  simp[Axb]
  omega
theorem Bk2{d:Ai}(h:Tp d=true):(V8 d).length≤2100:=by
 have h1:=A7d h
 have h2:=A1n h1.1
 unfold V8
 rw[List.length_append,List.length_append,Aar]
 simp[Aun,Bp4]
 omega
theorem Bfw{d:Ai}(h:Tp d=true)(hd:DB d): ∀w∈V8 d,w.length≤1000000:=by
 intro w hw
 unfold V8 at hw
 have h1:=Be6 (B:=1000000) (by omega) (A7d h).1 hd.fee w
 have hc: ∀u:By,u.length≤10→w=u→w.length≤1000000:=fun u hu e=>by rw[e];omega
 simp only[List.mem_append,List.mem_cons,Aun,Bp4,List.not_mem_nil,or_false,List.mem_flatMap] at hw
 rcases hw with(hw|hw|hw|hw|hw|hw|hw|hw|hw|hw|hw|hw)|hw|hw|hw|hw|hw|hw|hw|hw|hw|hw|hw|hw|hw|hw|hw
 ·exact hc _ (by decide) hw
 ·rw[hw];exact hd.name
 ·rw[hw];exact hd.cur
 ·exact hc _ (by decide) hw
 ·exact hc _ (by decide) hw
 ·rw[hw];exact hd.basis
 ·exact hc _ (by decide) hw
 ·exact hc _ (by decide) hw
 ·rw[hw];exact hd.period
 ·exact hc _ (by decide) hw
 ·exact hc _ (by decide) hw
 ·exact hc _ (by decide) hw
 ·obtain⟨b,hb,hw⟩:=hw
  have:=hd.band b hb
  simp only[Axb,List.mem_cons,List.not_mem_nil,or_false] at hw
  rcases hw with hw|hw|hw|hw|hw
  ·rw[hw];exact this.1
  ·exact hc _ (by decide) hw
  ·rw[hw];exact this.2
  ·exact hc _ (by decide) hw
  ·exact hc _ (by decide) hw
 ·exact hc _ (by decide) hw
 ·exact hc _ (by decide) hw
 ·exact h1 hw
 ·exact hc _ (by decide) hw
 ·exact hc _ (by decide) hw
 ·rw[hw];exact hd.minimum
 ·exact hc _ (by decide) hw
 ·exact hc _ (by decide) hw
 ·rw[hw];exact hd.overdraft
 ·exact hc _ (by decide) hw
 ·exact hc _ (by decide) hw
 ·rw[hw];exact hd.notice
 ·exact hc _ (by decide) hw
 ·exact hc _ (by decide) hw
theorem Aum{l:List Ai}(h:l.all Tp=true):(l.flatMap V8).length≤l.length*2100:=by
 induction l with
 |nil=>simp
 |cons d l ih=>
  simp only[List.all_cons,Bool.and_eq_true] at h
  have h1:=Bk2 h.1
  have h2:=ih h.2
  rw[List.flatMap_cons,List.length_append,List.length_cons,Nat.add_mul]
  omega
theorem Aw9{α:Type}{n:Nat}{a b:List α}(h:(a.length+b.length)*n≤140737488355328):apO n a b=some (a++b):=by unfold apO;rw[if_pos h]
theorem Bdx{l:List Ai}(hx: ∀d∈l,DB d)(hl:l.length≤1000000):Jo l=some (Atp l):=by
 unfold Jo Atp
 rw[Bol hl hx]
 simp only[A0,Option.bind_some]
 by_cases hc:16<l.length∨l.all Tp=false
 ·rw[if_pos hc,if_pos]
  by_cases h16:16<l.length
  ·have:decide ((l.length:Int)>16)=true:=by simp;omega
   rw[this];rfl
  ·have:decide ((l.length:Int)>16)=false:=by simp;omega
   have ha:l.all Tp=false:=by rcases hc with h|h;exact absurd h h16;exact h
   rw[this,ha];rfl
 ·have h16:l.length≤16:=by omega
  have ha:l.all Tp=true:=by
   rw[←Bool.not_eq_false];exact fun h=>hc (Or.inr h)
  rw[if_neg hc,if_neg (by
   have:decide ((l.length:Int)>16)=false:=by simp;omega
   rw[this,ha];simp)]
  have hfl:=Aum ha
  have hpre: ∀i,((l.take i).flatMap V8).length≤l.length*2100:=by
   intro i
   have h1:(l.take i).all Tp=true:=List.all_eq_true.2 fun d hd=>List.all_eq_true.1 ha d (List.mem_of_mem_take hd)
   have:=Aum h1
   have h2:(l.take i).length*2100≤l.length*2100:=Nat.mul_le_mul_right _ (by simp;omega)
   exact Nat.le_trans this h2
  have hloop:A1 (fun(qj4:Int×(List (List UInt8)))=>match qj4 with
   |(x5,row6)=>(
    if (decide (x5<(l.length:Int)))=true then
     (rdO l x5).bind fun x7=>
     (apO 16 row6 [[112,114,111,100,117,99,116],x7.G7,x7.Ms,[123],[98,97,115,105,115],x7.Ey,[59],[112,101,114,105,111,100],x7.Db,[59],[116,105,101,114,115],[123]]).bind fun x8=>
     ((A1 (fun(qj9:Int×(List (List UInt8)))=>match qj9 with
       |(x10,row11)=>(
        if (decide (x10<(x7.A6.length:Int)))=true then
         (rdO x7.A6 x10).bind fun x12=>
         (apO 16 row11 [x12.Je,[58],x12.Jf,[37],[59]]).bind fun x13=>
         some (.inl (IntKind.wrap .i64 (x10+1),x13))
        else
         some (.inr row11):Option ((Int×(List (List UInt8)))⊕(List (List UInt8))))) (0,x8)):Option (List (List UInt8))).bind fun j9=>
     (F3 100000 x7.Gx 0).bind fun x15=>
     (apO 16 j9 [[125],[102,101,101]]).bind fun x16=>
     (apO 16 x16 x15.1).bind fun x17=>
     (apO 16 x17 [[59],[109,105,110,105,109,117,109],x7.Cv,[59],[111,118,101,114,100,114,97,102,116],x7.Bz,[59],[110,111,116,105,99,101],x7.C1,[59],[125]]).bind fun x18=>
     some (.inl (IntKind.wrap .i64 (x5+1),x18))
    else
     some (.inr row6):Option ((Int×(List (List UInt8)))⊕(List (List UInt8))))) (0,([]:List (List UInt8)))=some (l.foldl (fun s d=>s++V8 d) []):=by
   refine Ax6 (l:=l) (fun s d=>s++V8 d) id (by omega) (fun i hi=>?_) ?_
   ·have hm:Tp l[i]=true:=List.all_eq_true.1 ha _ (List.getElem_mem hi)
    have hd:=hx l[i] (List.getElem_mem hi)
    have hrow:=hpre i
    rw[foldl_flat,List.nil_append]
    generalize (l.take i).flatMap V8=row at hrow
    show(if _ then _ else _)=_
    rw[if_pos (by simp;omega),Fu hi]
    simp only[Option.bind_some]
    generalize l[i]=d at hm hd
    have hw:=A7d hm
    have hwl:=A1n hw.1
    rw[Aw9 (by simp;omega)]
    simp only[Option.bind_some]
    have hb:A1 (fun(qj9:Int×(List (List UInt8)))=>match qj9 with
      |(x10,row11)=>(
       if (decide (x10<(d.A6.length:Int)))=true then
        (rdO d.A6 x10).bind fun x12=>
        (apO 16 row11 [x12.Je,[58],x12.Jf,[37],[59]]).bind fun x13=>
        some (.inl (IntKind.wrap .i64 (x10+1),x13))
       else
        some (.inr row11):Option ((Int×(List (List UInt8)))⊕(List (List UInt8))))) (0,row++Aun d)=some (d.A6.foldl (fun s b=>s++Axb b) (row++Aun d)):=by
     refine Ax6 (l:=d.A6) (fun s b=>s++Axb b) id (by omega) (fun i hi=>?_) ?_
     ·rw[foldl_flat]
      show(if _ then _ else _)=_
      rw[if_pos (by simp;omega),Fu hi]
      simp only[Option.bind_some]
      rw[Aw9 (by
       have:=Aar (d.A6.take i)
       rw[List.length_append,List.length_append,this]
       simp[Aun]
       omega)]
      rfl
     ·show(if _ then _ else _)=_
      rw[if_neg (by simp)]
      rfl
    refine Bi hb ?_
    rw[foldl_flat]
    have hbl:=Aar d.A6
    have hrl:(row++Aun d++d.A6.flatMap Axb).length≤l.length*2100+100:=by
     rw[List.length_append,List.length_append,hbl]
     simp[Aun]
     omega
    obtain⟨hdl,dd,hs,_⟩:=Awu hw.1
    obtain⟨rest,t1,_⟩:=Bey d.Gx.length 100000 d.Gx dd [] 0 (Nat.le_refl _) (by omega) (by omega) hd.fee hs
    rw[show(0:Int)=((0:Nat):Int) from rfl,t1]
    simp only[Option.bind_some]
    have e:atS ((pst d.Gx).getD 0 (0,[])) 0=Mc d.Gx:=by unfold atS Mc;rw[if_neg (by omega)]
    rw[e,Aw9 (by simp only[List.length_cons,List.length_nil];omega)]
    simp only[Option.bind_some]
    rw[Aw9 (by rw[List.length_append];simp only[List.length_cons,List.length_nil];omega)]
    simp only[Option.bind_some]
    rw[Aw9 (by rw[List.length_append,List.length_append];simp only[List.length_cons,List.length_nil];omega)]
    simp only[Option.bind_some]
    unfold V8
    simp only[List.append_assoc,List.cons_append,List.nil_append]
    rfl
   ·show(if _ then _ else _)=_
    rw[if_neg (by simp)]
    rfl
  refine Bi hloop ?_
  rw[foldl_flat,List.nil_append]
  have hwt: ∀w∈l.flatMap V8,w.length≤1000000:=by
   intro w hw
   obtain⟨d,hd,hw⟩:=List.mem_flatMap.1 hw
   exact Bfw (List.all_eq_true.1 ha d hd) (hx d hd) w hw
  have hjl:=Bgg _ 1000000 hwt
  have hm:(l.flatMap V8).length*(1000000+1)≤33600*(1000000+1):=Nat.mul_le_mul_right _ (by omega)
  rw[Bjp (by omega) (by omega)]
  rfl
def tx1:By:=[97,45,98,32,45,32,99,42,45,50,37]
def nd1:List Nd:=[⟨4,[]⟩,⟨4,[]⟩,⟨1,[97]⟩,⟨1,[98]⟩,⟨5,[]⟩,⟨1,[99]⟩,⟨2,[]⟩,⟨0,[50,37]⟩]
theorem Bui:Ti tx1=(nd1,0,0,0):=by decide +kernel
def tx2:By:=[40,97,32,60,32,49,41,32,61,32,40,110,111,116,32,98,41]
def nd2:List Nd:=[⟨9,[]⟩,⟨7,[]⟩,⟨1,[97]⟩,⟨0,[49]⟩,⟨14,[]⟩,⟨1,[98]⟩]
theorem Buj:Ti tx2=(nd2,0,0,0):=by decide +kernel
def tx3:By:=[97,10,32,60,32,98,32,60,32,99]
theorem Buk:Ti tx3=([],2,6,14):=by decide +kernel
def tx4:By:=[40,97]
theorem Bul:Ti tx4=([],1,3,14):=by decide +kernel
def tx5:By:=[112,114,111,100,117,99,116,32,115,97,118,101,32,101,117,114,32,123,32,98,97,115,105,115,32,97,99,116,51,54,53,32,59,32,112,101,114,105,111,100,32,51,32,59,32,116,105,101,114,115,32,123,32,48,32,58,32,49,46,50,53,32,37,32,59,32,53,48,48,32,58,32,50,32,37,32,59,32,125,32,102,101,101,32,105,102,32,98,97,108,97,110,99,101,32,60,32,49,48,32,116,104,101,110,32,49,32,101,108,115,101,32,48,32,59,32,109,105,110,105,109,117,109,32,53,32,59,32,111,118,101,114,100,114,97,102,116,32,48,32,59,32,110,111,116,105,99,101,32,51,48,32,59,32,125]
def dc5:Ai:=⟨[115,97,118,101],[101,117,114],[97,99,116,51,54,53],[51],[⟨[48],[49,46,50,53]⟩,⟨[53,48,48],[50]⟩],[⟨15,[]⟩,⟨7,[]⟩,⟨1,[98,97,108,97,110,99,101]⟩,⟨0,[49,48]⟩,⟨0,[49]⟩,⟨0,[48]⟩],[53],[48],[51,48]⟩
theorem Bum:A94 tx5=([dc5],0,0,0):=by decide +kernel
theorem Bun:A93 nd1=([97,32,45,32,98,32,45,32,99,32,42,32,45,32,50,32,37],0):=by decide +kernel
theorem Buo:A93 nd2=([40,32,97,32,60,32,49,32,41,32,61,32,40,32,110,111,116,32,98,32,41],0):=by decide +kernel
theorem Bup:Atp [dc5]=(tx5,0):=by decide +kernel
theorem Bsk:Rk nd1=4:=by decide +kernel
theorem Btm:Rk [⟨2,[]⟩]=0:=by decide +kernel
theorem nb1:NB nd1:=by unfold NB;decide +kernel
theorem nb2:NB nd2:=by unfold NB;decide +kernel
theorem db5:DB dc5:=⟨by decide,by decide,by decide,by decide,by decide,by decide,by decide,by unfold NB;decide +kernel,by decide,by decide +kernel⟩
theorem Bnd:Ct=some true:=by
 unfold Ct
 rw[show Dm [97,45,98,32,45,32,99,42,45,50,37]=some (Ti tx1) from Aso (by decide),Bui]
 simp only[Option.bind_some]
 rw[Bdy nb1,Bun]
 simp only[Option.bind_some]
 rw[show Dm [40,97,32,60,32,49,41,32,61,32,40,110,111,116,32,98,41]=some (Ti tx2) from Aso (by decide),Buj]
 simp only[Option.bind_some]
 rw[Bdy nb2,Buo]
 simp only[Option.bind_some]
 rw[show Dm [97,10,32,60,32,98,32,60,32,99]=some (Ti tx3) from Aso (by decide),Buk]
 simp only[Option.bind_some]
 rw[show Dm [40,97]=some (Ti tx4) from Aso (by decide),Bul]
 simp only[Option.bind_some]
 rw[show ∀s,s=tx5→Wi s=some (A94 tx5) from fun s h=>by rw[h];exact Bnh (by decide)]
 ·rw[Bum]
  simp only[Option.bind_some]
  rw[Bdx (l:=[dc5]) (fun d hd=>by rw[List.mem_singleton.1 hd];exact db5) (by simp),Bup]
  simp only[Option.bind_some]
  rw[Ban (by decide)]
  simp only[Option.bind_some]
  rw[if_neg (by simp)]
  rw[Ba9 nb1,Bsk,right_eq nb1,Bsk,right_eq (l:=[⟨2,[]⟩]) (by simp),Btm]
  have e0:rdO [dc5] 0=some dc5:=rfl
  have e1:rdO dc5.A6 1=some ⟨[53,48,48],[50]⟩:=rfl
  have e2:(((4:Nat):Int)==4)=true:=rfl
  have e3:((dc5.A6.length:Int)==2)=true:=rfl
  have e4:(dc5.C1==[51,48])=true:=rfl
  have e5:decide (0<4)=true:=rfl
  have e6:decide (0<0)=false:=rfl
  rw[show(decide (nd1=[(⟨4,[]⟩:Aa),(⟨4,[]⟩:Aa),(⟨1,[97]⟩:Aa),(⟨1,[98]⟩:Aa),(⟨5,[]⟩:Aa),(⟨1,[99]⟩:Aa),(⟨2,[]⟩:Aa),(⟨0,[50,37]⟩:Aa)]))=true from rfl]
  have hsm:Ql dc5 dc5=some (Bec dc5 dc5):=Bl4 (by decide) (by decide)
  simp only[tx5,e0,e1,e2,e3,e4,e5,e6,hsm,Bh2,beq_self_eq_true,Bool.true_and,Bool.and_true,cond_true,A0,Option.bind_some,Bool.not_false]
 ·rfl
end Go.Av.G
end
section
set_option linter.unusedVariables false
namespace Go.Av.G
open Go Go.Av Go.Proofs
theorem Ayj(s:List UInt8)(h:s.length≤maxLen):C8 s=some true:=Bmm Bnd
end Go.Av.G
end
