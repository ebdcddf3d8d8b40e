import Derived.Laws.RangeAny
import Derived.Test.YtgmiodjnojkdkaaGreatDoorC15
set_option linter.all false
section
namespace Go.Av
open Go
theorem wrap64{x:Int}(h1: -9223372036854775808≤x)(h2:x<9223372036854775808):IntKind.wrap .i64 x=x:=by
 have hb:IntKind.bits .i64=64:=rfl
 have hs:IntKind.signed .i64=true:=rfl
 unfold IntKind.wrap
 simp only[hb,hs,Bool.true_and,decide_eq_true_eq]
 split<;>omega
theorem Fv{α:Type}{l:List α}{i:Nat}(h:i<l.length):rdO l (i:Int)=some l[i]:=by
 unfold rdO
 rw[if_pos (by omega)]
 simp[List.getElem?_eq_getElem h]
theorem Ub{s:List UInt8}{i:Nat}(h:i<s.length):byO s (i:Int)=some ((s[i].toNat:Nat):Int):=by
 unfold byO
 rw[if_pos (by omega)]
 simp[List.getElem?_eq_getElem h]
theorem Bqq{O:Type}{f:Int→Option (Int⊕O)}{n:Nat}{q:Nat→Bool}{o:Nat→O}{e:O}(hn:n<4611686018427387904)(hin: ∀i:Nat,i<n→f i=some (if q i=true then .inr (o i) else .inl (IntKind.wrap .i64 ((i:Int)+1))))
  (hout: ∀i:Nat,n≤i→f i=some (.inr e))(s:Nat):A3 f s=some (match (List.range' s (n-s)).find? q with|some i=>o i|none=>e):=by
 generalize hm:n-s=m
 induction m generalizing s with
 |zero=>rw[A1 (hout s (by omega))];rfl
 |succ m ih=>
  have:=hin s (by omega)
  rw[List.range'_succ,List.find?_cons]
  cases hq:q s with
  |true=>
   rw[hq,if_pos rfl] at this
   rw[A1 this]
  |false=>
   rw[hq,if_neg (by simp),wrap64 (by omega) (by omega)] at this
   rw[B0 this]
   exact ih (s+1) (by omega)
theorem Blq{O:Type}{l:List Nat}{q:Nat→Bool}{o e:O}:(match l.find? q with|some i=>o|none=>e)=if l.any q=true then o else e:=by
 induction l with
 |nil=>rfl
 |cons x l ih=>
  rw[List.find?_cons,List.any_cons]
  cases q x with
  |true=>rfl
  |false=>simpa using ih
theorem A2o{O:Type}{f:Int→Option (Int⊕O)}{n:Nat}{q:Nat→Bool}{o e:O}(hn:n<4611686018427387904)(hin: ∀i:Nat,i<n→f i=some (if q i=true then .inr o else .inl (IntKind.wrap .i64 ((i:Int)+1))))
  (hout: ∀i:Nat,n≤i→f i=some (.inr e))(s:Nat):A3 f s=some (if (List.range' s (n-s)).any q=true then o else e):=by
 rw[Bqq hn hin hout s,Blq]
theorem Bil{α:Type}(l:List α)(p:α→Bool):(List.range' 0 l.length).any (fun i=>(l[i]?).any p)=l.any p:=by
 rw[Bool.eq_iff_iff,List.any_eq_true,List.any_eq_true]
 constructor
 ·rintro⟨i,hi,h⟩
  have hl:i<l.length:=by simpa using hi
  rw[List.getElem?_eq_getElem hl] at h
  exact⟨l[i],List.getElem_mem hl,h⟩
 ·rintro⟨x,hx,h⟩
  obtain⟨i,hi,rfl⟩:=List.getElem_of_mem hx
  exact⟨i,by simpa using hi,by simpa [List.getElem?_eq_getElem hi] using h⟩
theorem Lk{α O:Type}{f:Int→Option (Int⊕O)}{l:List α}(p:α→Bool){o e:O}(hn:l.length<4611686018427387904)(hin: ∀(i:Nat) (h:i<l.length),f i=some (if p l[i]=true then .inr o else .inl (IntKind.wrap .i64 ((i:Int)+1))))
  (hout: ∀i:Nat,l.length≤i→f i=some (.inr e)):A3 f 0=some (if l.any p=true then o else e):=by
 have:=A2o (q:=fun i=>(l[i]?).any p) hn (fun i hi=>by rw[hin i hi,List.getElem?_eq_getElem hi];rfl) hout 0
 rw[←Bil]
 exact this
def Ama{α:Type}(l:List α)(p:α→Bool):Option Nat:=(List.range' 0 l.length).find? (fun i=>(l[i]?).any p)
theorem Ag2{α:Type}{l:List α}{p:α→Bool}{i:Nat}(h:Ama l p=some i): ∃hi:i<l.length,p l[i]=true∧ ∀j (hj:j<i),p (l[j]'(by omega))=false:=by
 unfold Ama at h
 have hm:=List.mem_of_find?_eq_some h
 have hi:i<l.length:=by simpa using hm
 have hp:=List.find?_some h
 rw[List.getElem?_eq_getElem hi] at hp
 refine⟨hi,hp,fun j hj=>?_⟩
 obtain⟨_,as',bs,he,hall⟩:=List.find?_eq_some_iff_append.1 h
 have hlen:as'.length=i:=by
  have h1:(List.range' 0 l.length)[as'.length]? =some i:=by rw[he];simp
  rw[List.getElem?_range' (by
   have:=congrArg List.length he
   simp at this
   omega)] at h1
  simpa using h1
 have hmem:j∈as':=by
  have h2:(List.range' 0 l.length)[j]? =some j:=by rw[List.getElem?_range' (by omega)];simp
  rw[he,List.getElem?_append_left (by omega)] at h2
  exact List.mem_of_getElem? h2
 have:=hall j hmem
 rw[List.getElem?_eq_getElem (by omega)] at this
 simpa using this
theorem Ag1{α:Type}{l:List α}{p:α→Bool}(h:Ama l p=none): ∀x∈l,p x=false:=by
 intro x hx
 obtain⟨i,hi,rfl⟩:=List.getElem_of_mem hx
 have:=List.find?_eq_none.1 h i (by simpa using hi)
 rw[List.getElem?_eq_getElem hi] at this
 simpa using this
theorem Aql{α O:Type}{f:Int→Option (Int⊕O)}{l:List α}(p:α→Bool){o:Nat→O}{e:O}(hn:l.length<4611686018427387904)(hin: ∀(i:Nat) (h:i<l.length),f i=some (if p l[i]=true then .inr (o i) else .inl (IntKind.wrap .i64 ((i:Int)+1))))
  (hout: ∀i:Nat,l.length≤i→f i=some (.inr e)):A3 f 0=some (match Ama l p with|some i=>o i|none=>e):=
 Bqq (q:=fun i=>(l[i]?).any p) hn (fun i hi=>by rw[hin i hi,List.getElem?_eq_getElem hi];rfl) hout 0
theorem Ave{α S O:Type}{f:Int×S→Option ((Int×S)⊕O)}{l:List α}(step:S→α→S)(out:S→O){s0:S}(hn:l.length<4611686018427387904)
  (hin: ∀(i:Nat) (h:i<l.length),f ((i:Int),(l.take i).foldl step s0)=some (.inl (IntKind.wrap .i64 ((i:Int)+1),step ((l.take i).foldl step s0) l[i])))
  (hout:f ((l.length:Int),l.foldl step s0)=some (.inr (out (l.foldl step s0)))):A3 f (0,s0)=some (out (l.foldl step s0)):=by
 have key: ∀k,k≤l.length→A3 f (0,s0)=A3 f ((k:Int),(l.take k).foldl step s0):=by
  intro k
  induction k with
  |zero=>intro _;rfl
  |succ k ih=>
   intro hk
   rw[ih (by omega),B0 (hin k (by omega)),wrap64 (by omega) (by omega),List.take_succ_eq_append_getElem (by omega),List.foldl_append]
   rfl
 rw[key l.length (Nat.le_refl _),List.take_length]
 exact A1 hout
def Bor{α:Type}(key:α→Int)(l:List α):Prop:= ∀i (h:i+1<l.length),key l[i]<key l[i+1]
theorem Bor.lt{α:Type}{key:α→Int}{l:List α}(h:Bor key l): ∀{j i:Nat} (hj:j<l.length) (hij:i<j),key (l[i]'(by omega))<key l[j]:=by
 intro j
 induction j with
 |zero=>intro i _ hij;omega
 |succ j ih=>
  intro i hj hij
  have h1:=h j hj
  by_cases he:i=j
  ·subst he;exact h1
  ·have:=ih (i:=i) (by omega) (by omega)
   omega
theorem Bor.inj{α:Type}{key:α→Int}{l:List α}(h:Bor key l){i j:Nat}(hi:i<l.length)(hj:j<l.length)(he:key l[i]=key l[j]):i=j:=by
 by_cases h1:i<j
 ·have:=h.lt hj h1;omega
 ·by_cases h2:j<i
  ·have:=h.lt hi h2;omega
  ·omega
end Go.Av
end
section
set_option maxHeartbeats 8000000
set_option maxRecDepth 100000
namespace Go.Av.G
open Go Go.Av Go.Proofs
theorem Bj{α β:Type}{a:Option α}{x:α}{f:α→Option β}{o:Option β}(h:a=some x)(h2:f x=o):a.bind f=o:=by subst h;exact h2
theorem A8{α:Type}(g:Bool)(a d:α):gdO g (some a) d=some (bif g then a else d):=by cases g<;>rfl
def Ai(q:UInt8→Bool)(s:List UInt8):Nat:=(s.takeWhile q).length
theorem Hv(q:UInt8→Bool):Ai q []=0:=rfl
theorem B1(q:UInt8→Bool)(b:UInt8)(t:List UInt8):Ai q (b::t)=if q b=true then Ai q t+1 else 0:=by
 unfold Ai
 rw[List.takeWhile_cons]
 split<;>simp
theorem Dc(q:UInt8→Bool): ∀s:List UInt8,Ai q s≤s.length
 |[]=>by simp[Hv]
 |b::t=>by
  have:=Dc q t
  rw[B1,List.length_cons]
  split<;>omega
theorem Mg(q:UInt8→Bool): ∀(s:List UInt8) (m:Nat),Ai q (s.take m)=min (Ai q s) m
 |[],m=>by simp[Hv]
 |b::t,0=>by simp[Hv]
 |b::t,m+1=>by
  rw[List.take_succ_cons,B1,B1,Mg q t m]
  split<;>omega
theorem Hm{α:Type}{l:List α}{n:Nat}(h:n≤l.length):slO l (n:Int) (l.length:Int)=some (l.drop n):=by
 unfold slO
 rw[if_pos ⟨by omega,by omega,by omega⟩]
 simp
theorem Zk{α:Type}{l:List α}{n:Nat}(h:n≤l.length):slO l 0 (n:Int)=some (l.take n):=by
 unfold slO
 rw[if_pos ⟨by omega,by omega,by omega⟩]
 simp
theorem A7v{α:Type}{l:List α}{a b:Nat}(h1:a≤b)(h2:b≤l.length):slO l (a:Int) (b:Int)=some ((l.take b).drop a):=by
 unfold slO
 rw[if_pos ⟨by omega,by omega,by omega⟩]
 simp
theorem Bmi{p:Nat→Bool}{q:UInt8→Bool}(h1: ∀x,128≤x→p x=true)(h2: ∀b:UInt8,b.toNat<128→p b.toNat= !q b)(h3: ∀b:UInt8,128≤b.toNat→q b=false)(s:List UInt8):Lib.idxFunc p true ⟨s.toArray⟩=if Ai q s=s.length then -1 else(Ai q s:Int):=by
 have hsz:(ByteArray.mk s.toArray).size=s.length:=by simp[ByteArray.size]
 have key: ∀f pos,s.length-pos≤f→pos≤s.length→Lib.idxFuncFrom p true ⟨s.toArray⟩ f pos=if Ai q (s.drop pos)=s.length-pos then -1 else((pos+Ai q (s.drop pos):Nat):Int):=by
  intro f
  induction f with
  |zero=>
   intro pos h hp
   have:pos=s.length:=by omega
   subst this
   simp[Lib.idxFuncFrom,Hv]
  |succ f ih=>
   intro pos h hp
   simp only[Lib.idxFuncFrom]
   by_cases hpos:pos<s.length
   ·rw[if_pos (by rw[hsz];exact hpos)]
    have hget:(ByteArray.mk s.toArray)[pos]'(by rw[hsz];exact hpos)=s[pos]:=rfl
    rw[List.drop_eq_getElem_cons hpos,B1]
    have hle:=Dc q (s.drop (pos+1))
    rw[List.length_drop] at hle
    by_cases ha:(s[pos]).toNat<128
    ·have hd:=Go.decode_ascii (ByteArray.mk s.toArray) pos (by rw[hsz];exact hpos) (by rw[hget];exact ha)
     rw[hd,hget]
     simp only
     rw[h2 _ ha]
     cases hq:q s[pos] with
     |true=>
      simp only[Bool.not_true,Bool.false_eq_true,if_false,if_true]
      rw[ih (pos+1) (by omega) (by omega)]
      by_cases he:Ai q (s.drop (pos+1))=s.length-(pos+1)
      ·rw[if_pos he,if_pos (by omega)]
      ·rw[if_neg he,if_neg (by omega)]
       omega
     |false=>
      simp only[Bool.not_false,if_true,Bool.false_eq_true,if_false]
      rw[if_neg (by omega)]
      simp
    ·have hd:=Go.decode_high (ByteArray.mk s.toArray) pos (by rw[hsz];exact hpos) (by rw[hget];omega)
     rw[if_pos (h1 _ hd.1),h3 _ (by omega)]
     simp only[Bool.false_eq_true,if_false]
     rw[if_neg (by omega)]
     simp
   ·have:pos=s.length:=by omega
    subst this
    rw[if_neg (by rw[hsz];omega)]
    simp[Hv]
 unfold Lib.idxFunc
 rw[key _ 0 (by rw[hsz];omega) (by omega)]
 simp
def Wv(b:UInt8):Bool:=decide (97≤b.toNat∧b.toNat≤122)
def digB(b:UInt8):Bool:=decide (48≤b.toNat∧b.toNat≤57)
def Ajb(b:UInt8):Bool:=decide ((97≤b.toNat∧b.toNat≤122)∨(48≤b.toNat∧b.toNat≤57)∨b.toNat=95)
def prB(b:UInt8):Bool:=decide (32≤b.toNat∧b.toNat≤126)
theorem Mx(n:Int):Hs n=some (decide (97≤n∧n≤122)):=by simp[Hs]
theorem Rb(n:Int):He n=some (decide (48≤n∧n≤57)):=by simp[He]
theorem A9e(n:Int):Ot n=some (decide ((97≤n∧n≤122)∨(48≤n∧n≤57)∨n=95)):=by
 simp only[Ot,Mx,Rb,Option.bind_some,A8,Option.some.injEq]
 by_cases h1:97≤n∧n≤122
 ·simp[h1]
 ·by_cases h2:48≤n∧n≤57
  ·simp[h1,h2]
  ·by_cases h3:n=95
   ·simp[h3]
   ·simp[h1,h2,h3]
theorem Bbq(n:Int):Ou n=some (decide (32≤n∧n≤126)):=by simp[Ou]
theorem Btj{n:Int}(h1:0≤n)(h2:n<256):IntKind.wrap .u8 n=n:=by
 have hb:IntKind.bits .u8=8:=rfl
 have hs:IntKind.signed .u8=false:=rfl
 unfold IntKind.wrap
 simp only[hb,hs,Bool.false_and]
 simp
 omega
theorem Bfk{f:Int→Option Bool}{g:Int→Bool}{q:UInt8→Bool}(hf: ∀n:Int,f n=some (bif decide (n>127) then true else !g (IntKind.wrap .u8 n)))(hg: ∀b:UInt8,g (b.toNat:Int)=q b)(hq: ∀b:UInt8,128≤b.toNat→q b=false)(s:List UInt8):strings_IndexFunc f s=some (if Ai q s=s.length then -1 else(Ai q s:Int)):=by
 rw[Ai6 (fun x=>bif decide ((x:Int)>127) then true else !g (IntKind.wrap .u8 (x:Int))) (fun x=>hf x),Bmi (q:=q) ?_ ?_ hq]
 ·intro x hx
  have:decide ((x:Int)>127)=true:=decide_eq_true (by omega)
  simp only[this,cond_true]
 ·intro b hb
  have:decide ((b.toNat:Int)>127)=false:=decide_eq_false (by omega)
  simp only[this,cond_false,Btj (show 0≤(b.toNat:Int) by omega) (show(b.toNat:Int)<256 by omega),hg]
theorem Bsf(s:List UInt8):At2 s=some (Ai Ajb s:Int):=by
 unfold At2
 rw[Bfk (g:=fun n=>decide ((97≤n∧n≤122)∨(48≤n∧n≤57)∨n=95)) (q:=Ajb)]
 ·simp only[Option.bind_some]
  by_cases h:Ai Ajb s=s.length
  ·rw[if_pos h];simp[h]
  ·rw[if_neg h];simp;omega
 ·intro n
  simp only[Qs,A9e,Option.bind_some,A8]
  cases decide (n>127)<;>simp
 ·intro b
  unfold Ajb
  rw[Bool.eq_iff_iff]
  simp
  omega
 ·intro b hb
  unfold Ajb
  simp
  omega
theorem Bhz(s:List UInt8):Qt s=some (Ai digB s:Int):=by
 unfold Qt
 rw[Bfk (g:=fun n=>decide (48≤n∧n≤57)) (q:=digB)]
 ·simp only[Option.bind_some]
  by_cases h:Ai digB s=s.length
  ·rw[if_pos h];simp[h]
  ·rw[if_neg h];simp;omega
 ·intro n
  simp only[I3,Rb,Option.bind_some,A8]
  cases decide (n>127)<;>simp
 ·intro b
  unfold digB
  rw[Bool.eq_iff_iff]
  simp
  omega
 ·intro b hb
  unfold digB
  simp
  omega
theorem Bp0(s:List UInt8):Ajn s=some (Ai prB s:Int):=by
 unfold Ajn
 rw[Bfk (g:=fun n=>decide (32≤n∧n≤126)) (q:=prB)]
 ·simp only[Option.bind_some]
  by_cases h:Ai prB s=s.length
  ·rw[if_pos h];simp[h]
  ·rw[if_neg h];simp;omega
 ·intro n
  simp only[I4,Bbq,Option.bind_some,A8]
  cases decide (n>127)<;>simp
 ·intro b
  unfold prB
  rw[Bool.eq_iff_iff]
  simp
  omega
 ·intro b hb
  unfold prB
  simp
  omega
def Ei(s:List UInt8):Nat:=match s with
 |b::c::t=>if b=46 then Ai digB (c::t) else 0
 |_=>0
def Lf(s:List UInt8):Nat×Nat:=if 32<Ai Ajb s then(0,3) else(Ai Ajb s,0)
def Ad3(s:List UInt8):Nat×Nat:=
 if 15<Ai digB s∨9<Ei (s.drop (Ai digB s))∨1<Ai digB s∧s.head?=some 48 then(0,3)
 else if 0<Ei (s.drop (Ai digB s)) then(Ai digB s+1+Ei (s.drop (Ai digB s)),0) else(Ai digB s,0)
def Cd(b:UInt8):Bool:=b !=34
def Ai0(s:List UInt8):Nat×Nat:=
 if Ai Cd (s.drop 1)=(s.drop 1).length then(0,14)
 else if 32<Ai Cd (s.drop 1)∨Ai prB ((s.drop 1).take (Ai Cd (s.drop 1)))<Ai Cd (s.drop 1) then(0,3)
 else(Ai Cd (s.drop 1)+2,0)
def Ip:List UInt8:=[123,125,40,41,91,93,59,58,44,37,61,60,62,43,45,42,47]
def Adk(s:List UInt8):Nat×Nat:=
 if s.take 2=[60,61]∨s.take 2=[62,61]∨s.take 2=[46,46] then(2,0)
 else match s with
 |b::_=>if b∈Ip then(1,0) else(0,14)
 |[]=>(0,14)
def A5(s:List UInt8):Nat×Nat×Nat:=match s with
 |b::_=>if Wv b=true then(0,Lf s) else if digB b=true then(1,Ad3 s) else if b=34 then(2,Ai0 s) else(3,Adk s)
 |[]=>(0,0,14)
def prI(x:Nat×Nat):Int×Int:=((x.1:Int),(x.2:Int))
theorem Bqh(s:List UInt8):Ahd s=some (prI (Lf s)):=by
 unfold Ahd Lf prI
 rw[Bsf]
 simp only[Option.bind_some,decide_eq_true_eq]
 by_cases h:32<Ai Ajb s
 ·rw[if_pos (by omega),if_pos h];rfl
 ·rw[if_neg (by omega),if_neg h];rfl
theorem Dz{b:UInt8}{t:List UInt8}:byO (b::t) 0=some (b.toNat:Int):=by simp[byO]
theorem Ai9{b:UInt8}{n:Nat}(hn:n<256):b.toNat=n↔b=UInt8.ofNat n:=by
 constructor
 ·intro h
  apply UInt8.toNat_inj.1
  simp[h]
  omega
 ·rintro rfl
  simp
  omega
theorem Bpm(s:List UInt8):((some (decide ((s.length:Int)>1))).bind fun c4=>
 (gdO c4 (byO s 0) 0).bind fun x5=>
 ((if (c4&&(x5==46))=true then
   (slO s 1 (s.length:Int)).bind fun x7=>
   (Qt x7).bind fun x8=>
   some x8
 else
  some 0):Option Int))=some (Ei s:Int):=by
 match s with
 |[]=>rfl
 |[b]=>rfl
 |b::c::t=>
  have h1:decide ((((b::c::t).length:Nat):Int)>1)=true:=by simp;omega
  have h2:=Hm (l:=b::c::t) (n:=1) (by simp)
  have e1:((1:Nat):Int)=1:=rfl
  rw[e1] at h2
  simp only[Option.bind_some,h1,gdO,Dz,Bool.true_and,h2,Bhz,List.drop_succ_cons,List.drop_zero]
  unfold Ei
  by_cases hb:b=46
  ·subst hb;rfl
  ·have:((b.toNat:Int)==46)=false:=by
    have:=mt (Ai9 (b:=b) (n:=46) (by omega)).1 hb
    simp
    omega
   rw[this]
   simp[hb]
theorem Ayl{q:UInt8→Bool}{b:UInt8}{t:List UInt8}(h:q b=true):1≤Ai q (b::t):=by
 rw[B1,if_pos h];omega
theorem Aoo(s:List UInt8):Ei s+1≤s.length∨Ei s=0:=by
 unfold Ei
 split
 ·rename_i b c t
  have:=Dc digB (c::t)
  split
  ·left;simpa using this
  ·right;rfl
 ·right;rfl
theorem number_eq{b:UInt8}{t:List UInt8}(hl:(b::t).length<4611686018427387904):Rd (b::t)=some (prI (Ad3 (b::t))):=by
 generalize hs:b::t=s at hl
 have hd:=Dc digB s
 have hm:=Aoo (s.drop (Ai digB s))
 rw[List.length_drop] at hm
 have h0:byO s 0=some (b.toNat:Int):=by rw[←hs];exact Dz
 have hh:s.head?=some b:=by rw[←hs];rfl
 unfold Rd Ad3 prI
 rw[Bhz]
 simp only[Option.bind_some,Hm hd]
 have hmore:=Bpm (s.drop (Ai digB s))
 simp only[Option.bind_some] at hmore
 cases hg:gdO (decide (((s.drop (Ai digB s)).length:Int)>1)) (byO (s.drop (Ai digB s)) 0) 0 with
 |none=>rw[hg] at hmore;cases hmore
 |some x5=>
  rw[hg] at hmore
  simp only[Option.bind_some] at hmore⊢
  refine Bj hmore ?_
  have h48:((b.toNat:Int)==48)=decide (b=48):=by
   rw[Bool.eq_iff_iff]
   have:=Ai9 (b:=b) (n:=48) (by omega)
   simp
   constructor
   ·intro h;exact this.1 (by omega)
   ·rintro rfl;rfl
  simp only[h0,A8,Option.bind_some,hh,Option.some.injEq]
  by_cases c1:15<Ai digB s
  ·have:decide (((Ai digB s:Nat):Int)>15)=true:=decide_eq_true (by omega)
   simp only[this,Bool.true_or,if_true]
   rw[if_pos (.inl c1)]
   rfl
  ·have e1:decide (((Ai digB s:Nat):Int)>15)=false:=decide_eq_false (by omega)
   by_cases c2:9<Ei (s.drop (Ai digB s))
   ·have:decide (((Ei (s.drop (Ai digB s)):Nat):Int)>9)=true:=decide_eq_true (by omega)
    simp only[e1,this,Bool.false_or,Bool.true_or,if_true]
    rw[if_pos (.inr (.inl c2))]
    rfl
   ·have e2:decide (((Ei (s.drop (Ai digB s)):Nat):Int)>9)=false:=decide_eq_false (by omega)
    simp only[e1,e2,Bool.or_self,Bool.not_false,Bool.true_and,Bool.false_or]
    by_cases c3:1<Ai digB s∧b=48
    ·have e3:decide (((Ai digB s:Nat):Int)>1)=true:=decide_eq_true (by omega)
     simp only[e3,cond_true,h48,decide_eq_true c3.2,Bool.and_self,if_true]
     rw[if_pos (.inr (.inr c3))]
     rfl
    ·have e3:(decide (((Ai digB s:Nat):Int)>1)&&((bif decide (((Ai digB s:Nat):Int)>1) then(b.toNat:Int) else 0)==48))=false:=by
      by_cases q:1<Ai digB s
      ·have e3:decide (((Ai digB s:Nat):Int)>1)=true:=decide_eq_true (by omega)
       simp only[e3,cond_true,h48,Bool.true_and]
       exact decide_eq_false (fun hb=>c3 ⟨q,hb⟩)
      ·have e3:decide (((Ai digB s:Nat):Int)>1)=false:=decide_eq_false (by omega)
       simp only[e3,Bool.false_and]
     have hno: ¬(15<Ai digB s∨9<Ei (s.drop (Ai digB s))∨1<Ai digB s∧b=48):=fun h=>h.elim c1 (fun h=>h.elim c2 c3)
     simp only[e3,Bool.false_eq_true,if_false,if_neg hno]
     by_cases c4:0<Ei (s.drop (Ai digB s))
     ·have e4:IntKind.wrap .i64 (((Ai digB s:Nat):Int)+1)=((Ai digB s+1:Nat):Int):=by rw[wrap64 (by omega) (by omega)];rfl
      have e5:IntKind.wrap .i64 (((Ai digB s+1:Nat):Int)+((Ei (s.drop (Ai digB s)):Nat):Int))=((Ai digB s+1+Ei (s.drop (Ai digB s)):Nat):Int):=by rw[wrap64 (by omega) (by omega)];omega
      rw[e4,e5,if_pos (decide_eq_true (show((Ei (s.drop (Ai digB s)):Nat):Int)>0 by omega)),if_pos c4]
      rfl
     ·rw[if_neg (show ¬(decide (((Ei (s.drop (Ai digB s)):Nat):Int)>0)=true) by simp;omega),if_neg c4]
      rfl
theorem Jp(c:UInt8): ∀s:List UInt8,Lib.indexByte s c=if Ai (fun b=>b !=c) s=s.length then -1 else(Ai (fun b=>b !=c) s:Int)
 |[]=>rfl
 |b::t=>by
  have hle:=Dc (fun b=>b !=c) t
  unfold Lib.indexByte
  rw[Jp c t,B1,List.length_cons]
  by_cases h:b=c
  ·subst h;simp
  ·have h1:(b==c)=false:=by simpa using h
   have h2:(b !=c)=true:=by simpa using h
   rw[h1,if_neg (by simp)]
   simp only[h2,if_true]
   by_cases he:Ai (fun b=>b !=c) t=t.length
   ·rw[show(if Ai (fun b=>b !=c) t=t.length then(-1:Int) else(Ai (fun b=>b !=c) t:Int))= -1 from if_pos he,if_pos (show Ai (fun b=>b !=c) t+1=t.length+1 by omega)]
    rfl
   ·rw[show(if Ai (fun b=>b !=c) t=t.length then(-1:Int) else(Ai (fun b=>b !=c) t:Int))=(Ai (fun b=>b !=c) t:Int) from if_neg he,if_neg (show ¬Ai (fun b=>b !=c) t+1=t.length+1 by omega)]
    have:(((Ai (fun b=>b !=c) t:Nat):Int)== -1)=false:=by simp
    rw[this]
    simp
theorem Bjl{b:UInt8}{t:List UInt8}(hl:(b::t).length<4611686018427387904):Re (b::t)=some (prI (Ai0 (b::t))):=by
 have h1:=Hm (l:=b::t) (n:=1) (by simp)
 have e1:((1:Nat):Int)=1:=rfl
 rw[e1] at h1
 have e2:((34:Int).toNat.toUInt8)=34:=by decide
 have hn:=Dc Cd t
 have hidx:Lib.indexByte t 34=if Ai Cd t=t.length then -1 else(Ai Cd t:Int):=Jp 34 t
 simp only[List.length_cons] at hl
 unfold Re Ai0 prI
 simp only[h1,List.drop_succ_cons,List.drop_zero,Option.bind_some,strings_IndexByte,e2]
 by_cases c1:Ai Cd t=t.length
 ·rw[if_pos c1] at hidx
  simp only[hidx,if_pos c1]
  rfl
 ·rw[if_neg c1] at hidx
  have e3:IntKind.wrap .i64 (1+((Ai Cd t:Nat):Int))=((Ai Cd t+1:Nat):Int):=by rw[wrap64 (by omega) (by omega)];omega
  have e4:IntKind.wrap .i64 (((Ai Cd t:Nat):Int)+2)=((Ai Cd t+2:Nat):Int):=by rw[wrap64 (by omega) (by omega)];rfl
  have h2:=A7v (l:=b::t) (a:=1) (b:=Ai Cd t+1) (by omega) (by simp;omega)
  rw[e1] at h2
  have e6:decide (((Ai Cd t:Nat):Int)<0)=false:=decide_eq_false (by omega)
  simp only[hidx,if_neg c1,e6,Bool.false_eq_true,if_false,e3,h2,List.take_succ_cons,List.drop_succ_cons,List.drop_zero,A8,Option.bind_some,Bp0,e4]
  by_cases c2:32<Ai Cd t
  ·have:decide (((Ai Cd t:Nat):Int)>32)=true:=decide_eq_true (by omega)
   simp only[this,Bool.true_or,if_true,if_pos (show 32<Ai Cd t∨Ai prB (t.take (Ai Cd t))<Ai Cd t from .inl c2)]
   rfl
  ·have e5:decide (((Ai Cd t:Nat):Int)>32)=false:=decide_eq_false (by omega)
   simp only[e5,Bool.not_false,cond_true,Bool.false_or]
   by_cases c3:Ai prB (t.take (Ai Cd t))<Ai Cd t
   ·have:decide (((Ai prB (t.take (Ai Cd t)):Nat):Int)<((Ai Cd t:Nat):Int))=true:=decide_eq_true (by omega)
    simp only[this,if_true,if_pos (show 32<Ai Cd t∨Ai prB (t.take (Ai Cd t))<Ai Cd t from .inr c3)]
    rfl
   ·have:decide (((Ai prB (t.take (Ai Cd t)):Nat):Int)<((Ai Cd t:Nat):Int))=false:=decide_eq_false (by omega)
    have hno: ¬(32<Ai Cd t∨Ai prB (t.take (Ai Cd t))<Ai Cd t):=fun h=>h.elim c2 c3
    simp only[this,Bool.false_eq_true,if_false,if_neg hno]
    rfl
theorem contains_nil(sub:List UInt8):Lib.contains [] sub=sub.isEmpty:=by
 unfold Lib.contains Lib.index
 cases sub<;>rfl
theorem contains_cons(b:UInt8)(l sub:List UInt8):Lib.contains (b::l) sub=(sub.isPrefixOf (b::l)||Lib.contains l sub):=by
 unfold Lib.contains
 have h:=Lib.index_ge l sub
 rw[show Lib.index (b::l) sub=if sub.isPrefixOf (b::l) then 0 else if Lib.index l sub== -1 then -1 else Lib.index l sub+1 from by rw[Lib.index]]
 cases hp:sub.isPrefixOf (b::l) with
 |true=>simp
 |false=>
  simp only[Bool.false_eq_true,if_false,Bool.false_or]
  by_cases he:Lib.index l sub= -1
  ·simp[he]
  ·have h1:(Lib.index l sub== -1)=false:=by simpa using he
   rw[h1]
   simp only[Bool.false_eq_true,if_false]
   rw[decide_eq_true (show(0:Int)≤Lib.index l sub+1 by omega),decide_eq_true (show(0:Int)≤Lib.index l sub by omega)]
theorem Bh5(c:UInt8): ∀s:List UInt8,Ai (fun b=>b !=c) s=s.length↔c∉s
 |[]=>by simp[Hv]
 |b::t=>by
  have ih:=Bh5 c t
  have hle:=Dc (fun b=>b !=c) t
  rw[B1,List.length_cons,List.mem_cons]
  by_cases h:b=c
  ·subst h;simp
  ·have h2:(b !=c)=true:=by simpa using h
   simp only[h2,if_true]
   constructor
   ·intro he hm
    rcases hm with rfl|hm
    ·exact h rfl
    ·exact ih.1 (by omega) hm
   ·intro hm
    have:=ih.2 (fun q=>hm (.inr q))
    omega
theorem index_one(c:UInt8): ∀s:List UInt8,Lib.index s [c]=Lib.indexByte s c
 |[]=>rfl
 |b::t=>by
  unfold Lib.index Lib.indexByte
  rw[index_one c t]
  have:([c]:List UInt8).isPrefixOf (b::t)=(b==c):=by
   simp[List.isPrefixOf]
   rw[Bool.eq_iff_iff]
   simp
   exact eq_comm
  rw[this]
theorem Bp8{b:UInt8}{t:List UInt8}(hl:(b::t).length<4294967281):Ahc (b::t)=some (prI (Adk (b::t))):=by
 have e8:(b.toNat:Int).toNat.toUInt8=b:=by simp
 have hone:decide ((Lib.indexByte [123,125,40,41,91,93,59,58,44,37,61,60,62,43,45,42,47] b)≥0)=decide (b∈Ip):=by
  rw[Jp,Bool.eq_iff_iff,decide_eq_true_eq,decide_eq_true_eq]
  have h:=Bh5 b Ip
  change (if Ai (fun c=>c !=b) Ip=Ip.length then(-1:Int) else(Ai (fun c=>c !=b) Ip:Int))≥0↔b∈Ip
  by_cases he:Ai (fun c=>c !=b) Ip=Ip.length
  ·rw[if_pos he]
   have:=h.1 he
   simp[this]
  ·rw[if_neg he]
   constructor
   ·intro _;exact Classical.byContradiction fun q=>he (h.2 q)
   ·intro _;omega
 have tail:((byO (b::t) 0).bind fun x8=>
  (strings_IndexByte [123,125,40,41,91,93,59,58,44,37,61,60,62,43,45,42,47] x8).bind fun x9=>
  if (decide (x9≥0))=true then
   some ((1:Int),(0:Int))
  else
   some (0,14))=some (prI (if b∈Ip then(1,0) else(0,14))):=by
  simp only[Dz,Option.bind_some,strings_IndexByte,e8,hone]
  by_cases hm:b∈Ip
  ·simp[hm,prI]
  ·simp[hm,prI]
 unfold Ahc Adk
 match t,hl with
 |[],_=>
  have h1:decide ((([b]:List UInt8).length:Int)>1)=false:=by simp
  simp only[h1,Option.bind_some,gdO,Bool.false_and,Bool.false_eq_true,if_false]
  rw[tail]
  simp
 |c::t,hl=>
  have h1:decide (((b::c::t).length:Int)>1)=true:=by simp;omega
  have h2:=Zk (l:=b::c::t) (n:=2) (by simp)
  have e1:((2:Nat):Int)=2:=rfl
  rw[e1] at h2
  have h3:strings_Contains [60,61,32,62,61,32,46,46] [b,c]=some (Lib.contains [60,61,32,62,61,32,46,46] [b,c]):=by
   unfold strings_Contains;rw[if_pos (by simp)]
  have h4:strings_Contains [b,c] [32]=some (Lib.contains [b,c] [32]):=by
   unfold strings_Contains;rw[if_pos (by simp)]
  simp only[h1,Option.bind_some,gdO,h2,List.take_succ_cons,List.take_zero,h3,Bool.true_and]
  have h5:Lib.contains [60,61,32,62,61,32,46,46] [b,c]=(((b==60)&&(c==61))||(((b==61)&&(c==32))||(((b==32)&&(c==62))||(((b==62)&&(c==61))||(((b==61)&&(c==32))||(((b==32)&&(c==46))||((b==46)&&(c==46)))))))):=by
   simp only[contains_cons,contains_nil,List.isPrefixOf,List.isEmpty,Bool.and_true,Bool.or_false,Bool.and_false]
  have h6:Lib.contains [b,c] [32]=((32==b)||(32==c)):=by
   simp only[contains_cons,contains_nil,List.isPrefixOf,List.isEmpty,Bool.and_true,Bool.or_false]
  have hx:(Lib.contains [60,61,32,62,61,32,46,46] [b,c]&& !(Lib.contains [b,c] [32]))=decide ([b,c]=[60,61]∨[b,c]=[62,61]∨[b,c]=[46,46]):=by
   rw[h5,h6,Bool.eq_iff_iff]
   simp only[Bool.and_eq_true,Bool.or_eq_true,beq_iff_eq,Bool.not_eq_true',Bool.or_eq_false_iff,beq_eq_false_iff_ne,decide_eq_true_eq,List.cons.injEq,and_true]
   constructor
   ·rintro⟨h|h|h|h|h|h|h,h7,h8⟩
    ·exact .inl h
    ·exact absurd h.2.symm h8
    ·exact absurd h.1.symm h7
    ·exact .inr (.inl h)
    ·exact absurd h.2.symm h8
    ·exact absurd h.1.symm h7
    ·exact .inr (.inr h)
   ·rintro(⟨rfl,rfl⟩|⟨rfl,rfl⟩|⟨rfl,rfl⟩)
    ·exact⟨.inl ⟨rfl,rfl⟩,by decide,by decide⟩
    ·exact⟨.inr (.inr (.inr (.inl ⟨rfl,rfl⟩))),by decide,by decide⟩
    ·exact⟨.inr (.inr (.inr (.inr (.inr (.inr ⟨rfl,rfl⟩))))),by decide,by decide⟩
  have htk:(b::c::t).take 2=[b,c]:=rfl
  rw[htk] at*
  cases hc:Lib.contains [60,61,32,62,61,32,46,46] [b,c] with
  |false=>
   rw[hc,Bool.false_and] at hx
   have hno: ¬([b,c]=[60,61]∨[b,c]=[62,61]∨[b,c]=[46,46]):=of_decide_eq_false hx.symm
   simp only[gdO,Bool.false_and,Bool.false_eq_true,if_false,Option.bind_some]
   rw[tail]
   simp only[hno,if_false]
  |true=>
   rw[hc,Bool.true_and] at hx
   simp only[gdO,h4,Option.bind_some,Bool.true_and,hx,decide_eq_true_eq]
   by_cases hy:[b,c]=[60,61]∨[b,c]=[62,61]∨[b,c]=[46,46]
   ·simp only[hy,if_true]
    rfl
   ·simp only[hy,if_false]
    simp only[decide_eq_true_eq] at tail
    exact tail
def trI(x:Nat×Nat×Nat):Int×Int×Int:=((x.1:Int),(x.2.1:Int),(x.2.2:Int))
theorem Bhq{b:UInt8}{t:List UInt8}(hl:(b::t).length<4294967281):Wy (b::t)=some (trI (A5 (b::t))):=by
 have c57: ∀n,F2 127 n=Hs n∧F2 129 n=He n∧F2 131 n=Mz n∧F2 133 n=Tz n:=fun n=>⟨rfl,rfl,rfl,rfl⟩
 have c58: ∀s,F3 128 s=Ahd s∧F3 130 s=Rd s∧F3 132 s=Re s∧F3 134 s=Ahc s:=fun s=>⟨rfl,rfl,rfl,rfl⟩
 have hL: ∀x:Int,Wv b=decide (97≤(b.toNat:Int)∧(b.toNat:Int)≤122):=fun _=>by
  unfold Wv;rw[Bool.eq_iff_iff];simp;omega
 have hD: ∀x:Int,digB b=decide (48≤(b.toNat:Int)∧(b.toNat:Int)≤57):=fun _=>by
  unfold digB;rw[Bool.eq_iff_iff];simp;omega
 have hQ:((b.toNat:Int)==34)=decide (b=34):=by
  rw[Bool.eq_iff_iff]
  have:=Ai9 (b:=b) (n:=34) (by omega)
  simp
  constructor
  ·intro h;exact this.1 (by omega)
  ·rintro rfl;rfl
 have r0:rdO ([⟨127,128⟩,⟨129,130⟩,⟨131,132⟩,⟨133,134⟩]:List Bs) 0=some ⟨127,128⟩:=rfl
 have r1:rdO ([⟨127,128⟩,⟨129,130⟩,⟨131,132⟩,⟨133,134⟩]:List Bs) 1=some ⟨129,130⟩:=rfl
 have r2:rdO ([⟨127,128⟩,⟨129,130⟩,⟨131,132⟩,⟨133,134⟩]:List Bs) 2=some ⟨131,132⟩:=rfl
 have r3:rdO ([⟨127,128⟩,⟨129,130⟩,⟨131,132⟩,⟨133,134⟩]:List Bs) 3=some ⟨133,134⟩:=rfl
 have d0:decide ((0:Int)<4)=true:=by decide
 have d1:decide ((1:Int)<4)=true:=by decide
 have d2:decide ((2:Int)<4)=true:=by decide
 have d3:decide ((3:Int)<4)=true:=by decide
 have w0:IntKind.wrap .i64 ((0:Int)+1)=1:=by rw[wrap64 (by omega) (by omega)];rfl
 have w1:IntKind.wrap .i64 ((1:Int)+1)=2:=by rw[wrap64 (by omega) (by omega)];rfl
 have w2:IntKind.wrap .i64 ((2:Int)+1)=3:=by rw[wrap64 (by omega) (by omega)];rfl
 have hn:A5 (b::t)=if Wv b=true then(0,Lf (b::t)) else if digB b=true then(1,Ad3 (b::t)) else if b=34 then(2,Ai0 (b::t)) else(3,Adk (b::t)):=rfl
 unfold Wy Aqj
 simp only[Option.bind_some]
 rw[hn]
 cases h1:Wv b with
 |true=>
  have:=hL 0
  rw[h1] at this
  simp only[if_true]
  refine Bj (A1 (o:= .inr (0,(prI (Lf (b::t))).1,(prI (Lf (b::t))).2)) ?_) rfl
  simp only[d0,if_true,r0,Dz,(c57 _).1,Mx,←this,(c58 _).1,Bqh,Option.bind_some]
 |false=>
  have hl1:=hL 0
  rw[h1] at hl1
  simp only[Bool.false_eq_true,if_false]
  cases h2:digB b with
  |true=>
   have hd1:=hD 0
   rw[h2] at hd1
   simp only[if_true]
   refine Bj (o:=some _) ?_ ?_ (x:= .inr (1,(prI (Ad3 (b::t))).1,(prI (Ad3 (b::t))).2))
   ·rw[B0 (s':=(1:Int)),A1]
    ·simp only[d1,if_true,r1,Dz,(c57 _).2.1,Rb,←hd1,(c58 _).2.1,number_eq (show(b::t).length<4611686018427387904 by omega),Option.bind_some]
    ·simp only[d0,if_true,r0,Dz,(c57 _).1,Mx,←hl1,Option.bind_some,Bool.false_eq_true,if_false,w0]
   ·rfl
  |false=>
   have hd1:=hD 0
   rw[h2] at hd1
   simp only[Bool.false_eq_true,if_false]
   by_cases h3:b=34
   ·rw[if_pos h3]
    have hq1:=hQ
    rw[decide_eq_true h3] at hq1
    refine Bj (o:=some _) ?_ ?_ (x:= .inr (2,(prI (Ai0 (b::t))).1,(prI (Ai0 (b::t))).2))
    ·rw[B0 (s':=(1:Int)),B0 (s':=(2:Int)),A1]
     ·simp only[d2,if_true,r2,Dz,(c57 _).2.2.1,Mz,hq1,(c58 _).2.2.1,Bjl (show(b::t).length<4611686018427387904 by omega),Option.bind_some]
     ·simp only[d1,if_true,r1,Dz,(c57 _).2.1,Rb,←hd1,Option.bind_some,Bool.false_eq_true,if_false,w1]
     ·simp only[d0,if_true,r0,Dz,(c57 _).1,Mx,←hl1,Option.bind_some,Bool.false_eq_true,if_false,w0]
    ·rfl
   ·rw[if_neg h3]
    have hq1:=hQ
    rw[decide_eq_false h3] at hq1
    refine Bj (o:=some _) ?_ ?_ (x:= .inr (3,(prI (Adk (b::t))).1,(prI (Adk (b::t))).2))
    ·rw[B0 (s':=(1:Int)),B0 (s':=(2:Int)),B0 (s':=(3:Int)),A1]
     ·simp only[d3,if_true,r3,Dz,(c57 _).2.2.2,Tz,(c58 _).2.2.2,Bp8 hl,Option.bind_some]
     ·simp only[d2,if_true,r2,Dz,(c57 _).2.2.1,Mz,hq1,Option.bind_some,Bool.false_eq_true,if_false,w2]
     ·simp only[d1,if_true,r1,Dz,(c57 _).2.1,Rb,←hd1,Option.bind_some,Bool.false_eq_true,if_false,w1]
     ·simp only[d0,if_true,r0,Dz,(c57 _).1,Mx,←hl1,Option.bind_some,Bool.false_eq_true,if_false,w0]
    ·rfl
def Q4(b:UInt8):Bool:=b==32||b==9||b==10
def A2:Bool→List UInt8→Nat
 |_,[]=>0
 |true,b::t=>if b=10 then 1+A2 false t else 1+A2 true t
 |false,b::t=>if Q4 b=true then 1+A2 false t else if b=35 then 1+A2 true t else 0
theorem Ic: ∀(r:Bool) (s:List UInt8),A2 r s≤s.length
 |_,[]=>by simp[A2]
 |true,b::t=>by
  have h1:=Ic false t
  have h2:=Ic true t
  unfold A2
  simp only[List.length_cons]
  split<;>omega
 |false,b::t=>by
  have h1:=Ic false t
  have h2:=Ic true t
  unfold A2
  simp only[List.length_cons]
  split
  ·omega
  ·split<;>omega
theorem Mf: ∀(r:Bool) (s:List UInt8) (m:Nat),A2 r (s.take m)=min (A2 r s) m
 |_,[],m=>by simp[A2]
 |r,b::t,0=>by simp[A2]
 |true,b::t,m+1=>by
  have h1:=Mf false t m
  have h2:=Mf true t m
  rw[List.take_succ_cons]
  unfold A2
  rw[h1,h2]
  split<;>omega
 |false,b::t,m+1=>by
  have h1:=Mf false t m
  have h2:=Mf true t m
  rw[List.take_succ_cons]
  unfold A2
  rw[h1,h2]
  split
  ·omega
  ·split<;>omega
theorem Ayh: ∀s:List UInt8,A2 false s=(s.length-(Lib.trimLeftS s [32,9,10]).length)+A2 false (Lib.trimLeftS s [32,9,10])∧(Lib.trimLeftS s [32,9,10]).length≤s.length∧(∀b t,Lib.trimLeftS s [32,9,10]=b::t→Q4 b=false)
 |[]=>by simp[A2,Lib.trimLeftS]
 |b::t=>by
  obtain⟨h1,h2,h3⟩:=Ayh t
  have hc:([32,9,10]:List UInt8).contains b=Q4 b:=by
   unfold Q4
   simp only[List.contains_cons,List.contains_nil,Bool.or_false]
   cases b==32<;>cases b==9<;>cases b==10<;>rfl
  unfold Lib.trimLeftS at h1 h2 h3⊢
  rw[List.dropWhile_cons,hc]
  cases hb:Q4 b with
  |true=>
   simp only[if_true,List.length_cons]
   rw[A2,if_pos hb]
   exact⟨by omega,by omega,h3⟩
  |false=>
   simp only[Bool.false_eq_true,if_false,Nat.sub_self,Nat.zero_add]
   exact⟨trivial,Nat.le_refl _,fun b' t' e=>by cases e;exact hb⟩
theorem Ayi: ∀t:List UInt8,A2 true t=if Ai (fun b=>b !=10) t=t.length then t.length else Ai (fun b=>b !=10) t+1+A2 false (t.drop (Ai (fun b=>b !=10) t+1))
 |[]=>by simp[A2,Hv]
 |b::t=>by
  have ih:=Ayi t
  have hle:=Dc (fun b=>b !=10) t
  rw[A2,B1,List.length_cons]
  by_cases hb:b=10
  ·subst hb
   simp
  ·have h2:(b !=10)=true:=by simpa using hb
   rw[if_neg hb,ih]
   simp only[h2,if_true,List.drop_succ_cons]
   by_cases he:Ai (fun b=>b !=10) t=t.length
   ·rw[if_pos he,if_pos (by omega)];omega
   ·rw[if_neg he,if_neg (by omega)];omega
theorem Bjx{s:List UInt8}(hl:s.length<4294967281): ∀(n:Nat) (rest:List UInt8),rest.length≤n→rest.length≤s.length→
  A3 (fun(qj2:List UInt8)=>match qj2 with
  |rest3=>(
   (B6 rest3 [32,9,10]).bind fun x4=>
   (strings_HasPrefix x4 [35]).bind fun x5=>
   if (!x5)=true then
    some (.inr (IntKind.wrap .i64 ((s.length:Int)-(x4.length:Int))))
   else
    (strings_Cut x4 [10]).bind fun x6=>
    if (!x6.2.2)=true then
     some (.inr (s.length:Int))
    else
     some (.inl x6.2.1):Option ((List UInt8)⊕Int))) rest=some ((s.length-rest.length+A2 false rest:Nat):Int):=by
 intro n
 induction n with
 |zero=>
  intro rest hn hs
  match rest,hn with
  |[],_=>
   have h1:B6 [] [32,9,10]=some []:=by unfold B6;rw[if_pos (by decide)];rfl
   rw[A1 (o:=(s.length:Int))]
   ·simp[A2]
   ·have h2:strings_HasPrefix [] [35]=some false:=rfl
    simp only[h1,h2,Option.bind_some,Bool.not_false,if_true]
    rw[wrap64 (by simp<;>omega) (by simp<;>omega)]
    simp
 |succ n ih=>
  intro rest hn hs
  obtain⟨h1,h2,h3⟩:=Ayh rest
  have ht:B6 rest [32,9,10]=some (Lib.trimLeftS rest [32,9,10]):=by unfold B6;rw[if_pos (by decide)]
  generalize Lib.trimLeftS rest [32,9,10]=d at h1 h2 h3 ht
  have hstop:(∀t,d≠35::t)→strings_HasPrefix d [35]=some false∧A2 false d=0:=by
   intro hd
   match d,h3,hd with
   |[],_,_=>exact⟨rfl,rfl⟩
   |b::t,h3,hd=>
    have hb:=h3 b t rfl
    have hne:b≠35:=fun e=>hd t (by rw[e])
    refine⟨?_,?_⟩
    ·unfold strings_HasPrefix Lib.hasPrefix
     have:((35:UInt8)==b)=false:=by simpa using fun e=>hne e.symm
     simp[List.isPrefixOf,this]
    ·rw[A2,if_neg (by simp[hb]),if_neg hne]
  by_cases hd: ∃t,d=35::t
  ·obtain⟨t,rfl⟩:=hd
   have hp:strings_HasPrefix (35::t) [35]=some true:=by unfold strings_HasPrefix Lib.hasPrefix;simp[List.isPrefixOf]
   have hcut:strings_Cut (35::t) [10]=some (Lib.cut (35::t) [10]):=by unfold strings_Cut;rw[if_pos (by omega)]
   have hsk:A2 false (35::t)=1+A2 true t:=by rw[A2,if_neg (by decide),if_pos rfl]
   have hix:Lib.index (35::t) [10]=if Ai (fun b=>b !=10) t=t.length then -1 else((Ai (fun b=>b !=10) t+1:Nat):Int):=by
    rw[index_one,Jp,B1]
    simp only[show((35:UInt8)!=10)=true from rfl,if_true,List.length_cons]
    by_cases he:Ai (fun b=>b !=10) t=t.length
    ·rw[if_pos he,if_pos (by omega)]
    ·rw[if_neg he,if_neg (by omega)]
   have hle:=Dc (fun b=>b !=10) t
   simp only[List.length_cons] at h1 h2
   have htr:=Ayi t
   by_cases he:Ai (fun b=>b !=10) t=t.length
   ·rw[if_pos he] at hix htr
    rw[A1 (o:=(s.length:Int))]
    ·congr 1
     omega
    ·have:Lib.cut (35::t) [10]=(35::t,[],false):=by unfold Lib.cut;rw[hix,if_neg (by omega)]
     simp only[ht,hp,hcut,this,Option.bind_some,Bool.not_true,Bool.false_eq_true,if_false,Bool.not_false,if_true]
   ·rw[if_neg he] at hix htr
    have hc:Lib.cut (35::t) [10]=((35::t).take (Ai (fun b=>b !=10) t+1),t.drop (Ai (fun b=>b !=10) t+1),true):=by
     unfold Lib.cut
     rw[hix,if_pos (by omega)]
     simp
    have hlen:(t.drop (Ai (fun b=>b !=10) t+1)).length=t.length-(Ai (fun b=>b !=10) t+1):=List.length_drop ..
    rw[B0 (s':=t.drop (Ai (fun b=>b !=10) t+1)),ih _ (by omega) (by omega)]
    ·congr 1
     omega
    ·simp only[ht,hp,hcut,hc,Option.bind_some,Bool.not_true,Bool.false_eq_true,if_false]
  ·obtain⟨hp,hz⟩:=hstop (fun t e=>hd ⟨t,e⟩)
   rw[A1 (o:=((s.length-d.length:Nat):Int))]
   ·congr 1
    omega
   ·simp only[ht,hp,Option.bind_some,Bool.not_false,if_true]
    rw[wrap64 (by omega) (by omega)]
    congr 2
    omega
theorem Bh4{s:List UInt8}(hl:s.length<4294967281):Wz s=some (A2 false s:Int):=by
 unfold Wz
 rw[Bjx hl s.length s (Nat.le_refl _) (Nat.le_refl _)]
 simp
def plS(s:List UInt8):Int×Int:=((s.count 10:Int)+1,(s.length:Int)-Lib.lastIndexByte ⟨s.toArray⟩ 10)
theorem Lh(s:List UInt8):(Lib.lastIndexByte ⟨s.toArray⟩ 10= -1∧10∉s)∨ ∃i:Nat,i<s.length∧Lib.lastIndexByte ⟨s.toArray⟩ 10=i∧s[i]? =some 10∧ ∀j,i<j→s[j]? ≠some 10:=by
 have hsz:(ByteArray.mk s.toArray).size=s.length:=by simp[ByteArray.size]
 have hat: ∀j,j<s.length→((((ByteArray.mk s.toArray).data[j]!).toNat:Int)=10↔s[j]? =some 10):=by
  intro j hj
  have e:(ByteArray.mk s.toArray).data[j]! =s[j]:=by
   simp[hj]
  rw[e,List.getElem?_eq_getElem hj,Option.some.injEq]
  have:=Ai9 (b:=s[j]) (n:=10) (by omega)
  constructor
  ·intro h;exact this.1 (by omega)
  ·intro h;rw[h];rfl
 have h:=Lib.lastIdx_spec ⟨s.toArray⟩ 10 s.length
 unfold Lib.lastIndexByte
 rw[hsz]
 rcases h with⟨h1,h2⟩|⟨i,h1,h2,h3,h4⟩
 ·refine .inl ⟨h1,fun hm=>?_⟩
  obtain⟨j,hj,he⟩:=List.getElem_of_mem hm
  exact h2 j hj ((hat j hj).2 (by rw[List.getElem?_eq_getElem hj,he]))
 ·refine .inr ⟨i,h1,h2,(hat i h1).1 h3,fun j hij he=>?_⟩
  have hj:j<s.length:=(List.getElem?_eq_some_iff.1 he).1
  exact h4 j hij hj ((hat j hj).2 he)
theorem A99{s:List UInt8}(hl:s.length<4611686018427387904):Qr s=some (plS s):=by
 have hr: -1≤Lib.lastIndexByte ⟨s.toArray⟩ 10∧Lib.lastIndexByte ⟨s.toArray⟩ 10<s.length:=by
  rcases Lh s with⟨h,_⟩|⟨i,h1,h2,_⟩<;>omega
 have hc:s.count 10≤s.length:=List.count_le_length
 unfold Qr plS strings_LastIndexByte strings_Count Lib.countByte
 rw[if_pos hl]
 simp only[Option.bind_some]
 rw[wrap64 (by omega) (by omega),wrap64 (by omega) (by omega)]
theorem Hu: ∀{s:List UInt8} {k n:Nat},A5 s=(k,n,0)→1≤n∧n≤s.length
 |[],k,n,h=>by simp[A5] at h
 |b::t,k,n,h=>by
  have hn:A5 (b::t)=if Wv b=true then(0,Lf (b::t)) else if digB b=true then(1,Ad3 (b::t)) else if b=34 then(2,Ai0 (b::t)) else(3,Adk (b::t)):=rfl
  rw[hn] at h
  by_cases h1:Wv b=true
  ·rw[if_pos h1] at h
   unfold Lf at h
   split at h
   ·simp at h
   ·simp only[Prod.mk.injEq] at h
    have hw:Ajb b=true:=by
     have:=of_decide_eq_true h1
     unfold Ajb;simp;omega
    have:=Ayl (t:=t) hw
    have:=Dc Ajb (b::t)
    omega
  ·rw[if_neg h1] at h
   by_cases h2:digB b=true
   ·rw[if_pos h2] at h
    have hd1:=Ayl (t:=t) h2
    have hd2:=Dc digB (b::t)
    have hm:=Aoo ((b::t).drop (Ai digB (b::t)))
    rw[List.length_drop] at hm
    unfold Ad3 at h
    split at h
    ·simp at h
    ·split at h
     ·simp only[Prod.mk.injEq] at h
      omega
     ·simp only[Prod.mk.injEq] at h
      omega
   ·rw[if_neg h2] at h
    by_cases h3:b=34
    ·rw[if_pos h3] at h
     have hq:=Dc Cd t
     unfold Ai0 at h
     simp only[List.drop_succ_cons,List.drop_zero] at h
     split at h
     ·simp at h
     ·split at h
      ·simp at h
      ·simp only[Prod.mk.injEq] at h
       simp only[List.length_cons]
       omega
    ·rw[if_neg h3] at h
     unfold Adk at h
     simp only[List.length_cons]
     by_cases hx:(b::t).take 2=[60,61]∨(b::t).take 2=[62,61]∨(b::t).take 2=[46,46]
     ·simp only[hx,if_true,Prod.mk.injEq] at h
      have:1≤t.length:=by
       match t,hx with
       |[],hx=>simp at hx
       |c::t,_=>simp
      omega
     ·simp only[hx,if_false] at h
      by_cases hm:b∈Ip
      ·simp only[hm,if_true,Prod.mk.injEq] at h;omega
      ·simp[hm] at h
theorem Avo: ∀{s:List UInt8} {k n m:Nat},A5 s=(k,n,0)→n≤m→A5 (s.take m)=(k,n,0)
 |[],k,n,m,h,_=>by simp[A5] at h
 |b::t,k,n,m,h,hm=>by
  have hlen:=Hu h
  obtain⟨m,rfl⟩: ∃m',m=m'+1:=⟨m-1,by omega⟩
  have hn: ∀t,A5 (b::t)=if Wv b=true then(0,Lf (b::t)) else if digB b=true then(1,Ad3 (b::t)) else if b=34 then(2,Ai0 (b::t)) else(3,Adk (b::t)):=fun _=>rfl
  rw[List.take_succ_cons,hn]
  rw[hn] at h
  have htk:b::t.take m=(b::t).take (m+1):=rfl
  by_cases h1:Wv b=true
  ·rw[if_pos h1] at h⊢
   rw[htk]
   unfold Lf at h⊢
   rw[Mg]
   split at h
   ·simp at h
   ·rename_i hw
    simp only[Prod.mk.injEq] at h
    have:min (Ai Ajb (b::t)) (m+1)=Ai Ajb (b::t):=by omega
    rw[this,if_neg hw]
    simp[h.1,h.2]
  ·rw[if_neg h1] at h⊢
   by_cases h2:digB b=true
   ·rw[if_pos h2] at h⊢
    rw[htk]
    generalize hs:b::t=s at h hlen⊢
    have hhead:(s.take (m+1)).head?=s.head?:=by rw[←hs];rfl
    unfold Ad3 at h⊢
    rw[Mg,hhead]
    split at h
    ·simp at h
    ·rename_i hno
     have hdm:Ai digB s≤m+1:=by
      split at h<;>(simp only[Prod.mk.injEq] at h;omega)
     have hmin:min (Ai digB s) (m+1)=Ai digB s:=by omega
     have hmore:Ei ((s.take (m+1)).drop (Ai digB s))=Ei (s.drop (Ai digB s)):=by
      rw[List.drop_take]
      generalize hr:s.drop (Ai digB s)=r at h
      by_cases hz:0<Ei r
      ·rw[if_pos hz] at h
       simp only[Prod.mk.injEq] at h
       unfold Ei at h hz⊢
       match r,h,hz with
       |[],h,hz=>simp at hz
       |[x],h,hz=>simp at hz
       |x::y::u,h,hz=>
        simp only at h hz
        by_cases hx:x=46
        ·rw[if_pos hx] at h hz
         obtain⟨q,hq⟩: ∃q,m+1-Ai digB s=q+2:=⟨m+1-Ai digB s-2,by omega⟩
         rw[hq,List.take_succ_cons,List.take_succ_cons]
         simp only
         rw[if_pos hx,if_pos hx,←List.take_succ_cons,Mg]
         omega
        ·rw[if_neg hx] at hz;omega
      ·have h0:Ei r=0:=by omega
       rw[h0]
       unfold Ei at h0⊢
       match r,h0 with
       |[],_=>simp
       |[x],_=>cases m+1-Ai digB s<;>simp
       |x::y::u,h0=>
        simp only at h0
        match m+1-Ai digB s with
        |0=>rfl
        |1=>rfl
        |q+2=>
         rw[List.take_succ_cons,List.take_succ_cons]
         simp only
         by_cases hx:x=46
         ·rw[if_pos hx] at h0⊢
          rw[←List.take_succ_cons,Mg]
          omega
         ·rw[if_neg hx]
     rw[hmin,hmore,if_neg hno]
     exact h
   ·rw[if_neg h2] at h⊢
    by_cases h3:b=34
    ·rw[if_pos h3] at h⊢
     unfold Ai0 at h⊢
     simp only[List.drop_succ_cons,List.drop_zero] at h⊢
     have hq:=Dc Cd t
     split at h
     ·simp at h
     ·rename_i hne
      split at h
      ·simp at h
      ·rename_i hno
       simp only[Prod.mk.injEq] at h
       have hmin:min (Ai Cd t) m=Ai Cd t:=by omega
       rw[Mg,hmin,List.length_take,List.take_take,hmin,if_neg (by omega),if_neg hno]
       obtain⟨rfl,rfl,_⟩:=h
       rfl
    ·rw[if_neg h3] at h⊢
     rw[htk]
     unfold Adk at h⊢
     rw[List.take_take]
     by_cases hx:(b::t).take 2=[60,61]∨(b::t).take 2=[62,61]∨(b::t).take 2=[46,46]
     ·simp only[hx,if_true,Prod.mk.injEq] at h
      have:min 2 (m+1)=2:=by omega
      rw[this]
      simp only[hx,if_true]
      simp[h.1,h.2]
     ·simp only[hx,if_false] at h
      have hy: ¬((b::t).take (min 2 (m+1))=[60,61]∨(b::t).take (min 2 (m+1))=[62,61]∨(b::t).take (min 2 (m+1))=[46,46]):=by
       by_cases hm2:1≤m
       ·rw[Nat.min_eq_left (by omega)];exact hx
       ·have:min 2 (m+1)=1:=by omega
        rw[this]
        simp
      simp only[hy,if_false,List.take_succ_cons]
      exact h
def Je:Nat→List UInt8→Nat→Nat→List (Nat×Nat×Nat)⊕(Nat×Nat)
 |0,_,_,_=> .inl []
 |f+1,rest,at_,k=>
  if rest=[] then .inl []
  else if (A5 rest).2.2≠0 then .inr (at_,(A5 rest).2.2)
  else if k=1500 then .inr (at_,6)
  else match Je f ((rest.drop (A5 rest).2.1).drop (A2 false (rest.drop (A5 rest).2.1))) (at_+(A5 rest).2.1+A2 false (rest.drop (A5 rest).2.1)) (k+1) with
   | .inl l=> .inl ((at_,(A5 rest).1,(A5 rest).2.1)::l)
   | .inr e=> .inr e
def Agk(text:List UInt8)(x:Nat×Nat×Nat):Ac:=⟨(x.2.1:Int),(plS (text.take x.1)).1,(plS (text.take x.1)).2,(text.drop x.1).take x.2.2⟩
def Agr(text:List UInt8):List (Nat×Nat×Nat)⊕(Nat×Nat):=Je (text.length+1) (text.drop (A2 false text)) (A2 false text) 0
theorem Bk4{text:List UInt8}(hl:text.length≤8000): ∀(f at_:Nat) (row:List Ac),at_≤text.length→text.length-at_<f→row.length≤1500→
  A3 (fun(qj3:Int×(List Ac))=>match qj3 with
   |(at_4,row5)=>(
    if (decide (at_4<(text.length:Int)))=true then
     (slO text at_4 (text.length:Int)).bind fun x6=>
     (Wy x6).bind fun x7=>
     if (x7.2.2 !=0)=true then
      some (.inr (.inr (([]:List Ac),at_4,x7.2.2)))
     else
      if ((row5.length:Int)==1500)=true then
       some (.inr (.inr (([]:List Ac),at_4,6)))
      else
       (slO text 0 at_4).bind fun x8=>
       (Qr x8).bind fun x9=>
       (slO text at_4 (IntKind.wrap .i64 (at_4+x7.2.1))).bind fun x10=>
       (apO 40 row5 [(⟨x7.1,x9.1,x9.2,x10⟩:Ac)]).bind fun x11=>
       (slO text (IntKind.wrap .i64 (at_4+x7.2.1)) (text.length:Int)).bind fun x12=>
       (Wz x12).bind fun x13=>
       some (.inl (IntKind.wrap .i64 ((IntKind.wrap .i64 (at_4+x7.2.1))+x13),x11))
    else
     some (.inr (.inl row5)):Option ((Int×(List Ac))⊕((List Ac)⊕((List Ac)×Int×Int))))) ((at_:Int),row)
   =some (match Je f (text.drop at_) at_ row.length with| .inl l=> .inl (row++l.map (Agk text))| .inr e=> .inr ([],(e.1:Int),(e.2:Int))):=by
 intro f
 induction f with
 |zero=>intro at_ row h1 h2;omega
 |succ f ih=>
  intro at_ row h1 h2 h3
  by_cases he:at_=text.length
  ·subst he
   rw[A1 (o:= .inl row)]
   ·simp[Je]
   ·have:decide (((text.length:Nat):Int)<(text.length:Int))=false:=by simp
    simp only[this,Bool.false_eq_true,if_false]
  ·have hlt:at_<text.length:=by omega
   have hd:decide ((at_:Int)<(text.length:Int))=true:=by simp;omega
   have hrest:text.drop at_≠[]:=by simp;omega
   obtain⟨b,t,hbt⟩: ∃b t,text.drop at_=b::t:=by
    cases hx:text.drop at_ with
    |nil=>exact absurd hx hrest
    |cons b t=>exact⟨b,t,rfl⟩
   have hlr:(b::t).length=text.length-at_:=by rw[←hbt,List.length_drop]
   have hnext:=Bhq (b:=b) (t:=t) (by omega)
   rw[←hbt] at hnext
   have hs1:=Hm (l:=text) (n:=at_) h1
   have hs2:=Zk (l:=text) (n:=at_) h1
   rw[Je,if_neg hrest]
   generalize hnx:A5 (text.drop at_)=nx at hnext
   obtain⟨k,n,e⟩:=nx
   simp only[trI] at hnext
   by_cases hee:e=0
   ·subst hee
    obtain⟨hn1,hn2⟩:=Hu hnx
    rw[List.length_drop] at hn2
    simp only[ne_eq,not_true_eq_false,if_false]
    by_cases hfull:row.length=1500
    ·rw[if_pos hfull,A1 (o:= .inr ([],(at_:Int),6))]
     ·rfl
     ·have:((row.length:Int)==1500)=true:=by simp[hfull]
      simp only[hd,if_true,hs1,hnext,Option.bind_some,Int.natCast_zero,bne_self_eq_false,Bool.false_eq_true,if_false,this]
    ·rw[if_neg hfull]
     have e1:IntKind.wrap .i64 ((at_:Int)+(n:Int))=((at_+n:Nat):Int):=by rw[wrap64 (by omega) (by omega)];omega
     have hs3:=A7v (l:=text) (a:=at_) (b:=at_+n) (by omega) (by omega)
     have hs4:=Hm (l:=text) (n:=at_+n) (by omega)
     have hdd:text.drop (at_+n)=(text.drop at_).drop n:=by rw[List.drop_drop]
     have hsk:=Ic false ((text.drop at_).drop n)
     rw[List.length_drop,List.length_drop] at hsk
     have hskip:=Bh4 (s:=(text.drop at_).drop n) (by rw[List.length_drop,List.length_drop];omega)
     have e2:IntKind.wrap .i64 (((at_+n:Nat):Int)+(A2 false ((text.drop at_).drop n):Int))=((at_+n+A2 false ((text.drop at_).drop n):Nat):Int):=by rw[wrap64 (by omega) (by omega)];omega
     have hpl:=A99 (s:=text.take at_) (by simp;omega)
     have hap: ∀x:Ac,apO 40 row [x]=some (row++[x]):=fun x=>by
      unfold apO
      rw[if_pos (by simp;omega)]
     have hmid:(text.take (at_+n)).drop at_=(text.drop at_).take n:=by rw[List.drop_take];congr 1;omega
     have hlen:((row.length:Int)==1500)=false:=by simp;omega
     rw[B0 (s':=(((at_+n+A2 false ((text.drop at_).drop n):Nat):Int),row++[Agk text (at_,k,n)])),ih (at_+n+A2 false ((text.drop at_).drop n)) (row++[Agk text (at_,k,n)]) (by omega) (by omega) (by simp;omega)]
     ·have hdr:text.drop (at_+n+A2 false ((text.drop at_).drop n))=((text.drop at_).drop n).drop (A2 false ((text.drop at_).drop n)):=by
       rw[List.drop_drop,List.drop_drop]
      rw[hdr,List.length_append,List.length_singleton]
      cases Je f (((text.drop at_).drop n).drop (A2 false ((text.drop at_).drop n))) (at_+n+A2 false ((text.drop at_).drop n)) (row.length+1) with
      |inl l=>simp
      |inr e=>rfl
     ·simp only[hd,if_true,hs1,hnext,Option.bind_some,Int.natCast_zero,bne_self_eq_false,Bool.false_eq_true,if_false,hlen,hs2,hpl,e1,hs3,hmid,hap,hs4,hdd,hskip,e2]
      rfl
   ·have hne:((e:Int)!=0)=true:=by simp;omega
    simp only[ne_eq,hee,not_false_eq_true,if_true]
    rw[A1 (o:= .inr ([],(at_:Int),(e:Int)))]
    simp only[hd,if_true,hs1,hnext,Option.bind_some,hne]
theorem Brg{text:List UInt8}(hl:text.length≤8000):Aac text=some (match Agr text with| .inl l=>(l.map (Agk text),0,0)| .inr e=>([],(e.1:Int),(e.2:Int))):=by
 have hs:=Ic false text
 unfold Aac Agr
 have h1:decide ((text.length:Int)>8000)=false:=decide_eq_false (by omega)
 simp only[h1,Bool.false_eq_true,if_false,Bh4 (show text.length<4294967281 by omega),Option.bind_some]
 have:=Bk4 hl (text.length+1) (A2 false text) [] hs (by omega) (by simp)
 refine Bj this ?_
 simp only[List.length_nil]
 cases Je (text.length+1) (text.drop (A2 false text)) (A2 false text) 0 with
 |inl l=>simp
 |inr e=>rfl
theorem Bk3{text:List UInt8}(hl:8000<text.length):Aac text=some ([],0,4):=by
 unfold Aac
 have h1:decide ((text.length:Int)>8000)=true:=decide_eq_true (by omega)
 simp only[h1,if_true]
theorem Aof: ∀(f:Nat) (rest:List UInt8) (at_ k p e:Nat),Je f rest at_ k= .inr (p,e)→e≠0∧at_≤p∧p<at_+rest.length
 |0,rest,at_,k,p,e,h=>by simp[Je] at h
 |f+1,rest,at_,k,p,e,h=>by
  rw[Je] at h
  by_cases h0:rest=[]
  ·rw[if_pos h0] at h;cases h
  ·rw[if_neg h0] at h
   have hpos:0<rest.length:=List.length_pos_iff.2 h0
   by_cases h1:(A5 rest).2.2=0
   ·rw[if_neg (not_not_intro h1)] at h
    obtain⟨hn1,hn2⟩:=Hu (s:=rest) (k:=(A5 rest).1) (n:=(A5 rest).2.1) (by rw[←h1])
    by_cases h2:k=1500
    ·rw[if_pos h2] at h
     cases h
     exact⟨by omega,by omega,by omega⟩
    ·rw[if_neg h2] at h
     have hsk:=Ic false (rest.drop (A5 rest).2.1)
     have hl1:(rest.drop (A5 rest).2.1).length=rest.length-(A5 rest).2.1:=List.length_drop ..
     have hl2:((rest.drop (A5 rest).2.1).drop (A2 false (rest.drop (A5 rest).2.1))).length=(rest.drop (A5 rest).2.1).length-A2 false (rest.drop (A5 rest).2.1):=List.length_drop ..
     split at h
     ·cases h
     ·rename_i e' hr
      cases h
      obtain⟨a1,a2,a3⟩:=Aof f _ _ _ _ _ hr
      exact⟨a1,by omega,by omega⟩
   ·rw[if_pos h1] at h
    cases h
    exact⟨h1,Nat.le_refl _,by omega⟩
theorem Au6: ∀(f:Nat) (rest:List UInt8) (at_ k p e:Nat),Je f rest at_ k= .inr (p,e)→ ∀f',p-at_<f'→ ∃l,Je f' (rest.take (p-at_)) at_ k= .inl l
 |0,rest,at_,k,p,e,h,f',hf=>by simp[Je] at h
 |f+1,rest,at_,k,p,e,h,0,hf=>by omega
 |f+1,rest,at_,k,p,e,h,f'+1,hf=>by
  have hb:=Aof _ _ _ _ _ _ h
  rw[Je] at h
  by_cases h0:rest=[]
  ·rw[if_pos h0] at h;cases h
  ·rw[if_neg h0] at h
   by_cases h1:(A5 rest).2.2=0
   ·rw[if_neg (not_not_intro h1)] at h
    have hnx:A5 rest=((A5 rest).1,(A5 rest).2.1,0):=by rw[←h1]
    by_cases h2:k=1500
    ·rw[if_pos h2] at h
     cases h
     exact⟨[],by simp[Je]⟩
    ·rw[if_neg h2] at h
     split at h
     ·cases h
     ·rename_i e' hr
      cases h
      obtain⟨a1,a2,a3⟩:=Aof f _ _ _ _ _ hr
      obtain⟨hn1,hn2⟩:=Hu hnx
      have htk:=Avo (m:=p-at_) hnx (by omega)
      have hne:rest.take (p-at_)≠[]:=by
       intro q
       have:=congrArg List.length q
       rw[List.length_take] at this
       simp only[List.length_nil] at this
       omega
      rw[Je,if_neg hne,htk]
      simp only[ne_eq,not_true_eq_false,if_false,if_neg h2]
      have hdt:(rest.take (p-at_)).drop (A5 rest).2.1=(rest.drop (A5 rest).2.1).take (p-at_-(A5 rest).2.1):=List.drop_take ..
      have hsk:A2 false ((rest.take (p-at_)).drop (A5 rest).2.1)=A2 false (rest.drop (A5 rest).2.1):=by
       rw[hdt,Mf];omega
      obtain⟨l,hl⟩:=Au6 f _ _ _ _ _ hr f' (by omega)
      have hdd:((rest.take (p-at_)).drop (A5 rest).2.1).drop (A2 false (rest.drop (A5 rest).2.1))=((rest.drop (A5 rest).2.1).drop (A2 false (rest.drop (A5 rest).2.1))).take (p-(at_+(A5 rest).2.1+A2 false (rest.drop (A5 rest).2.1))):=by
       rw[hdt,List.drop_take]
       congr 1
       omega
      rw[hsk,hdd,hl]
      exact⟨_,rfl⟩
   ·rw[if_pos h1] at h
    cases h
    exact⟨[],by simp[Je]⟩
theorem Bos{text:List UInt8}{p e:Nat}(h:Agr text= .inr (p,e)):e≠0∧p<text.length∧ ∃l,Agr (text.take p)= .inl l:=by
 unfold Agr at h
 have hs:=Ic false text
 obtain⟨h1,h2,h3⟩:=Aof _ _ _ _ _ _ h
 rw[List.length_drop] at h3
 refine⟨h1,by omega,?_⟩
 have hlen:(text.take p).length=p:=by rw[List.length_take];omega
 obtain⟨l,hl⟩:=Au6 _ _ _ _ _ _ h (p+1) (by omega)
 refine⟨l,?_⟩
 unfold Agr
 have hsk:A2 false (text.take p)=A2 false text:=by rw[Mf];omega
 rw[hsk,hlen,List.drop_take]
 exact hl
theorem Bsu{α:Type}(l:List α)(a b c:Nat):((l.drop a).drop b).drop c=l.drop (a+b+c):=by
 rw[List.drop_drop,List.drop_drop,Nat.add_assoc]
def Ak3(text:List UInt8):Nat→List (Nat×Nat×Nat)→Prop
 |_,[]=>True
 |at_,x::l=>at_≤x.1∧x.1<text.length∧A5 (text.drop x.1)=(x.2.1,x.2.2,0)∧Ak3 text (x.1+x.2.2) l
theorem Ak3.ahead{text:List UInt8}{a b:Nat}(hab:a≤b): ∀{l:List (Nat×Nat×Nat)},Ak3 text b l→Ak3 text a l
 |[],_=>trivial
 |x::l,h=>⟨Nat.le_trans hab h.1,h.2⟩
theorem Au5{text:List UInt8}: ∀(f at_ k:Nat) (l:List (Nat×Nat×Nat)),Je f (text.drop at_) at_ k= .inl l→Ak3 text at_ l
 |0,at_,k,l,h=>by simp[Je] at h;subst h;trivial
 |f+1,at_,k,l,h=>by
  rw[Je] at h
  by_cases h0:text.drop at_=[]
  ·rw[if_pos h0] at h;cases h;trivial
  ·rw[if_neg h0] at h
   have hpos:0<(text.drop at_).length:=List.length_pos_iff.2 h0
   rw[List.length_drop] at hpos
   by_cases h1:(A5 (text.drop at_)).2.2=0
   ·rw[if_neg (not_not_intro h1)] at h
    have hnx:A5 (text.drop at_)=((A5 (text.drop at_)).1,(A5 (text.drop at_)).2.1,0):=by rw[←h1]
    by_cases h2:k=1500
    ·rw[if_pos h2] at h;cases h
    ·rw[if_neg h2] at h
     split at h
     ·rename_i l' hr
      cases h
      have hdr:((text.drop at_).drop (A5 (text.drop at_)).2.1).drop (A2 false ((text.drop at_).drop (A5 (text.drop at_)).2.1))=text.drop (at_+(A5 (text.drop at_)).2.1+A2 false ((text.drop at_).drop (A5 (text.drop at_)).2.1)):=Bsu _ _ _ _
      rw[hdr] at hr
      exact⟨Nat.le_refl _,by omega,hnx,Ak3.ahead (Nat.le_add_right _ _) (Au5 f _ _ _ hr)⟩
     ·cases h
   ·rw[if_pos h1] at h;cases h
def okT(t:Ac):Bool:=decide (((A5 t.Ag).1:Int)=t.Ad∧(A5 t.Ag).2.1=t.Ag.length∧(A5 t.Ag).2.2=0)
theorem Avr{t:Ac}(h:okT t=true): ∃k:Nat,t.Ad=(k:Int)∧A5 t.Ag=(k,t.Ag.length,0):=by
 obtain⟨h1,h2,h3⟩:=of_decide_eq_true h
 exact⟨(A5 t.Ag).1,h1.symm,by rw[←h2,←h3]⟩
theorem A8b{t:Ac}(hl:t.Ag.length<4294967281):Wx t=some (okT t):=by
 unfold Wx okT
 cases ht:t.Ag with
 |nil=>
  have e0:(([]:List UInt8)==[])=true:=rfl
  rw[if_pos e0]
  simp[A5]
 |cons b u=>
  rw[ht] at hl
  have he:((b::u:List UInt8)==[])=false:=rfl
  simp only[he,Bool.false_eq_true,if_false,Bhq hl,trI,Option.bind_some,Option.some.injEq]
  rw[Bool.eq_iff_iff]
  simp only[Bool.and_eq_true,beq_iff_eq,decide_eq_true_eq]
  constructor
  ·rintro⟨⟨h1,h2⟩,h3⟩
   exact⟨h2,by omega,by omega⟩
  ·rintro⟨h1,h2,h3⟩
   exact⟨⟨by omega,h1⟩,by omega⟩
def jn(l:List Ac):List UInt8:=Lib.join (l.map (fun t=>t.Ag)) [32]
theorem Bd1(t:Ac):jn [t]=t.Ag:=by simp[jn,Lib.join,List.intercalate]
theorem A4j(t u:Ac)(l:List Ac):jn (t::u::l)=t.Ag++32::jn (u::l):=by simp[jn,Lib.join,List.intercalate]
def Bch(l:List Ac):Nat:=(l.map fun t=>t.Ag.length).sum
theorem Zo{q:UInt8→Bool}{u:List UInt8}(hq: ∀b v,u=b::v→q b=false): ∀s:List UInt8,Ai q (s++u)=Ai q s
 |[]=>by
  match u,hq with
  |[],_=>rfl
  |b::v,hq=>rw[List.nil_append,B1,hq b v rfl];rfl
 |b::t=>by rw[List.cons_append,B1,B1,Zo hq t]
theorem Apq{q:UInt8→Bool}{u:List UInt8}: ∀s:List UInt8,Ai q s<s.length→Ai q (s++u)=Ai q s
 |[],h=>by simp at h
 |b::t,h=>by
  rw[B1,List.length_cons] at h
  rw[List.cons_append,B1,B1]
  split
  ·rename_i hb
   rw[if_pos hb] at h
   rw[Apq t (by omega)]
  ·rfl
theorem Bi9{T u:List UInt8}{k:Nat}(h:A5 T=(k,T.length,0)):A5 (T++32::u)=(k,T.length,0):=by
 cases T with
 |nil=>simp[A5] at h
 |cons b t=>
  have hn: ∀t,A5 (b::t)=if Wv b=true then(0,Lf (b::t)) else if digB b=true then(1,Ad3 (b::t)) else if b=34 then(2,Ai0 (b::t)) else(3,Adk (b::t)):=fun _=>rfl
  rw[List.cons_append,hn]
  rw[hn] at h
  have hc:b::(t++32::u)=(b::t)++32::u:=rfl
  by_cases h1:Wv b=true
  ·rw[if_pos h1] at h⊢
   rw[hc]
   unfold Lf at h⊢
   rw[Zo (fun b v e=>by cases e;rfl)]
   exact h
  ·rw[if_neg h1] at h⊢
   by_cases h2:digB b=true
   ·rw[if_pos h2] at h⊢
    rw[hc]
    have hspan:Ai digB ((b::t)++32::u)=Ai digB (b::t):=Zo (fun b v e=>by cases e;rfl) _
    have hle:=Dc digB (b::t)
    have hdrop:((b::t)++32::u).drop (Ai digB (b::t))=(b::t).drop (Ai digB (b::t))++32::u:=by
     rw[List.drop_append,Nat.sub_eq_zero_of_le hle,List.drop_zero]
    have hmore:Ei ((b::t).drop (Ai digB (b::t))++32::u)=Ei ((b::t).drop (Ai digB (b::t))):=by
     unfold Ad3 at h
     split at h
     ·simp at h
     ·split at h
      ·rename_i hz
       unfold Ei at hz⊢
       match (b::t).drop (Ai digB (b::t)),hz with
       |[],hz=>simp at hz
       |[x],hz=>simp at hz
       |x::y::v,hz=>
        simp only[List.cons_append]
        rw[←List.cons_append,Zo (fun b v e=>by cases e;rfl)]
      ·simp only[Prod.mk.injEq] at h
       have:(b::t).drop (Ai digB (b::t))=[]:=List.drop_eq_nil_of_le (by omega)
       rw[this]
       cases u<;>rfl
    have hh:((b::t)++32::u).head?=(b::t).head?:=rfl
    unfold Ad3 at h⊢
    rw[hspan,hdrop,hmore,hh]
    exact h
   ·rw[if_neg h2] at h⊢
    by_cases h3:b=34
    ·rw[if_pos h3] at h⊢
     unfold Ai0 at h⊢
     simp only[List.drop_succ_cons,List.drop_zero,List.length_cons] at h⊢
     have hq:=Dc Cd t
     split at h
     ·simp at h
     ·rename_i hne
      have hs:Ai Cd (t++32::u)=Ai Cd t:=Apq _ (by omega)
      rw[hs,if_neg (by rw[List.length_append,List.length_cons];omega),List.take_append_of_le_length hq]
      exact h
    ·rw[if_neg h3] at h⊢
     unfold Adk at h⊢
     match t,h with
     |[],h=>
      simp only[List.nil_append]
      have h0: ¬(([b]:List UInt8).take 2=[60,61]∨([b]:List UInt8).take 2=[62,61]∨([b]:List UInt8).take 2=[46,46]):=by simp
      have h4: ¬((b::32::u).take 2=[60,61]∨(b::32::u).take 2=[62,61]∨(b::32::u).take 2=[46,46]):=by
       simp only[List.take_succ_cons,List.take_zero]
       rintro(h|h|h)<;>simp at h
      simp only[h0,if_false] at h
      simp only[h4,if_false]
      exact h
     |c::t,h=>
      have ht:(b::((c::t)++32::u)).take 2=(b::c::t).take 2:=rfl
      simp only[ht]
      by_cases hx:(b::c::t).take 2=[60,61]∨(b::c::t).take 2=[62,61]∨(b::c::t).take 2=[46,46]
      ·simp only[hx,if_true] at h⊢
       exact h
      ·simp only[hx,if_false] at h⊢
       exact h
theorem Bef{s:List UInt8}{k n:Nat}(h:A5 s=(k,n,0)):A2 false s=0:=by
 cases s with
 |nil=>rfl
 |cons b t=>
  have hn:A5 (b::t)=if Wv b=true then(0,Lf (b::t)) else if digB b=true then(1,Ad3 (b::t)) else if b=34 then(2,Ai0 (b::t)) else(3,Adk (b::t)):=rfl
  rw[hn] at h
  have hb:Q4 b=false∧b≠35:=by
   by_cases h1:Wv b=true
   ·have:=of_decide_eq_true h1
    refine⟨?_,fun e=>by subst e;revert h1;decide⟩
    rw[Bool.eq_false_iff]
    intro hb
    unfold Q4 at hb
    simp only[Bool.or_eq_true,beq_iff_eq] at hb
    rcases hb with(rfl|rfl)|rfl<;>revert h1<;>decide
   ·rw[if_neg h1] at h
    by_cases h2:digB b=true
    ·refine⟨?_,fun e=>by subst e;revert h2;decide⟩
     rw[Bool.eq_false_iff]
     intro hb
     unfold Q4 at hb
     simp only[Bool.or_eq_true,beq_iff_eq] at hb
     rcases hb with(rfl|rfl)|rfl<;>revert h2<;>decide
    ·rw[if_neg h2] at h
     by_cases h3:b=34
     ·subst h3;exact⟨by decide,by decide⟩
     ·rw[if_neg h3] at h
      unfold Adk at h
      by_cases hx:(b::t).take 2=[60,61]∨(b::t).take 2=[62,61]∨(b::t).take 2=[46,46]
      ·have hbv:b=60∨b=62∨b=46:=by
        match t,hx with
        |[],hx=>simp at hx
        |c::t,hx=>
         simp only[List.take_succ_cons,List.take_zero,List.cons.injEq] at hx
         rcases hx with h|h|h
         ·exact .inl h.1
         ·exact .inr (.inl h.1)
         ·exact .inr (.inr h.1)
       rcases hbv with rfl|rfl|rfl<;>exact⟨by decide,by decide⟩
      ·simp only[hx,if_false] at h
       by_cases hm:b∈Ip
       ·refine⟨?_,fun e=>by subst e;revert hm;decide⟩
        rw[Bool.eq_false_iff]
        intro hb
        unfold Q4 at hb
        simp only[Bool.or_eq_true,beq_iff_eq] at hb
        rcases hb with(rfl|rfl)|rfl<;>revert hm<;>decide
       ·simp[hm] at h
  rw[A2,if_neg (by simp[hb.1]),if_neg hb.2]
theorem Bpd{t:Ac}{l:List Ac}(hk:okT t=true):A5 (jn (t::l))=((A5 t.Ag).1,t.Ag.length,0):=by
 obtain⟨k,_,h⟩:=Avr hk
 rw[h]
 cases l with
 |nil=>rw[Bd1,h]
 |cons u l=>rw[A4j];exact Bi9 h
def Aza(t:Ac):Int×List UInt8:=(t.Ad,t.Ag)
theorem Bny{l:List Ac}{t:Ac}(h:t∈l):t.Ag.length≤Bch l:=by
 induction l with
 |nil=>cases h
 |cons u l ih=>
  simp only[Bch,List.map_cons,List.sum_cons]
  rcases List.mem_cons.1 h with rfl|h
  ·omega
  ·have:=ih h
   unfold Bch at this
   omega
theorem Ak3.toks{text:List UInt8}: ∀{l:List (Nat×Nat×Nat)} {at_:Nat},Ak3 text at_ l→at_≤text.length→l.length+at_≤text.length∧Bch (l.map (Agk text))+at_≤text.length∧ ∀t∈l.map (Agk text),okT t=true
 |[],at_,_,h=>by simp[Bch];omega
 |x::l,at_,hc,h=>by
  obtain⟨c1,c2,c3,c4⟩:=hc
  obtain⟨n1,n2⟩:=Hu c3
  rw[List.length_drop] at n2
  obtain⟨i1,i2,i3⟩:=Ak3.toks c4 (by omega)
  have htl:(Agk text x).Ag.length=x.2.2:=by
   show((text.drop x.1).take x.2.2).length=_
   rw[List.length_take,List.length_drop];omega
  refine⟨by simp only[List.length_cons];omega,?_,?_⟩
  ·unfold Bch at i2⊢
   simp only[List.map_cons,List.sum_cons,htl]
   omega
  ·intro t ht
   rw[List.map_cons,List.mem_cons] at ht
   rcases ht with rfl|ht
   ·have h3:=Avo (m:=x.2.2) c3 (Nat.le_refl _)
    unfold okT
    refine decide_eq_true ?_
    rw[htl]
    have hT:(Agk text x).Ag=(text.drop x.1).take x.2.2:=rfl
    rw[hT,h3]
    exact⟨rfl,rfl,rfl⟩
   ·exact i3 t ht
theorem Bk5{text:List UInt8}(hl:text.length≤8000){l:List (Nat×Nat×Nat)}(h:Agr text= .inl l):l.length≤text.length∧Bch (l.map (Agk text))≤text.length∧ ∀t∈l.map (Agk text),okT t=true:=by
 have hch:Ak3 text 0 l:=by
  unfold Agr at h
  exact(Au5 _ _ _ _ h).ahead (Nat.zero_le _)
 have:=hch.toks (Nat.zero_le _)
 exact⟨by omega,by omega,this.2.2⟩
theorem Ajw{f:Int→Option (Int⊕Int)}{s:List UInt8}{q:UInt8→Bool}(hl:s.length<4611686018427387904)
  (hin: ∀(i:Nat) (h:i<s.length),f i=some (if q s[i]=true then .inl (IntKind.wrap .i64 ((i:Int)+1)) else .inr (i:Int)))
  (hout:f (s.length:Int)=some (.inr (s.length:Int))): ∀(n i:Nat),s.length-i=n→i≤s.length→A3 f (i:Int)=some ((i+Ai q (s.drop i):Nat):Int):=by
 intro n
 induction n with
 |zero=>
  intro i h1 h2
  have:i=s.length:=by omega
  subst this
  rw[A1 hout];simp[Hv]
 |succ n ih=>
  intro i h1 h2
  have hi:i<s.length:=by omega
  have h:=hin i hi
  rw[List.drop_eq_getElem_cons hi,B1]
  by_cases hq:q s[i]=true
  ·rw[if_pos hq,wrap64 (by omega) (by omega),show(i:Int)+1=((i+1:Nat):Int) from rfl] at h
   rw[B0 h,if_pos hq,ih (i+1) (by omega) (by omega)]
   congr 2;omega
  ·rw[if_neg hq] at h
   rw[A1 h,if_neg hq];rfl
theorem Bsz(b:UInt8):decide ((97:Int)≤(b.toNat:Int)∧(b.toNat:Int)≤122)=Wv b:=decide_eq_decide.2 (by omega)
theorem Bo1(b:UInt8):decide ((48:Int)≤(b.toNat:Int)∧(b.toNat:Int)≤57)=digB b:=decide_eq_decide.2 (by omega)
theorem Ax7(n:Int):Dl n=some (decide (97≤n∧n≤122)):=by simp[Dl]
theorem Aju(n:Int):B7 n=some (decide (48≤n∧n≤57)):=by simp[B7]
theorem Ml{b:UInt8}{n:Nat}(hn:n<256):((b.toNat:Int)==(n:Int))=decide (b=UInt8.ofNat n):=by
 rw[Bool.eq_iff_iff,decide_eq_true_eq,beq_iff_eq,←Ai9 (b:=b) hn]
 omega
theorem Ax6{s:List UInt8}(hl:s.length<4611686018427387904):Cy s=some (Ai digB s:Int):=by
 unfold Cy
 refine Bj (Ajw (q:=digB) hl ?_ ?_ s.length 0 (by omega) (by omega)) (by simp)
 ·intro i hi
  have hd:decide ((i:Int)<(s.length:Int))=true:=decide_eq_true (by omega)
  simp only[hd,Option.bind_some,Ub hi,A8,cond_true,Aju,Bo1,Bool.true_and]
  split<;>rfl
 ·have hd:decide ((s.length:Int)<(s.length:Int))=false:=decide_eq_false (by omega)
  simp only[hd,Option.bind_some,gdO,cond_false,Bool.false_and,Bool.false_eq_true,if_false]
def reT(x:Nat×Nat×Nat):Af:=if x.2.2=0 then⟨(x.1:Int),(x.2.1:Int),0⟩ else⟨0,0,(x.2.2:Int)⟩
theorem Bnn{s:List UInt8}(hl:s.length<4611686018427387904):Ge s=some (reT (0,Lf s)):=by
 unfold Ge
 refine Bj (Ajw (q:=Ajb) hl ?_ ?_ s.length 0 (by omega) (by omega)) ?_
 ·intro i hi
  have hd:decide ((i:Int)<(s.length:Int))=true:=decide_eq_true (by omega)
  have hw:(Wv s[i]||digB s[i]||((s[i].toNat:Int)==95))=Ajb s[i]:=by
   have h95:((s[i].toNat:Int)==95)=decide (s[i].toNat=95):=by
    rw[Bool.eq_iff_iff,decide_eq_true_eq,beq_iff_eq];omega
   rw[h95]
   unfold Wv digB Ajb
   rw[Bool.eq_iff_iff]
   simp
   omega
  simp only[hd,Option.bind_some,Ub hi,A8,cond_true,Ax7,Bsz,Bool.true_and]
  cases h1:Wv s[i] with
  |true=>
   rw[h1] at hw
   simp only[Bool.true_or] at hw
   simp only[gdO,Bool.not_true,cond_false,Option.bind_some,Bool.true_or,if_true,←hw]
  |false=>
   rw[h1] at hw
   simp only[Bool.not_false,cond_true,Aju,Bo1,A8,Option.bind_some,Bool.false_or]
   cases h2:digB s[i] with
   |true=>
    rw[h2] at hw
    simp only[Bool.false_or,Bool.true_or] at hw
    simp only[gdO,Bool.not_true,cond_false,Option.bind_some,Bool.true_or,if_true,←hw]
   |false=>
    rw[h2] at hw
    simp only[Bool.false_or] at hw
    simp only[Bool.not_false,cond_true,Bool.false_or,hw]
    split<;>rfl
 ·have hd:decide ((s.length:Int)<(s.length:Int))=false:=decide_eq_false (by omega)
  simp only[hd,Option.bind_some,gdO,cond_false,Bool.false_and,Bool.false_eq_true,if_false]
 ·simp only[Nat.zero_add,List.drop_zero,Lf]
  by_cases h:32<Ai Ajb s
  ·rw[if_pos (decide_eq_true (by omega)),if_pos h];rfl
  ·rw[if_neg (by simp;omega),if_neg h];rfl
theorem Bng{α:Type}{s:List UInt8}(hl:s.length<4611686018427387904){d:Nat}(hd:d≤s.length)(F:Int→Option α):
  ((some (decide ((IntKind.wrap .i64 ((d:Int)+1))<(s.length:Int)))).bind fun c3=>
 (gdO c3 (byO s (d:Int)) 0).bind fun x4=>
 (some (c3&&(x4==46))).bind fun c5=>
 (gdO c5 (byO s (IntKind.wrap .i64 ((d:Int)+1))) 0).bind fun x6=>
 (gdO c5 (B7 x6) (default:Bool)).bind fun x7=>
 ((if (c5&&x7)=true then
   (slO s (IntKind.wrap .i64 ((d:Int)+1)) (s.length:Int)).bind fun x9=>
   (Cy x9).bind fun x10=>
   some x10
 else
  some 0):Option Int).bind F)=F (Ei (s.drop d):Int):=by
 have e1:IntKind.wrap .i64 ((d:Int)+1)=((d+1:Nat):Int):=by rw[wrap64 (by omega) (by omega)];rfl
 rw[e1]
 by_cases h1:d+1<s.length
 ·have hc:decide (((d+1:Nat):Int)<(s.length:Int))=true:=decide_eq_true (by omega)
  have hdr:s.drop d=s[d]::s[d+1]::s.drop (d+2):=by
   rw[List.drop_eq_getElem_cons (show d<s.length by omega),List.drop_eq_getElem_cons h1]
  have hdr1:s.drop (d+1)=s[d+1]::s.drop (d+2):=List.drop_eq_getElem_cons h1
  have h46:((s[d].toNat:Int)==46)=decide (s[d]=46):=Ml (n:=46) (by omega)
  have hm:Ei (s.drop d)=if s[d]=46 then Ai digB (s[d+1]::s.drop (d+2)) else 0:=by rw[hdr];rfl
  simp only[hc,Option.bind_some,A8,Ub (show d<s.length by omega),cond_true,h46,Bool.true_and]
  rw[hm]
  by_cases h2:s[d]=46
  ·simp only[h2,decide_true,Ub h1,A8,cond_true,Option.bind_some,Aju,Bo1,Bool.true_and,if_true]
   cases h3:digB s[d+1] with
   |true=>
    have hs:=Hm (l:=s) (n:=d+1) (by omega)
    have hr:=Ax6 (s:=s.drop (d+1)) (by rw[List.length_drop];omega)
    simp only[if_true,hs,Option.bind_some,hr]
    rw[hdr1]
   |false=>
    simp only[B1,h3,Bool.false_eq_true,if_false]
    rfl
  ·simp only[h2,decide_false,gdO,cond_false,Bool.false_and,Bool.false_eq_true,if_false,Option.bind_some]
   rfl
 ·have hc:decide (((d+1:Nat):Int)<(s.length:Int))=false:=decide_eq_false (by omega)
  have hm:Ei (s.drop d)=0:=by
   have:=Aoo (s.drop d)
   rw[List.length_drop] at this
   unfold Ei
   split
   ·rename_i b c t he
    have:=congrArg List.length he
    rw[List.length_drop] at this
    simp at this
    omega
   ·rfl
  rw[hm]
  simp only[hc,gdO,cond_false,Bool.false_and,Bool.false_eq_true,if_false,Option.bind_some]
  rfl
theorem Bfg{b:UInt8}{t:List UInt8}(hl:(b::t).length<4611686018427387904):E0 (b::t)=some (reT (1,Ad3 (b::t))):=by
 generalize hs:b::t=s at hl
 have hd:=Dc digB s
 have hm:=Aoo (s.drop (Ai digB s))
 rw[List.length_drop] at hm
 have h0:byO s 0=some (b.toNat:Int):=by rw[←hs];exact Dz
 have hh:s.head?=some b:=by rw[←hs];rfl
 unfold E0
 refine Bj (Ax6 hl) ?_
 refine(Bng hl hd _).trans ?_
 unfold Ad3
 generalize Ai digB s=d at hd hm
 generalize Ei (s.drop d)=m at hm
 have h48:((b.toNat:Int)==48)=decide (b=48):=Ml (n:=48) (by omega)
 simp only[h0,A8,Option.bind_some,hh,Option.some.injEq]
 by_cases c1:15<d
 ·have:decide ((d:Int)>15)=true:=decide_eq_true (by omega)
  simp only[this,Bool.true_or,if_true]
  rw[if_pos (.inl c1)]
  rfl
 ·have e1:decide ((d:Int)>15)=false:=decide_eq_false (by omega)
  by_cases c2:9<m
  ·have:decide ((m:Int)>9)=true:=decide_eq_true (by omega)
   simp only[e1,this,Bool.false_or,Bool.true_or,if_true]
   rw[if_pos (.inr (.inl c2))]
   rfl
  ·have e2:decide ((m:Int)>9)=false:=decide_eq_false (by omega)
   simp only[e1,e2,Bool.or_self,Bool.not_false,Bool.true_and,Bool.false_or]
   by_cases c3:1<d∧b=48
   ·have e3:decide ((d:Int)>1)=true:=decide_eq_true (by omega)
    simp only[e3,cond_true,h48,decide_eq_true c3.2,Bool.and_self,if_true]
    rw[if_pos (.inr (.inr c3))]
    rfl
   ·have e3:(decide ((d:Int)>1)&&((bif decide ((d:Int)>1) then(b.toNat:Int) else 0)==48))=false:=by
     by_cases q:1<d
     ·have e3:decide ((d:Int)>1)=true:=decide_eq_true (by omega)
      simp only[e3,cond_true,h48,Bool.true_and]
      exact decide_eq_false (fun hb=>c3 ⟨q,hb⟩)
     ·have e3:decide ((d:Int)>1)=false:=decide_eq_false (by omega)
      simp only[e3,Bool.false_and]
    have hno: ¬(15<d∨9<m∨1<d∧b=48):=fun h=>h.elim c1 (fun h=>h.elim c2 c3)
    simp only[e3,Bool.false_eq_true,if_false,if_neg hno]
    by_cases c4:0<m
    ·have e4:IntKind.wrap .i64 ((d:Int)+1)=((d+1:Nat):Int):=by rw[wrap64 (by omega) (by omega)];rfl
     have e5:IntKind.wrap .i64 (((d+1:Nat):Int)+(m:Int))=((d+1+m:Nat):Int):=by rw[wrap64 (by omega) (by omega)];omega
     rw[e4,e5,if_pos (decide_eq_true (show(m:Int)>0 by omega)),if_pos c4]
     rfl
    ·rw[if_neg (show ¬(decide ((m:Int)>0)=true) by simp;omega),if_neg c4]
     rfl
theorem Bk8{O:Type}{f:Int→Option (Int⊕O)}{u:List UInt8}{q:UInt8→Bool}{o e:O}(hl:u.length<4611686018427387904)
  (hin: ∀(i:Nat) (h:i<u.length),f i=some (if q u[i]=true then .inl (IntKind.wrap .i64 ((i:Int)+1)) else .inr o))
  (hout:f (u.length:Int)=some (.inr e)): ∀(n i:Nat),u.length-i=n→i≤u.length→A3 f (i:Int)=some (if Ai q (u.drop i)<u.length-i then o else e):=by
 intro n
 induction n with
 |zero=>
  intro i h1 h2
  have:i=u.length:=by omega
  subst this
  rw[A1 hout,if_neg (by omega)]
 |succ n ih=>
  intro i h1 h2
  have hi:i<u.length:=by omega
  have h:=hin i hi
  rw[List.drop_eq_getElem_cons hi,B1]
  by_cases hq:q u[i]=true
  ·rw[if_pos hq,wrap64 (by omega) (by omega),show(i:Int)+1=((i+1:Nat):Int) from rfl] at h
   rw[B0 h,ih (i+1) (by omega) (by omega)]
   simp only[hq,if_true]
   by_cases h3:Ai q (u.drop (i+1))<u.length-(i+1)
   ·rw[if_pos h3,if_pos (by omega)]
   ·rw[if_neg h3,if_neg (by omega)]
  ·rw[if_neg hq] at h
   rw[A1 h,if_neg hq,if_pos (by omega)]
theorem Bfi{b:UInt8}{t:List UInt8}(hl:(b::t).length<4611686018427387904):E1 (b::t)=some (reT (2,Ai0 (b::t))):=by
 have hn:=Dc Cd t
 have hlt:(b::t).length=t.length+1:=rfl
 unfold E1
 refine Bj (Ajw (q:=Cd) hl ?_ ?_ t.length 1 (by simp) (by simp)) ?_
 ·intro i hi
  have hd:decide ((i:Int)<((b::t).length:Int))=true:=decide_eq_true (by omega)
  have hq:(((b::t)[i].toNat:Int)!=34)=Cd (b::t)[i]:=by
   have:=Ml (b:=(b::t)[i]) (n:=34) (by omega)
   unfold Cd
   rw[show(((b::t)[i].toNat:Int)!=34)= !(((b::t)[i].toNat:Int)==((34:Nat):Int)) from rfl,this]
   rw[Bool.eq_iff_iff]
   simp
  simp only[hd,Option.bind_some,Ub hi,A8,cond_true,Bool.true_and,hq]
  split<;>rfl
 ·have hd:decide (((b::t).length:Int)<((b::t).length:Int))=false:=decide_eq_false (by omega)
  simp only[hd,Option.bind_some,gdO,cond_false,Bool.false_and,Bool.false_eq_true,if_false]
 ·simp only[List.drop_succ_cons,List.drop_zero,Ai0]
  by_cases c1:Ai Cd t=t.length
  ·have:(((1+Ai Cd t:Nat):Int)==((b::t).length:Int))=true:=by rw[beq_iff_eq,hlt];omega
   rw[if_pos this,if_pos c1]
   rfl
  ·have:(((1+Ai Cd t:Nat):Int)==((b::t).length:Int))=false:=by rw[beq_eq_false_iff_ne,hlt];omega
   simp only[this,Bool.false_eq_true,if_false,c1]
   have hu:((b::t).take (1+Ai Cd t)).length=1+Ai Cd t:=by rw[List.length_take,hlt];omega
   have hu2:((b::t).take (1+Ai Cd t)).drop 1=t.take (Ai Cd t):=by
    rw[Nat.add_comm 1];rfl
   refine Bj (Bk8 (u:=(b::t).take (1+Ai Cd t)) (q:=prB) (o:=(.inr (⟨0,0,3⟩:Af):Unit⊕Af)) (e:= .inl ()) (by rw[hu];omega) ?_ ?_ (Ai Cd t) 1 (by rw[hu];omega) (by rw[hu];omega)) ?_
   ·intro i hi
    have hi2:i<(b::t).length:=by rw[hu] at hi;rw[hlt];omega
    have hd:decide ((i:Int)<((1+Ai Cd t:Nat):Int))=true:=decide_eq_true (by rw[hu] at hi;omega)
    have hg:((b::t).take (1+Ai Cd t))[i]=(b::t)[i]:=by simp
    rw[hg]
    generalize hx:(b::t)[i]=x
    have hb:byO (b::t) (i:Int)=some (x.toNat:Int):=by rw[Ub hi2,hx]
    simp only[hd,if_true,hb,Option.bind_some,A8]
    have hp:(decide ((x.toNat:Int)<32)||decide ((bif !decide ((x.toNat:Int)<32) then(x.toNat:Int) else 0)>126))= !prB x:=by
     by_cases h1:(x.toNat:Int)<32
     ·simp only[h1,decide_true,Bool.true_or]
      unfold prB
      rw[decide_eq_false (by omega)]
      rfl
     ·simp only[h1,decide_false,Bool.false_or,Bool.not_false,cond_true]
      unfold prB
      rw[Bool.eq_iff_iff]
      simp
      omega
    rw[hp]
    cases prB x<;>rfl
   ·rw[hu]
    have hd:decide (((1+Ai Cd t:Nat):Int)<((1+Ai Cd t:Nat):Int))=false:=decide_eq_false (by omega)
    simp only[hd,Bool.false_eq_true,if_false]
   ·rw[hu,hu2,Nat.add_sub_cancel_left]
    have e1:IntKind.wrap .i64 (((1+Ai Cd t:Nat):Int)+1)=((Ai Cd t+2:Nat):Int):=by rw[wrap64 (by omega) (by omega)];omega
    by_cases c3:Ai prB (t.take (Ai Cd t))<Ai Cd t
    ·rw[if_pos c3,if_pos (show 32<Ai Cd t∨Ai prB (t.take (Ai Cd t))<Ai Cd t from .inr c3)]
     rfl
    ·rw[if_neg c3]
     simp only[e1]
     by_cases c2:32<Ai Cd t
     ·rw[if_pos (decide_eq_true (by omega)),if_pos (show 32<Ai Cd t∨Ai prB (t.take (Ai Cd t))<Ai Cd t from .inl c2)]
      rfl
     ·rw[if_neg (by simp only[decide_eq_true_eq];omega),if_neg (show ¬(32<Ai Cd t∨Ai prB (t.take (Ai Cd t))<Ai Cd t) from fun h=>h.elim c2 c3)]
      rfl
theorem Bnk{b:UInt8}{t:List UInt8}(hl:(b::t).length<4611686018427387904):Gd (b::t)=some (reT (3,Adk (b::t))):=by
 have tail:(((A3 (fun(qj8:Int)=>match qj8 with
   |i9=>(
    if (decide (i9<([123,125,40,41,91,93,59,58,44,37,61,60,62,43,45,42,47].length:Int)))=true then
     (byO [123,125,40,41,91,93,59,58,44,37,61,60,62,43,45,42,47] i9).bind fun x10=>
     (byO (b::t) 0).bind fun x11=>
     if (x10==x11)=true then
      some (.inr (.inr (⟨3,1,0⟩:Af)))
     else
      some (.inl (IntKind.wrap .i64 (i9+1)))
    else
     some (.inr (.inl ())):Option (Int⊕(Unit⊕Af)))) 0):Option (Unit⊕Af)))=some (if b∈Ip then .inr ⟨3,1,0⟩ else .inl ()):=by
  rw[Lk (l:=Ip) (fun c=>c==b) (o:= .inr (⟨3,1,0⟩:Af)) (e:= .inl ()) (by decide)]
  ·have:Ip.any (fun c=>c==b)=true↔b∈Ip:=by
    simp only[List.any_eq_true,beq_iff_eq]
    exact⟨fun⟨x,h1,h2⟩=>h2▸h1,fun h=>⟨b,h,rfl⟩⟩
   by_cases h:b∈Ip
   ·rw[if_pos (this.2 h),if_pos h]
   ·rw[if_neg (mt this.1 h),if_neg h]
  ·intro i hi
   show(if decide ((i:Int)<(Ip.length:Int))=true then(byO Ip (i:Int)).bind _ else _)=_
   rw[if_pos (decide_eq_true (by omega)),Ub hi]
   simp only[Option.bind_some,Dz]
   have:((Ip[i].toNat:Int)==(b.toNat:Int))=(Ip[i]==b):=by
    rw[Bool.eq_iff_iff,beq_iff_eq,beq_iff_eq,←UInt8.toNat_inj];omega
   rw[this]
   split<;>rfl
  ·intro i hi
   show(if decide ((i:Int)<(Ip.length:Int))=true then _ else _)=_
   rw[if_neg (by simp only[decide_eq_true_eq];omega)]
 have fin: ∀x:Unit⊕Af,x=(if b∈Ip then .inr ⟨3,1,0⟩ else .inl ())→(match x with
  | .inr o=>some o
  | .inl _=>some (⟨0,0,14⟩:Af))=some (reT (3,if b∈Ip then(1,0) else(0,14))):=by
  rintro x rfl
  by_cases h:b∈Ip
  ·rw[if_pos h,if_pos h];rfl
  ·rw[if_neg h,if_neg h];rfl
 unfold Gd Adk
 cases t with
 |nil=>
  have e:decide ((([b]:List UInt8).length:Int)>1)=false:=by simp
  have h1: ¬([b].take 2=([60,61]:List UInt8)∨[b].take 2=[62,61]∨[b].take 2=[46,46]):=by simp
  rw[if_neg h1]
  simp only[e,Option.bind_some,gdO,Bool.false_and,Bool.false_eq_true,if_false]
  exact Bj tail (fin _ rfl)
 |cons c t=>
  have e:decide (((b::c::t).length:Int)>1)=true:=decide_eq_true (by simp;omega)
  have h2:=Zk (l:=b::c::t) (n:=2) (by simp)
  rw[show((2:Nat):Int)=2 from rfl,show(b::c::t).take 2=[b,c] from rfl] at h2
  rw[show(b::c::t).take 2=[b,c] from rfl]
  simp only[e,h2,A8,Option.bind_some,cond_true,Bool.true_and]
  by_cases p1:[b,c]=([60,61]:List UInt8)
  ·have e1:([b,c]==([60,61]:List UInt8))=true:=by rw[beq_iff_eq];exact p1
   simp only[e1,Bool.true_or,if_true]
   rw[if_pos (.inl p1)]
   rfl
  ·have e1:([b,c]==([60,61]:List UInt8))=false:=by rw[beq_eq_false_iff_ne];exact p1
   simp only[e1,Bool.false_or,Bool.not_false,cond_true]
   by_cases p2:[b,c]=([62,61]:List UInt8)
   ·have e2:([b,c]==([62,61]:List UInt8))=true:=by rw[beq_iff_eq];exact p2
    simp only[e2,Bool.true_or,if_true]
    rw[if_pos (.inr (.inl p2))]
    rfl
   ·have e2:([b,c]==([62,61]:List UInt8))=false:=by rw[beq_eq_false_iff_ne];exact p2
    simp only[e2,Bool.false_or,Bool.not_false,cond_true]
    by_cases p3:[b,c]=([46,46]:List UInt8)
    ·have e3:([b,c]==([46,46]:List UInt8))=true:=by rw[beq_iff_eq];exact p3
     simp only[e3,if_true]
     rw[if_pos (.inr (.inr p3))]
     rfl
    ·have e3:([b,c]==([46,46]:List UInt8))=false:=by rw[beq_eq_false_iff_ne];exact p3
     simp only[e3,Bool.false_eq_true,if_false]
     rw[if_neg (fun h=>h.elim p1 (fun h=>h.elim p2 p3))]
     exact Bj tail (fin _ rfl)
theorem Bnh{b:UInt8}{t:List UInt8}(hl:(b::t).length<4611686018427387904):Eg (b::t)=some (reT (A5 (b::t))):=by
 have hn:A5 (b::t)=if Wv b=true then(0,Lf (b::t)) else if digB b=true then(1,Ad3 (b::t)) else if b=34 then(2,Ai0 (b::t)) else(3,Adk (b::t)):=rfl
 unfold Eg
 rw[hn]
 have hQ:((b.toNat:Int)==34)=decide (b=34):=Ml (n:=34) (by omega)
 simp only[Dz,Option.bind_some,Ax7,Bsz,Aju,Bo1,hQ,Bnn hl,Bfg hl,Bfi hl,Bnk hl]
 by_cases h1:Wv b=true
 ·rw[if_pos h1,if_pos h1]
 ·rw[if_neg h1,if_neg h1]
  by_cases h2:digB b=true
  ·rw[if_pos h2,if_pos h2]
  ·rw[if_neg h2,if_neg h2]
   by_cases h3:b=34
   ·rw[if_pos (decide_eq_true h3),if_pos h3]
   ·rw[if_neg (by simp only[decide_eq_true_eq];exact h3),if_neg h3]
def Amh(b:UInt8):Bool:=b !=10
theorem A3f: ∀t:List UInt8,A2 true t=Ai Amh t+A2 false (t.drop (Ai Amh t))
 |[]=>by simp[A2,Hv]
 |b::t=>by
  have ih:=A3f t
  rw[A2,B1]
  by_cases hb:b=10
  ·subst hb
   have:Amh 10=false:=rfl
   rw[if_pos rfl,this]
   simp only[Bool.false_eq_true,if_false,List.drop_zero,Nat.zero_add]
   rfl
  ·have h2:Amh b=true:=by unfold Amh;simpa using hb
   rw[if_neg hb,ih,if_pos h2,List.drop_succ_cons]
   omega
theorem Ald{S O O':Type}{F:S→Option (S⊕O)}{F':S→Option (S⊕O')}{g:O→O'}(h: ∀s,F' s=(F s).map fun r=>match r with| .inl a=> .inl a| .inr o=> .inr (g o)){o:O}: ∀(n:Nat) (s:S),My F n s=some o→My F' n s=some (g o)
 |0,s,hn=>by cases hn
 |n+1,s,hn=>by
  rw[My] at hn⊢
  rw[h s]
  cases hf:F s with
  |none=>rw[hf] at hn;cases hn
  |some r=>
   rw[hf] at hn
   cases r with
   |inl a=>exact Ald h n a hn
   |inr o'=>cases hn;rfl
theorem Azh{S O O':Type}{F:S→Option (S⊕O)}{F':S→Option (S⊕O')}{g:O→O'}(h: ∀s,F' s=(F s).map fun r=>match r with| .inl a=> .inl a| .inr o=> .inr (g o)){s:S}{o:O}(hl:A3 F s=some o):A3 F' s=some (g o):=by
 obtain⟨n,hn⟩:=Qu.1 hl
 exact Qu.2 ⟨n,Ald h n s hn⟩
theorem Bbs{s:List UInt8}(hl:s.length<4611686018427387904): ∀(n i:Nat),s.length-i≤n→i≤s.length→ ∃o:Int⊕Int,
  (A3 (fun(qj2:Int)=>match qj2 with
  |n3=>(
   if (decide (n3<(s.length:Int)))=true then
    (byO s n3).bind fun x4=>
    if (x4==35)=true then
     A3 (fun(qj5:Int)=>match qj5 with
      |n6=>(
       (some (decide (n6<(s.length:Int)))).bind fun c7=>
       (gdO c7 (byO s n6) 0).bind fun x8=>
       if (c7&&(x8 !=10))=true then
        some (.inl (IntKind.wrap .i64 (n6+1)))
       else
        some (.inr (.inl n6)):Option (Int⊕(Int⊕(Int⊕Int))))) n3
    else
     (byO s n3).bind fun x10=>
     (some (x10==32)).bind fun c11=>
     (gdO (!c11) (byO s n3) 0).bind fun x12=>
     (some (c11||(x12==9))).bind fun c13=>
     (gdO (!c13) (byO s n3) 0).bind fun x14=>
     if (c13||(x14==10))=true then
      some (.inl (IntKind.wrap .i64 (n3+1)))
     else
      some (.inr (.inr n3))
   else
    some (.inr (.inl n3)):Option (Int⊕(Int⊕Int)))) (i:Int):Option (Int⊕Int))=some o∧(match o with| .inr o=>some o| .inl n=>some n)=some ((i+A2 false (s.drop i):Nat):Int):=by
 intro n
 induction n with
 |zero=>
  intro i h1 h2
  have:i=s.length:=by omega
  subst this
  refine⟨.inl (s.length:Int),?_,by simp[A2]⟩
  rw[A1]
  have hd:decide ((s.length:Int)<(s.length:Int))=false:=decide_eq_false (by omega)
  simp only[hd,Bool.false_eq_true,if_false]
 |succ n ih=>
  intro i h1 h2
  by_cases he:i=s.length
  ·exact ih i (by omega) h2
  have hi:i<s.length:=by omega
  have hd:decide ((i:Int)<(s.length:Int))=true:=decide_eq_true (by omega)
  have hdr:=List.drop_eq_getElem_cons hi
  have hb:=Ub hi
  rw[hdr]
  generalize s[i]=b at hb hdr
  have h35:((b.toNat:Int)==35)=decide (b=35):=Ml (n:=35) (by omega)
  have h32:((b.toNat:Int)==32)=decide (b=32):=Ml (n:=32) (by omega)
  have h9:((b.toNat:Int)==9)=decide (b=9):=Ml (n:=9) (by omega)
  have h10:((b.toNat:Int)==10)=decide (b=10):=Ml (n:=10) (by omega)
  have hw:IntKind.wrap .i64 ((i:Int)+1)=((i+1:Nat):Int):=by rw[wrap64 (by omega) (by omega)];rfl
  by_cases p1:b=35
  ·have hin:=Ajw (s:=s) (q:=Amh) (f:=fun(qj5:Int)=>match qj5 with
      |n6=>(
       (some (decide (n6<(s.length:Int)))).bind fun c7=>
       (gdO c7 (byO s n6) 0).bind fun x8=>
       if (c7&&(x8 !=10))=true then
        some (.inl (IntKind.wrap .i64 (n6+1)))
       else
        some (.inr n6):Option (Int⊕Int))) hl (by
     intro k hk
     have hd:decide ((k:Int)<(s.length:Int))=true:=decide_eq_true (by omega)
     have hq:((s[k].toNat:Int)!=10)=Amh s[k]:=by
      rw[show((s[k].toNat:Int)!=10)= !((s[k].toNat:Int)==((10:Nat):Int)) from rfl,Ml (n:=10) (by omega)]
      unfold Amh
      rw[Bool.eq_iff_iff]
      simp
     simp only[hd,Option.bind_some,Ub hk,A8,cond_true,Bool.true_and,hq]
     split<;>rfl) (by
     have hd:decide ((s.length:Int)<(s.length:Int))=false:=decide_eq_false (by omega)
     simp only[hd,Option.bind_some,gdO,cond_false,Bool.false_and,Bool.false_eq_true,if_false]) (s.length-i) i rfl h2
   have hsp:Ai Amh (s.drop i)=Ai Amh (s.drop (i+1))+1:=by
    rw[hdr,B1,if_pos (by subst p1;rfl)]
   have hle:=Dc Amh (s.drop i)
   rw[List.length_drop] at hle
   obtain⟨o,e1,e2⟩:=ih (i+Ai Amh (s.drop i)) (by omega) (by omega)
   refine⟨o,?_,?_⟩
   ·rw[B0 (s':=((i+Ai Amh (s.drop i):Nat):Int))]
    ·exact e1
    ·simp only[hd,if_true,hb,Option.bind_some,h35,p1,decide_true]
     exact Azh (fun n=>(by simp only[Option.bind_some];cases gdO (decide (n<(s.length:Int))) (byO s n) 0 with|none=>rfl|some x=>(simp only[Option.bind_some];split<;>rfl))) hin
   ·rw[e2]
    have:A2 false (b::s.drop (i+1))=1+A2 true (s.drop (i+1)):=by subst p1;rfl
    rw[this,A3f,hsp,List.drop_drop,show i+(Ai Amh (s.drop (i+1))+1)=i+1+Ai Amh (s.drop (i+1)) by omega]
    congr 2
    omega
  ·have e35:decide (b=35)=false:=decide_eq_false p1
   by_cases p2:Q4 b=true
   ·obtain⟨o,e1,e2⟩:=ih (i+1) (by omega) (by omega)
    refine⟨o,?_,?_⟩
    ·rw[B0 (s':=((i+1:Nat):Int))]
     ·exact e1
     ·simp only[hd,if_true,hb,Option.bind_some,h35,e35,Bool.false_eq_true,if_false,A8,h32,h9,h10,hw]
      rw[if_pos]
      unfold Q4 at p2
      have q1:(b==32)=decide (b=32):=rfl
      have q2:(b==9)=decide (b=9):=rfl
      have q3:(b==10)=decide (b=10):=rfl
      rw[q1,q2,q3] at p2
      cases c1:decide (b=32) with
      |true=>rfl
      |false=>
       rw[c1] at p2
       simp only[Bool.not_false,cond_true,h9,Bool.false_or] at p2⊢
       cases c2:decide (b=9) with
       |true=>rfl
       |false=>
        rw[c2] at p2
        simpa only[Bool.not_false,cond_true,h10,Bool.false_or] using p2
    ·rw[e2]
     have:A2 false (b::s.drop (i+1))=1+A2 false (s.drop (i+1)):=by rw[A2,if_pos p2]
     rw[this]
     congr 2
     omega
   ·refine⟨.inr (i:Int),?_,?_⟩
    ·rw[A1]
     simp only[hd,if_true,hb,Option.bind_some,h35,e35,Bool.false_eq_true,if_false,A8,h32,hw]
     have q1:b≠32:=fun h=>p2 (by subst h;rfl)
     have q2:b≠9:=fun h=>p2 (by subst h;rfl)
     have q3:b≠10:=fun h=>p2 (by subst h;rfl)
     rw[if_neg]
     simp only[decide_eq_false q1,Bool.not_false,cond_true,h9,h10,decide_eq_false q2,decide_eq_false q3,Bool.or_self]
     simp
    ·have:A2 false (b::s.drop (i+1))=0:=by rw[A2,if_neg p2,if_neg p1]
     rw[this]
     rfl
theorem A27{s:List UInt8}(hl:s.length<4611686018427387904):C3 s=some (A2 false s:Int):=by
 obtain⟨o,h1,h2⟩:=Bbs hl s.length 0 (by omega) (by omega)
 unfold C3
 refine Bj h1 ?_
 rw[List.drop_zero,Nat.zero_add] at h2
 rw[←h2]
 cases o<;>rfl
theorem Bpo:plS []=(1,1):=by decide +kernel
theorem Bm3(u:List UInt8)(b:UInt8):plS (u++[b])=if b=10 then((plS u).1+1,1) else((plS u).1,(plS u).2+1):=by
 have hlen:(u++[b]).length=u.length+1:=by simp
 have hge: ∀j,j<u.length→(u++[b])[j]? =u[j]? :=fun j hj=>List.getElem?_append_left hj
 have hlast:(u++[b])[u.length]? =some b:=by simp
 have out: ∀j,u.length<j→(u++[b])[j]? =none:=fun j hj=>List.getElem?_eq_none_iff.2 (by omega)
 by_cases hb:b=10
 ·subst hb
  rw[if_pos rfl]
  have hc:(u++[10]).count 10=u.count 10+1:=by simp
  have hi:Lib.lastIndexByte ⟨(u++[10]).toArray⟩ 10=(u.length:Int):=by
   rcases Lh (u++[10]) with⟨_,n1⟩|⟨i,i1,i2,i3,i4⟩
   ·exact absurd (by simp) n1
   ·rw[i2]
    by_cases h:i<u.length
    ·exact absurd hlast (i4 u.length h)
    ·congr 1;omega
  unfold plS
  rw[hc,hi,hlen]
  simp only[Prod.mk.injEq]
  constructor<;>omega
 ·rw[if_neg hb]
  have hc:(u++[b]).count 10=u.count 10:=by
   rw[List.count_append,List.count_singleton]
   simp[hb]
  have hi:Lib.lastIndexByte ⟨(u++[b]).toArray⟩ 10=Lib.lastIndexByte ⟨u.toArray⟩ 10:=by
   rcases Lh u with⟨e1,n1⟩|⟨i,i1,i2,i3,i4⟩
   ·rcases Lh (u++[b]) with⟨e2,n2⟩|⟨j,j1,j2,j3,j4⟩
    ·rw[e1,e2]
    ·exfalso
     have:=List.mem_of_getElem? j3
     rw[List.mem_append,List.mem_singleton] at this
     exact this.elim n1 (fun h=>hb h.symm)
   ·rcases Lh (u++[b]) with⟨e2,n2⟩|⟨j,j1,j2,j3,j4⟩
    ·exfalso
     exact n2 (List.mem_append.2 (.inl (List.mem_of_getElem? i3)))
    ·rw[i2,j2]
     have hj:j<u.length:=by
      by_cases h:j<u.length
      ·exact h
      ·exfalso
       have:j=u.length:=by omega
       subst this
       rw[hlast] at j3
       exact hb (Option.some.inj j3)
     rw[hge j hj] at j3
     by_cases h1:i<j
     ·exact absurd j3 (i4 j h1)
     ·by_cases h2:j<i
      ·have:=j4 i h2
       rw[hge i i1] at this
       exact absurd i3 this
      ·congr 1;omega
  unfold plS
  rw[hc,hi,hlen]
  generalize Lib.lastIndexByte ⟨u.toArray⟩ 10=x
  simp only[Prod.mk.injEq,true_and]
  omega
theorem Bjd(u:List UInt8):1≤(plS u).1∧(plS u).1≤(u.length:Int)+1∧1≤(plS u).2∧(plS u).2≤(u.length:Int)+1:=by
 have hr: -1≤Lib.lastIndexByte ⟨u.toArray⟩ 10∧Lib.lastIndexByte ⟨u.toArray⟩ 10<u.length:=by
  rcases Lh u with⟨h,_⟩|⟨i,h1,h2,_⟩<;>omega
 have hc:u.count 10≤u.length:=List.count_le_length
 have e1:(plS u).1=(u.count 10:Int)+1:=rfl
 have e2:(plS u).2=(u.length:Int)-Lib.lastIndexByte ⟨u.toArray⟩ 10:=rfl
 rw[e1,e2]
 generalize Lib.lastIndexByte ⟨u.toArray⟩ 10=x at hr
 refine⟨by omega,by omega,by omega,by omega⟩
theorem Bbr{s:List UInt8}(hl:s.length<4611686018427387904){a:Nat}(ha:a≤s.length): ∀(n i:Nat),a-i=n→i≤a→
  A3 (fun(qj3:Int×Int×Int)=>match qj3 with
  |(line4,col5,i6)=>(
   if (decide (i6<(a:Int)))=true then
    (byO s i6).bind fun x7=>
    ((if (x7==10)=true then
      some (IntKind.wrap .i64 (line4+1),1)
    else
     some (line4,IntKind.wrap .i64 (col5+1))):Option (Int×Int)).bind fun(line9,col10)=>
    some (.inl (line9,col10,IntKind.wrap .i64 (i6+1)))
   else
    some (.inr (line4,col5)):Option ((Int×Int×Int)⊕(Int×Int)))) ((plS (s.take i)).1,(plS (s.take i)).2,(i:Int))=some (plS (s.take a)):=by
 intro n
 induction n with
 |zero=>
  intro i h1 h2
  have:i=a:=by omega
  subst this
  rw[A1]
  have hd:decide ((i:Int)<(i:Int))=false:=decide_eq_false (by omega)
  simp only[hd,Bool.false_eq_true,if_false]
 |succ n ih=>
  intro i h1 h2
  have hi:i<s.length:=by omega
  have hd:decide ((i:Int)<(a:Int))=true:=decide_eq_true (by omega)
  have hw:IntKind.wrap .i64 ((i:Int)+1)=((i+1:Nat):Int):=by rw[wrap64 (by omega) (by omega)];rfl
  have hr:=Bjd (s.take i)
  have hlt:(s.take i).length=i:=by rw[List.length_take];omega
  rw[hlt] at hr
  have htk:s.take (i+1)=s.take i++[s[i]]:=by rw[List.take_append_getElem hi]
  have h10:((s[i].toNat:Int)==10)=decide (s[i]=10):=Ml (n:=10) (by omega)
  have e1:IntKind.wrap .i64 ((plS (s.take i)).1+1)=(plS (s.take i)).1+1:=wrap64 (by omega) (by omega)
  have e2:IntKind.wrap .i64 ((plS (s.take i)).2+1)=(plS (s.take i)).2+1:=wrap64 (by omega) (by omega)
  rw[B0,ih (i+1) (by omega) (by omega)]
  simp only[hd,if_true,Ub hi,Option.bind_some,hw,h10,e1,e2]
  rw[htk,Bm3]
  by_cases p:s[i]=10
  ·rw[if_pos (decide_eq_true p),if_pos p]
   rfl
  ·rw[if_neg (by simp only[decide_eq_true_eq];exact p),if_neg p]
   rfl
theorem Bjo{s:List UInt8}(hl:s.length<4611686018427387904){a:Nat}(ha:a≤s.length):D0 s (a:Int)=some (plS (s.take a)):=by
 have:=Bbr hl ha a 0 (by omega) (by omega)
 rw[List.take_zero,Bpo] at this
 unfold D0
 exact Bj this rfl
def Sz(r:Rs (List Nd))(n:Nat):Prop:= ∀a,r.1=some a→a.length+r.2.length≤n
theorem Bhk{N:Nat}(hr: ∀ts' k,ts'.length<N→Sz (CL ts' k) ts'.length)(n:Nat): ∀(f:Nat) (out:List Nd) (own:Nat) (ts:List Tk),ts.length≤N→ ∀x j,Cc CL n f out own ts=(some x,j)→x.1.length+j.length≤out.length+ts.length
 |f,out,own,[],_,x,j,h=>by
  have:Cc CL n f out own []=(some (out,own),[]):=by cases f<;>rfl
  rw[this] at h;cases h;exact Nat.le_refl _
 |0,out,own,t::r,_,x,j,h=>by
  rw[Cc] at h;cases h;exact Nat.le_refl _
 |f+1,out,own,t::r,hN,x,j,h=>by
  simp only[List.length_cons] at hN⊢
  by_cases hs:(Br t).2=0∨(Br t).2<n∨own<Km (Br t).2
  ·rw[Ew hs] at h;cases h;exact Nat.le_refl _
  ·rw[Ju hs] at h
   have hl:=(Gb r ((Br t).2+1)).length_le
   have hz:=hr r ((Br t).2+1) (by omega)
   cases hc:CL r ((Br t).2+1) with
   |mk o i=>
    rw[hc] at h hl hz
    cases o with
    |none=>cases h
    |some b=>
     have h1:=hz b rfl
     simp only at hl h1
     have:=Bhk hr n f _ _ i (by omega) x j h
     simp at this
     omega
theorem Fo{s:By}{ts:List Tk}(h:isT s ts=true): ∃t r,ts=t::r∧t.Ad≠2∧t.Ag=s:=by
 cases ts with
 |nil=>cases h
 |cons t r=>exact⟨t,r,rfl,of_decide_eq_true h⟩
theorem G7{α β:Type}{r:Rs α}{k:α→List Tk→Rs β}{b:β}{j:List Tk}(h:bnd r k=(some b,j)): ∃a i,r=(some a,i)∧k a i=(some b,j):=by
 obtain⟨o,i⟩:=r
 cases o with
 |none=>cases h
 |some a=>exact⟨a,i,rfl,h⟩
theorem Qz{β:Type}{s:By}{ts:List Tk}{k:List Tk→Rs β}{b:β}{j:List Tk}(h:H4 s ts k=(some b,j)): ∃t r,ts=t::r∧t.Ad≠2∧t.Ag=s∧k r=(some b,j):=by
 unfold H4 at h
 split at h
 ·obtain⟨t,r,rfl,h1,h2⟩:=Fo (by assumption)
  exact⟨t,r,rfl,h1,h2,h⟩
 ·cases h
theorem Bsp: ∀(N:Nat) (ts:List Tk) (n:Nat),ts.length≤N→Sz (CL ts n) ts.length:=by
 intro N
 induction N with
 |zero=>
  intro ts n h
  obtain rfl:ts=[]:=List.eq_nil_of_length_eq_zero (by omega)
  rw[Bra]
  intro a ha;cases ha
 |succ N ih=>
  intro ts n hN
  have hp: ∀a i,Db CL ts=(some a,i)→a.length+i.length≤ts.length:=by
   intro a i h
   cases ts with
   |nil=>cases h
   |cons t r=>
    simp only[List.length_cons] at hN⊢
    unfold Db at h
    simp only at h
    split at h
    ·obtain⟨a1,i1,h1,h2⟩:=G7 h
     obtain⟨t1,r1,rfl,_,_,h3⟩:=Qz h2
     cases h3
     have:=ih r 0 (by omega) _ (by rw[h1])
     rw[h1] at this
     simp at this
     omega
    ·split at h
     ·obtain⟨t1,r1,rfl,_,_,h3⟩:=Qz h
      obtain⟨a1,i1,h1,h2⟩:=G7 h3
      obtain⟨t2,r2,rfl,_,_,h4⟩:=Qz h2
      obtain⟨a2,i2,h5,h6⟩:=G7 h4
      obtain⟨t3,r3,rfl,_,_,h7⟩:=Qz h6
      cases h7
      simp only[List.length_cons] at hN⊢
      have e1:=ih r1 0 (by omega) _ (by rw[h1])
      rw[h1] at e1
      simp at e1
      have e2:=ih r2 0 (by omega) _ (by rw[h5])
      rw[h5] at e2
      simp at e2⊢
      omega
     ·split at h
      ·split at h
       ·obtain⟨t1,r1,rfl,_,_⟩:=Fo (by assumption)
        cases h;simp;omega
       ·cases h;simp;omega
      ·split at h
       ·cases h;simp;omega
       ·cases h
  have hf: ∀x i,Cb CL ts n=(some x,i)→x.1.length+i.length≤ts.length:=by
   intro x i h
   unfold Cb at h
   split at h
   ·obtain⟨t,r,rfl,_,_⟩:=Fo (And.right (by assumption))
    obtain⟨a1,i1,h1,h2⟩:=G7 h
    obtain⟨t1,r1,rfl,_,_,h3⟩:=Qz h2
    obtain⟨a2,i2,h4,h5⟩:=G7 h3
    obtain⟨t2,r2,rfl,_,_,h6⟩:=Qz h5
    obtain⟨a3,i3,h7,h8⟩:=G7 h6
    cases h8
    simp only[List.length_cons,List.tail_cons] at*
    have e1:=ih r 0 (by omega) _ (by rw[h1])
    rw[h1] at e1
    simp at e1
    have e2:=ih r1 0 (by omega) _ (by rw[h4])
    rw[h4] at e2
    simp at e2
    have e3:=ih r2 0 (by omega) _ (by rw[h7])
    rw[h7] at e3
    simp at e3⊢
    omega
   ·split at h
    ·obtain⟨t,r,rfl,_,_⟩:=Fo (And.right (by assumption))
     obtain⟨a1,i1,h1,h2⟩:=G7 h
     cases h2
     simp only[List.length_cons,List.tail_cons] at*
     have e1:=ih r 3 (by omega) _ (by rw[h1])
     rw[h1] at e1
     simp at e1⊢
     omega
    ·split at h
     ·obtain⟨t,r,rfl,_,_⟩:=Fo (by assumption)
      obtain⟨a1,i1,h1,h2⟩:=G7 h
      cases h2
      simp only[List.length_cons,List.tail_cons] at*
      have e1:=ih r 7 (by omega) _ (by rw[h1])
      rw[h1] at e1
      simp at e1⊢
      omega
     ·obtain⟨a1,i1,h1,h2⟩:=G7 h
      cases h2
      exact hp _ _ h1
  rw[Q1]
  intro a ha
  generalize hr:bnd (Cb CL ts n) (fun x i=>bnd (Cc CL n i.length x.1 x.2 i) fun y j=>(some y.1,j))=res at ha
  obtain⟨o,j⟩:=res
  cases ha
  obtain⟨x,i,h1,h2⟩:=G7 hr
  obtain⟨y,j',h3,h4⟩:=G7 h2
  cases h4
  have e1:=hf x i h1
  have hlt:=Bls ts n (by rw[h1];simp)
  rw[h1] at hlt
  have e2:=Bhk (N:=N) (fun ts' k hk=>ih ts' k (by omega)) n i.length x.1 x.2 i (by simp at hlt;omega) y j h3
  simp only at e1 e2⊢
  omega
theorem Ij{ts i:List Tk}{n:Nat}{a:List Nd}(h:CL ts n=(some a,i)):a.length+i.length≤ts.length:=by
 have:=Bsp ts.length ts n (Nat.le_refl _) a (by rw[h])
 rw[h] at this
 exact this
def ps(l ts:List Tk):Int:=((l.length-ts.length:Nat):Int)
def RD(l ts:List Tk)(b:Bool):Ab:=⟨l,ps l ts,b⟩
theorem Bnq{l ts:List Tk}(h:ts <:+ l):l.drop (l.length-ts.length)=ts:=by
 obtain⟨p,rfl⟩:=h
 simp
theorem Ax5{l r:List Tk}{t:Tk}(h:t::r <:+ l):rdO l (ps l (t::r))=some t:=by
 have hd:=Bnq h
 have hle:=h.length_le
 unfold ps
 have hi:l.length-(t::r).length<l.length:=by simp at hle⊢;omega
 rw[Fv hi]
 have:=List.drop_eq_getElem_cons hi
 rw[hd] at this
 exact congrArg some (List.cons.inj this).1.symm
theorem A26{l ts:List Tk}(h:ts <:+ l):decide (ps l ts<(l.length:Int))= !ts.isEmpty:=by
 have hle:=h.length_le
 unfold ps
 cases ts with
 |nil=>simp
 |cons t r=>
  simp only[List.length_cons] at hle⊢
  simp
  omega
theorem Bq5{l ts:List Tk}(h:ts <:+ l):decide (ps l ts≥(l.length:Int))=ts.isEmpty:=by
 have:=A26 h
 cases ts with
 |nil=>
  simp only[List.isEmpty_nil,Bool.not_true,decide_eq_false_iff_not] at this
  simp only[List.isEmpty_nil,decide_eq_true_eq]
  omega
 |cons t r=>
  simp only[List.isEmpty_cons,Bool.not_false,decide_eq_true_eq] at this
  simp only[List.isEmpty_cons,decide_eq_false_iff_not]
  omega
theorem Apf{l r:List Tk}{t:Tk}(h:t::r <:+ l)(hl:l.length≤1000000):IntKind.wrap .i64 (ps l (t::r)+1)=ps l r:=by
 have hle:=h.length_le
 unfold ps
 simp only[List.length_cons] at hle⊢
 rw[wrap64 (by omega) (by omega)]
 omega
theorem Bhx{l r:List Tk}{t:Tk}(h:t::r <:+ l)(hl:l.length≤1000000):IntKind.wrap .i64 (ps l r-1)=ps l (t::r):=by
 have hle:=h.length_le
 unfold ps
 simp only[List.length_cons] at hle⊢
 rw[wrap64 (by omega) (by omega)]
 omega
theorem Kf{l r:List Tk}{t:Tk}(h:t::r <:+ l):r <:+ l:=(List.suffix_cons t r).trans h
theorem Bmk(k:Int)(x s:By):((k !=2)&&(x==s))=decide (k≠2∧x=s):=by
 by_cases h1:k=2<;>by_cases h2:x=s<;>simp[h1,h2]
theorem A2h{l ts:List Tk}(h:ts <:+ l)(s:By)(b:Bool):Bx s (RD l ts b)=some (!b&&isT s ts):=by
 unfold Bx RD
 simp only[Option.bind_some,A26 h]
 cases b with
 |true=>rfl
 |false=>
  cases ts with
  |nil=>rfl
  |cons t r=>
   rw[Ax5 h]
   simp only[List.isEmpty_cons,Bool.not_false,Bool.and_true,Bool.true_and,A8,Option.bind_some,cond_true,Option.some.injEq,isT]
   rw[←Bmk]
   cases (t.Ad !=2)<;>rfl
theorem Apr{l ts:List Tk}(h:ts <:+ l)(hl:l.length≤1000000)(s:By)(b:Bool):Bc s (RD l ts b)=some (if (!b&&isT s ts)=true then(true,RD l ts.tail b) else(false,RD l ts b)):=by
 unfold Bc
 rw[A2h h]
 simp only[Option.bind_some]
 cases hc:(!b&&isT s ts) with
 |false=>simp
 |true=>
  simp only[Bool.and_eq_true] at hc
  obtain⟨t,r,rfl,_,_⟩:=Fo hc.2
  simp only[Bool.not_true,Bool.false_eq_true,if_false,if_true,Option.some.injEq,Prod.mk.injEq,true_and]
  unfold RD
  simp only[Apf h hl,List.tail_cons]
def Ld:List By→List Tk×Bool→List Tk×Bool
 |[],x=>x
 |s::ss,x=>if (!x.2&&isT s x.1)=true then Ld ss (x.1.tail,x.2) else(x.1,true)
theorem A2s: ∀(L:List By) (x:List Tk×Bool),(Ld L x).1 <:+ x.1
 |[],x=>List.suffix_refl _
 |s::ss,x=>by
  rw[Ld]
  split
  ·exact(A2s ss _).trans Sr
  ·exact List.suffix_refl _
theorem Aop{l ts:List Tk}(h:ts <:+ l)(hl:l.length≤1000000)(L:List By)(hL:L.length≤1000000)(b:Bool):Am L (RD l ts b)=some (RD l (Ld L (ts,b)).1 (Ld L (ts,b)).2):=by
 unfold Am
 have key: ∀(t pre:List By) (ts:List Tk) (b:Bool),L=pre++t→ts <:+ l→A3 (fun(qj3:Int×Ab)=>match qj3 with
  |(x4,r5)=>(
   if (decide (x4<(L.length:Int)))=true then
    (rdO L x4).bind fun x6=>
    (Bc x6 r5).bind fun x7=>
    if (!x7.1)=true then
     some (.inr (⟨x7.2.Jn,x7.2.C2,true⟩:Ab))
    else
     some (.inl (IntKind.wrap .i64 (x4+1),x7.2))
   else
    some (.inr r5):Option ((Int×Ab)⊕Ab))) ((pre.length:Int),RD l ts b)=some (RD l (Ld t (ts,b)).1 (Ld t (ts,b)).2):=by
  intro t
  induction t with
  |nil=>
   intro pre ts b he hs
   refine A1 ?_
   subst he
   simp[Ld]
  |cons s t ih=>
   intro pre ts b he hs
   have hlen:pre.length<L.length:=by subst he;simp
   have hg:L[pre.length]=s:=by subst he;simp
   by_cases hc:(!b&&isT s ts)=true
   ·rw[B0 (s':=((((pre++[s]).length:Nat):Int),RD l ts.tail b)),ih (pre++[s]) ts.tail b (by simp[he]) (Sr.trans hs),Ld,if_pos hc]
    show(if _ then _ else _)=_
    rw[if_pos (by simp;omega),Fv hlen,hg]
    simp only[Option.bind_some]
    rw[Apr hs hl,if_pos hc]
    simp only[Option.bind_some,Bool.not_true,Bool.false_eq_true,if_false,List.length_append,List.length_cons,List.length_nil,Option.some.injEq,Sum.inl.injEq,Prod.mk.injEq,and_true]
    rw[wrap64 (by omega) (by omega)]
    omega
   ·rw[Ld,if_neg hc]
    refine A1 ?_
    show(if _ then _ else _)=_
    rw[if_pos (by simp;omega),Fv hlen,hg]
    simp only[Option.bind_some]
    rw[Apr hs hl,if_neg hc]
    rfl
 exact key L [] ts b rfl h
theorem Ahe{s:By}{ss:List By}{ts:List Tk}:Ld (s::ss) (ts,true)=(ts,true):=by simp[Ld]
theorem Rf{s:By}{ts:List Tk}:Ld [s] (ts,false)=if isT s ts=true then(ts.tail,false) else(ts,true):=by simp[Ld]
theorem A2f{L:List By}(hL:L.length≤1000000)(s:By):Ct L s=some (L.contains s):=by
 unfold Ct Em
 have h:=Aql (f:=fun(qj3:Int)=>match qj3 with
  |x4=>(
   if (decide (x4<(L.length:Int)))=true then
    (rdO L x4).bind fun x5=>
    if (s==x5)=true then
     some (.inr (.inr x4))
    else
     some (.inl (IntKind.wrap .i64 (x4+1)))
   else
    some (.inr (.inl ())):Option (Int⊕(Unit⊕Int)))) (l:=L) (p:=fun x=>s==x) (o:=fun i=> .inr (i:Int)) (e:= .inl ()) (by omega)
  (fun i hi=>by
   show(if _ then _ else _)=_
   rw[if_pos (by simp;omega),Fv hi]
   simp only[Option.bind_some]
   split<;>rfl)
  (fun i hi=>by
   show(if _ then _ else _)=_
   rw[if_neg (by simp;omega)])
 rw[h]
 simp only[Option.bind_some]
 cases hf:Ama L (fun x=>s==x) with
 |none=>
  have:=Ag1 hf
  simp only[Option.bind_some,Option.some.injEq]
  have h1:L.contains s=false:=by
   rw[←Bool.not_eq_true,List.contains_iff_mem]
   intro hm
   have:=this s hm
   simp at this
  rw[h1]
  rfl
 |some i=>
  obtain⟨hi,h1,_⟩:=Ag2 hf
  simp only[Option.bind_some,Option.some.injEq]
  have h2:L.contains s=true:=by
   rw[List.contains_iff_mem]
   have:=eq_of_beq h1
   rw[this]
   exact List.getElem_mem hi
  rw[h2]
  simp
theorem Bm1(s:By)(p:Bool):W3 s p=some (Aqr s p):=by
 unfold W3
 cases p with
 |false=>
  simp only[Bool.false_eq_true,if_false,Option.bind_some]
  rw[A2f (by simp)]
  simp only[Option.bind_some,Aqr,Bool.false_and,Bool.or_false]
  rfl
 |true=>
  simp only[if_true]
  have:apO 16 [[105,102],[116,104,101,110],[101,108,115,101],[97,110,100],[111,114],[110,111,116],[109,105,110],[109,97,120]] [[112,114,111,100,117,99,116],[98,97,115,105,115],[112,101,114,105,111,100],[116,105,101,114,115],[102,101,101],[109,105,110,105,109,117,109],[111,118,101,114,100,114,97,102,116],[110,111,116,105,99,101]]=some (Br4++Br5):=rfl
  rw[this]
  simp only[Option.bind_some]
  rw[A2f (by simp[Br4,Br5])]
  simp only[Option.bind_some,Aqr,Bool.true_and,List.contains_eq_any_beq,List.any_append]
def F9(kind:Int)(p:Bool)(x:List Tk×Bool):By×List Tk×Bool:=match x with
 |(ts,true)=>([],ts,true)
 |([],false)=>([],[],true)
 |(t::r,false)=>if t.Ad≠kind∨(kind=0∧Aqr t.Ag p=true) then([],t::r,true) else(t.Ag,r,false)
theorem Bjy(kind:Int)(p:Bool)(x:List Tk×Bool):(F9 kind p x).2.1 <:+ x.1:=by
 obtain⟨ts,b⟩:=x
 cases b with
 |true=>cases ts<;>exact List.suffix_refl _
 |false=>
  cases ts with
  |nil=>exact List.suffix_refl _
  |cons t r=>
   unfold F9
   simp only
   split
   ·exact List.suffix_refl _
   ·exact List.suffix_cons t r
theorem Ajv{l ts:List Tk}(h:ts <:+ l)(hl:l.length≤1000000)(kind:Int)(p b:Bool):A7 kind p (RD l ts b)=some ((F9 kind p (ts,b)).1,RD l (F9 kind p (ts,b)).2.1 (F9 kind p (ts,b)).2.2):=by
 unfold A7
 have e1:(RD l ts b).C2=ps l ts:=rfl
 have e2:(RD l ts b).Jn=l:=rfl
 have e3:(RD l ts b).Ch=b:=rfl
 simp only[Option.bind_some,e1,e2,e3,Bq5 h]
 cases b with
 |true=>cases ts<;>simp[gdO,F9,RD]
 |false=>
  cases ts with
  |nil=>simp[gdO,F9,RD]
  |cons t r=>
   rw[Ax5 h]
   simp only[List.isEmpty_cons,Bool.or_false,Bool.false_or,Bool.not_false,A8,cond_true,Option.bind_some]
   by_cases h1:t.Ad=kind
   ·have hb:(t.Ad !=kind)=false:=by simp[h1]
    simp only[hb,Bool.not_false,Bool.true_and,Bool.false_or]
    rw[Bm1]
    by_cases h2:kind=0
    ·subst h2
     simp only[beq_self_eq_true,A8,cond_true,Option.bind_some,Bool.true_and]
     cases ho:Aqr t.Ag p with
     |true=>simp[F9,h1,ho,RD]
     |false=>
      simp only[Bool.false_eq_true,if_false]
      rw[Apf h hl,Bhx h hl,Ax5 h]
      simp[F9,h1,ho,RD]
    ·have hz:(kind==0)=false:=by simp[h2]
     simp only[hz,A8,cond_false,Option.bind_some,Bool.false_and,Bool.false_eq_true,if_false]
     rw[Apf h hl,Bhx h hl,Ax5 h]
     simp[F9,h1,h2,RD]
   ·have hb:(t.Ad !=kind)=true:=by simp[h1]
    simp only[hb,Bool.not_true,Bool.false_and,A8,gdO,Option.bind_some,Bool.true_or,if_true]
    simp[F9,h1,RD]
theorem Bis{L:List (List Nd)}(hL:L.length≤1000)(hs:L.flatten.length≤1000000):Dw L=some L.flatten:=by
 unfold Dw
 have h1:A3 (fun(qj2:Int×Int)=>match qj2 with
  |(size3,x4)=>(
   if (decide (x4<(L.length:Int)))=true then
    (rdO L x4).bind fun x5=>
    ((if (decide ((IntKind.wrap .i64 (size3+(x5.length:Int)))<0))=true then
      none
    else
     some ()):Option Unit).bind fun _=>
    some (.inl (IntKind.wrap .i64 (size3+(x5.length:Int)),IntKind.wrap .i64 (x4+1)))
   else
    some (.inr size3):Option ((Int×Int)⊕Int))) (0,0)=some (L.flatten.length:Int):=by
  have key: ∀(t pre:List (List Nd)),L=pre++t→A3 (fun(qj2:Int×Int)=>match qj2 with
  |(size3,x4)=>(
   if (decide (x4<(L.length:Int)))=true then
    (rdO L x4).bind fun x5=>
    ((if (decide ((IntKind.wrap .i64 (size3+(x5.length:Int)))<0))=true then
      none
    else
     some ()):Option Unit).bind fun _=>
    some (.inl (IntKind.wrap .i64 (size3+(x5.length:Int)),IntKind.wrap .i64 (x4+1)))
   else
    some (.inr size3):Option ((Int×Int)⊕Int))) ((pre.flatten.length:Int),(pre.length:Int))=some (L.flatten.length:Int):=by
   intro t
   induction t with
   |nil=>
    intro pre he
    refine A1 ?_
    subst he
    simp
   |cons x t ih=>
    intro pre he
    have hlen:pre.length<L.length:=by subst he;simp
    have hg:L[pre.length]=x:=by subst he;simp
    have hfl:pre.flatten.length+x.length≤L.flatten.length:=by subst he;simp
    rw[B0 (s':=((((pre++[x]).flatten.length:Nat):Int),(((pre++[x]).length:Nat):Int))),ih (pre++[x]) (by simp[he])]
    show(if _ then _ else _)=_
    rw[if_pos (by simp;omega),Fv hlen,hg]
    simp only[Option.bind_some]
    rw[wrap64 (x:=(pre.flatten.length:Int)+(x.length:Int)) (by omega) (by omega),wrap64 (by omega) (by omega),if_neg (by simp;omega)]
    simp
  exact key L [] rfl
 rw[h1]
 simp only[Option.bind_some]
 have hg:C6 Aa 24 (L.flatten.length:Int)=some []:=by
  unfold C6 D7
  rw[if_pos ⟨by omega,by omega⟩]
  rfl
 rw[hg]
 simp only[Option.bind_some]
 have key: ∀(t pre:List (List Nd)),L=pre++t→A3 (fun(qj9:Int×(List Aa))=>match qj9 with
  |(x10,row11)=>(
   if (decide (x10<(L.length:Int)))=true then
    (rdO L x10).bind fun x12=>
    (apO 24 row11 x12).bind fun x13=>
    some (.inl (IntKind.wrap .i64 (x10+1),x13))
   else
    some (.inr row11):Option ((Int×(List Aa))⊕(List Aa)))) ((pre.length:Int),pre.flatten)=some L.flatten:=by
  intro t
  induction t with
  |nil=>
   intro pre he
   refine A1 ?_
   subst he
   simp
  |cons x t ih=>
   intro pre he
   have hlen:pre.length<L.length:=by subst he;simp
   have hg:L[pre.length]=x:=by subst he;simp
   have hfl:pre.flatten.length+x.length≤L.flatten.length:=by subst he;simp
   rw[B0 (s':=((((pre++[x]).length:Nat):Int),(pre++[x]).flatten)),ih (pre++[x]) (by simp[he])]
   show(if _ then _ else _)=_
   rw[if_pos (by simp;omega),Fv hlen,hg]
   simp only[Option.bind_some]
   unfold apO
   rw[if_pos (by omega)]
   simp only[Option.bind_some]
   rw[wrap64 (by omega) (by omega)]
   simp
 exact Bj (key L [] rfl) rfl
theorem A40{k:Int}{L:List (List Nd)}(hL:L.length≤1000)(hs:L.flatten.length≤1000000):Co k L=some (⟨k,[]⟩::L.flatten):=by
 unfold Co
 rw[Bis hL hs]
 simp only[Option.bind_some]
 unfold apO
 rw[if_pos (by simp only[List.length_cons,List.length_nil];omega)]
 rfl
def Aq0:List (By×Ar):=[(sOr,⟨13,1⟩),(Bbw,⟨12,2⟩),([60],⟨7,4⟩),([60,61],⟨8,4⟩),([61],⟨9,4⟩),([62],⟨10,4⟩),([62,61],⟨11,4⟩),([43],⟨3,5⟩),([45],⟨4,5⟩),([42],⟨5,6⟩),([47],⟨6,6⟩)]
theorem Bnt:Ahq=some Aq0:=by decide +kernel
theorem Bjw(s:By):(((Azi Aq0 s).getD ⟨0,0⟩).Al5,((Azi Aq0 s).getD ⟨0,0⟩).Z8)=((Apn s).1,((Apn s).2:Int))∧((Azi Aq0 s).isSome=decide ((Apn s).2≠0)):=by
 unfold Apn
 by_cases h0:s=sOr
 ·subst h0;exact⟨rfl,rfl⟩
 simp only[if_neg h0]
 by_cases h1:s=Bbw
 ·subst h1;exact⟨rfl,rfl⟩
 simp only[if_neg h1]
 by_cases h2:s=[60]
 ·subst h2;exact⟨rfl,rfl⟩
 simp only[if_neg h2]
 by_cases h3:s=[60,61]
 ·subst h3;exact⟨rfl,rfl⟩
 simp only[if_neg h3]
 by_cases h4:s=[61]
 ·subst h4;exact⟨rfl,rfl⟩
 simp only[if_neg h4]
 by_cases h5:s=[62]
 ·subst h5;exact⟨rfl,rfl⟩
 simp only[if_neg h5]
 by_cases h6:s=[62,61]
 ·subst h6;exact⟨rfl,rfl⟩
 simp only[if_neg h6]
 by_cases h7:s=[43]
 ·subst h7;exact⟨rfl,rfl⟩
 simp only[if_neg h7]
 by_cases h8:s=[45]
 ·subst h8;exact⟨rfl,rfl⟩
 simp only[if_neg h8]
 by_cases h9:s=[42]
 ·subst h9;exact⟨rfl,rfl⟩
 simp only[if_neg h9]
 by_cases h10:s=[47]
 ·subst h10;exact⟨rfl,rfl⟩
 simp only[if_neg h10]
 have hn:Azi Aq0 s=none:=by
  unfold Azi
  rw[List.find?_eq_none.2 (by
   intro x hx
   simp only[Aq0,List.mem_cons,List.not_mem_nil,or_false] at hx
   rcases hx with rfl|rfl|rfl|rfl|rfl|rfl|rfl|rfl|rfl|rfl|rfl<;>simp[*])]
  rfl
 rw[hn]
 exact⟨rfl,rfl⟩
theorem Bh3{t:Tk}(h:t.Ad≠2):Br t=Apn t.Ag:=by unfold Br;rw[if_neg h]
def Aj3(n:Nat)(ts:List Tk)(b:Bool):Bool:= !b&&match ts with
 |[]=>false
 |t::_=>decide ((Br t).2=n)
theorem Al1{l ts:List Tk}(h:ts <:+ l){n:Nat}(hn:1≤n)(b:Bool): ∃k,Ce (n:Int) (RD l ts b)=some (k,Aj3 n ts b)∧(Aj3 n ts b=true→ ∃t r,ts=t::r∧b=false∧(Br t).2=n∧k=(Br t).1):=by
 unfold Ce
 have e1:(RD l ts b).C2=ps l ts:=rfl
 have e2:(RD l ts b).Jn=l:=rfl
 have e3:(RD l ts b).Ch=b:=rfl
 simp only[Option.bind_some,e1,e2,e3,Bq5 h]
 cases b with
 |true=>exact⟨0,by simp[gdO,Aj3],by simp[Aj3]⟩
 |false=>
  cases ts with
  |nil=>exact⟨0,by simp[gdO,Aj3],by simp[Aj3]⟩
  |cons t r=>
   rw[Ax5 h,Bnt]
   simp only[List.isEmpty_cons,Bool.or_false,Bool.false_or,Bool.not_false,A8,cond_true,Option.bind_some]
   by_cases h2:t.Ad=2
   ·refine⟨0,(by simp[h2,Aj3,Br];omega),fun hb=>?_⟩
    simp[h2,Aj3,Br] at hb
    omega
   ·have hb:(t.Ad==2)=false:=by simp[h2]
    obtain⟨g1,g2⟩:=Bjw t.Ag
    have g3:=congrArg Prod.fst g1
    have g4:=congrArg Prod.snd g1
    simp only at g3 g4
    rw[hb,g2]
    simp only[Bool.false_eq_true,if_false,Option.bind_some]
    rw[g3,g4]
    refine⟨(Apn t.Ag).1,?_,fun hb2=>⟨t,r,(by simp),(by simp),?_,?_⟩⟩
    ·simp only[Aj3,Option.some.injEq,Prod.mk.injEq,true_and,Bh3 h2,Bool.not_false]
     rw[Bool.eq_iff_iff]
     simp only[Bool.and_eq_true,decide_eq_true_eq,beq_iff_eq,Bool.true_and]
     constructor
     ·rintro⟨h3,h4⟩;omega
     ·intro h3;omega
    ·simpa [Aj3] using hb2
    ·rw[Bh3 h2]
theorem Auk{l ts:List Tk}(h:ts <:+ l){n:Nat}(hn:1≤n): ∃k,Ce (n:Int) (RD l ts true)=some (k,false):=by
 obtain⟨k,h1,_⟩:=Al1 h hn true
 exact⟨k,h1⟩
theorem Ai7{l ts:List Tk}(h:ts <:+ l)(hl:l.length≤1000000){s:By}(hs:isT s ts=true):Bc s (RD l ts false)=some (true,RD l ts.tail false):=by
 rw[Apr h hl];simp[hs]
theorem Ado{l ts:List Tk}(h:ts <:+ l)(hl:l.length≤1000000){s:By}(hs: ¬isT s ts=true):Bc s (RD l ts false)=some (false,RD l ts false):=by
 rw[Apr h hl];simp[hs]
theorem Bn0{l ts:List Tk}(h:ts <:+ l)(hl:l.length≤1000000){s:By}:Bc s (RD l ts true)=some (false,RD l ts true):=by
 rw[Apr h hl];simp
theorem Fj{l ts:List Tk}(h:ts <:+ l)(hl:l.length≤1000000){s:By}(hs:isT s ts=true):Am [s] (RD l ts false)=some (RD l ts.tail false):=by
 rw[Aop h hl _ (by simp),Rf,if_pos hs]
theorem Aqq{l ts:List Tk}(h:ts <:+ l)(hl:l.length≤1000000){s:By}(hs: ¬isT s ts=true):Am [s] (RD l ts false)=some (RD l ts true):=by
 rw[Aop h hl _ (by simp),Rf,if_neg hs]
theorem Jv{l ts:List Tk}(h:ts <:+ l)(hl:l.length≤1000000){s:By}:Am [s] (RD l ts true)=some (RD l ts true):=by
 rw[Aop h hl _ (by simp),Ahe]
theorem Bi4(f:Nat)(n:Int)(l ts:List Tk):parse_reader_level (f+1) n (RD l ts true)=some ([],RD l ts true):=by
 rw[parse_reader_level]
 rfl
theorem Jh{l ts:List Tk}(h:ts <:+ l)(hl:l.length≤1000000)(f:Nat):parse_reader_any (f+2) (RD l ts true)=some ([],RD l ts true):=by
 rw[parse_reader_any,Bn0 h hl]
 simp only[Option.bind_some,Bool.not_false,if_true]
 rw[Bi4]
 rfl
def NB(o:List Nd):Prop:= ∀n∈o,n.Ag.length≤1000000
theorem De:NB []↔True:=by simp[NB]
theorem Cj{n:Nd}{o:List Nd}:NB (n::o)↔n.Ag.length≤1000000∧NB o:=by simp[NB]
theorem Dd{a b:List Nd}:NB (a++b)↔NB a∧NB b:=by
 unfold NB
 constructor
 ·intro h;exact⟨fun n hn=>h n (by simp[hn]),fun n hn=>h n (by simp[hn])⟩
 ·rintro⟨h1,h2⟩ n hn
  rcases List.mem_append.1 hn with h|h
  ·exact h1 n h
  ·exact h2 n h
def PG(F:Ab→Option (List Nd×Ab))(l ts:List Tk)(r:Rs (List Nd)):Prop:=
 ∃o,F (RD l ts false)=some (o,RD l r.2 r.1.isNone)∧(∀a,r.1=some a→o=a)∧o.length≤ts.length+1∧NB o
structure Fit (l:List Tk):Prop where
 len:l.length≤100000
 tx: ∀t∈l,t.Ag.length≤100000
theorem Fit.l6{l:List Tk}(h:Fit l):l.length≤1000000:=by have:=h.len;omega
theorem Fit.le{l ts:List Tk}(h:Fit l)(hs:ts <:+ l):ts.length≤100000:=by have:=h.len;have:=hs.length_le;omega
theorem Alg{k:Int}{a b:List Nd}(h:a.length+b.length≤1000000):Co k [a,b]=some (⟨k,[]⟩::(a++b)):=by
 rw[A40 (by simp) (by simp;omega)];simp
theorem Bhr{k:Int}{a:List Nd}(h:a.length≤1000000):Co k [a]=some (⟨k,[]⟩::a):=by
 rw[A40 (by simp) (by simp;omega)];simp
theorem node3{k:Int}{a b c:List Nd}(h:a.length+b.length+c.length≤1000000):Co k [a,b,c]=some (⟨k,[]⟩::(a++b++c)):=by
 rw[A40 (by simp) (by simp;omega)];simp
theorem PG.of{F:Ab→Option (List Nd×Ab)}{l ts:List Tk}{r:Rs (List Nd)}(h:PG F l ts r):(∃a i,r=(some a,i)∧F (RD l ts false)=some (a,RD l i false)∧NB a)∨(∃o i,r=(none,i)∧F (RD l ts false)=some (o,RD l i true)∧o.length≤ts.length+1∧NB o):=by
 obtain⟨o,h1,h2,h3,h4⟩:=h
 obtain⟨x,i⟩:=r
 cases x with
 |none=>exact Or.inr ⟨o,i,rfl,h1,h3,h4⟩
 |some a=>
  have:=h2 a rfl
  subst this
  exact Or.inl ⟨o,i,rfl,h1,h4⟩
theorem Agm{F:Ab→Option (List Nd×Ab)}{l ts i:List Tk}{a:List Nd}(h:F (RD l ts false)=some (a,RD l i false))(hz:a.length≤ts.length+1)(hn:NB a):PG F l ts (some a,i):=
 ⟨a,h,fun b hb=>Option.some.inj hb,hz,hn⟩
theorem PG.no{F:Ab→Option (List Nd×Ab)}{l ts i:List Tk}{o:List Nd}(h:F (RD l ts false)=some (o,RD l i true))(hz:o.length≤ts.length+1)(hn:NB o):PG F l ts (none,i):=
 ⟨o,h,(fun b hb=>by cases hb),hz,hn⟩
theorem A23{l ts:List Tk}(hF:Fit l)(h:ts <:+ l){f:Nat}(hf:2≤f)(ih: ∀r,r <:+ l→r.length<ts.length→PG (parse_reader_any f) l r (CL r 0)):PG (parse_reader_primary (f+1)) l ts (Db CL ts):=by
 have hl:=hF.l6
 obtain⟨f,rfl⟩: ∃g,f=g+2:=⟨f-2,by omega⟩
 have hle:=hF.le h
 cases ts with
 |nil=>
  refine PG.no (o:=[⟨1,[]⟩]) ?_ (by simp) (by(try simp only[De,Cj,Dd,List.length_append,List.length_cons,List.length_nil]);(repeat' apply And.intro)<;>first|assumption|omega|trivial)
  rw[parse_reader_primary,Ado h hl (by simp[isT])]
  simp only[Option.bind_some,A2h h]
  have e0:ps l []<(l.length:Int)↔False:=by have:=A26 h;simpa using this
  have e1:(RD l [] false).C2=ps l []:=rfl
  have e2:(RD l [] false).Jn=l:=rfl
  simp only[isT,Bool.and_false,Bool.not_false,Bool.false_eq_true,if_false,A8,Option.bind_some,cond_true,Bool.or_false,Bool.cond_self,e1,e2,e0,decide_false,gdO,Bool.false_and]
  have:=Ajv h hl 0 false false
  rw[show(⟨l,ps l [],(RD l [] false).Ch⟩:Ab)=RD l [] false from rfl,this]
  rfl
 |cons t r=>
  have hr:=Kf h
  simp only[List.length_cons] at hle
  by_cases hp:isT [40] (t::r)=true
  ·have hspec:Db CL (t::r)=bnd (CL r 0) fun a i=>H4 [41] i fun j=>(some a,j):=by unfold Db;simp only[if_pos hp]
   rw[hspec]
   have hprog:parse_reader_primary (f+2+1) (RD l (t::r) false)=(parse_reader_any (f+2) (RD l r false)).bind fun x3=>(Am [[41]] x3.2).bind fun x4=>some (x3.1,x4):=by
    rw[parse_reader_primary,Ai7 h hl hp]
    rfl
   rcases(ih r hr (by simp)).of with⟨a,i,e1,e2,nb1⟩|⟨o,i,e1,e2,e3,nb3⟩
   ·rw[e1]
    have hz:=Ij e1
    have hi:i <:+ l:=by have:=(Gb r 0).trans hr;rw[e1] at this;exact this
    show PG _ _ _ (H4 [41] i fun j=>(some a,j))
    unfold H4
    by_cases hc:isT [41] i=true
    ·rw[if_pos hc]
     refine Agm ?_ (by simp;omega) (by(try simp only[De,Cj,Dd,List.length_append,List.length_cons,List.length_nil]);(repeat' apply And.intro)<;>first|assumption|omega|trivial)
     rw[hprog,e2]
     simp only[Option.bind_some]
     rw[Fj hi hl hc]
     rfl
    ·rw[if_neg hc]
     refine PG.no (o:=a) ?_ (by simp;omega) (by(try simp only[De,Cj,Dd,List.length_append,List.length_cons,List.length_nil]);(repeat' apply And.intro)<;>first|assumption|omega|trivial)
     rw[hprog,e2]
     simp only[Option.bind_some]
     rw[Aqq hi hl hc]
     rfl
   ·rw[e1]
    have hi:i <:+ l:=by have:=(Gb r 0).trans hr;rw[e1] at this;exact this
    refine PG.no (o:=o) ?_ (by simp;omega) (by(try simp only[De,Cj,Dd,List.length_append,List.length_cons,List.length_nil]);(repeat' apply And.intro)<;>first|assumption|omega|trivial)
    rw[hprog,e2]
    simp only[Option.bind_some]
    rw[Jv hi hl]
    rfl
  ·by_cases hm:(isT Jf (t::r)||isT H2 (t::r))=true
   ·have hspec:Db CL (t::r)=H4 [40] r fun r2=>bnd (CL r2 0) fun a i=>H4 [44] i fun i2=>bnd (CL i2 0) fun b j=>H4 [41] j fun j2=>
      (some (⟨if t.Ag=Jf then 16 else 17,[]⟩::(a++b)),j2):=by unfold Db;simp only[if_neg hp,if_pos hm]
    rw[hspec]
    generalize hk:(if t.Ag=Jf then(16:Int) else 17)=k
    have hprog:parse_reader_primary (f+2+1) (RD l (t::r) false)=(Am [[40]] (RD l r false)).bind fun x10=>(parse_reader_any (f+2) x10).bind fun x11=>
      (Am [[44]] x11.2).bind fun x12=>(parse_reader_any (f+2) x12).bind fun x13=>(Am [[41]] x13.2).bind fun x14=>(Co k [x11.1,x13.1]).bind fun x15=>some (x15,x14):=by
     rw[parse_reader_primary,Ado h hl hp]
     simp only[Option.bind_some,A2h h,Bool.not_false,Bool.true_and,A8,Bool.cond_self]
     have hm2:(isT [109,105,110] (t::r)||bif !isT [109,105,110] (t::r) then isT [109,97,120] (t::r) else default)=true:=by
      have e1:Jf=[109,105,110]:=rfl
      have e2:H2=[109,97,120]:=rfl
      rw[e1,e2] at hm
      cases hx:isT [109,105,110] (t::r) with
      |true=>rfl
      |false=>rw[hx] at hm;simpa using hm
     rw[if_pos hm2]
     have e3:(⟨(RD l (t::r) false).Jn,(RD l (t::r) false).C2,(RD l (t::r) false).Ch⟩:Ab)=RD l (t::r) false:=rfl
     have e4:IntKind.wrap .i64 ((RD l (t::r) false).C2+1)=ps l r:=Apf h hl
     rw[e4]
     have e5:(⟨(RD l (t::r) false).Jn,ps l r,(RD l (t::r) false).Ch⟩:Ab)=RD l r false:=rfl
     rw[e5]
     have hk2:(if (isT [109,97,120] (t::r))=true then some (17:Int) else some 16)=some k:=by
      rw[←hk]
      by_cases hx:t.Ag=Jf
      ·have:isT [109,97,120] (t::r)=false:=by simp[isT,hx,Jf]
       rw[this,if_pos hx];rfl
      ·have:isT [109,97,120] (t::r)=true:=by
        rcases(Bool.or_eq_true_iff).1 hm with hy|hy
        ·exact absurd (of_decide_eq_true hy).2 hx
        ·exact hy
       rw[this,if_neg hx];rfl
     simp only[Bool.false_eq_true,if_false,hk2,Option.bind_some]
    unfold H4
    by_cases hc:isT [40] r=true
    ·rw[if_pos hc]
     obtain⟨t1,r1,rfl,_,_⟩:=Fo hc
     simp only[List.tail_cons,List.length_cons] at hle⊢
     have hr1:=Kf hr
     rcases(ih r1 hr1 (by simp;omega)).of with⟨a,i,e1,e2,nb1⟩|⟨o,i,e1,e2,e3,nb3⟩
     ·rw[e1]
      have hz:=Ij e1
      have hi:i <:+ l:=by have:=(Gb r1 0).trans hr1;rw[e1] at this;exact this
      have hil:i.length≤r1.length:=by have:=(Gb r1 0).length_le;rw[e1] at this;exact this
      show PG _ _ _ (if isT [44] i=true then _ else _)
      by_cases hc2:isT [44] i=true
      ·rw[if_pos hc2]
       obtain⟨t2,r2,rfl,_,_⟩:=Fo hc2
       simp only[List.tail_cons,List.length_cons] at hz hil⊢
       have hr2:=Kf hi
       rcases(ih r2 hr2 (by simp;omega)).of with⟨b,j,e4,e5,nb4⟩|⟨o,j,e4,e5,e6,nb6⟩
       ·rw[e4]
        have hz2:=Ij e4
        have hj:j <:+ l:=by have:=(Gb r2 0).trans hr2;rw[e4] at this;exact this
        show PG _ _ _ (if isT [41] j=true then _ else _)
        by_cases hc3:isT [41] j=true
        ·rw[if_pos hc3]
         refine Agm ?_ (by simp;omega) (by(try simp only[De,Cj,Dd,List.length_append,List.length_cons,List.length_nil]);(repeat' apply And.intro)<;>first|assumption|omega|trivial)
         rw[hprog,Fj hr hl hc]
         simp only[Option.bind_some,List.tail_cons,e2]
         rw[Fj hi hl hc2]
         simp only[Option.bind_some,List.tail_cons,e5]
         rw[Fj hj hl hc3]
         simp only[Option.bind_some,List.tail_cons]
         rw[Alg (by omega)]
         rfl
        ·rw[if_neg hc3]
         refine PG.no (o:=⟨k,[]⟩::(a++b)) ?_ (by simp;omega) (by(try simp only[De,Cj,Dd,List.length_append,List.length_cons,List.length_nil]);(repeat' apply And.intro)<;>first|assumption|omega|trivial)
         rw[hprog,Fj hr hl hc]
         simp only[Option.bind_some,List.tail_cons,e2]
         rw[Fj hi hl hc2]
         simp only[Option.bind_some,List.tail_cons,e5]
         rw[Aqq hj hl hc3]
         simp only[Option.bind_some,List.tail_cons]
         rw[Alg (by omega)]
         rfl
       ·rw[e4]
        have hj:j <:+ l:=by have:=(Gb r2 0).trans hr2;rw[e4] at this;exact this
        refine PG.no (o:=⟨k,[]⟩::(a++o)) ?_ (by simp;omega) (by(try simp only[De,Cj,Dd,List.length_append,List.length_cons,List.length_nil]);(repeat' apply And.intro)<;>first|assumption|omega|trivial)
        rw[hprog,Fj hr hl hc]
        simp only[Option.bind_some,List.tail_cons,e2]
        rw[Fj hi hl hc2]
        simp only[Option.bind_some,List.tail_cons,e5]
        rw[Jv hj hl]
        simp only[Option.bind_some,List.tail_cons]
        rw[Alg (by omega)]
        rfl
      ·rw[if_neg hc2]
       refine PG.no (o:=⟨k,[]⟩::(a++[])) ?_ (by simp;omega) (by(try simp only[De,Cj,Dd,List.length_append,List.length_cons,List.length_nil]);(repeat' apply And.intro)<;>first|assumption|omega|trivial)
       rw[hprog,Fj hr hl hc]
       simp only[Option.bind_some,List.tail_cons,e2]
       rw[Aqq hi hl hc2]
       simp only[Option.bind_some,List.tail_cons]
       rw[Jh hi hl]
       simp only[Option.bind_some]
       rw[Jv hi hl]
       simp only[Option.bind_some]
       rw[Alg (by simp;omega)]
       rfl
     ·rw[e1]
      have hi:i <:+ l:=by have:=(Gb r1 0).trans hr1;rw[e1] at this;exact this
      refine PG.no (o:=⟨k,[]⟩::(o++[])) ?_ (by simp;omega) (by(try simp only[De,Cj,Dd,List.length_append,List.length_cons,List.length_nil]);(repeat' apply And.intro)<;>first|assumption|omega|trivial)
      rw[hprog,Fj hr hl hc]
      simp only[Option.bind_some,List.tail_cons,e2]
      rw[Jv hi hl]
      simp only[Option.bind_some,List.tail_cons]
      rw[Jh hi hl]
      simp only[Option.bind_some]
      rw[Jv hi hl]
      simp only[Option.bind_some]
      rw[Alg (by simp;omega)]
      rfl
    ·rw[if_neg hc]
     refine PG.no (o:=[⟨k,[]⟩]) ?_ (by simp) (by(try simp only[De,Cj,Dd,List.length_append,List.length_cons,List.length_nil]);(repeat' apply And.intro)<;>first|assumption|omega|trivial)
     rw[hprog,Aqq hr hl hc]
     simp only[Option.bind_some]
     rw[Jh hr hl]
     simp only[Option.bind_some]
     rw[Jv hr hl]
     simp only[Option.bind_some]
     rw[Jh hr hl]
     simp only[Option.bind_some]
     rw[Jv hr hl]
     simp only[Option.bind_some]
     rw[Alg (by simp)]
     rfl
   ·have hspec:Db CL (t::r)=if t.Ad=1 then(if isT [37] r=true then(some [⟨0,t.Ag++[37]⟩],r.tail) else(some [⟨0,t.Ag⟩],r))
      else if t.Ad=0∧Aqr t.Ag false=false then(some [⟨1,t.Ag⟩],r) else(none,t::r):=by unfold Db;simp only[if_neg hp,if_neg hm]
    rw[hspec]
    have hprog:parse_reader_primary (f+2+1) (RD l (t::r) false)=if (t.Ad==1)=true then
      (A7 1 false (RD l (t::r) false)).bind fun x18=>
      (Bc [37] x18.2).bind fun x19=>
      ((if x19.1=true then
        (Bip x18.1 [37]).bind fun x21=>
        some x21
      else
       some x18.1):Option (List UInt8)).bind fun j20=>
      some ([(⟨0,j20⟩:Aa)],x19.2)
     else
      (A7 0 false (RD l (t::r) false)).bind fun x23=>
      some ([(⟨1,x23.1⟩:Aa)],x23.2):=by
     rw[parse_reader_primary,Ado h hl hp]
     simp only[Option.bind_some,A2h h,Bool.not_false,Bool.true_and,A8,Bool.cond_self]
     have hm2:(isT [109,105,110] (t::r)||bif !isT [109,105,110] (t::r) then isT [109,97,120] (t::r) else default)=false:=by
      have e1:Jf=[109,105,110]:=rfl
      have e2:H2=[109,97,120]:=rfl
      rw[e1,e2] at hm
      cases hx:isT [109,105,110] (t::r) with
      |true=>rw[hx] at hm;simp at hm
      |false=>rw[hx] at hm;simpa using hm
     rw[hm2]
     have e4:(decide ((RD l (t::r) false).C2<((RD l (t::r) false).Jn.length:Int)))=true:=A26 h
     have e5:rdO (RD l (t::r) false).Jn (RD l (t::r) false).C2=some t:=Ax5 h
     simp only[Bool.false_eq_true,if_false,e4,e5,A8,cond_true,Option.bind_some,Bool.true_and]
    have htx:t.Ag.length≤100000:=hF.tx t (h.subset (by simp))
    by_cases h1:t.Ad=1
    ·have hb:(t.Ad==1)=true:=by simp[h1]
     have hs:F9 1 false (t::r,false)=(t.Ag,r,false):=by simp[F9,h1]
     rw[if_pos h1]
     by_cases hc:isT [37] r=true
     ·rw[if_pos hc]
      refine Agm ?_ (by simp) (by(try simp only[De,Cj,Dd,List.length_append,List.length_cons,List.length_nil]);(repeat' apply And.intro)<;>first|assumption|omega|trivial)
      rw[hprog,if_pos hb,Ajv h hl,hs]
      simp only[Option.bind_some]
      rw[Ai7 hr hl hc]
      simp only[Option.bind_some,if_true]
      unfold Bip
      rw[if_pos (by simp;omega)]
      rfl
     ·rw[if_neg hc]
      refine Agm ?_ (by simp) (by(try simp only[De,Cj,Dd,List.length_append,List.length_cons,List.length_nil]);(repeat' apply And.intro)<;>first|assumption|omega|trivial)
      rw[hprog,if_pos hb,Ajv h hl,hs]
      simp only[Option.bind_some]
      rw[Ado hr hl hc]
      rfl
    ·have hb:(t.Ad==1)=false:=by simp[h1]
     rw[if_neg h1]
     by_cases h2:t.Ad=0∧Aqr t.Ag false=false
     ·rw[if_pos h2]
      have hs:F9 0 false (t::r,false)=(t.Ag,r,false):=by simp[F9,h2.1,h2.2]
      refine Agm ?_ (by simp) (by(try simp only[De,Cj,Dd,List.length_append,List.length_cons,List.length_nil]);(repeat' apply And.intro)<;>first|assumption|omega|trivial)
      rw[hprog,hb]
      simp only[Bool.false_eq_true,if_false]
      rw[Ajv h hl,hs]
      rfl
     ·rw[if_neg h2]
      have hs:F9 0 false (t::r,false)=([],t::r,true):=by
       simp only[F9]
       rw[if_pos]
       by_cases h3:t.Ad=0
       ·right
        cases ho:Aqr t.Ag false with
        |true=>simp
        |false=>exact absurd ⟨h3,ho⟩ h2
       ·exact Or.inl h3
      refine PG.no (o:=[⟨1,[]⟩]) ?_ (by simp) (by(try simp only[De,Cj,Dd,List.length_append,List.length_cons,List.length_nil]);(repeat' apply And.intro)<;>first|assumption|omega|trivial)
      rw[hprog,hb]
      simp only[Bool.false_eq_true,if_false]
      rw[Ajv h hl,hs]
      rfl
theorem Wh{ts l i:List Tk}{n:Nat}{o:Option (List Nd)}(h:ts <:+ l)(e:CL ts n=(o,i)):i <:+ l:=by
 have:=(Gb ts n).trans h;rw[e] at this;exact this
theorem Bhh{ts i:List Tk}{n:Nat}{o:Option (List Nd)}(e:CL ts n=(o,i)):i.length≤ts.length:=by
 have:=(Gb ts n).length_le;rw[e] at this;exact this
theorem Ayg{l ts:List Tk}(hF:Fit l)(h:ts <:+ l){f:Nat}(hp:PG (parse_reader_primary f) l ts (Db CL ts))
  (ih: ∀r,r <:+ l→r.length<ts.length→PG (parse_reader_level f 7) l r (CL r 7)):PG (parse_reader_level (f+1) 7) l ts (CL ts 7):=by
 have hl:=hF.l6
 have hle:=hF.le h
 rw[Bkj]
 by_cases hc:isT [45] ts=true
 ·rw[if_pos hc]
  obtain⟨t,r,rfl,_,_⟩:=Fo hc
  have hr:=Kf h
  have hprog:parse_reader_level (f+1) 7 (RD l (t::r) false)=(parse_reader_level f 7 (RD l r false)).bind fun x8=>(Co 2 [x8.1]).bind fun x9=>some (x9,x8.2):=by
   rw[parse_reader_level]
   have e:(RD l (t::r) false).Ch=false:=rfl
   simp only[e,Bool.false_eq_true,if_false]
   rw[if_neg (by simp),if_pos (by simp),Ai7 h hl hc]
   rfl
  simp only[List.tail_cons,List.length_cons] at hle⊢
  rcases(ih r hr (by simp)).of with⟨a,i,e1,e2,nb1⟩|⟨o,i,e1,e2,e3,nb3⟩
  ·rw[e1]
   have hz:=Ij e1
   refine Agm ?_ (by simp;omega) (by(try simp only[De,Cj,Dd,List.length_append,List.length_cons,List.length_nil]);(repeat' apply And.intro)<;>first|assumption|omega|trivial)
   rw[hprog,e2]
   simp only[Option.bind_some]
   rw[Bhr (by omega)]
   rfl
  ·rw[e1]
   refine PG.no (o:=⟨2,[]⟩::o) ?_ (by simp;omega) (by(try simp only[De,Cj,Dd,List.length_append,List.length_cons,List.length_nil]);(repeat' apply And.intro)<;>first|assumption|omega|trivial)
   rw[hprog,e2]
   simp only[Option.bind_some]
   rw[Bhr (by omega)]
   rfl
 ·rw[if_neg hc]
  have hprog:parse_reader_level (f+1) 7 (RD l ts false)=parse_reader_primary f (RD l ts false):=by
   rw[parse_reader_level]
   have e:(RD l ts false).Ch=false:=rfl
   simp only[e,Bool.false_eq_true,if_false]
   rw[if_neg (by simp),if_pos (by simp),Ado h hl hc]
   simp only[Option.bind_some,Bool.false_eq_true,if_false]
   cases parse_reader_primary f (RD l ts false)<;>rfl
  unfold PG at hp⊢
  rw[hprog]
  exact hp
theorem Ayt{l ts:List Tk}(hF:Fit l)(h:ts <:+ l){f:Nat}(hp:PG (parse_reader_level f 4) l ts (CL ts 4))
  (ih: ∀r,r <:+ l→r.length<ts.length→PG (parse_reader_level f 3) l r (CL r 3)):PG (parse_reader_level (f+1) 3) l ts (CL ts 3):=by
 have hl:=hF.l6
 have hle:=hF.le h
 rw[Bkk]
 by_cases hc:isT Ob ts=true
 ·rw[if_pos hc]
  obtain⟨t,r,rfl,_,_⟩:=Fo hc
  have hr:=Kf h
  have hprog:parse_reader_level (f+1) 3 (RD l (t::r) false)=(parse_reader_level f 3 (RD l r false)).bind fun x8=>(Co 14 [x8.1]).bind fun x9=>some (x9,x8.2):=by
   rw[parse_reader_level]
   have e:(RD l (t::r) false).Ch=false:=rfl
   simp only[e,Bool.false_eq_true,if_false]
   rw[if_pos (by simp),show([110,111,116]:By)=Ob from rfl,Ai7 h hl hc]
   rfl
  simp only[List.tail_cons,List.length_cons] at hle⊢
  rcases(ih r hr (by simp)).of with⟨a,i,e1,e2,nb1⟩|⟨o,i,e1,e2,e3,nb3⟩
  ·rw[e1]
   have hz:=Ij e1
   refine Agm ?_ (by simp;omega) (by(try simp only[De,Cj,Dd,List.length_append,List.length_cons,List.length_nil]);(repeat' apply And.intro)<;>first|assumption|omega|trivial)
   rw[hprog,e2]
   simp only[Option.bind_some]
   rw[Bhr (by omega)]
   rfl
  ·rw[e1]
   refine PG.no (o:=⟨14,[]⟩::o) ?_ (by simp;omega) (by(try simp only[De,Cj,Dd,List.length_append,List.length_cons,List.length_nil]);(repeat' apply And.intro)<;>first|assumption|omega|trivial)
   rw[hprog,e2]
   simp only[Option.bind_some]
   rw[Bhr (by omega)]
   rfl
 ·rw[if_neg hc]
  have hprog:parse_reader_level (f+1) 3 (RD l ts false)=parse_reader_level f 4 (RD l ts false):=by
   rw[parse_reader_level]
   have e:(RD l ts false).Ch=false:=rfl
   simp only[e,Bool.false_eq_true,if_false]
   rw[if_pos (by simp),show([110,111,116]:By)=Ob from rfl,Ado h hl hc]
   simp only[Option.bind_some,Bool.false_eq_true,if_false]
   cases parse_reader_level f 4 (RD l ts false)<;>rfl
  unfold PG at hp⊢
  rw[hprog]
  exact hp
theorem A8h{l ts:List Tk}(hF:Fit l)(h:ts <:+ l){f:Nat}(hf:2≤f)(hp:PG (parse_reader_level f 1) l ts (CL ts 1))
  (ih: ∀r,r <:+ l→r.length<ts.length→PG (parse_reader_any f) l r (CL r 0)):PG (parse_reader_any (f+1)) l ts (CL ts 0):=by
 have hl:=hF.l6
 have hle:=hF.le h
 obtain⟨f,rfl⟩: ∃g,f=g+2:=⟨f-2,by omega⟩
 rw[Bgo]
 by_cases hc:isT sIf ts=true
 ·rw[if_pos hc]
  obtain⟨t,r,rfl,_,_⟩:=Fo hc
  have hr:=Kf h
  have hprog:parse_reader_any (f+2+1) (RD l (t::r) false)=(parse_reader_any (f+2) (RD l r false)).bind fun x4=>
   (Am [Sh] x4.2).bind fun x5=>
   (parse_reader_any (f+2) x5).bind fun x6=>
   (Am [Nz] x6.2).bind fun x7=>
   (parse_reader_any (f+2) x7).bind fun x8=>
   (Co 15 [x4.1,x6.1,x8.1]).bind fun x9=>
   some (x9,x8.2):=by
   rw[parse_reader_any,show([105,102]:By)=sIf from rfl,Ai7 h hl hc]
   rfl
  simp only[List.tail_cons,List.length_cons] at hle⊢
  rcases(ih r hr (by simp)).of with⟨a,i,e1,e2,nb1⟩|⟨o,i,e1,e2,e3,nb3⟩
  ·rw[e1]
   have hz:=Ij e1
   have hi:=Wh hr e1
   have hil:=Bhh e1
   show PG _ _ _ (H4 Sh i fun i2=>bnd (CL i2 0) fun b j=>H4 Nz j fun j2=>bnd (CL j2 0) fun c k=>(some (⟨15,[]⟩::(a++b++c)),k))
   unfold H4
   by_cases hc2:isT Sh i=true
   ·rw[if_pos hc2]
    obtain⟨t2,r2,rfl,_,_⟩:=Fo hc2
    simp only[List.tail_cons,List.length_cons] at hz hil⊢
    have hr2:=Kf hi
    rcases(ih r2 hr2 (by simp;omega)).of with⟨b,j,e4,e5,nb4⟩|⟨o,j,e4,e5,e6,nb6⟩
    ·rw[e4]
     have hz2:=Ij e4
     have hj:=Wh hr2 e4
     have hjl:=Bhh e4
     show PG _ _ _ (if isT Nz j=true then _ else _)
     by_cases hc3:isT Nz j=true
     ·rw[if_pos hc3]
      obtain⟨t3,r3,rfl,_,_⟩:=Fo hc3
      simp only[List.tail_cons,List.length_cons] at hz2 hjl⊢
      have hr3:=Kf hj
      rcases(ih r3 hr3 (by simp;omega)).of with⟨c,k,e7,e8,nb7⟩|⟨o,k,e7,e8,e9,nb9⟩
      ·rw[e7]
       have hz3:=Ij e7
       refine Agm ?_ (by simp;omega) (by(try simp only[De,Cj,Dd,List.length_append,List.length_cons,List.length_nil]);(repeat' apply And.intro)<;>first|assumption|omega|trivial)
       rw[hprog,e2]
       simp only[Option.bind_some]
       rw[Fj hi hl hc2]
       simp only[Option.bind_some,List.tail_cons,e5]
       rw[Fj hj hl hc3]
       simp only[Option.bind_some,List.tail_cons,e8]
       rw[node3 (by omega)]
       rfl
      ·rw[e7]
       refine PG.no (o:=⟨15,[]⟩::(a++b++o)) ?_ (by simp;omega) (by(try simp only[De,Cj,Dd,List.length_append,List.length_cons,List.length_nil]);(repeat' apply And.intro)<;>first|assumption|omega|trivial)
       rw[hprog,e2]
       simp only[Option.bind_some]
       rw[Fj hi hl hc2]
       simp only[Option.bind_some,List.tail_cons,e5]
       rw[Fj hj hl hc3]
       simp only[Option.bind_some,List.tail_cons,e8]
       rw[node3 (by omega)]
       rfl
     ·rw[if_neg hc3]
      refine PG.no (o:=⟨15,[]⟩::(a++b++[])) ?_ (by simp;omega) (by(try simp only[De,Cj,Dd,List.length_append,List.length_cons,List.length_nil]);(repeat' apply And.intro)<;>first|assumption|omega|trivial)
      rw[hprog,e2]
      simp only[Option.bind_some]
      rw[Fj hi hl hc2]
      simp only[Option.bind_some,List.tail_cons,e5]
      rw[Aqq hj hl hc3]
      simp only[Option.bind_some]
      rw[Jh hj hl]
      simp only[Option.bind_some]
      rw[node3 (by simp;omega)]
      rfl
    ·rw[e4]
     have hj:=Wh hr2 e4
     refine PG.no (o:=⟨15,[]⟩::(a++o++[])) ?_ (by simp;omega) (by(try simp only[De,Cj,Dd,List.length_append,List.length_cons,List.length_nil]);(repeat' apply And.intro)<;>first|assumption|omega|trivial)
     rw[hprog,e2]
     simp only[Option.bind_some]
     rw[Fj hi hl hc2]
     simp only[Option.bind_some,List.tail_cons,e5]
     rw[Jv hj hl]
     simp only[Option.bind_some]
     rw[Jh hj hl]
     simp only[Option.bind_some]
     rw[node3 (by simp;omega)]
     rfl
   ·rw[if_neg hc2]
    refine PG.no (o:=⟨15,[]⟩::(a++[]++[])) ?_ (by simp;omega) (by(try simp only[De,Cj,Dd,List.length_append,List.length_cons,List.length_nil]);(repeat' apply And.intro)<;>first|assumption|omega|trivial)
    rw[hprog,e2]
    simp only[Option.bind_some]
    rw[Aqq hi hl hc2]
    simp only[Option.bind_some]
    rw[Jh hi hl]
    simp only[Option.bind_some]
    rw[Jv hi hl]
    simp only[Option.bind_some]
    rw[Jh hi hl]
    simp only[Option.bind_some]
    rw[node3 (by simp;omega)]
    rfl
  ·rw[e1]
   have hi:=Wh hr e1
   refine PG.no (o:=⟨15,[]⟩::(o++[]++[])) ?_ (by simp;omega) (by(try simp only[De,Cj,Dd,List.length_append,List.length_cons,List.length_nil]);(repeat' apply And.intro)<;>first|assumption|omega|trivial)
   rw[hprog,e2]
   simp only[Option.bind_some]
   rw[Jv hi hl]
   simp only[Option.bind_some]
   rw[Jh hi hl]
   simp only[Option.bind_some]
   rw[Jv hi hl]
   simp only[Option.bind_some]
   rw[Jh hi hl]
   simp only[Option.bind_some]
   rw[node3 (by simp;omega)]
   rfl
 ·rw[if_neg hc]
  have hprog:parse_reader_any (f+2+1) (RD l ts false)=parse_reader_level (f+2) 1 (RD l ts false):=by
   rw[parse_reader_any,show([105,102]:By)=sIf from rfl,Ado h hl hc]
   simp only[Option.bind_some,Bool.not_false,if_true]
   cases parse_reader_level (f+2) 1 (RD l ts false)<;>rfl
  unfold PG at hp⊢
  rw[hprog]
  exact hp
theorem Bmu{l:List Tk}(hF:Fit l){f n:Nat}(hn:n=1∨n=2∨n=4∨n=5∨n=6){N T:Nat}(hT:T≤100000)
  (ih: ∀r,r <:+ l→r.length<N→PG (parse_reader_level f ((n+1:Nat):Int)) l r (CL r (n+1))): ∀(k:Nat) (out:List Nd) (i:List Tk),i <:+ l→i.length≤k→i.length≤N→out.length+i.length≤T→NB out→ ∀kk,
   (Aj3 n i false=true→ ∃t r,i=t::r∧(Br t).2=n∧kk=(Br t).1)→
   ∃o,A3 (fun(qj13:(List Aa)×Int×Bool×Ab)=>match qj13 with
      |(out14,kind15,is16,r17)=>(
       if is16=true then
        (parse_reader_level f (IntKind.wrap .i64 ((n:Int)+1)) (⟨r17.Jn,IntKind.wrap .i64 (r17.C2+1),r17.Ch⟩:Ab)).bind fun x18=>
        (Co kind15 [out14,x18.1]).bind fun x19=>
        if ((n:Int)==4)=true then
         some (.inr (x19,x18.2))
        else
         (Ce (n:Int) x18.2).bind fun x20=>
         some (.inl (x19,x20.1,x20.2,x18.2))
       else
        some (.inr (out14,r17)):Option (((List Aa)×Int×Bool×Ab)⊕((List Aa)×Ab)))) (out,kk,Aj3 n i false,RD l i false)=some (o,RD l (Ad2 n k out i).2 (Ad2 n k out i).1.isNone)∧(∀a,(Ad2 n k out i).1=some a→o=a)∧o.length≤T+1∧NB o:=by
 have hl:=hF.l6
 have hw:IntKind.wrap .i64 ((n:Int)+1)=((n+1:Nat):Int):=by rw[wrap64 (by omega) (by omega)];rfl
 intro k
 induction k with
 |zero=>
  intro out i hi hk hN hout hnb kk hkk
  obtain rfl:i=[]:=List.eq_nil_of_length_eq_zero (by omega)
  exact⟨out,A1 (by rfl),(fun a ha=>Option.some.inj ha),by omega,hnb⟩
 |succ k ihk=>
  intro out i hi hk hN hout hnb kk hkk
  cases i with
  |nil=>exact⟨out,A1 (by rfl),(fun a ha=>Option.some.inj ha),by omega,hnb⟩
  |cons t r=>
   simp only[List.length_cons] at hk hN hout
   have hr:=Kf hi
   have hrl:=hF.le hr
   rw[Ad2]
   by_cases hs:(Br t).2=n
   ·rw[if_pos hs]
    have hb:Aj3 n (t::r) false=true:=by simp[Aj3,hs]
    obtain⟨t',r',he,h2,h3⟩:=hkk hb
    cases he
    subst h3
    rw[hb]
    have hstep:(⟨(RD l (t::r) false).Jn,IntKind.wrap .i64 ((RD l (t::r) false).C2+1),(RD l (t::r) false).Ch⟩:Ab)=RD l r false:=by
     have e:IntKind.wrap .i64 ((RD l (t::r) false).C2+1)=ps l r:=Apf hi hl
     rw[e];rfl
    rcases(ih r hr (by omega)).of with⟨b,j,e1,e2,nb1⟩|⟨o,j,e1,e2,e3,nb3⟩
    ·have hz:=Ij e1
     have hj:=Wh hr e1
     have hjl:=Bhh e1
     rw[e1]
     show ∃o,_∧(∀a,(if n=4 then _ else _:Rs (List Nd)).1=some a→o=a)∧_
     by_cases h4:n=4
     ·have e4:bnd ((some b,j):Rs (List Nd)) (fun b j=>if n=4 then((some (⟨(Br t).1,[]⟩::(out++b)),j):Rs (List Nd)) else Ad2 n k (⟨(Br t).1,[]⟩::(out++b)) j)=(some (⟨(Br t).1,[]⟩::(out++b)),j):=by
       show(if n=4 then _ else _)=_
       rw[if_pos h4]
      rw[e4,if_pos h4]
      refine⟨⟨(Br t).1,[]⟩::(out++b),A1 ?_,(fun a ha=>Option.some.inj ha),(by simp;omega),(by(try simp only[De,Cj,Dd,List.length_append,List.length_cons,List.length_nil]);(repeat' apply And.intro)<;>first|assumption|omega|trivial)⟩
      show(if true=true then _ else _)=_
      rw[if_pos rfl,hstep,hw,e2]
      simp only[Option.bind_some]
      rw[Alg (by omega)]
      simp only[Option.bind_some]
      rw[if_pos (by simp;omega)]
      rfl
     ·have e4:bnd ((some b,j):Rs (List Nd)) (fun b j=>if n=4 then((some (⟨(Br t).1,[]⟩::(out++b)),j):Rs (List Nd)) else Ad2 n k (⟨(Br t).1,[]⟩::(out++b)) j)=Ad2 n k (⟨(Br t).1,[]⟩::(out++b)) j:=by
       show(if n=4 then _ else _)=_
       rw[if_neg h4]
      rw[e4,if_neg h4]
      obtain⟨k2,h5,h6⟩:=Al1 hj (n:=n) (by omega) false
      obtain⟨o,h7,h8,h9⟩:=ihk (⟨(Br t).1,[]⟩::(out++b)) j hj (by omega) (by omega) (by simp;omega) (by(try simp only[De,Cj,Dd,List.length_append,List.length_cons,List.length_nil]);(repeat' apply And.intro)<;>first|assumption|omega|trivial) k2 (fun hb=>by
       obtain⟨t,r,g1,_,g2,g3⟩:=h6 hb
       exact⟨t,r,g1,g2,g3⟩)
      refine⟨o,?_,h8,h9⟩
      rw[←h7]
      refine B0 ?_
      show(if true=true then _ else _)=_
      rw[if_pos rfl,hstep,hw,e2]
      simp only[Option.bind_some]
      rw[Alg (by omega)]
      simp only[Option.bind_some]
      rw[if_neg (by simp;omega),h5]
      rfl
    ·have hj:=Wh hr e1
     have e4:bnd (CL r (n+1)) (fun b j=>if n=4 then((some (⟨(Br t).1,[]⟩::(out++b)),j):Rs (List Nd)) else Ad2 n k (⟨(Br t).1,[]⟩::(out++b)) j)=(none,j):=by rw[e1];rfl
     rw[e4]
     refine⟨⟨(Br t).1,[]⟩::(out++o),?_,(fun a ha=>by cases ha),(by simp;omega),(by(try simp only[De,Cj,Dd,List.length_append,List.length_cons,List.length_nil]);(repeat' apply And.intro)<;>first|assumption|omega|trivial)⟩
     by_cases h4:n=4
     ·refine A1 ?_
      show(if true=true then _ else _)=_
      rw[if_pos rfl,hstep,hw,e2]
      simp only[Option.bind_some]
      rw[Alg (by omega)]
      simp only[Option.bind_some]
      rw[if_pos (by simp;omega)]
      rfl
     ·obtain⟨k2,h5⟩:=Auk hj (n:=n) (by omega)
      refine(B0 (s':=(⟨(Br t).1,[]⟩::(out++o),k2,false,RD l j true)) ?_).trans (A1 (by rfl))
      show(if true=true then _ else _)=_
      rw[if_pos rfl,hstep,hw,e2]
      simp only[Option.bind_some]
      rw[Alg (by omega)]
      simp only[Option.bind_some]
      rw[if_neg (by simp;omega),h5]
      rfl
   ·rw[if_neg hs]
    have hb:Aj3 n (t::r) false=false:=by simp[Aj3,hs]
    rw[hb]
    exact⟨out,A1 (by rfl),(fun a ha=>Option.some.inj ha),by omega,hnb⟩
theorem mid_step{l ts:List Tk}(hF:Fit l)(h:ts <:+ l){f n:Nat}(hn:n=1∨n=2∨n=4∨n=5∨n=6)(hp:PG (parse_reader_level f ((n+1:Nat):Int)) l ts (CL ts (n+1)))
  (ih: ∀r,r <:+ l→r.length<ts.length→PG (parse_reader_level f ((n+1:Nat):Int)) l r (CL r (n+1))):PG (parse_reader_level (f+1) (n:Int)) l ts (CL ts n):=by
 have hl:=hF.l6
 have hle:=hF.le h
 rw[Bq9 hn]
 have hw:IntKind.wrap .i64 ((n:Int)+1)=((n+1:Nat):Int):=by rw[wrap64 (by omega) (by omega)];rfl
 have h3: ¬(((n:Int)==3)=true):=by simp;omega
 have h7: ¬(((n:Int)==7)=true):=by simp;omega
 rcases hp.of with⟨a,i,e1,e2,nb1⟩|⟨o,i,e1,e2,e3,nb3⟩
 ·have hz:=Ij e1
  have hi:=Wh h e1
  have hil:=Bhh e1
  rw[e1]
  show PG _ _ _ (Ad2 n i.length a i)
  obtain⟨k2,h5,h6⟩:=Al1 hi (n:=n) (by omega) false
  obtain⟨o,g1,g2,g3⟩:=Bmu hF hn (N:=ts.length) (T:=ts.length) hle ih i.length a i hi (Nat.le_refl _) hil hz nb1 k2 (fun hb=>by
   obtain⟨t,r,g1,_,g2,g3⟩:=h6 hb
   exact⟨t,r,g1,g2,g3⟩)
  refine⟨o,?_,g2,g3⟩
  rw[parse_reader_level]
  have e:(RD l ts false).Ch=false:=rfl
  simp only[e,Bool.false_eq_true,if_false]
  rw[if_neg h3,if_neg h7,hw,e2]
  simp only[Option.bind_some]
  rw[h5]
  simp only[Option.bind_some]
  rw[hw] at g1
  exact Bj g1 rfl
 ·have hi:=Wh h e1
  rw[e1]
  refine PG.no (o:=o) ?_ e3 nb3
  rw[parse_reader_level]
  have e:(RD l ts false).Ch=false:=rfl
  simp only[e,Bool.false_eq_true,if_false]
  obtain⟨k2,h5⟩:=Auk hi (n:=n) (by omega)
  rw[if_neg h3,if_neg h7,hw,e2]
  simp only[Option.bind_some]
  rw[h5]
  simp only[Option.bind_some]
  refine Bj (A1 (o:=(o,RD l i true)) ?_) rfl
  rfl
theorem Bne{l:List Tk}(hF:Fit l): ∀(N:Nat) (ts:List Tk),ts <:+ l→ts.length≤N→
  (∀f,12*ts.length+3≤f→PG (parse_reader_primary f) l ts (Db CL ts))∧
  (∀(n f:Nat),1≤n→n≤7→12*ts.length+11≤f+n→PG (parse_reader_level f (n:Int)) l ts (CL ts n))∧
  (∀f,12*ts.length+12≤f→PG (parse_reader_any f) l ts (CL ts 0)):=by
 intro N
 induction N with
 |zero=>
  intro ts hts hN
  obtain rfl:ts=[]:=List.eq_nil_of_length_eq_zero (by omega)
  have hp: ∀f,12*([]:List Tk).length+3≤f→PG (parse_reader_primary f) l [] (Db CL []):=by
   intro f hf
   obtain⟨g,rfl⟩: ∃g,f=g+1:=⟨f-1,by omega⟩
   exact A23 hF hts (by simp at hf;omega) (fun r _ hr=>absurd hr (by simp))
  have hlv: ∀(d n f:Nat),n+d=7→1≤n→12*([]:List Tk).length+11≤f+n→PG (parse_reader_level f (n:Int)) l [] (CL [] n):=by
   intro d
   induction d with
   |zero=>
    intro n f hd _ hf
    obtain rfl:n=7:=by omega
    obtain⟨g,rfl⟩: ∃g,f=g+1:=⟨f-1,by simp at hf;omega⟩
    exact Ayg hF hts (hp g (by simp at hf⊢;omega)) (fun r _ hr=>absurd hr (by simp))
   |succ d ihd=>
    intro n f hd hn hf
    obtain⟨g,rfl⟩: ∃g,f=g+1:=⟨f-1,by simp at hf;omega⟩
    have hnx:=ihd (n+1) g (by omega) (by omega) (by simp at hf⊢;omega)
    by_cases h3:n=3
    ·subst h3
     exact Ayt hF hts hnx (fun r _ hr=>absurd hr (by simp))
    ·exact mid_step hF hts (by omega) hnx (fun r _ hr=>absurd hr (by simp))
  refine⟨hp,fun n f h1 h2 hf=>hlv (7-n) n f (by omega) h1 hf,fun f hf=>?_⟩
  obtain⟨g,rfl⟩: ∃g,f=g+1:=⟨f-1,by simp at hf;omega⟩
  exact A8h hF hts (by simp at hf;omega) (hlv 6 1 g rfl (by omega) (by simp at hf⊢;omega)) (fun r _ hr=>absurd hr (by simp))
 |succ N ih=>
  intro ts hts hN
  have hp: ∀f,12*ts.length+3≤f→PG (parse_reader_primary f) l ts (Db CL ts):=by
   intro f hf
   obtain⟨g,rfl⟩: ∃g,f=g+1:=⟨f-1,by omega⟩
   exact A23 hF hts (by omega) (fun r h1 hr=>(ih r h1 (by omega)).2.2 g (by omega))
  have hlv: ∀(d n f:Nat),n+d=7→1≤n→12*ts.length+11≤f+n→PG (parse_reader_level f (n:Int)) l ts (CL ts n):=by
   intro d
   induction d with
   |zero=>
    intro n f hd _ hf
    obtain rfl:n=7:=by omega
    obtain⟨g,rfl⟩: ∃g,f=g+1:=⟨f-1,by omega⟩
    exact Ayg hF hts (hp g (by omega)) (fun r h1 hr=>(ih r h1 (by omega)).2.1 7 g (by omega) (by omega) (by omega))
   |succ d ihd=>
    intro n f hd hn hf
    obtain⟨g,rfl⟩: ∃g,f=g+1:=⟨f-1,by omega⟩
    have hnx:=ihd (n+1) g (by omega) (by omega) (by omega)
    by_cases h3:n=3
    ·subst h3
     exact Ayt hF hts hnx (fun r h1 hr=>(ih r h1 (by omega)).2.1 3 g (by omega) (by omega) (by omega))
    ·exact mid_step hF hts (by omega) hnx (fun r h1 hr=>(ih r h1 (by omega)).2.1 (n+1) g (by omega) (by omega) (by omega))
  refine⟨hp,fun n f h1 h2 hf=>hlv (7-n) n f (by omega) h1 hf,fun f hf=>?_⟩
  obtain⟨g,rfl⟩: ∃g,f=g+1:=⟨f-1,by omega⟩
  exact A8h hF hts (by omega) (hlv 6 1 g rfl (by omega) (by omega)) (fun r h1 hr=>(ih r h1 (by omega)).2.2 g (by omega))
theorem Bc8{l ts:List Tk}(hF:Fit l)(h:ts <:+ l)(hl:l.length≤8000):PG (parse_reader_any 100000) l ts (CL ts 0):=
 (Bne hF ts.length ts h (Nat.le_refl _)).2.2 100000 (by have:=h.length_le;omega)
end Go.Av.G
end
section
set_option maxRecDepth 100000
set_option maxHeartbeats 8000000
namespace Go.Av.G
open Go Go.Av Go.Proofs
end Go.Av.G
end
section
set_option maxHeartbeats 8000000
set_option maxRecDepth 100000
namespace Go.Av.G
open Go Go.Av Go.Proofs
def Jd(k:Int):Option Nat:=if k<0∨17<k then none else if k≤1 then some 0 else if k=2∨k=14 then some 1 else if k=15 then some 3 else some 2
theorem A4h{k:Int}{n:Nat}(h1:Jd k=some n):n≤3:=by
 unfold Jd at h1
 split at h1
 ·cases h1
 ·split at h1
  ·cases h1;omega
  ·split at h1
   ·cases h1;omega
   ·split at h1
    ·cases h1;omega
    ·cases h1;omega
def Bmc(k:Int):Int:=match Jd k with|none=> -1|some n=>(n:Int)
theorem has_eq(k:Int):Qw k=some (Bmc k):=by
 unfold Qw Bmc Jd
 simp only[Option.bind_some,Bool.or_eq_true,decide_eq_true_eq,beq_iff_eq]
 by_cases h0:k<0∨17<k
 ·rw[if_pos (by omega),if_pos h0]
 ·rw[if_neg (by omega),if_neg h0]
  by_cases h1:k≤1
  ·rw[if_pos h1,if_pos h1];rfl
  ·rw[if_neg h1,if_neg h1]
   by_cases h2:k=2∨k=14
   ·rw[if_pos h2,if_pos h2];rfl
   ·rw[if_neg h2,if_neg h2]
    by_cases h3:k=15
    ·rw[if_pos h3,if_pos h3];rfl
    ·rw[if_neg h3,if_neg h3];rfl
def trimS(s:By):By:=if s.getLast?=some 37 then s.dropLast else s
def Di(s:By):Bool:=okT ⟨1,0,0,s⟩
def Iy(s:By)(p:Bool):Bool:=okT ⟨0,0,0,s⟩&& !Aqr s p
def Js(n:Nd):Bool:=if n.Ad=0 then Di (trimS n.Ag) else if n.Ad=1 then Iy n.Ag false else decide (n.Ag=[])
theorem A2e{s:By}(hl:s.length≤1000000):stringslite_HasSuffix s [37]=some (decide (s.getLast?=some 37)):=by
 unfold stringslite_HasSuffix
 simp only[Option.bind_some]
 rcases List.eq_nil_or_concat s with rfl|⟨u,b,rfl⟩
 ·rfl
 ·have hlen:((u++[b]).length:Int)=(u.length:Int)+1:=by simp
  have hle:u.length≤1000000:=by simp only[List.length_append,List.length_cons,List.length_nil,List.concat_eq_append] at hl;omega
  simp only[List.concat_eq_append] at*
  have hw:IntKind.wrap .i64 (((u++[b]).length:Int)-(([37]:By).length:Int))=(u.length:Int):=by
   rw[wrap64 (by simp only[List.length_append,List.length_cons,List.length_nil];omega) (by simp only[List.length_append,List.length_cons,List.length_nil];omega)];simp
  have hg:decide (((u++[b]).length:Int)≥(([37]:By).length:Int))=true:=by simp only[List.length_append,List.length_cons,List.length_nil,decide_eq_true_eq];omega
  rw[hw,hg,Hm (by simp),List.drop_left]
  simp only[A8,cond_true,Option.bind_some,Bool.true_and,Option.some.injEq]
  by_cases hb:b=37<;>simp[hb]
theorem Arl{s:By}(hl:s.length≤1000000)(h:s.getLast?=some 37):slO s 0 (IntKind.wrap .i64 ((s.length:Int)-(([37]:By).length:Int)))=some s.dropLast:=by
 rcases List.eq_nil_or_concat s with rfl|⟨u,b,rfl⟩
 ·cases h
 ·simp only[List.concat_eq_append] at*
  have hle:u.length≤1000000:=by simp only[List.length_append,List.length_cons,List.length_nil,List.concat_eq_append] at hl;omega
  have hw:IntKind.wrap .i64 (((u++[b]).length:Int)-(([37]:By).length:Int))=(u.length:Int):=by
   rw[wrap64 (by simp only[List.length_append,List.length_cons,List.length_nil];omega) (by simp only[List.length_append,List.length_cons,List.length_nil];omega)];simp
  rw[hw,Zk (by simp)]
  simp
theorem Bqf{s:By}(hl:s.length≤1000000):strings_TrimSuffix s [37]=some (trimS s):=by
 unfold strings_TrimSuffix stringslite_TrimSuffix trimS
 rw[A2e hl]
 simp only[Option.bind_some,decide_eq_true_eq]
 split
 ·rw[Arl hl (by assumption)];rfl
 ·rfl
theorem Boi(s:By):(trimS s).length≤s.length:=by unfold trimS;split<;>simp
theorem Ajs{s:By}(hl:s.length≤1000000):E3 s=some (Di s):=by
 unfold E3
 rw[A8b (t:=⟨1,0,0,s⟩) (by show s.length<_;omega)]
 rfl
theorem Bii{s:By}(hl:s.length≤1000000)(p:Bool):Lm s p=some (Iy s p):=by
 unfold Lm Iy
 rw[A8b (t:=⟨0,0,0,s⟩) (by show s.length<_;omega)]
 simp only[Option.bind_some]
 rw[Bm1]
 simp only[A8,Option.bind_some,Option.some.injEq]
 cases okT ⟨0,0,0,s⟩<;>rfl
theorem Bpi{n:Nd}(hl:n.Ag.length≤1000000):Aan n=some (Js n):=by
 unfold Aan Js
 simp only[beq_iff_eq]
 by_cases h0:n.Ad=0
 ·rw[if_pos h0,if_pos h0,Bqf hl]
  simp only[Option.bind_some]
  rw[Ajs (Nat.le_trans (Boi _) hl)]
  rfl
 ·rw[if_neg h0,if_neg h0]
  by_cases h1:n.Ad=1
  ·rw[if_pos h1,if_pos h1,Bii hl];rfl
  ·rw[if_neg h1,if_neg h1]
   cases n.Ag<;>rfl
def stk:List Nd→Option (List Nat)
 |[]=>some []
 |n::l=>match stk l with
  |none=>none
  |some st=>match Jd n.Ad with
   |none=>none
   |some k=>if Js n=true∧k≤st.length then some (((st.take k).foldl max 0+1)::st.drop k) else none
def Jm(l:List Nd):Nat:=if 200<l.length then 0 else match stk l with
 |some [d]=>if d≤24 then d else 0
 |_=>0
theorem Bqb{l:List Nd}(h:stk l=some []):l=[]:=by
 cases l with
 |nil=>rfl
 |cons n l=>
  rw[stk] at h
  cases h1:stk l with
  |none=>rw[h1] at h;cases h
  |some s=>
   rw[h1] at h
   simp only at h
   cases h2:Jd n.Ad with
   |none=>rw[h2] at h;cases h
   |some k=>
    rw[h2] at h
    simp only at h
    split at h<;>cases h
def I1(w:List Nd→Option (List Nd×Nat)):Nat→List Nd→Nat→Option (List Nd×Nat)
 |0,l,deep=>some (l,deep)
 |k+1,l,deep=>match w l with
  |none=>none
  |some (r,d)=>I1 w k r (max deep d)
def Fi:Nat→List Nd→Option (List Nd×Nat)
 |0,_=>none
 |_+1,[]=>none
 |f+1,n::l=>match Jd n.Ad with
  |none=>none
  |some k=>if Js n=true then(I1 (Fi f) k l 0).map (fun x=>(x.1,x.2+1)) else none
theorem Au3{w:List Nd→Option (List Nd×Nat)}(hw: ∀l r d,w l=some (r,d)→r <:+ l): ∀(k:Nat) (l:List Nd) (m:Nat) (r:List Nd) (d:Nat),I1 w k l m=some (r,d)→r <:+ l
 |0,l,m,r,d,h=>by cases h;exact List.suffix_refl _
 |k+1,l,m,r,d,h=>by
  rw[I1] at h
  cases h1:w l with
  |none=>rw[h1] at h;cases h
  |some x=>
   rw[h1] at h
   exact(Au3 hw k _ _ r d h).trans (hw l x.1 x.2 h1)
theorem Ay1: ∀(f:Nat) (l r:List Nd) (d:Nat),Fi f l=some (r,d)→r <:+ l
 |0,l,r,d,h=>by cases h
 |f+1,[],r,d,h=>by cases h
 |f+1,n::l,r,d,h=>by
  rw[Fi] at h
  cases h1:Jd n.Ad with
  |none=>rw[h1] at h;cases h
  |some k=>
   rw[h1] at h
   simp only at h
   split at h
   ·cases h2:I1 (Fi f) k l 0 with
    |none=>rw[h2] at h;cases h
    |some x=>
     rw[h2] at h
     cases h
     exact(Au3 (Ay1 f) k l 0 x.1 x.2 h2).trans (List.suffix_cons n l)
   ·cases h
theorem Bcs(f:Nat)(l r:List Nd)(d:Nat)(h:Fi f l=some (r,d)):1≤d∧r.length<l.length:=by
 match f,l with
 |0,l=>cases h
 |f+1,[]=>cases h
 |f+1,n::l=>
  rw[Fi] at h
  cases h1:Jd n.Ad with
  |none=>rw[h1] at h;cases h
  |some k=>
   rw[h1] at h
   simp only at h
   split at h
   ·cases h2:I1 (Fi f) k l 0 with
    |none=>rw[h2] at h;cases h
    |some x=>
     rw[h2] at h
     cases h
     have:=(Au3 (Ay1 f) k l 0 x.1 x.2 h2).length_le
     simp
     omega
   ·cases h
theorem Bhf{w:List Nd→Option (List Nd×Nat)}{N:Nat}(hw: ∀l d st,l.length≤N→stk l=some (d::st)→ ∃r,w l=some (r,d)∧r.length<l.length∧stk r=some st): ∀(k:Nat) (l:List Nd) (m:Nat) (st:List Nat),l.length≤N→stk l=some st→k≤st.length→ ∃r,I1 w k l m=some (r,(st.take k).foldl max m)∧stk r=some (st.drop k)
 |0,l,m,st,_,h,_=>⟨l,rfl,h⟩
 |k+1,l,m,[],_,h,hk=>absurd hk (by simp)
 |k+1,l,m,d::st,hN,h,hk=>by
  obtain⟨r,h1,h2,h3⟩:=hw l d st hN h
  obtain⟨r2,h4,h5⟩:=Bhf hw k r (max m d) st (by omega) h3 (by simpa using hk)
  refine⟨r2,?_,h5⟩
  rw[I1,h1]
  exact h4
theorem Big: ∀(N f:Nat) (l:List Nd) (d:Nat) (st:List Nat),l.length≤N→l.length<f→stk l=some (d::st)→ ∃r,Fi f l=some (r,d)∧r.length<l.length∧stk r=some st:=by
 intro N
 induction N with
 |zero=>
  intro f l d st hN hf h
  obtain rfl:l=[]:=List.eq_nil_of_length_eq_zero (by omega)
  cases h
 |succ N ih=>
  intro f l d st hN hf h
  cases l with
  |nil=>cases h
  |cons n l=>
   obtain⟨g,rfl⟩: ∃g,f=g+1:=⟨f-1,by omega⟩
   simp only[List.length_cons] at hN hf
   rw[stk] at h
   cases h1:stk l with
   |none=>rw[h1] at h;cases h
   |some s=>
    rw[h1] at h
    simp only at h
    cases h2:Jd n.Ad with
    |none=>rw[h2] at h;cases h
    |some k=>
     rw[h2] at h
     simp only at h
     split at h
     ·rename_i h3
      cases h
      obtain⟨r,h4,h5⟩:=Bhf (w:=Fi g) (N:=l.length) (fun l' d' st' hl' hs'=>ih g l' d' st' (by omega) (by omega) hs') k l 0 s (Nat.le_refl _) h1 h3.2
      have h6:Fi (g+1) (n::l)=some (r,(s.take k).foldl max 0+1):=by
       rw[Fi,h2]
       simp only
       rw[if_pos h3.1,h4]
       rfl
      exact⟨r,h6,(Bcs _ _ _ _ h6).2,h5⟩
     ·cases h
theorem Bhg{w:List Nd→Option (List Nd×Nat)}(hw: ∀l r d st,w l=some (r,d)→stk r=some st→stk l=some (d::st)): ∀(k:Nat) (l:List Nd) (m:Nat) (r:List Nd) (d:Nat) (st:List Nat),I1 w k l m=some (r,d)→stk r=some st→ ∃ds:List Nat,ds.length=k∧stk l=some (ds++st)∧d=ds.foldl max m
 |0,l,m,r,d,st,h,hs=>by cases h;exact⟨[],rfl,hs,rfl⟩
 |k+1,l,m,r,d,st,h,hs=>by
  rw[I1] at h
  cases h1:w l with
  |none=>rw[h1] at h;cases h
  |some x=>
   rw[h1] at h
   obtain⟨ds,h2,h3,h4⟩:=Bhg hw k x.1 (max m x.2) r d st h hs
   exact⟨x.2::ds,by simp[h2],hw l x.1 x.2 _ h1 h3,h4⟩
theorem Bih: ∀(f:Nat) (l r:List Nd) (d:Nat) (st:List Nat),Fi f l=some (r,d)→stk r=some st→stk l=some (d::st)
 |0,l,r,d,st,h,hs=>by cases h
 |f+1,[],r,d,st,h,hs=>by cases h
 |f+1,n::l,r,d,st,h,hs=>by
  rw[Fi] at h
  cases h1:Jd n.Ad with
  |none=>rw[h1] at h;cases h
  |some k=>
   rw[h1] at h
   simp only at h
   split at h
   ·rename_i h3
    cases h2:I1 (Fi f) k l 0 with
    |none=>rw[h2] at h;cases h
    |some x=>
     rw[h2] at h
     cases h
     obtain⟨ds,g1,g2,g3⟩:=Bhg (Bih f) k l 0 x.1 x.2 st h2 hs
     rw[stk,g2]
     simp only[h1]
     rw[if_pos ⟨h3,by simp;omega⟩]
     have e1:(ds++st).take k=ds:=by rw[←g1];simp
     have e2:(ds++st).drop k=st:=by rw[←g1];simp
     rw[e1,e2,g3]
   ·cases h
theorem walk_eq: ∀(f:Nat) (l:List Nd),l.length<f→l.length≤100000→(∀n∈l,n.Ag.length≤1000000)→Iu f l=some (match Fi f l with|some x=>(x.1,(x.2:Int))|none=>([],0))
 |0,l,h,_,_=>absurd h (by simp)
 |f+1,[],_,_,_=>by
  rw[Iu]
  rfl
 |f+1,n::l,hf,hl,hx=>by
  simp only[List.length_cons] at hf hl
  have hnx:=hx n (by simp)
  rw[Iu]
  have e0:rdO (n::l) 0=some n:=rfl
  have e1:(((n::l).length:Int)==0)=false:=by simp;omega
  rw[e0]
  simp only[Option.bind_some,e1,Bool.not_false,A8,cond_true,Bool.false_or]
  rw[has_eq]
  simp only[A8,cond_true,Option.bind_some]
  rw[Fi]
  have hI:Bmc n.Ad=match Jd n.Ad with|none=> -1|some n=>(n:Int):=rfl
  cases h1:Jd n.Ad with
  |none=>
   rw[h1] at hI
   rw[hI]
   rfl
  |some k=>
   have hk3:k≤3:=A4h h1
   rw[h1] at hI
   simp only at hI⊢
   rw[hI]
   have hneg:decide ((k:Int)<0)=false:=by simp
   rw[hneg]
   simp only[Bool.not_false,cond_true,Bool.false_or]
   rw[Bpi hnx]
   simp only[A8,cond_true,Option.bind_some]
   by_cases h2:Js n=true
   ·rw[if_neg (by simp[h2]),if_pos h2]
    have e2:slO (n::l) 1 ((n::l).length:Int)=some l:=by
     have:=Hm (l:=n::l) (n:=1) (by simp)
     simpa using this
    rw[e2]
    simp only[Option.bind_some]
    have key: ∀(d j:Nat) (rest:List Nd) (m:Nat),j+d=k→rest.length≤l.length→m≤100000→(∀n∈rest,n.Ag.length≤1000000)→(∀r d',I1 (Fi f) d rest m=some (r,d')→d'≤1000000)→A3 (fun(qj11:(List Aa)×Int×Int)=>match qj11 with
    |(rest12,deep13,x14)=>(
     if (decide (x14<(k:Int)))=true then
      (Iu f rest12).bind fun x15=>
      if (x15.2==0)=true then
       some (.inr (.inr (([]:List Aa),0)))
      else
       some (.inl (x15.1,(if x15.2>deep13 then x15.2 else deep13),IntKind.wrap .i64 (x14+1)))
     else
      some (.inr (.inl (rest12,deep13))):Option (((List Aa)×Int×Int)⊕(((List Aa)×Int)⊕((List Aa)×Int))))) (rest,(m:Int),(j:Int))=some (match I1 (Fi f) d rest m with|some x=> .inl (x.1,(x.2:Int))|none=> .inr ([],0)):=by
     intro d
     induction d with
     |zero=>
      intro j rest m hj _ _ _ _
      refine A1 ?_
      show(if _ then _ else _)=_
      rw[if_neg (by simp;omega)]
      rfl
     |succ d ihd=>
      intro j rest m hj hr hm hxr hb
      have hw:=walk_eq f rest (by omega) (by omega) hxr
      rw[I1]
      rw[I1] at hb
      cases h3:Fi f rest with
      |none=>
       rw[h3] at hw
       simp only
       refine A1 ?_
       show(if _ then _ else _)=_
       rw[if_pos (by simp;omega),hw]
       rfl
      |some x=>
       rw[h3] at hw hb
       simp only at hw hb⊢
       have hp:=Bcs f rest x.1 x.2 h3
       have hs:=Ay1 f rest x.1 x.2 h3
       have hxd:x.2≤100000:=by
        have:=walk_depth f rest x.1 x.2 h3
        omega
       rw[←ihd (j+1) x.1 (max m x.2) (by omega) (by omega) (by omega) (fun n hn=>hxr n (hs.subset hn)) hb]
       refine B0 ?_
       show(if _ then _ else _)=_
       rw[if_pos (by simp;omega),hw]
       simp only[Option.bind_some]
       rw[if_neg (by simp;omega),wrap64 (by omega) (by omega)]
       simp only[Option.some.injEq,Sum.inl.injEq,Prod.mk.injEq,true_and]
       refine⟨?_,rfl⟩
       split<;>omega
    have hb: ∀r d',I1 (Fi f) k l 0=some (r,d')→d'≤1000000:=by
     intro r d' h
     have:=walk_depth (f+1) (n::l) r (d'+1) (by rw[Fi,h1];simp only;rw[if_pos h2,h];rfl)
     simp at this
     omega
    refine Bj (key k 0 l 0 (by omega) (Nat.le_refl _) (by omega) (fun n hn=>hx n (by simp[hn])) hb) ?_
    cases h3:I1 (Fi f) k l 0 with
    |none=>rfl
    |some x=>
     have:=hb x.1 x.2 h3
     simp only[Option.map_some]
     rw[wrap64 (by omega) (by omega)]
     rfl
   ·rw[if_pos (by simpa using h2),if_neg h2]
where walk_depth: ∀(f:Nat) (l r:List Nd) (d:Nat),Fi f l=some (r,d)→d+r.length≤l.length
 |0,l,r,d,h=>by cases h
 |f+1,[],r,d,h=>by cases h
 |f+1,n::l,r,d,h=>by
  rw[Fi] at h
  cases h1:Jd n.Ad with
  |none=>rw[h1] at h;cases h
  |some k=>
   rw[h1] at h
   simp only at h
   split at h
   ·cases h2:I1 (Fi f) k l 0 with
    |none=>rw[h2] at h;cases h
    |some x=>
     rw[h2] at h
     cases h
     have key: ∀(k:Nat) (l:List Nd) (m:Nat) (r:List Nd) (d:Nat),I1 (Fi f) k l m=some (r,d)→d+r.length≤max (m+r.length) l.length∧r.length≤l.length:=by
      intro k
      induction k with
      |zero=>intro l m r d h;cases h;omega
      |succ k ih=>
       intro l m r d h
       rw[I1] at h
       cases h3:Fi f l with
       |none=>rw[h3] at h;cases h
       |some x=>
        rw[h3] at h
        have e1:=walk_depth f l x.1 x.2 h3
        have e2:=ih x.1 (max m x.2) r d h
        omega
     have:=key k l 0 x.1 x.2 h2
     simp
     omega
   ·cases h
theorem A80{l:List Nd}(hx: ∀n∈l,n.Ag.length≤1000000):M0 l=some (Jm l:Int):=by
 unfold M0 Jm
 by_cases hl:200<l.length
 ·rw[if_pos (by simp;omega),if_pos hl];rfl
 ·rw[if_neg (by simp;omega),if_neg hl,walk_eq 100000 l (by omega) (by omega) hx]
  simp only[Option.bind_some]
  cases hw:Fi 100000 l with
  |none=>
   simp only
   cases hs:stk l with
   |none=>rfl
   |some st=>
    cases st with
    |nil=>rfl
    |cons d st=>
     obtain⟨r,h1,_⟩:=Big l.length 100000 l d st (Nat.le_refl _) (by omega) hs
     rw[hw] at h1
     cases h1
  |some x=>
   obtain⟨r,d⟩:=x
   simp only
   cases r with
   |nil=>
    have hs:=Bih _ _ _ _ [] hw rfl
    rw[hs]
    simp only
    by_cases hd:d≤24
    ·rw[if_neg (by simp;omega),if_pos hd]
    ·rw[if_pos (by simp;omega),if_neg hd];rfl
   |cons a r=>
    rw[if_pos (by simp)]
    cases hs:stk l with
    |none=>rfl
    |some st=>
     match st with
     |[]=>rfl
     |[d']=>
      obtain⟨r',h1,_,h3⟩:=Big l.length 100000 l d' [] (Nat.le_refl _) (by omega) hs
      rw[hw] at h1
      cases h1
      exact absurd (Bqb h3) (by simp)
     |a::b::st=>rfl
theorem right_eq{l:List Nd}(hx: ∀n∈l,n.Ag.length≤1000000):D9 l=some (decide (0<Jm l)):=by
 unfold D9
 rw[A80 hx]
 simp only[Option.bind_some,Option.some.injEq,decide_eq_decide]
 omega
theorem Anr{text:List UInt8}(hl:text.length<4611686018427387904){i:Nat}(hi:i≤text.length):Ww text (i:Int)=some ((plS (text.take i)).1,(plS (text.take i)).2,0):=by
 unfold Ww
 have h1:decide ((i:Int)<0)=false:=decide_eq_false (by omega)
 have h2:decide ((i:Int)>(text.length:Int))=false:=decide_eq_false (by omega)
 simp only[h1,h2,Option.bind_some,Bool.or_self,Bool.false_eq_true,if_false,Zk hi,A99 (s:=text.take i) (by simp;omega)]
theorem Bjn{text:List UInt8}(hl:text.length≤8000): ∀(f at_:Nat) (row:List Ac),at_≤text.length→text.length-at_<f→row.length≤1500→
  A3 (fun(qj3:Int×(List Ac))=>match qj3 with
   |(at_4,row5)=>(
    if (decide (at_4<(text.length:Int)))=true then
     (slO text at_4 (text.length:Int)).bind fun x6=>
     (Eg x6).bind fun x7=>
     if (x7.f_E !=0)=true then
      some (.inr (.inr (([]:List Ac),at_4,x7.f_E)))
     else
      if ((row5.length:Int)==1500)=true then
       some (.inr (.inr (([]:List Ac),at_4,6)))
      else
       (D0 text at_4).bind fun x8=>
       (slO text at_4 (IntKind.wrap .i64 (at_4+x7.Q9))).bind fun x9=>
       (apO 40 row5 [(⟨x7.Ad,x8.1,x8.2,x9⟩:Ac)]).bind fun x10=>
       (slO text (IntKind.wrap .i64 (at_4+x7.Q9)) (text.length:Int)).bind fun x11=>
       (C3 x11).bind fun x12=>
       some (.inl (IntKind.wrap .i64 ((IntKind.wrap .i64 (at_4+x7.Q9))+x12),x10))
    else
     some (.inr (.inl row5)):Option ((Int×(List Ac))⊕((List Ac)⊕((List Ac)×Int×Int))))) ((at_:Int),row)
   =some (match Je f (text.drop at_) at_ row.length with| .inl l=> .inl (row++l.map (Agk text))| .inr e=> .inr ([],(e.1:Int),(e.2:Int))):=by
 intro f
 induction f with
 |zero=>intro at_ row h1 h2;omega
 |succ f ih=>
  intro at_ row h1 h2 h3
  by_cases he:at_=text.length
  ·subst he
   rw[A1 (o:= .inl row)]
   ·simp[Je]
   ·have:decide (((text.length:Nat):Int)<(text.length:Int))=false:=by simp
    simp only[this,Bool.false_eq_true,if_false]
  ·have hlt:at_<text.length:=by omega
   have hd:decide ((at_:Int)<(text.length:Int))=true:=by simp;omega
   have hrest:text.drop at_≠[]:=by simp;omega
   obtain⟨b,t,hbt⟩: ∃b t,text.drop at_=b::t:=by
    cases hx:text.drop at_ with
    |nil=>exact absurd hx hrest
    |cons b t=>exact⟨b,t,rfl⟩
   have hlr:(b::t).length=text.length-at_:=by rw[←hbt,List.length_drop]
   have hnext:=Bnh (b:=b) (t:=t) (by omega)
   rw[←hbt] at hnext
   have hs1:=Hm (l:=text) (n:=at_) h1
   rw[Je,if_neg hrest]
   generalize hnx:A5 (text.drop at_)=nx at hnext
   obtain⟨k,n,e⟩:=nx
   by_cases hee:e=0
   ·subst hee
    simp only[reT,if_true] at hnext
    obtain⟨hn1,hn2⟩:=Hu hnx
    rw[List.length_drop] at hn2
    simp only[ne_eq,not_true_eq_false,if_false]
    by_cases hfull:row.length=1500
    ·rw[if_pos hfull,A1 (o:= .inr ([],(at_:Int),6))]
     ·rfl
     ·have:((row.length:Int)==1500)=true:=by simp[hfull]
      simp only[hd,if_true,hs1,hnext,Option.bind_some,bne_self_eq_false,Bool.false_eq_true,if_false,this]
    ·rw[if_neg hfull]
     have e1:IntKind.wrap .i64 ((at_:Int)+(n:Int))=((at_+n:Nat):Int):=by rw[wrap64 (by omega) (by omega)];omega
     have hs3:=A7v (l:=text) (a:=at_) (b:=at_+n) (by omega) (by omega)
     have hs4:=Hm (l:=text) (n:=at_+n) (by omega)
     have hdd:text.drop (at_+n)=(text.drop at_).drop n:=by rw[List.drop_drop]
     have hsk:=Ic false ((text.drop at_).drop n)
     rw[List.length_drop,List.length_drop] at hsk
     have hskip:=A27 (s:=(text.drop at_).drop n) (by rw[List.length_drop,List.length_drop];omega)
     have e2:IntKind.wrap .i64 (((at_+n:Nat):Int)+(A2 false ((text.drop at_).drop n):Int))=((at_+n+A2 false ((text.drop at_).drop n):Nat):Int):=by rw[wrap64 (by omega) (by omega)];omega
     have hpl:=Bjo (s:=text) (by omega) h1
     have hap: ∀x:Ac,apO 40 row [x]=some (row++[x]):=fun x=>by
      unfold apO
      rw[if_pos (by simp;omega)]
     have hmid:(text.take (at_+n)).drop at_=(text.drop at_).take n:=by rw[List.drop_take];congr 1;omega
     have hlen:((row.length:Int)==1500)=false:=by simp;omega
     rw[B0 (s':=(((at_+n+A2 false ((text.drop at_).drop n):Nat):Int),row++[Agk text (at_,k,n)])),ih (at_+n+A2 false ((text.drop at_).drop n)) (row++[Agk text (at_,k,n)]) (by omega) (by omega) (by simp;omega)]
     ·have hdr:text.drop (at_+n+A2 false ((text.drop at_).drop n))=((text.drop at_).drop n).drop (A2 false ((text.drop at_).drop n)):=by
       rw[List.drop_drop,List.drop_drop]
      rw[hdr,List.length_append,List.length_singleton]
      cases Je f (((text.drop at_).drop n).drop (A2 false ((text.drop at_).drop n))) (at_+n+A2 false ((text.drop at_).drop n)) (row.length+1) with
      |inl l=>simp
      |inr e=>rfl
     ·simp only[hd,if_true,hs1,hnext,Option.bind_some,bne_self_eq_false,Bool.false_eq_true,if_false,hlen,hpl,e1,hs3,hmid,hap,hs4,hdd,hskip,e2]
      rfl
   ·have hne:((e:Int)!=0)=true:=by simp;omega
    simp only[reT,if_neg hee] at hnext
    simp only[ne_eq,hee,not_false_eq_true,if_true]
    rw[A1 (o:= .inr ([],(at_:Int),(e:Int)))]
    simp only[hd,if_true,hs1,hnext,Option.bind_some,hne]
theorem Bpv{text:List UInt8}(hl:text.length≤8000):Bq text=some (match Agr text with| .inl l=>(l.map (Agk text),0,0)| .inr e=>([],(e.1:Int),(e.2:Int))):=by
 have hs:=Ic false text
 unfold Bq Agr
 have h1:decide ((text.length:Int)>8000)=false:=decide_eq_false (by omega)
 simp only[h1,Bool.false_eq_true,if_false,A27 (show text.length<4611686018427387904 by omega),Option.bind_some]
 have:=Bjn hl (text.length+1) (A2 false text) [] hs (by omega) (by simp)
 refine Bj this ?_
 simp only[List.length_nil]
 cases Je (text.length+1) (text.drop (A2 false text)) (A2 false text) 0 with
 |inl l=>simp
 |inr e=>rfl
theorem Bjm{text:List UInt8}(hl:8000<text.length):Bq text=some ([],0,4):=by
 unfold Bq
 have h1:decide ((text.length:Int)>8000)=true:=decide_eq_true (by omega)
 simp only[h1,if_true]
def LX(s:By):List Tk⊕(Nat×Nat):=if 8000<s.length then .inr (0,4) else match Agr s with
 | .inl l=> .inl (l.map (Agk s))
 | .inr e=> .inr e
theorem Bcw(s:By):Aac s=some (match LX s with| .inl l=>(l,0,0)| .inr e=>([],(e.1:Int),(e.2:Int))):=by
 unfold LX
 by_cases h:8000<s.length
 ·rw[if_pos h,Bk3 h];rfl
 ·rw[if_neg h,Brg (by omega)]
  cases Agr s<;>rfl
theorem Bop(s:By):Bq s=some (match LX s with| .inl l=>(l,0,0)| .inr e=>([],(e.1:Int),(e.2:Int))):=by
 unfold LX
 by_cases h:8000<s.length
 ·rw[if_pos h,Bjm h];rfl
 ·rw[if_neg h,Bpv (by omega)]
  cases Agr s<;>rfl
theorem Apu{s:By}{l:List Tk}(h:LX s= .inl l):Fit l∧l.length≤8000∧s.length≤8000∧(∀t∈l,okT t=true)∧Bch l≤s.length:=by
 unfold LX at h
 split at h
 ·cases h
 ·rename_i hs
  have hs:s.length≤8000:=by omega
  cases ha:Agr s with
  |inr e=>rw[ha] at h;cases h
  |inl m=>
   rw[ha] at h
   cases h
   obtain⟨h1,h2,h3⟩:=Bk5 hs ha
   refine⟨⟨by simp;omega,fun t ht=>?_⟩,by simp;omega,hs,h3,h2⟩
   have:=Bny ht
   omega
theorem Apv{s:By}{e:Nat×Nat}(h:LX s= .inr e):e.2≠0∧e.1≤s.length:=by
 unfold LX at h
 split at h
 ·cases h;exact⟨by simp,by simp⟩
 ·cases ha:Agr s with
  |inl m=>rw[ha] at h;cases h
  |inr e'=>
   rw[ha] at h
   cases h
   obtain⟨h1,h2,_⟩:=Bos (p:=e.1) (e:=e.2) ha
   exact⟨h1,by omega⟩
def Er(s:By):List Nd×Int×Int×Int:=match LX s with
 | .inr e=>([],(plS (s.take e.1)).1,(plS (s.take e.1)).2,(e.2:Int))
 | .inl l=>match CL l 0 with
  |(_,t::_)=>([],t.Z7,t.An6,14)
  |(none,[])=>([],(plS s).1,(plS s).2,14)
  |(some a,[])=>if Jm a=0 then([],1,1,4) else(a,0,0,0)
theorem Boq(l:List Tk):(⟨l,0,false⟩:Ab)=RD l l false:=by
 unfold RD ps
 simp
theorem A8o{s:By}(hs:s.length≤1000000):Hh s=some (match LX s with| .inl l=> .inl (0,0,0,RD l l false)| .inr e=> .inr ((plS (s.take e.1)).1,(plS (s.take e.1)).2,(e.2:Int))):=by
 unfold Hh
 rw[Bcw]
 simp only[Option.bind_some]
 cases h:LX s with
 |inl l=>
  simp only[beq_self_eq_true,if_true]
  rw[Boq]
 |inr e=>
  obtain⟨h1,h2⟩:=Apv h
  simp only
  rw[if_neg (by simp;omega),Anr (by omega) h2]
  rfl
theorem Bdn{s:By}(hs:s.length≤1000000){l ts:List Tk}(h:ts <:+ l)(fits b:Bool):Fq s fits (RD l ts b)=some (match ts with
  |t::_=>(t.Z7,t.An6,14)
  |[]=>if b=true then((plS s).1,(plS s).2,14) else if fits=false then(1,1,4) else(0,0,0)):=by
 unfold Fq
 have e1:(RD l ts b).C2=ps l ts:=rfl
 have e2:(RD l ts b).Jn=l:=rfl
 have e3:(RD l ts b).Ch=b:=rfl
 rw[e1,e2,e3,A26 h]
 cases ts with
 |cons t r=>
  rw[Ax5 h]
  rfl
 |nil=>
  have:=Anr (text:=s) (i:=s.length) (by omega) (Nat.le_refl _)
  rw[List.take_length] at this
  cases b with
  |true=>simp[this]
  |false=>cases fits<;>rfl
theorem Bqi{l ts i:List Tk}{a:List Nd}(hF:Fit l)(h:ts <:+ l)(hl:l.length≤8000)(e:CL ts 0=(some a,i)):NB a:=by
 rcases(Bc8 hF h hl).of with⟨a',i',e1,_,e3⟩|⟨o,i',e1,_⟩
 ·rw[e] at e1;cases e1;exact e3
 ·rw[e] at e1;cases e1
theorem Ajz{s:By}(hs:s.length≤1000000):B3 s=some (Er s):=by
 unfold B3 Er
 rw[A8o hs]
 simp only[Option.bind_some]
 cases h:LX s with
 |inr e=>
  obtain⟨h1,_⟩:=Apv h
  simp only
  rw[if_pos (by simp;omega)]
 |inl l=>
  obtain⟨hF,hl,_⟩:=Apu h
  simp only[bne_self_eq_false,Bool.false_eq_true,if_false]
  have hsf:=List.suffix_refl l
  rcases(Bc8 hF hsf hl).of with⟨a,i,e1,e2,e3⟩|⟨o,i,e1,e2,e3,e4⟩
  ·have hi:=Wh hsf e1
   rw[e1,e2]
   simp only[Option.bind_some]
   rw[right_eq e3]
   simp only[Option.bind_some]
   rw[Bdn hs hi]
   cases i with
   |cons t r=>rfl
   |nil=>
    simp only[Option.bind_some]
    by_cases hd:Jm a=0
    ·rw[if_pos hd]
     have:decide (0<Jm a)=false:=by simp[hd]
     rw[this];rfl
    ·rw[if_neg hd]
     have:decide (0<Jm a)=true:=by simp;omega
     rw[this];rfl
  ·have hi:=Wh hsf e1
   rw[e1,e2]
   simp only[Option.bind_some]
   rw[right_eq e4]
   simp only[Option.bind_some]
   rw[Bdn hs hi]
   cases i with
   |cons t r=>rfl
   |nil=>rfl
theorem A3d(x y:Nd):Aa.same x y=decide (x=y):=Aa.same_iff x y
theorem Bgr{α:Type} [DecidableEq α]: ∀{a b:List α},a.length=b.length→((List.range' 0 a.length).any fun i=>decide (a[i]? ≠b[i]?))=decide (a≠b)
 |[],[],_=>rfl
 |[],y::b,h=>by simp at h
 |x::a,[],h=>by simp at h
 |x::a,y::b,h=>by
  have ih:=Bgr (a:=a) (b:=b) (by simpa using h)
  rw[List.length_cons,List.range'_succ,List.any_cons]
  have hs:(List.range' (0+1) a.length).any (fun i=>decide ((x::a)[i]? ≠(y::b)[i]?))=(List.range' 0 a.length).any fun i=>decide (a[i]? ≠b[i]?):=by
   rw[show(0+1:Nat)=1 from rfl,List.range'_eq_map_range,List.range'_eq_map_range,List.any_map,List.any_map]
   congr 1
   funext i
   simp only[Function.comp_apply,Nat.zero_add]
   rw[Nat.add_comm 1 i]
   simp
  rw[hs,ih]
  by_cases hxy:x=y<;>by_cases hab:a=b<;>simp[hxy,hab]
theorem At0{α:Type} [DecidableEq α]{a b:List α}{same:α→α→Bool}(hsame: ∀x y,same x y=decide (x=y))(hn:a.length≤1000000)(h:a.length=b.length):A3 (fun(qj3:Int)=>match qj3 with
   |i4=>(
    if (decide (i4<(a.length:Int)))=true then
     (rdO a i4).bind fun x5=>
     (rdO b i4).bind fun x6=>
     if (!(same x5 x6))=true then
      some (.inr (.inr false))
     else
      some (.inl (IntKind.wrap .i64 (i4+1)))
    else
     some (.inr (.inl ())):Option (Int⊕(Unit⊕Bool)))) 0=some (if a=b then .inl () else .inr false):=by
 have:=A2o (n:=a.length) (q:=fun i=>decide (a[i]? ≠b[i]?)) (o:=(.inr false:Unit⊕Bool)) (e:= .inl ()) (f:=fun(qj3:Int)=>match qj3 with
   |i4=>(
    if (decide (i4<(a.length:Int)))=true then
     (rdO a i4).bind fun x5=>
     (rdO b i4).bind fun x6=>
     if (!(same x5 x6))=true then
      some (.inr (.inr false))
     else
      some (.inl (IntKind.wrap .i64 (i4+1)))
    else
     some (.inr (.inl ())):Option (Int⊕(Unit⊕Bool)))) (by omega) (fun i hi=>by
   show(if _ then _ else _)=_
   rw[if_pos (by simp;omega),Fv hi,Fv (by omega)]
   simp only[Option.bind_some]
   rw[hsame,List.getElem?_eq_getElem hi,List.getElem?_eq_getElem (h▸hi)]
   by_cases hx:a[i]=b[i]
   ·simp[hx]
   ·simp[hx]) (fun i hi=>by
   show(if _ then _ else _)=_
   rw[if_neg (by simp;omega)]) 0
 refine this.trans ?_
 rw[Nat.sub_zero,Bgr h]
 by_cases hab:a=b<;>simp[hab]
theorem Anq{a b:List Nd}(hn:a.length≤1000000):Bw a b=some (decide (a=b)):=by
 unfold Bw
 by_cases h:a.length=b.length
 ·rw[if_neg (by simp;omega)]
  refine Bj (At0 A3d hn h) ?_
  by_cases hab:a=b
  ·simp[hab]
  ·simp[hab]
 ·rw[if_pos (by simp;omega)]
  have:a≠b:=fun c=>h (by rw[c])
  simp[this]
theorem Boh{s:By}:(Er s).1.length≤8000:=by
 unfold Er
 cases h:LX s with
 |inr e=>simp
 |inl l=>
  obtain⟨hF,hl,_⟩:=Apu h
  simp only
  cases e1:CL l 0 with
  |mk o i=>
   cases i with
   |cons t r=>simp
   |nil=>
    cases o with
    |none=>simp
    |some a=>
     have:=Ij e1
     simp only
     split
     ·simp
     ·simp at this⊢;omega
abbrev St:=List Tk×Bool
def mT(s:By)(x:St):St:=Ld [s] x
def sm(k:Int)(x:St):By×St:=F9 k true x
theorem Bg(s:By)(x:St):(mT s x).1 <:+ x.1:=A2s _ _
theorem Sj(k:Int)(x:St):(sm k x).2.1 <:+ x.1:=Bjy _ _ _
theorem A4v{s:By}{ts:List Tk}:mT s (ts,true)=(ts,true):=Ahe
theorem Aq2{k:Int}{ts:List Tk}:sm k (ts,true)=([],ts,true):=by cases ts<;>rfl
theorem B9{s:By}{x:St}(h:(mT s x).2=false):x.2=false∧(mT s x).1.length+1=x.1.length:=by
 obtain⟨ts,b⟩:=x
 cases b with
 |true=>rw[A4v] at h;cases h
 |false=>
  unfold mT at h⊢
  rw[Rf] at h⊢
  split at h
  ·rename_i hs
   rw[if_pos hs]
   exact⟨rfl,Jr hs⟩
  ·cases h
theorem Qk{k:Int}{x:St}(h:(sm k x).2.2=false):x.2=false∧(sm k x).2.1.length+1=x.1.length:=by
 obtain⟨ts,b⟩:=x
 cases b with
 |true=>rw[Aq2] at h;cases h
 |false=>
  cases ts with
  |nil=>cases h
  |cons t r=>
   unfold sm F9 at h⊢
   simp only at h⊢
   split at h
   ·cases h
   ·rename_i hs
    rw[if_neg hs]
    simp
theorem Bmv(s u:By)(ss:List By)(x:St):Ld (s::u::ss) x=Ld (u::ss) (mT s x):=by
 obtain⟨ts,b⟩:=x
 cases b with
 |true=>rw[A4v,Ahe,Ahe]
 |false=>
  unfold mT
  rw[Rf,Ld]
  simp only[Bool.not_false,Bool.true_and]
  split
  ·rfl
  ·rw[Ahe]
def RX(l:List Tk)(x:St):Ab:=RD l x.1 x.2
theorem Amg{l:List Tk}(hl:l.length≤1000000){x:St}(h:x.1 <:+ l)(s:By):Am [s] (RX l x)=some (RX l (mT s x)):=Aop h hl [s] (by simp) x.2
theorem At4{l:List Tk}(hl:l.length≤1000000){x:St}(h:x.1 <:+ l)(s u:By):Am [s,u] (RX l x)=some (RX l (mT u (mT s x))):=by
 have:=Aop h hl [s,u] (by simp) x.2
 rw[Bmv] at this
 exact this
theorem Aq4{l:List Tk}(hl:l.length≤1000000){x:St}(h:x.1 <:+ l)(k:Int):A7 k true (RX l x)=some ((sm k x).1,RX l (sm k x).2):=Ajv h hl k true x.2
def Dj(s:By)(x:St):By×St:=((sm 1 (mT s x)).1,mT [59] (sm 1 (mT s x)).2)
theorem Z6(s:By)(x:St):(Dj s x).2.1 <:+ x.1:=(Bg _ _).trans ((Sj _ _).trans (Bg _ _))
theorem Fz{s:By}{x:St}(h:(Dj s x).2.2=false):x.2=false:=(B9 (Qk (B9 h).1).1).1
theorem An1{l:List Tk}(hl:l.length≤1000000){x:St}(h:x.1 <:+ l)(s:By):Cp s (RX l x)=some ((Dj s x).1,RX l (Dj s x).2):=by
 unfold Cp
 rw[Amg hl h]
 simp only[Option.bind_some]
 have h1:=(Bg s x).trans h
 rw[Aq4 hl h1]
 simp only[Option.bind_some]
 rw[Amg hl ((Sj _ _).trans h1)]
 rfl
def C9(x:St):Ao×St:=(⟨(sm 1 x).1,(sm 1 (mT [58] (sm 1 x).2)).1⟩,mT [59] (mT [37] (sm 1 (mT [58] (sm 1 x).2)).2))
theorem Ags(x:St):(C9 x).2.1 <:+ x.1:=(Bg _ _).trans ((Bg _ _).trans ((Sj _ _).trans ((Bg _ _).trans (Sj _ _))))
theorem A1z{x:St}(h:(C9 x).2.2=false):x.2=false∧(C9 x).2.1.length<x.1.length:=by
 have h1:=B9 h
 have h2:=B9 h1.1
 have h3:=Qk h2.1
 have h4:=B9 h3.1
 have h5:=Qk h4.1
 refine⟨h5.1,?_⟩
 have e:(C9 x).2.1.length+1=_:=h1.2
 omega
def Bz:Nat→St→List Ao×St
 |0,x=>([],x)
 |f+1,x=>if x.2=true then([],x) else if isT [125] (C9 x).2.1=true then([(C9 x).1],(C9 x).2) else((C9 x).1::(Bz f (C9 x).2).1,(Bz f (C9 x).2).2)
def Bda(x:St):List Ao×St:=Bz (x.1.length+2) x
theorem A11: ∀(f:Nat) (x:St),(Bz f x).2.1 <:+ x.1
 |0,x=>List.suffix_refl _
 |f+1,x=>by
  rw[Bz]
  split
  ·exact List.suffix_refl _
  ·split
   ·exact Ags x
   ·exact(A11 f _).trans (Ags x)
theorem Al0: ∀(f:Nat) (x:St),(Bz f x).2.2=false→x.2=false
 |0,x,h=>h
 |f+1,x,h=>by
  rw[Bz] at h
  cases hx:x.2 with
  |false=>rfl
  |true=>rw[if_pos hx] at h;exact h.symm.trans hx |>.symm▸rfl
theorem Bdb{l:List Tk}(hl:l.length≤100000)(d13 d14 d15 d16:By)(d17:List Nd)(d18 d19 d20:By): ∀(f:Nat) (x:St) (first:Bool) (row:List Ao),x.1 <:+ l→(x.2=false→x.1.length+2≤f)→1≤f→(x.2=false→row.length+x.1.length≤100000)→row.length≤100001→
  A3 (fun(qj10:Bool×Ab×(List UInt8)×(List UInt8)×(List UInt8)×(List UInt8)×(List Aa)×(List UInt8)×(List UInt8)×(List UInt8)×(List Ao))=>match qj10 with
  |(first11,r12,d13,d14,d15,d16,d17,d18,d19,d20,row21)=>(
   (some (!r12.Ch)).bind fun c22=>
   (gdO (c22&& !first11) (Bx [125] r12) (default:Bool)).bind fun x23=>
   if (c22&&(first11||(!x23)))=true then
    (A7 1 true (⟨(bif (c22&& !first11) then r12.Jn else r12.Jn),(bif (c22&& !first11) then r12.C2 else r12.C2),(bif (c22&& !first11) then r12.Ch else r12.Ch)⟩:Ab)).bind fun x24=>
    (Am [[58]] x24.2).bind fun x25=>
    (A7 1 true x25).bind fun x26=>
    (Am [[37],[59]] x26.2).bind fun x27=>
    (apO 32 row21 [(⟨x24.1,x26.1⟩:Ao)]).bind fun x28=>
    some (.inl (false,x27,d13,d14,d15,d16,d17,d18,d19,d20,x28))
   else
    some (.inr ((⟨(bif (c22&& !first11) then r12.Jn else r12.Jn),(bif (c22&& !first11) then r12.C2 else r12.C2),(bif (c22&& !first11) then r12.Ch else r12.Ch)⟩:Ab),(⟨d13,d14,d15,d16,row21,d17,d18,d19,d20⟩:Ae))):Option ((Bool×Ab×(List UInt8)×(List UInt8)×(List UInt8)×(List UInt8)×(List Aa)×(List UInt8)×(List UInt8)×(List UInt8)×(List Ao))⊕(Ab×Ae)))) (first,RX l x,d13,d14,d15,d16,d17,d18,d19,d20,row)
  =some (if first=false∧isT [125] x.1=true then(RX l x,⟨d13,d14,d15,d16,row,d17,d18,d19,d20⟩) else(RX l (Bz f x).2,⟨d13,d14,d15,d16,row++(Bz f x).1,d17,d18,d19,d20⟩)):=by
 have hl6:l.length≤1000000:=by omega
 intro f
 induction f with
 |zero=>intro x first row _ _ h;exact absurd h (by simp)
 |succ f ih=>
  intro x first row hx hf _ hrow hrow2
  have e3:(RX l x).Ch=x.2:=rfl
  cases hb:x.2 with
  |true=>
   have hbs:Bz (f+1) x=([],x):=by rw[Bz,if_pos hb]
   rw[hbs]
   simp only[List.append_nil,ite_self]
   refine A1 ?_
   simp only[Option.bind_some,e3,hb,Bool.not_true,Bool.false_and,gdO,Bool.false_eq_true,if_false,cond_false]
   rw[show(⟨(RX l x).Jn,(RX l x).C2,true⟩:Ab)=RX l x by unfold RX;rw[hb];rfl]
  |false=>
   have hf:=hf hb
   have hrow:=hrow hb
   by_cases hc:first=false∧isT [125] x.1=true
   ·rw[if_pos hc]
    refine A1 ?_
    simp only[Option.bind_some,e3,hb,Bool.not_false,Bool.true_and,hc.1]
    rw[show Bx [125] (RX l x)=some (!x.2&&isT [125] x.1) from A2h hx _ _,hb,hc.2]
    simp only[Bool.not_false,Bool.true_and,A8,cond_true,Option.bind_some,Bool.not_true,Bool.or_self,Bool.false_eq_true,if_false]
    rw[show(⟨(RX l x).Jn,(RX l x).C2,false⟩:Ab)=RX l x by unfold RX;rw[hb];rfl]
   ·rw[if_neg hc]
    have hy:=Ags x
    have hbs:Bz (f+1) x=if isT [125] (C9 x).2.1=true then([(C9 x).1],(C9 x).2) else((C9 x).1::(Bz f (C9 x).2).1,(Bz f (C9 x).2).2):=by
     rw[Bz,if_neg (by simp[hb])]
    have hih:=ih (C9 x).2 false (row++[(C9 x).1]) (hy.trans hx) (fun hg=>by have:=(A1z hg).2;omega) (by omega) (fun hg=>by have:=(A1z hg).2;simp;omega) (by simp;omega)
    have hgoal:(if isT [125] (C9 x).2.1=true then(RX l (C9 x).2,(⟨d13,d14,d15,d16,row++[(C9 x).1],d17,d18,d19,d20⟩:Ae)) else(RX l (Bz f (C9 x).2).2,⟨d13,d14,d15,d16,(row++[(C9 x).1])++(Bz f (C9 x).2).1,d17,d18,d19,d20⟩))=(RX l (Bz (f+1) x).2,⟨d13,d14,d15,d16,row++(Bz (f+1) x).1,d17,d18,d19,d20⟩):=by
     rw[hbs]
     split
     ·rfl
     ·simp
    rw[←hgoal]
    simp only[true_and] at hih
    rw[←hih]
    refine B0 ?_
    have hx23:gdO (!false&& !first) (Bx [125] (RX l x)) (default:Bool)=some (bif !first then isT [125] x.1 else default):=by
     rw[show Bx [125] (RX l x)=some (!x.2&&isT [125] x.1) from A2h hx _ _,hb]
     simp[A8]
    simp only[Option.bind_some,e3,hb]
    rw[hx23]
    simp only[Option.bind_some,Bool.not_false,Bool.true_and,Bool.cond_self]
    rw[if_pos (by
     cases first with
     |true=>rfl
     |false=>
      have:isT [125] x.1=false:=by rw[←Bool.not_eq_true];exact fun h=>hc ⟨rfl,h⟩
      simp[this])]
    rw[show(⟨(RX l x).Jn,(RX l x).C2,false⟩:Ab)=RX l x by unfold RX;rw[hb];rfl]
    have s1:=Sj 1 x
    rw[Aq4 hl6 hx]
    simp only[Option.bind_some]
    rw[Amg hl6 (s1.trans hx)]
    simp only[Option.bind_some]
    have s2:=(Bg [58] (sm 1 x).2).trans (s1.trans hx)
    rw[Aq4 hl6 s2]
    simp only[Option.bind_some]
    rw[At4 hl6 ((Sj 1 _).trans s2)]
    simp only[Option.bind_some]
    unfold apO
    rw[if_pos (by simp only[List.length_cons,List.length_nil];omega)]
    rfl
def Sv(x:St):List Nd×St:=if x.2=true then([],x) else match CL x.1 0 with
 |(some a,i)=>(a,i,false)
 |(none,i)=>([],i,true)
theorem Bo5(x:St):(Sv x).2.1 <:+ x.1:=by
 unfold Sv
 split
 ·exact List.suffix_refl _
 ·have:=Gb x.1 0
  cases h:CL x.1 0 with
  |mk o i=>rw[h] at this;cases o<;>exact this
theorem A86{x:St}(h:(Sv x).2.2=false):x.2=false:=by
 unfold Sv at h
 cases hx:x.2 with
 |false=>rfl
 |true=>rw[if_pos hx] at h;rw[hx] at h;exact h
theorem Blo{l:List Tk}(hF:Fit l)(hl:l.length≤8000){x:St}(h:x.1 <:+ l): ∃o,parse_reader_any 100000 (RX l x)=some (o,RX l (Sv x).2)∧((Sv x).2.2=false→o=(Sv x).1)∧NB o:=by
 obtain⟨ts,b⟩:=x
 cases b with
 |true=>
  refine⟨[],?_,fun hh=>by simp[Sv] at hh,fun n hn=>by simp at hn⟩
  exact Jh h hF.l6 99998
 |false=>
  have hfe:Sv (ts,false)=match CL ts 0 with
   |(some a,i)=>(a,i,false)
   |(none,i)=>([],i,true):=by unfold Sv;rw[if_neg (by simp)]
  rcases(Bc8 hF h hl).of with⟨a,i,e1,e2,e3⟩|⟨o,i,e1,e2,e3,e4⟩
  ·rw[e1] at hfe
   rw[hfe]
   exact⟨a,e2,fun _=>rfl,e3⟩
  ·rw[e1] at hfe
   rw[hfe]
   exact⟨o,e2,(fun hh=>by cases hh),e4⟩
def Zj:By:=[112,114,111,100,117,99,116]
def Ai2:By:=[98,97,115,105,115]
def Qi:By:=[112,101,114,105,111,100]
def Dy:By:=[116,105,101,114,115]
def Ank:By:=[102,101,101]
def Ib:By:=[109,105,110,105,109,117,109]
def Ej:By:=[111,118,101,114,100,114,97,102,116]
def Il:By:=[110,111,116,105,99,101]
def pA(x:St):By×St:=sm 0 (mT Zj x)
def pB(x:St):By×St:=sm 0 (pA x).2
def pC(x:St):By×St:=sm 0 (mT Ai2 (mT [123] (pB x).2))
def pD(x:St):By×St:=Dj Qi (mT [59] (pC x).2)
def pE(x:St):List Ao×St:=Bda (mT [123] (mT Dy (pD x).2))
def pF(x:St):List Nd×St:=Sv (mT Ank (mT [125] (pE x).2))
def pG(x:St):By×St:=Dj Ib (mT [59] (pF x).2)
def pH(x:St):By×St:=Dj Ej (pG x).2
def pI(x:St):By×St:=Dj Il (pH x).2
def pZ(x:St):St:=mT [125] (pI x).2
def Ft(x:St):Ae×St:=(⟨(pA x).1,(pB x).1,(pC x).1,(pD x).1,(pE x).1,(pF x).1,(pG x).1,(pH x).1,(pI x).1⟩,pZ x)
theorem A45(x:St):(pA x).2.1 <:+ x.1:=(Sj _ _).trans (Bg _ _)
theorem Avs(x:St):(pB x).2.1 <:+ x.1:=(Sj _ _).trans (A45 x)
theorem Avt(x:St):(pC x).2.1 <:+ x.1:=(Sj _ _).trans ((Bg _ _).trans ((Bg _ _).trans (Avs x)))
theorem Amk(x:St):(pD x).2.1 <:+ x.1:=(Z6 _ _).trans ((Bg _ _).trans (Avt x))
theorem Avu(x:St):(pE x).2.1 <:+ x.1:=(A11 _ _).trans ((Bg _ _).trans ((Bg _ _).trans (Amk x)))
theorem Avv(x:St):(pF x).2.1 <:+ x.1:=(Bo5 _).trans ((Bg _ _).trans ((Bg _ _).trans (Avu x)))
theorem A46(x:St):(pG x).2.1 <:+ x.1:=(Z6 _ _).trans ((Bg _ _).trans (Avv x))
theorem A47(x:St):(pH x).2.1 <:+ x.1:=(Z6 _ _).trans (A46 x)
theorem Bei(x:St):(pI x).2.1 <:+ x.1:=(Z6 _ _).trans (A47 x)
theorem Aiw(x:St):(Ft x).2.1 <:+ x.1:=(Bg _ _).trans (Bei x)
theorem Bbn{x:St}(h:(Ft x).2.2=false):(pF x).2.2=false:=(B9 (Fz (Fz (Fz (B9 h).1)))).1
theorem A24{x:St}(h:(Ft x).2.2=false):x.2=false∧(Ft x).2.1.length<x.1.length:=by
 have h1:=(B9 (B9 (A86 (Bbn h))).1).1
 have h2:=Al0 _ _ h1
 have h3:=Fz (B9 (B9 h2).1).1
 have h4:=(B9 h3).1
 have h5:=(B9 (B9 (Qk h4).1).1).1
 have h6:=(Qk h5).1
 have h7:=(Qk h6).1
 refine⟨(B9 h7).1,?_⟩
 have e:=B9 h
 have:=(Bei x).length_le
 have e2:(Ft x).2.1.length+1=(pI x).2.1.length:=e.2
 omega
theorem Bjj{l:List Tk}(hF:Fit l)(hl:l.length≤8000){x:St}(h:x.1 <:+ l): ∃d,Dp (RX l x)=some (d,RX l (Ft x).2)∧((Ft x).2.2=false→d=(Ft x).1)∧NB d.Cl:=by
 have hl6:=hF.l6
 obtain⟨o,f1,f2,f3⟩:=Blo hF hl (x:=mT Ank (mT [125] (pE x).2)) ((Bg _ _).trans ((Bg _ _).trans ((Avu x).trans h)))
 refine⟨⟨(pA x).1,(pB x).1,(pC x).1,(pD x).1,(pE x).1,o,(pG x).1,(pH x).1,(pI x).1⟩,?_,fun hh=>?_,f3⟩
 ·unfold Dp
  rw[show([112,114,111,100,117,99,116]:By)=Zj from rfl,show([98,97,115,105,115]:By)=Ai2 from rfl,show([112,101,114,105,111,100]:By)=Qi from rfl,show([116,105,101,114,115]:By)=Dy from rfl,show([102,101,101]:By)=Ank from rfl,show([109,105,110,105,109,117,109]:By)=Ib from rfl,show([111,118,101,114,100,114,97,102,116]:By)=Ej from rfl,show([110,111,116,105,99,101]:By)=Il from rfl]
  rw[Amg hl6 h]
  simp only[Option.bind_some]
  rw[Aq4 hl6 ((Bg _ _).trans h)]
  simp only[Option.bind_some]
  rw[show sm 0 (mT Zj x)=pA x from rfl,Aq4 hl6 ((A45 x).trans h)]
  simp only[Option.bind_some]
  rw[show sm 0 (pA x).2=pB x from rfl,At4 hl6 ((Avs x).trans h)]
  simp only[Option.bind_some]
  rw[Aq4 hl6 ((Bg _ _).trans ((Bg _ _).trans ((Avs x).trans h)))]
  simp only[Option.bind_some]
  rw[show sm 0 (mT Ai2 (mT [123] (pB x).2))=pC x from rfl,Amg hl6 ((Avt x).trans h)]
  simp only[Option.bind_some]
  rw[An1 hl6 ((Bg _ _).trans ((Avt x).trans h))]
  simp only[Option.bind_some]
  rw[show Dj Qi (mT [59] (pC x).2)=pD x from rfl,At4 hl6 ((Amk x).trans h)]
  simp only[Option.bind_some]
  have hE:(mT [123] (mT Dy (pD x).2)).1 <:+ l:=(Bg _ _).trans ((Bg _ _).trans ((Amk x).trans h))
  have hEl:=hE.length_le
  have hb:=Bdb (l:=l) (by omega) (pA x).1 (pB x).1 (pC x).1 (pD x).1 [] [] [] [] ((mT [123] (mT Dy (pD x).2)).1.length+2) (mT [123] (mT Dy (pD x).2)) true [] hE (fun _=>Nat.le_refl _) (by omega) (fun _=>by simp;omega) (by simp)
  refine Bj hb ?_
  rw[if_neg (by simp)]
  rw[show Bz ((mT [123] (mT Dy (pD x).2)).1.length+2) (mT [123] (mT Dy (pD x).2))=pE x from rfl]
  simp only[List.nil_append]
  rw[At4 hl6 ((Avu x).trans h)]
  simp only[Option.bind_some]
  rw[f1]
  simp only[Option.bind_some]
  rw[show Sv (mT Ank (mT [125] (pE x).2))=pF x from rfl,Amg hl6 ((Avv x).trans h)]
  simp only[Option.bind_some]
  rw[An1 hl6 ((Bg _ _).trans ((Avv x).trans h))]
  simp only[Option.bind_some]
  rw[show Dj Ib (mT [59] (pF x).2)=pG x from rfl,An1 hl6 ((A46 x).trans h)]
  simp only[Option.bind_some]
  rw[show Dj Ej (pG x).2=pH x from rfl,An1 hl6 ((A47 x).trans h)]
  simp only[Option.bind_some]
  rw[show Dj Il (pH x).2=pI x from rfl,Amg hl6 ((Bei x).trans h)]
  rfl
 ·rw[f2 (Bbn hh)]
  rfl
def Aqb(d:Ae):Bool:=decide (d.Aq.length≤8)&&decide (0<Jm d.Cl)
def Ck:Nat→St→List Ae×St
 |0,x=>([],x)
 |f+1,x=>if x.2=false∧x.1≠[] then((Ft x).1::(Ck f (Ft x).2).1,(Ck f (Ft x).2).2) else([],x)
theorem A19: ∀(f:Nat) (x:St),(Ck f x).2.1 <:+ x.1
 |0,x=>List.suffix_refl _
 |f+1,x=>by
  rw[Ck]
  split
  ·exact(A19 f _).trans (Aiw x)
  ·exact List.suffix_refl _
theorem Auq: ∀(f:Nat) (x:St),(Ck f x).2.2=false→x.2=false
 |0,x,h=>h
 |f+1,x,h=>by
  cases hb:x.2 with
  |false=>rfl
  |true=>
   rw[Ck,if_neg (by simp[hb])] at h
   exact hb▸h
theorem Bdl{l:List Tk}(hF:Fit l)(hl:l.length≤8000): ∀(f:Nat) (x:St) (fits:Bool) (row:List Ae),x.1 <:+ l→(x.2=false→x.1.length<f)→1≤f→(x.2=false→row.length+x.1.length≤100000)→row.length≤100001→
  ∃o ft,A3 (fun(qj5:Bool×Ab×(List Ae))=>match qj5 with
    |(fits6,x7,row8)=>(
     (some (!x7.Ch)).bind fun c9=>
     if (c9&&(decide (x7.C2<(x7.Jn.length:Int))))=true then
      (Dp x7).bind fun x10=>
      (some (fits6&&(decide ((x10.1.Aq.length:Int)≤8)))).bind fun c11=>
      (gdO c11 (D9 x10.1.Cl) (default:Bool)).bind fun x12=>
      (apO 160 row8 [x10.1]).bind fun x13=>
      some (.inl ((c11&&x12),x10.2,x13))
     else
      some (.inr (row8,fits6,x7)):Option ((Bool×Ab×(List Ae))⊕((List Ae)×Bool×Ab)))) (fits,RX l x,row)=some (o,ft,RX l (Ck f x).2)∧((Ck f x).2.2=false→o=row++(Ck f x).1∧ft=(fits&&(Ck f x).1.all Aqb)):=by
 have hl6:=hF.l6
 intro f
 induction f with
 |zero=>intro x fits row _ _ h;exact absurd h (by simp)
 |succ f ih=>
  intro x fits row hx hf _ hrow hrow2
  have e1:(RX l x).Ch=x.2:=rfl
  have e2:decide ((RX l x).C2<((RX l x).Jn.length:Int))= !x.1.isEmpty:=A26 hx
  rw[Ck]
  by_cases hc:x.2=false∧x.1≠[]
  ·rw[if_pos hc]
   have hf:=hf hc.1
   have hrow:=hrow hc.1
   obtain⟨d,p1,p2,p3⟩:=Bjj hF hl hx
   have hne:0<x.1.length:=List.length_pos_iff.2 hc.2
   obtain⟨o,ft,g1,g2⟩:=ih (Ft x).2 (fits&&Aqb d) (row++[d]) ((Aiw x).trans hx) (fun hg=>by have:=(A24 hg).2;omega) (by omega) (fun hg=>by have:=(A24 hg).2;simp;omega) (by simp;omega)
   refine⟨o,ft,?_,fun hg=>?_⟩
   ·rw[←g1]
    refine B0 ?_
    simp only[Option.bind_some,e1,e2,hc.1]
    rw[if_pos (by cases hx1:x.1 with|nil=>exact absurd hx1 hc.2|cons a b=>rfl),p1]
    simp only[Option.bind_some]
    rw[right_eq p3]
    simp only[A8,Option.bind_some]
    unfold apO
    rw[if_pos (by simp only[List.length_cons,List.length_nil];omega)]
    simp only[Option.bind_some,Option.some.injEq,Sum.inl.injEq,Prod.mk.injEq,and_true]
    unfold Aqb
    have:decide ((d.Aq.length:Int)≤8)=decide (d.Aq.length≤8):=by rw[decide_eq_decide];omega
    rw[this]
    cases fits<;>cases decide (d.Aq.length≤8)<;>rfl
   ·have hd:=p2 (Auq f _ hg)
    obtain⟨g3,g4⟩:=g2 hg
    refine⟨by rw[g3,hd];simp,?_⟩
    rw[g4,hd,List.all_cons,Bool.and_assoc]
  ·rw[if_neg hc]
   refine⟨row,fits,A1 ?_,fun _=>⟨by simp,by simp⟩⟩
   simp only[Option.bind_some,e1,e2]
   rw[if_neg]
   intro h
   simp only[Bool.and_eq_true,Bool.not_eq_true'] at h
   refine hc ⟨h.1,?_⟩
   intro he
   rw[he] at h
   simp at h
theorem Brq{l:List Tk}(hF:Fit l)(hl:l.length≤8000){x:St}(h:x.1 <:+ l):NB (Ft x).1.Cl:=by
 show NB (Sv (mT Ank (mT [125] (pE x).2))).1
 have hs:(mT Ank (mT [125] (pE x).2)).1 <:+ l:=(Bg _ _).trans ((Bg _ _).trans ((Avu x).trans h))
 generalize mT Ank (mT [125] (pE x).2)=y at hs
 unfold Sv
 split
 ·intro n hn;simp at hn
 ·cases hc:CL y.1 0 with
  |mk o i=>
   cases o with
   |none=>intro n hn;simp at hn
   |some a=>exact Bqi hF hs hl hc
def Cx(s:By):List Ae×Int×Int×Int:=match LX s with
 | .inr e=>([],(plS (s.take e.1)).1,(plS (s.take e.1)).2,(e.2:Int))
 | .inl l=>match Ck (l.length+1) (l,false) with
  |(_,t::_,_)=>([],t.Z7,t.An6,14)
  |(_,[],true)=>([],(plS s).1,(plS s).2,14)
  |(ds,[],false)=>if ds.all Aqb=true∧ds.length≤16 then(ds,0,0,0) else([],1,1,4)
theorem Auf{s:By}(hs:s.length≤1000000):Eb s=some (Cx s):=by
 unfold Eb Cx
 rw[A8o hs]
 simp only[Option.bind_some]
 cases h:LX s with
 |inr e=>
  obtain⟨h1,_⟩:=Apv h
  simp only
  rw[if_pos (by simp;omega)]
 |inl l=>
  obtain⟨hF,hl,_⟩:=Apu h
  simp only[bne_self_eq_false,Bool.false_eq_true,if_false]
  have hsf:=List.suffix_refl l
  obtain⟨o,ft,g1,g2⟩:=Bdl hF hl (l.length+1) (l,false) true [] hsf (fun _=>by simp) (by omega) (fun _=>by simp;omega) (by simp)
  refine Bj g1 ?_
  have hy:=A19 (l.length+1) (l,false)
  generalize hr:Ck (l.length+1) (l,false)=r at g1 g2 hy
  obtain⟨ds,ts,b⟩:=r
  have hy:ts <:+ l:=hy
  simp only
  rw[show RX l (ts,b)=RD l ts b from rfl,Bdn hs hy]
  cases ts with
  |cons t r=>cases b<;>rfl
  |nil=>
   cases b with
   |true=>rfl
   |false=>
    obtain⟨g3,g4⟩:=g2 rfl
    simp only[List.nil_append,Bool.true_and] at g3 g4
    subst g3;subst g4
    simp only[Option.bind_some,Bool.false_eq_true,if_false]
    by_cases hc:List.all o Aqb=true∧o.length≤16
    ·have e:(List.all o Aqb&&decide ((o.length:Int)≤16))=true:=by
      rw[hc.1];simp;omega
     rw[if_pos hc,e]
     rfl
    ·have e:(List.all o Aqb&&decide ((o.length:Int)≤16))=false:=by
      rw[←Bool.not_eq_true]
      intro h
      simp only[Bool.and_eq_true,decide_eq_true_eq] at h
      exact hc ⟨h.1,by omega⟩
     rw[if_neg hc,e]
     rfl
def Ayc(a b:Ae):Bool:=decide (a.Aq=b.Aq)&&decide (a.Cl=b.Cl)&&decide (a.Cn=b.Cn)&&decide (a.Dt=b.Dt)&&decide (a.Bt=b.Bt)&&decide (a.Bi=b.Bi)&&decide (a.Ba=b.Ba)&&decide (a.A0=b.A0)&&decide (a.Bf=b.Bf)
theorem Ayd(a:Ae):Ayc a a=true:=by simp[Ayc]
theorem A3c(x y:Ao):Ao.same x y=decide (x=y):=Ao.same_iff x y
theorem Bla(a b:By):(a==b)=decide (a=b):=by
 by_cases h:a=b<;>simp[h]
theorem Bdp{a b:List Ao}(hn:a.length≤1000000):D5 a b=some (decide (a=b)):=by
 unfold D5
 by_cases h:a.length=b.length
 ·rw[if_neg (by simp;omega)]
  refine Bj (At0 A3c hn h) ?_
  by_cases hab:a=b<;>simp[hab]
 ·rw[if_pos (by simp;omega)]
  have:a≠b:=fun c=>h (by rw[c])
  simp[this]
theorem Bdq{a b:List Nd}(hn:a.length≤1000000):D6 a b=some (decide (a=b)):=by
 unfold D6
 by_cases h:a.length=b.length
 ·rw[if_neg (by simp;omega)]
  refine Bj (At0 A3d hn h) ?_
  by_cases hab:a=b<;>simp[hab]
 ·rw[if_pos (by simp;omega)]
  have:a≠b:=fun c=>h (by rw[c])
  simp[this]
theorem Bjt{a b:Ae}(h1:a.Aq.length≤1000000)(h2:a.Cl.length≤1000000):Rh a b=some (Ayc a b):=by
 unfold Rh
 rw[Bdp h1,Bdq h2]
 simp only[Option.bind_some,A8,Bla]
 unfold Ayc
 cases decide (a.Aq=b.Aq)<;>rfl
theorem Bnp{a b:Ae}(h1:a.Aq.length≤1000000)(h2:a.Cl.length≤1000000):Gg a b=some (Ayc a b):=by
 unfold Gg
 rw[Anq h2]
 simp only[Option.bind_some,Bla]
 unfold Ayc
 by_cases hf:a.Cl=b.Cl
 ·by_cases hl:a.Aq.length=b.Aq.length
  ·rw[if_neg (by simp[hf,hl])]
   refine Bj (At0 A3c h1 hl) ?_
   by_cases hb:a.Aq=b.Aq
   ·rw[if_pos hb]
    simp[hb,hf]
   ·rw[if_neg hb]
    simp[hb]
  ·rw[if_pos (by simp;omega)]
   have:a.Aq≠b.Aq:=fun c=>hl (by rw[c])
   simp[this]
 ·rw[if_pos (by simp[hf])]
  simp[hf]
theorem Alv{a:List Ae}(hn:a.length≤1000000)(h: ∀d∈a,d.Aq.length≤1000000∧d.Cl.length≤1000000):Bv a a=some true:=by
 unfold Bv
 rw[if_neg (by simp)]
 refine Bj (Lk (l:=a) (fun _=>false) (o:=(.inr false:Unit⊕Bool)) (e:= .inl ()) (by omega) (fun i hi=>?_) (fun i hi=>?_)) ?_
 ·show(if _ then _ else _)=_
  have:=h a[i] (List.getElem_mem hi)
  rw[if_pos (by simp;omega),Fv hi]
  simp only[Option.bind_some]
  rw[Bnp this.1 this.2,Ayd]
  rfl
 ·show(if _ then _ else _)=_
  rw[if_neg (by simp;omega)]
 ·have:a.any (fun _=>false)=false:=by simp
  rw[this]
  rfl
theorem Ap5: ∀(f:Nat) (x:St),(Bz f x).1.length≤f
 |0,x=>by simp[Bz]
 |f+1,x=>by
  have:=Ap5 f (C9 x).2
  rw[Bz]
  split
  ·simp
  ·split
   ·simp
   ·simp;omega
theorem Bo4(x:St):(Sv x).1.length≤x.1.length:=by
 unfold Sv
 split
 ·simp
 ·cases h:CL x.1 0 with
  |mk o i=>
   cases o with
   |none=>simp
   |some a=>
    have:=Ij h
    simp only
    omega
theorem Arj: ∀(f:Nat) (x:St),∀d∈(Ck f x).1,d.Aq.length≤x.1.length+2∧d.Cl.length≤x.1.length
 |0,x,d,h=>by simp[Ck] at h
 |f+1,x,d,h=>by
  rw[Ck] at h
  split at h
  ·rw[List.mem_cons] at h
   have hs:=(Aiw x).length_le
   rcases h with rfl|h
   ·constructor
    ·have h1:=Ap5 ((mT [123] (mT Dy (pD x).2)).1.length+2) (mT [123] (mT Dy (pD x).2))
     have h2:=((Bg [123] _).trans ((Bg Dy _).trans (Amk x))).length_le
     have h3:(Ft x).1.Aq=(Bz ((mT [123] (mT Dy (pD x).2)).1.length+2) (mT [123] (mT Dy (pD x).2))).1:=rfl
     rw[h3]
     omega
    ·have h1:=Bo4 (mT Ank (mT [125] (pE x).2))
     have h2:=((Bg Ank _).trans ((Bg [125] _).trans (Avu x))).length_le
     have h3:(Ft x).1.Cl=(Sv (mT Ank (mT [125] (pE x).2))).1:=rfl
     rw[h3]
     omega
   ·have:=Arj f _ d h
    omega
  ·simp at h
theorem Bbo(s:By):(Cx s).1.length≤16∧ ∀d∈(Cx s).1,d.Aq.length≤1000000∧d.Cl.length≤1000000:=by
 unfold Cx
 cases h:LX s with
 |inr e=>simp
 |inl l=>
  obtain⟨hF,hl,_⟩:=Apu h
  have hsm:=Arj (l.length+1) (l,false)
  simp only
  generalize hr:Ck (l.length+1) (l,false)=r at hsm
  obtain⟨ds,ts,b⟩:=r
  cases ts with
  |cons t r=>simp
  |nil=>
   cases b with
   |true=>simp
   |false=>
    simp only at hsm⊢
    split
    ·rename_i hc
     refine⟨hc.2,fun d hd=>?_⟩
     have:=hsm d hd
     omega
    ·simp
theorem Cw{L:List (List By)}(hL:L.length≤1000)(hs:L.flatten.length≤1000000):Aj L=some L.flatten:=by
 unfold Aj
 have h1:A3 (fun(qj2:Int×Int)=>match qj2 with
  |(size3,x4)=>(
   if (decide (x4<(L.length:Int)))=true then
    (rdO L x4).bind fun x5=>
    ((if (decide ((IntKind.wrap .i64 (size3+(x5.length:Int)))<0))=true then
      none
    else
     some ()):Option Unit).bind fun _=>
    some (.inl (IntKind.wrap .i64 (size3+(x5.length:Int)),IntKind.wrap .i64 (x4+1)))
   else
    some (.inr size3):Option ((Int×Int)⊕Int))) (0,0)=some (L.flatten.length:Int):=by
  have key: ∀(t pre:List (List By)),L=pre++t→A3 (fun(qj2:Int×Int)=>match qj2 with
  |(size3,x4)=>(
   if (decide (x4<(L.length:Int)))=true then
    (rdO L x4).bind fun x5=>
    ((if (decide ((IntKind.wrap .i64 (size3+(x5.length:Int)))<0))=true then
      none
    else
     some ()):Option Unit).bind fun _=>
    some (.inl (IntKind.wrap .i64 (size3+(x5.length:Int)),IntKind.wrap .i64 (x4+1)))
   else
    some (.inr size3):Option ((Int×Int)⊕Int))) ((pre.flatten.length:Int),(pre.length:Int))=some (L.flatten.length:Int):=by
   intro t
   induction t with
   |nil=>
    intro pre he
    refine A1 ?_
    subst he
    simp
   |cons x t ih=>
    intro pre he
    have hlen:pre.length<L.length:=by subst he;simp
    have hg:L[pre.length]=x:=by subst he;simp
    have hfl:pre.flatten.length+x.length≤L.flatten.length:=by subst he;simp
    rw[B0 (s':=((((pre++[x]).flatten.length:Nat):Int),(((pre++[x]).length:Nat):Int))),ih (pre++[x]) (by simp[he])]
    show(if _ then _ else _)=_
    rw[if_pos (by simp;omega),Fv hlen,hg]
    simp only[Option.bind_some]
    rw[wrap64 (x:=(pre.flatten.length:Int)+(x.length:Int)) (by omega) (by omega),wrap64 (by omega) (by omega),if_neg (by simp;omega)]
    simp
  exact key L [] rfl
 rw[h1]
 simp only[Option.bind_some]
 have hg:C6 (List UInt8) 16 (L.flatten.length:Int)=some []:=by
  unfold C6 D7
  rw[if_pos ⟨by omega,by omega⟩]
  rfl
 rw[hg]
 simp only[Option.bind_some]
 have key: ∀(t pre:List (List By)),L=pre++t→A3 (fun(qj9:Int×(List (List UInt8)))=>match qj9 with
  |(x10,row11)=>(
   if (decide (x10<(L.length:Int)))=true then
    (rdO L x10).bind fun x12=>
    (apO 16 row11 x12).bind fun x13=>
    some (.inl (IntKind.wrap .i64 (x10+1),x13))
   else
    some (.inr row11):Option ((Int×(List (List UInt8)))⊕(List (List UInt8))))) ((pre.length:Int),pre.flatten)=some L.flatten:=by
  intro t
  induction t with
  |nil=>
   intro pre he
   refine A1 ?_
   subst he
   simp
  |cons x t ih=>
   intro pre he
   have hlen:pre.length<L.length:=by subst he;simp
   have hg:L[pre.length]=x:=by subst he;simp
   have hfl:pre.flatten.length+x.length≤L.flatten.length:=by subst he;simp
   rw[B0 (s':=((((pre++[x]).length:Nat):Int),(pre++[x]).flatten)),ih (pre++[x]) (by simp[he])]
   show(if _ then _ else _)=_
   rw[if_pos (by simp;omega),Fv hlen,hg]
   simp only[Option.bind_some]
   unfold apO
   rw[if_pos (by omega)]
   simp only[Option.bind_some]
   rw[wrap64 (by omega) (by omega)]
   simp
 exact Bj (key L [] rfl) rfl
abbrev Pc:=Nat×List By
def atS(p:Pc)(lvl:Nat):List By:=if p.1<lvl then [40]::(p.2++[[41]]) else p.2
def Bd(k:Int):Nat×By×Nat×Nat:=
 if k=2 then(7,[45],7,7) else if k=3 then(5,[43],5,6) else if k=4 then(5,[45],5,6) else if k=5 then(6,[42],6,7) else if k=6 then(6,[47],6,7)
 else if k=7 then(4,[60],5,5) else if k=8 then(4,[60,61],5,5) else if k=9 then(4,[61],5,5) else if k=10 then(4,[62],5,5) else if k=11 then(4,[62,61],5,5)
 else if k=12 then(2,Bbw,2,3) else if k=13 then(1,sOr,1,2) else if k=14 then(3,Ob,3,3) else if k=15 then(0,sIf,0,0) else if k=16 then(8,Jf,0,0)
 else if k=17 then(8,H2,0,0) else(8,[],0,0)
def Ar4(k:Int)(i:Nat):Nat:=if i=0 then(Bd k).2.2.1 else if i=1 then(Bd k).2.2.2 else 0
def Cq(n:Nd)(p0 p1 p2:List By):List By:=
 if n.Ad=0 then(if n.Ag.getLast?=some 37 then [n.Ag.dropLast,[37]] else [n.Ag])
 else if n.Ad=1 then [n.Ag]
 else if n.Ad=2 then [45]::p0
 else if n.Ad=14 then Ob::p0
 else if n.Ad=15 then sIf::(p0++Sh::(p1++Nz::p2))
 else if n.Ad=16∨n.Ad=17 then(if n.Ad=17 then H2 else Jf)::[40]::(p0++[44]::(p1++[[41]]))
 else p0++(Bd n.Ad).2.1::p1
def gP(st:List Pc)(k:Int)(i:Nat):List By:=atS (st.getD i (0,[])) (Ar4 k i)
def Ad1(k:Int):Nat:=(Jd k).getD 0
def pst:List Nd→List Pc
 |[]=>[]
 |n::l=>((Bd n.Ad).1,Cq n (gP (pst l) n.Ad 0) (gP (pst l) n.Ad 1) (gP (pst l) n.Ad 2))::(pst l).drop (Ad1 n.Ad)
theorem kinds{k:Int}(h:Jd k≠none):k=0∨k=1∨k=2∨k=3∨k=4∨k=5∨k=6∨k=7∨k=8∨k=9∨k=10∨k=11∨k=12∨k=13∨k=14∨k=15∨k=16∨k=17:=by
 unfold Jd at h
 split at h
 ·exact absurd rfl h
 ·omega
theorem Sl{n:Nd}{l:List Nd}{s:List Nat}(h:stk (n::l)=some s): ∃st k,stk l=some st∧Jd n.Ad=some k∧Js n=true∧k≤st.length∧s=((st.take k).foldl max 0+1)::st.drop k:=by
 rw[stk] at h
 cases h1:stk l with
 |none=>rw[h1] at h;cases h
 |some st=>
  rw[h1] at h
  simp only at h
  cases h2:Jd n.Ad with
  |none=>rw[h2] at h;cases h
  |some k=>
   rw[h2] at h
   simp only at h
   split at h
   ·rename_i h3
    cases h
    exact⟨st,k,rfl,rfl,h3.1,h3.2,rfl⟩
   ·cases h
theorem T6: ∀{l:List Nd} {st:List Nat},stk l=some st→(pst l).length=st.length
 |[],st,h=>by cases h;rfl
 |n::l,s,h=>by
  obtain⟨st,k,h1,h2,h3,h4,rfl⟩:=Sl h
  have:=T6 h1
  rw[pst]
  simp only[List.length_cons,List.length_drop,Ad1,h2,Option.getD_some]
  omega
def tw(st:List Pc):Nat:=(st.map fun p=>p.2.length).sum
theorem Bqg(st:List Pc)(k:Nat):tw (st.take k)+tw (st.drop k)=tw st:=by
 unfold tw
 rw[←List.sum_append,←List.map_append,List.take_append_drop]
theorem Bgt(p:Pc)(lvl:Nat):(atS p lvl).length≤p.2.length+2:=by
 unfold atS
 split
 ·simp
 ·omega
theorem Bkg(n:Nd)(p0 p1 p2:List By):(Cq n p0 p1 p2).length≤(if Ad1 n.Ad=0 then 0 else p0.length)+(if Ad1 n.Ad≤1 then 0 else p1.length)+(if Ad1 n.Ad≤2 then 0 else p2.length)+4∨Jd n.Ad=none:=by
 by_cases h:Jd n.Ad=none
 ·exact Or.inr h
 ·left
  unfold Cq
  rcases kinds h with e|e|e|e|e|e|e|e|e|e|e|e|e|e|e|e|e|e<;>rw[e]<;>simp[Ad1,Jd]<;>(try split)<;>(try simp)<;>(try omega)
theorem Zh: ∀{l:List Nd} {st:List Nat},stk l=some st→tw (pst l)≤10*l.length
 |[],st,h=>by simp[pst,tw]
 |n::l,s,h=>by
  obtain⟨st,k,h1,h2,h3,h4,rfl⟩:=Sl h
  have ih:=Zh h1
  have hlen:=T6 h1
  have hd:=Bqg (pst l) k
  have hk:=A4h h2
  rcases Bkg n (gP (pst l) n.Ad 0) (gP (pst l) n.Ad 1) (gP (pst l) n.Ad 2) with hw|hw
  ·rw[pst]
   have hN:Ad1 n.Ad=k:=by simp[Ad1,h2]
   rw[hN] at hw⊢
   have hg: ∀i,(gP (pst l) n.Ad i).length≤((pst l).getD i (0,[])).2.length+2:=fun i=>Bgt _ _
   have g0:=hg 0;have g1:=hg 1;have g2:=hg 2
   have hsum:(if k=0 then 0 else((pst l).getD 0 (0,[])).2.length)+(if k≤1 then 0 else((pst l).getD 1 (0,[])).2.length)+(if k≤2 then 0 else((pst l).getD 2 (0,[])).2.length)=tw ((pst l).take k):=by
    match hp:pst l,k,hk with
    |[],0,_=>rfl
    |[],k+1,_=>rw[hp] at hlen;simp at hlen;omega
    |a::s,0,_=>rfl
    |a::s,1,_=>simp[tw]
    |[a],2,_=>rw[hp] at hlen;simp at hlen;omega
    |[a],3,_=>rw[hp] at hlen;simp at hlen;omega
    |a::b::s,2,_=>simp[tw]
    |[a,b],3,_=>rw[hp] at hlen;simp at hlen;omega
    |a::b::c::s,3,_=>simp[tw];omega
   have htw:tw (((Bd n.Ad).1,Cq n (gP (pst l) n.Ad 0) (gP (pst l) n.Ad 1) (gP (pst l) n.Ad 2))::(pst l).drop k)=(Cq n (gP (pst l) n.Ad 0) (gP (pst l) n.Ad 1) (gP (pst l) n.Ad 2)).length+tw ((pst l).drop k):=by simp[tw]
   rw[htw]
   simp only[List.length_cons]
   split at hw<;>(try split at hw)<;>(try split at hw)<;>(try split at hsum)<;>(try split at hsum)<;>(try split at hsum)<;>omega
  ·rw[hw] at h2;cases h2
theorem A76{st:List Pc}{p:Pc}(h:p∈st):p.2.length≤tw st:=by
 unfold tw
 exact List.single_le_sum_nat (List.mem_map.2 ⟨p,h,rfl⟩)
where
 List.single_le_sum_nat: ∀{l:List Nat} {x:Nat},x∈l→x≤l.sum:=by
  intro l
  induction l with
  |nil=>intro x h;cases h
  |cons a l ih=>
   intro x h
   rw[List.sum_cons]
   rcases List.mem_cons.1 h with rfl|h
   ·omega
   ·have:=ih h;omega
theorem Brn{s:By}(hl:s.length≤1000000):strings_CutSuffix s [37]=some (if s.getLast?=some 37 then(s.dropLast,true) else(s,false)):=by
 unfold strings_CutSuffix stringslite_CutSuffix
 rw[A2e hl]
 simp only[Option.bind_some]
 by_cases h:s.getLast?=some 37
 ·rw[if_neg (by simp[h]),Arl hl h,if_pos h]
  rfl
 ·rw[if_pos (by simp[h]),if_neg h]
  rfl
def A49(k:Nat)(p0 p1 p2:List By):List (List By):=[p0,p1,p2].take k
theorem Bol{n:Nd}(hx:n.Ag.length≤1000000){k:Nat}(hk:Jd n.Ad=some k){p0 p1 p2:List By}(hb:p0.length≤100000∧p1.length≤100000∧p2.length≤100000):T4 n (placeOf n.Ad).2.1 (A49 k p0 p1 p2)=some (Cq n p0 p1 p2):=by
 have hb0:=hb.1
 have hb1:=hb.2.1
 have hb2:=hb.2.2
 have hne:Jd n.Ad≠none:=by rw[hk];simp
 unfold T4 Cq
 rcases kinds hne with e|e|e|e|e|e|e|e|e|e|e|e|e|e|e|e|e|e<;>rw[e] at hk⊢ <;>(have hk:=Option.some.inj hk)<;>subst hk
 ·simp only[beq_self_eq_true,if_true]
  rw[Brn hx]
  simp only[Option.bind_some]
  split<;>simp
 ·rfl
 ·show(apO 16 [[45]] p0).bind _=_
  unfold apO
  rw[if_pos (by simp;omega)]
  rfl
 ·show(Aj [p0,[[43]],p1]).bind _=_
  rw[Cw (by simp) (by simp;omega)]
  simp[Bd]
 ·show(Aj [p0,[[45]],p1]).bind _=_
  rw[Cw (by simp) (by simp;omega)]
  simp[Bd]
 ·show(Aj [p0,[[42]],p1]).bind _=_
  rw[Cw (by simp) (by simp;omega)]
  simp[Bd]
 ·show(Aj [p0,[[47]],p1]).bind _=_
  rw[Cw (by simp) (by simp;omega)]
  simp[Bd]
 ·show(Aj [p0,[[60]],p1]).bind _=_
  rw[Cw (by simp) (by simp;omega)]
  simp[Bd]
 ·show(Aj [p0,[[60,61]],p1]).bind _=_
  rw[Cw (by simp) (by simp;omega)]
  simp[Bd]
 ·show(Aj [p0,[[61]],p1]).bind _=_
  rw[Cw (by simp) (by simp;omega)]
  simp[Bd]
 ·show(Aj [p0,[[62]],p1]).bind _=_
  rw[Cw (by simp) (by simp;omega)]
  simp[Bd]
 ·show(Aj [p0,[[62,61]],p1]).bind _=_
  rw[Cw (by simp) (by simp;omega)]
  simp[Bd]
 ·show(Aj [p0,[[97,110,100]],p1]).bind _=_
  rw[Cw (by simp) (by simp;omega)]
  simp[Bd,Bbw]
 ·show(Aj [p0,[[111,114]],p1]).bind _=_
  rw[Cw (by simp) (by simp;omega)]
  simp[Bd,sOr]
 ·show(apO 16 [[110,111,116]] p0).bind _=_
  unfold apO
  rw[if_pos (by simp;omega)]
  rfl
 ·show(Aj [[[105,102]],p0,[[116,104,101,110]],p1,[[101,108,115,101]],p2]).bind _=_
  rw[Cw (by simp) (by simp;omega)]
  simp[sIf,Sh,Nz]
 ·show(Aj [[[109,105,110],[40]],p0,[[44]],p1,[[41]]]).bind _=_
  rw[Cw (by simp) (by simp;omega)]
  simp[Jf]
 ·show(Aj [[[109,97,120],[40]],p0,[[44]],p1,[[41]]]).bind _=_
  rw[Cw (by simp) (by simp;omega)]
  simp[H2]
theorem Bnr{kind:Int}(h:Jd kind≠none): ∃sd:List Int,((if (kind==2)=true then
   some (7,[7])
  else
   if (kind==14)=true then
    some (3,[3])
   else
    if (kind==15)=true then
     some (0,[(placeOf kind).2.2.1,(placeOf kind).2.2.2,0])
    else
     some ((placeOf kind).1,[(placeOf kind).2.2.1,(placeOf kind).2.2.2,0])):Option (Int×(List Int)))=some (((Bd kind).1:Int),sd)∧ ∀i,i<Ad1 kind→rdO sd (i:Int)=some (Ar4 kind i:Int):=by
 rcases kinds h with rfl|rfl|rfl|rfl|rfl|rfl|rfl|rfl|rfl|rfl|rfl|rfl|rfl|rfl|rfl|rfl|rfl|rfl
 ·exact⟨_,rfl,fun i hi=>absurd hi (by simp[Ad1,Jd])⟩
 ·exact⟨_,rfl,fun i hi=>absurd hi (by simp[Ad1,Jd])⟩
 ·refine⟨_,rfl,fun i hi=>?_⟩
  have:i<1:=hi
  obtain rfl:i=0:=by omega
  rfl
 ·refine⟨_,rfl,fun i hi=>?_⟩
  have:i<2:=hi
  rcases(show i=0∨i=1 by omega) with rfl|rfl<;>rfl
 ·refine⟨_,rfl,fun i hi=>?_⟩
  have:i<2:=hi
  rcases(show i=0∨i=1 by omega) with rfl|rfl<;>rfl
 ·refine⟨_,rfl,fun i hi=>?_⟩
  have:i<2:=hi
  rcases(show i=0∨i=1 by omega) with rfl|rfl<;>rfl
 ·refine⟨_,rfl,fun i hi=>?_⟩
  have:i<2:=hi
  rcases(show i=0∨i=1 by omega) with rfl|rfl<;>rfl
 ·refine⟨_,rfl,fun i hi=>?_⟩
  have:i<2:=hi
  rcases(show i=0∨i=1 by omega) with rfl|rfl<;>rfl
 ·refine⟨_,rfl,fun i hi=>?_⟩
  have:i<2:=hi
  rcases(show i=0∨i=1 by omega) with rfl|rfl<;>rfl
 ·refine⟨_,rfl,fun i hi=>?_⟩
  have:i<2:=hi
  rcases(show i=0∨i=1 by omega) with rfl|rfl<;>rfl
 ·refine⟨_,rfl,fun i hi=>?_⟩
  have:i<2:=hi
  rcases(show i=0∨i=1 by omega) with rfl|rfl<;>rfl
 ·refine⟨_,rfl,fun i hi=>?_⟩
  have:i<2:=hi
  rcases(show i=0∨i=1 by omega) with rfl|rfl<;>rfl
 ·refine⟨_,rfl,fun i hi=>?_⟩
  have:i<2:=hi
  rcases(show i=0∨i=1 by omega) with rfl|rfl<;>rfl
 ·refine⟨_,rfl,fun i hi=>?_⟩
  have:i<2:=hi
  rcases(show i=0∨i=1 by omega) with rfl|rfl<;>rfl
 ·refine⟨_,rfl,fun i hi=>?_⟩
  have:i<1:=hi
  obtain rfl:i=0:=by omega
  rfl
 ·refine⟨_,rfl,fun i hi=>?_⟩
  have:i<3:=hi
  rcases(show i=0∨i=1∨i=2 by omega) with rfl|rfl|rfl<;>rfl
 ·refine⟨_,rfl,fun i hi=>?_⟩
  have:i<2:=hi
  rcases(show i=0∨i=1 by omega) with rfl|rfl<;>rfl
 ·refine⟨_,rfl,fun i hi=>?_⟩
  have:i<2:=hi
  rcases(show i=0∨i=1 by omega) with rfl|rfl<;>rfl
theorem Bcl: ∀(N f:Nat) (l:List Nd) (d:Nat) (st:List Nat) (lvl:Nat),l.length≤N→l.length<f→l.length≤1000→(∀n∈l,n.Ag.length≤1000000)→stk l=some (d::st)→
  ∃rest,F5 f l (lvl:Int)=some (atS ((pst l).getD 0 (0,[])) lvl,rest)∧stk rest=some st∧pst rest=(pst l).drop 1∧rest <:+ l∧rest.length<l.length:=by
 intro N
 induction N with
 |zero=>
  intro f l d st lvl hN hf hl hx hs
  obtain rfl:l=[]:=List.eq_nil_of_length_eq_zero (by omega)
  cases hs
 |succ N ih=>
  intro f l d st lvl hN hf hl hx hs
  cases l with
  |nil=>cases hs
  |cons n l=>
   obtain⟨g,rfl⟩: ∃g,f=g+1:=⟨f-1,by omega⟩
   simp only[List.length_cons] at hN hf hl
   obtain⟨st',k,h1,h2,h3,h4,h5⟩:=Sl hs
   have hst:st=st'.drop k:=(List.cons.inj h5).2
   have hNk:Ad1 n.Ad=k:=by simp[Ad1,h2]
   have hk3:=A4h h2
   have hnx:=hx n (by simp)
   have hplen:=T6 h1
   have htw:=Zh h1
   obtain⟨sd,s1,s2⟩:=Bnr (kind:=n.Ad) (by rw[h2];simp)
   rw[hNk] at s2
   have hP: ∀i,(gP (pst l) n.Ad i).length≤10*l.length+2:=by
    intro i
    have:=Bgt ((pst l).getD i (0,[])) (Ar4 n.Ad i)
    have h6:((pst l).getD i (0,[])).2.length≤tw (pst l):=by
     rw[List.getD_eq_getElem?_getD]
     cases hg:(pst l)[i]? with
     |none=>simp
     |some p=>exact A76 (List.mem_of_getElem? hg)
    unfold gP
    omega
   have key: ∀(j:Nat) (rest:List Nd),j≤k→rest <:+ l→stk rest=some (st'.drop j)→pst rest=(pst l).drop j→ ∃rest',rest' <:+ l∧stk rest'=some (st'.drop k)∧pst rest'=(pst l).drop k∧A3 (fun(qj10:(List Aa)×Int×(List (List (List UInt8))))=>match qj10 with
   |(rest11,x12,row13)=>(
    if (decide (x12<(k:Int)))=true then
     (rdO sd x12).bind fun x14=>
     (F5 g rest11 x14).bind fun x15=>
     (apO 24 row13 [x15.1]).bind fun x16=>
     some (.inl (x15.2,IntKind.wrap .i64 (x12+1),x16))
    else
     some (.inr (rest11,row13)):Option (((List Aa)×Int×(List (List (List UInt8))))⊕((List Aa)×(List (List (List UInt8))))))) (rest,(j:Int),A49 j (gP (pst l) n.Ad 0) (gP (pst l) n.Ad 1) (gP (pst l) n.Ad 2))=some (rest',A49 k (gP (pst l) n.Ad 0) (gP (pst l) n.Ad 1) (gP (pst l) n.Ad 2)):=by
    intro j
    generalize hd:k-j=dd
    induction dd generalizing j with
    |zero=>
     intro rest hj hr hs1 hs2
     obtain rfl:j=k:=by omega
     refine⟨rest,hr,hs1,hs2,A1 ?_⟩
     show(if _ then _ else _)=_
     rw[if_neg (by simp)]
    |succ dd ihd=>
     intro rest hj hr hs1 hs2
     have hjk:j<k:=by omega
     have hjl:j<st'.length:=by omega
     have hcons:st'.drop j=st'[j]::st'.drop (j+1):=List.drop_eq_getElem_cons hjl
     rw[hcons] at hs1
     have hrl:=hr.length_le
     obtain⟨r2,t1,t2,t3,t4,t5⟩:=ih g rest st'[j] (st'.drop (j+1)) (Ar4 n.Ad j) (by omega) (by omega) (by omega) (fun m hm=>hx m (by simp[hr.subset hm])) hs1
     obtain⟨rest',q1,q2,q3,q4⟩:=ihd (j+1) (by omega) r2 (by omega) (t4.trans hr) t2 (by rw[t3,hs2,List.drop_drop])
     refine⟨rest',q1,q2,q3,?_⟩
     rw[←q4]
     refine B0 ?_
     show(if _ then _ else _)=_
     rw[if_pos (by simp;omega),s2 j hjk]
     simp only[Option.bind_some]
     rw[t1]
     simp only[Option.bind_some]
     have hat:atS ((pst rest).getD 0 (0,[])) (Ar4 n.Ad j)=gP (pst l) n.Ad j:=by
      rw[hs2]
      unfold gP
      congr 1
      simp
     rw[hat]
     unfold apO
     rw[if_pos (by simp[A49];omega)]
     simp only[Option.bind_some]
     rw[wrap64 (by omega) (by omega)]
     simp only[Option.some.injEq,Sum.inl.injEq,Prod.mk.injEq,true_and]
     refine⟨rfl,?_⟩
     rcases(show j=0∨j=1∨j=2 by omega) with rfl|rfl|rfl<;>rfl
   obtain⟨rest',q1,q2,q3,q4⟩:=key 0 l (by omega) (List.suffix_refl l) (by simpa using h1) (by simp)
   refine⟨rest',?_,by rw[hst];exact q2,?_,q1.trans (List.suffix_cons n l),by have:=q1.length_le;simp;omega⟩
   ·rw[F5]
    have e0:rdO (n::l) 0=some n:=rfl
    have e2:slO (n::l) 1 ((n::l).length:Int)=some l:=by
     have:=Hm (l:=n::l) (n:=1) (by simp)
     simpa using this
    rw[e0,e2]
    simp only[Option.bind_some]
    rw[show Ahp n.Ad=some (placeOf n.Ad) from rfl]
    simp only[Option.bind_some]
    refine Bj s1 ?_
    simp only
    rw[has_eq]
    have hI:Bmc n.Ad=(k:Int):=by unfold Bmc;rw[h2]
    rw[hI]
    simp only[Option.bind_some]
    refine Bj q4 ?_
    simp only
    rw[Bol hnx h2 ⟨by have:=hP 0;omega,by have:=hP 1;omega,by have:=hP 2;omega⟩]
    simp only[Option.bind_some]
    have hhead:(pst (n::l)).getD 0 (0,[])=((Bd n.Ad).1,Cq n (gP (pst l) n.Ad 0) (gP (pst l) n.Ad 1) (gP (pst l) n.Ad 2)):=rfl
    rw[hhead]
    unfold atS
    have htw2:=Zh hs
    have hwl:(Cq n (gP (pst l) n.Ad 0) (gP (pst l) n.Ad 1) (gP (pst l) n.Ad 2)).length≤20000:=by
     have:=A76 (st:=pst (n::l)) (p:=((Bd n.Ad).1,Cq n (gP (pst l) n.Ad 0) (gP (pst l) n.Ad 1) (gP (pst l) n.Ad 2))) (by rw[pst];simp)
     simp at this htw2
     omega
    by_cases hb:(Bd n.Ad).1<lvl
    ·rw[if_pos hb,if_pos (by simp;omega),Cw (by simp) (by simp;omega)]
     simp
    ·rw[if_neg hb,if_neg (by simp;omega)]
     rfl
   ·rw[q3]
    rw[pst,hNk]
    simp
def jw(ws:List By):By:=Lib.join ws [32]
theorem Bru:jw []=[]:=rfl
theorem Brv(w:By):jw [w]=w:=by simp[jw,Lib.join,List.intercalate]
theorem Bpe(w v:By)(ws:List By):jw (w::v::ws)=w++32::jw (v::ws):=by simp[jw,Lib.join,List.intercalate]
theorem A4k: ∀(ws:List By) (b:Nat),(∀w∈ws,w.length≤b)→(jw ws).length≤ws.length*(b+1)
 |[],b,h=>by simp[Bru]
 |[w],b,h=>by
  have:=h w (by simp)
  rw[Brv];simp;omega
 |w::v::ws,b,h=>by
  have h1:=h w (by simp)
  have h2:=A4k (v::ws) b (fun x hx=>h x (by simp[hx]))
  rw[Bpe]
  simp only[List.length_append,List.length_cons] at h2⊢
  rw[Nat.add_mul,Nat.add_mul] at*
  omega
theorem Bhe{ws:List By}(h1:ws.length≤1000000)(h2:(jw ws).length≤140737488355328):strings_Join ws [32]=some (jw ws):=by
 unfold strings_Join
 rw[if_pos ⟨by omega,h2⟩]
 rfl
def C1(l:List Nd):List By:=((pst l).getD 0 (0,[])).2
def Anf(l:List Nd):By×Int:=if Jm l=0 then([],1) else(jw (C1 l),0)
theorem Ajj{l:List Nd}(h:Jm l≠0):l.length≤200∧ ∃d,stk l=some [d]∧d≤24∧Jm l=d:=by
 unfold Jm at h⊢
 by_cases hl:200<l.length
 ·rw[if_pos hl] at h;exact absurd rfl h
 ·rw[if_neg hl] at h⊢
  refine⟨by omega,?_⟩
  match hs:stk l with
  |none=>rw[hs] at h;exact absurd rfl h
  |some []=>rw[hs] at h;exact absurd rfl h
  |some [d]=>
   rw[hs] at h
   simp only at h
   split at h
   ·exact⟨d,rfl,by assumption,by simp only;rw[if_pos (by assumption)]⟩
   ·exact absurd rfl h
  |some (a::b::s)=>rw[hs] at h;exact absurd rfl h
theorem Aqw{B:Nat}(hB:10≤B): ∀(l:List Nd) (st:List Nat),stk l=some st→(∀n∈l,n.Ag.length≤B)→ ∀p∈pst l,∀w∈p.2,w.length≤B
 |[],st,h,hx,p,hp=>by simp[pst] at hp
 |n::l,s,h,hx,p,hp=>by
  obtain⟨st,k,h1,h2,h3,h4,rfl⟩:=Sl h
  have ih:=Aqw hB l st h1 (fun m hm=>hx m (by simp[hm]))
  have hn:=hx n (by simp)
  have hg: ∀i,∀w∈gP (pst l) n.Ad i,w.length≤B:=by
   intro i w hw
   have hq: ∀w∈((pst l).getD i (0,[])).2,w.length≤B:=by
    rw[List.getD_eq_getElem?_getD]
    cases hg:(pst l)[i]? with
    |none=>simp
    |some q=>exact ih q (List.mem_of_getElem? hg)
   unfold gP atS at hw
   split at hw
   ·simp only[List.mem_cons,List.mem_append,List.not_mem_nil,or_false] at hw
    rcases hw with rfl|hw|rfl
    ·simp;omega
    ·exact hq w hw
    ·simp;omega
   ·exact hq w hw
  rw[pst,List.mem_cons] at hp
  rcases hp with rfl|hp
  ·have hne:Jd n.Ad≠none:=by rw[h2];simp
   intro w hw
   simp only at hw
   unfold Cq at hw
   have h0:=hg 0 w;have h1:=hg 1 w;have h2:=hg 2 w
   generalize gP (pst l) n.Ad 0=p0 at hw h0
   generalize gP (pst l) n.Ad 1=p1 at hw h1
   generalize gP (pst l) n.Ad 2=p2 at hw h2
   have hdl:n.Ag.dropLast.length≤B:=by simp;omega
   rcases kinds hne with e|e|e|e|e|e|e|e|e|e|e|e|e|e|e|e|e|e<;>rw[e] at hw<;>simp[Bd,Bbw,sOr,Ob,sIf,Sh,Nz,Jf,H2] at hw<;>(try split at hw)<;>(try simp at hw)<;>(repeat' (refine Or.elim hw (fun hw=>?_) (fun hw=>?_)))<;>first|exact h0 hw|exact h1 hw|exact h2 hw|(rw[hw];simp at hn hdl⊢;omega)
  ·exact ih p (List.mem_of_mem_drop hp)
theorem Ape{l:List Nd}(hx: ∀n∈l,n.Ag.length≤1000000):E2 l=some (Anf l):=by
 unfold E2 Anf
 rw[right_eq hx]
 simp only[Option.bind_some]
 by_cases hd:Jm l=0
 ·rw[if_pos (by simp[hd]),if_pos hd]
 ·rw[if_neg (by simp;omega),if_neg hd]
  obtain⟨hl,d,hs,_⟩:=Ajj hd
  obtain⟨rest,h1,_⟩:=Bcl l.length 100000 l d [] 0 (Nat.le_refl _) (by omega) (by omega) hx hs
  rw[show(0:Int)=((0:Nat):Int) from rfl,h1]
  simp only[Option.bind_some]
  have e:atS ((pst l).getD 0 (0,[])) 0=C1 l:=by unfold atS C1;rw[if_neg (by omega)]
  rw[e]
  have htw:=Zh hs
  have hlen:=T6 hs
  have hmem:(pst l).getD 0 (0,[])∈pst l:=by
   match hp:pst l with
   |[]=>rw[hp] at hlen;simp at hlen
   |p::q=>simp
  have hwl:=A76 hmem
  have hwt:=Aqw (B:=1000000) (by omega) l [d] hs hx _ hmem
  have hjl:=A4k (C1 l) 1000000 hwt
  have hc:(C1 l).length≤2000:=by unfold C1;omega
  have hm:(C1 l).length*(1000000+1)≤2000*(1000000+1):=Nat.mul_le_mul_right _ hc
  rw[Bhe (by omega) (by omega)]
  rfl
def Es(b:Ao):Bool:=Di b.C7&&Di b.Dm
def Ht(d:Ae):Bool:=Iy d.Cn true&&Iy d.Dt true&&Iy d.Bt true&&Di d.Bi&&Di d.Ba&&Di d.A0&&Di d.Bf&&decide (1≤d.Aq.length)&&decide (d.Aq.length≤8)&&d.Aq.all Es&&decide (0<Jm d.Cl)
structure DB (d:Ae):Prop where
 name:d.Cn.length≤1000000
 cur:d.Dt.length≤1000000
 basis:d.Bt.length≤1000000
 period:d.Bi.length≤1000000
 minimum:d.Ba.length≤1000000
 overdraft:d.A0.length≤1000000
 notice:d.Bf.length≤1000000
 fee:NB d.Cl
 bands:d.Aq.length≤1000000
 band: ∀b∈d.Aq,b.C7.length≤1000000∧b.Dm.length≤1000000
theorem Bgm{L:List By}(hL:L.length≤1000)(hx: ∀w∈L,w.length≤1000000):A3 (fun(qj2:Int)=>match qj2 with
  |x3=>(
   if (decide (x3<(L.length:Int)))=true then
    (rdO L x3).bind fun x4=>
    (Lm x4 true).bind fun x5=>
    if (!x5)=true then
     some (.inr (.inr false))
    else
     some (.inl (IntKind.wrap .i64 (x3+1)))
   else
    some (.inr (.inl ())):Option (Int⊕(Unit⊕Bool)))) 0=some (if L.all (fun w=>Iy w true)=true then .inl () else .inr false):=by
 rw[Lk (l:=L) (fun w=> !Iy w true) (o:=(.inr false:Unit⊕Bool)) (e:= .inl ()) (by omega) (fun i hi=>?_) (fun i hi=>?_)]
 ·have:L.any (fun w=> !Iy w true)= !L.all (fun w=>Iy w true):=by rw[List.not_all_eq_any_not]
  rw[this]
  cases L.all (fun w=>Iy w true)<;>rfl
 ·show(if _ then _ else _)=_
  rw[if_pos (by simp;omega),Fv hi]
  simp only[Option.bind_some]
  rw[Bii (hx _ (List.getElem_mem hi))]
  simp only[Option.bind_some]
  split<;>rfl
 ·show(if _ then _ else _)=_
  rw[if_neg (by simp;omega)]
theorem Bja{L:List By}(hL:L.length≤1000)(hx: ∀w∈L,w.length≤1000000):A3 (fun(qj2:Int)=>match qj2 with
  |x3=>(
   if (decide (x3<(L.length:Int)))=true then
    (rdO L x3).bind fun x4=>
    (E3 x4).bind fun x5=>
    if (!x5)=true then
     some (.inr (.inr false))
    else
     some (.inl (IntKind.wrap .i64 (x3+1)))
   else
    some (.inr (.inl ())):Option (Int⊕(Unit⊕Bool)))) 0=some (if L.all Di=true then .inl () else .inr false):=by
 rw[Lk (l:=L) (fun w=> !Di w) (o:=(.inr false:Unit⊕Bool)) (e:= .inl ()) (by omega) (fun i hi=>?_) (fun i hi=>?_)]
 ·have:L.any (fun w=> !Di w)= !L.all Di:=by rw[List.not_all_eq_any_not]
  rw[this]
  cases L.all Di<;>rfl
 ·show(if _ then _ else _)=_
  rw[if_pos (by simp;omega),Fv hi]
  simp only[Option.bind_some]
  rw[Ajs (hx _ (List.getElem_mem hi))]
  simp only[Option.bind_some]
  split<;>rfl
 ·show(if _ then _ else _)=_
  rw[if_neg (by simp;omega)]
theorem Bmd{l:List Ao}(hl:l.length≤1000000)(hx: ∀b∈l,b.C7.length≤1000000∧b.Dm.length≤1000000):Cr l=some (!l.all Es):=by
 unfold Cr Ek
 have h:=Aql (l:=l) (p:=fun b=> !Es b) (o:=fun i=>(.inr (i:Int):Unit⊕Int)) (e:= .inl ()) (f:=fun(qj2:Int)=>match qj2 with
  |x3=>(
   if (decide (x3<(l.length:Int)))=true then
    (rdO l x3).bind fun x4=>
    (M1 x4).bind fun x5=>
    if x5=true then
     some (.inr (.inr x3))
    else
     some (.inl (IntKind.wrap .i64 (x3+1)))
   else
    some (.inr (.inl ())):Option (Int⊕(Unit⊕Int)))) (by omega) (fun i hi=>by
   have hb:=hx l[i] (List.getElem_mem hi)
   have hm:M1 l[i]=some (!Es l[i]):=by
    unfold M1 Es
    rw[Ajs hb.1,Ajs hb.2]
    simp only[Option.bind_some,A8]
    cases Di l[i].C7<;>rfl
   show(if _ then _ else _)=_
   rw[if_pos (by simp;omega),Fv hi]
   simp only[Option.bind_some]
   rw[hm]
   simp only[Option.bind_some]
   split<;>rfl) (fun i hi=>by
   show(if _ then _ else _)=_
   rw[if_neg (by simp;omega)])
 rw[h]
 simp only[Option.bind_some]
 cases hf:Ama l (fun b=> !Es b) with
 |none=>
  have:=Ag1 hf
  have ha:l.all Es=true:=List.all_eq_true.2 fun b hb=>by simpa using this b hb
  rw[ha]
  rfl
 |some i=>
  obtain⟨hi,h1,_⟩:=Ag2 hf
  have ha:l.all Es=false:=by
   rw[←Bool.not_eq_true,List.all_eq_true]
   intro h
   have:=h l[i] (List.getElem_mem hi)
   rw[this] at h1
   cases h1
  rw[ha]
  simp
theorem Brz{d:Ae}(h:DB d):Ajt d=some (Ht d):=by
 unfold Ajt
 refine Bj (Bgm (L:=[d.Cn,d.Dt,d.Bt]) (by simp) (fun w hw=>?_)) ?_
 ·simp at hw
  rcases hw with rfl|rfl|rfl
  ·exact h.name
  ·exact h.cur
  ·exact h.basis
 ·by_cases c1:[d.Cn,d.Dt,d.Bt].all (fun w=>Iy w true)=true
  ·rw[if_pos c1]
   simp only
   refine Bj (Bja (L:=[d.Bi,d.Ba,d.A0,d.Bf]) (by simp) (fun w hw=>?_)) ?_
   ·simp at hw
    rcases hw with rfl|rfl|rfl|rfl
    ·exact h.period
    ·exact h.minimum
    ·exact h.overdraft
    ·exact h.notice
   ·by_cases c2:[d.Bi,d.Ba,d.A0,d.Bf].all Di=true
    ·rw[if_pos c2]
     simp only[Option.bind_some]
     rw[Bmd h.bands h.band,right_eq h.fee]
     simp only[A8,Option.bind_some,Option.some.injEq]
     simp only[List.all_cons,List.all_nil,Bool.and_true,Bool.and_eq_true] at c1 c2
     have e1:decide ((d.Aq.length:Int)≥1)=decide (1≤d.Aq.length):=by rw[decide_eq_decide];omega
     have e2:decide ((d.Aq.length:Int)≤8)=decide (d.Aq.length≤8):=by rw[decide_eq_decide];omega
     unfold Ht
     rw[c1.1,c1.2.1,c1.2.2,c2.1,c2.2.1,c2.2.2.1,c2.2.2.2,e1,e2]
     cases decide (1≤d.Aq.length)<;>cases decide (d.Aq.length≤8)<;>cases d.Aq.all Es<;>rfl
    ·rw[if_neg c2]
     simp only[Option.some.injEq]
     symm
     rw[←Bool.not_eq_true]
     intro hm
     unfold Ht at hm
     simp only[Bool.and_eq_true] at hm
     refine c2 ?_
     simp[hm]
  ·rw[if_neg c1]
   simp only[Option.some.injEq]
   symm
   rw[←Bool.not_eq_true]
   intro hm
   unfold Ht at hm
   simp only[Bool.and_eq_true] at hm
   refine c1 ?_
   simp[hm]
theorem Bme{l:List Ae}(hl:l.length≤1000000)(hx: ∀d∈l,DB d):Cs l=some (!l.all Ht):=by
 unfold Cs El
 have h:=Aql (l:=l) (p:=fun b=> !Ht b) (o:=fun i=>(.inr (i:Int):Unit⊕Int)) (e:= .inl ()) (f:=fun(qj2:Int)=>match qj2 with
  |x3=>(
   if (decide (x3<(l.length:Int)))=true then
    (rdO l x3).bind fun x4=>
    (Fp x4).bind fun x5=>
    if x5=true then
     some (.inr (.inr x3))
    else
     some (.inl (IntKind.wrap .i64 (x3+1)))
   else
    some (.inr (.inl ())):Option (Int⊕(Unit⊕Int)))) (by omega) (fun i hi=>by
   have hb:=hx l[i] (List.getElem_mem hi)
   have hm:Fp l[i]=some (!Ht l[i]):=by
    unfold Fp
    rw[Brz hb]
    rfl
   show(if _ then _ else _)=_
   rw[if_pos (by simp;omega),Fv hi]
   simp only[Option.bind_some]
   rw[hm]
   simp only[Option.bind_some]
   split<;>rfl) (fun i hi=>by
   show(if _ then _ else _)=_
   rw[if_neg (by simp;omega)])
 rw[h]
 simp only[Option.bind_some]
 cases hf:Ama l (fun b=> !Ht b) with
 |none=>
  have:=Ag1 hf
  have ha:l.all Ht=true:=List.all_eq_true.2 fun b hb=>by simpa using this b hb
  rw[ha]
  rfl
 |some i=>
  obtain⟨hi,h1,_⟩:=Ag2 hf
  have ha:l.all Ht=false:=by
   rw[←Bool.not_eq_true,List.all_eq_true]
   intro h
   have:=h l[i] (List.getElem_mem hi)
   rw[this] at h1
   cases h1
  rw[ha]
  simp
def H7(b:Ao):List By:=[b.C7,[58],b.Dm,[37],[59]]
def Adr(d:Ae):List By:=[Zj,d.Cn,d.Dt,[123],Ai2,d.Bt,[59],Qi,d.Bi,[59],Dy,[123]]
def Bci(d:Ae):List By:=[[59],Ib,d.Ba,[59],Ej,d.A0,[59],Il,d.Bf,[59],[125]]
def C4(d:Ae):List By:=Adr d++(d.Aq.flatMap H7++([125]::Ank::(C1 d.Cl++Bci d)))
def Qx(l:List Ae):By×Int:=if 16<l.length∨l.all Ht=false then([],1) else(jw (l.flatMap C4),0)
theorem foldl_flat{α β:Type}(f:α→List β): ∀(l:List α) (s:List β),l.foldl (fun s x=>s++f x) s=s++l.flatMap f
 |[],s=>by simp
 |x::l,s=>by rw[List.foldl_cons,foldl_flat f l];simp
theorem A4y{d:Ae}(h:Ht d=true):Jm d.Cl≠0∧d.Aq.length≤8:=by
 unfold Ht at h
 simp only[Bool.and_eq_true,decide_eq_true_eq] at h
 exact⟨by omega,by omega⟩
theorem Ano{l:List Nd}(h:Jm l≠0):(C1 l).length≤2000:=by
 obtain⟨hl,d,hs,_⟩:=Ajj h
 have htw:=Zh hs
 have hlen:=T6 hs
 have hmem:(pst l).getD 0 (0,[])∈pst l:=by
  match hp:pst l with
  |[]=>rw[hp] at hlen;simp at hlen
  |p::q=>simp
 have hwl:=A76 hmem
 unfold C1
 omega
theorem Bct{B:Nat}(hB:10≤B){l:List Nd}(h:Jm l≠0)(hx: ∀n∈l,n.Ag.length≤B): ∀w∈C1 l,w.length≤B:=by
 obtain⟨hl,d,hs,_⟩:=Ajj h
 have hlen:=T6 hs
 have hmem:(pst l).getD 0 (0,[])∈pst l:=by
  match hp:pst l with
  |[]=>rw[hp] at hlen;simp at hlen
  |p::q=>simp
 exact Aqw hB l [d] hs hx _ hmem
theorem Q3: ∀(l:List Ao),(l.flatMap H7).length=5*l.length
 |[]=>rfl
 |b::l=>by
  rw[List.flatMap_cons,List.length_append,Q3 l]
  simp[H7]
  omega
theorem Bit{d:Ae}(h:Ht d=true):(C4 d).length≤2100:=by
 have h1:=A4y h
 have h2:=Ano h1.1
 unfold C4
 rw[List.length_append,List.length_append,Q3]
 simp[Adr,Bci]
 omega
theorem Bdj{d:Ae}(h:Ht d=true)(hd:DB d): ∀w∈C4 d,w.length≤1000000:=by
 intro w hw
 unfold C4 at hw
 have h1:=Bct (B:=1000000) (by omega) (A4y h).1 hd.fee w
 have hc: ∀u:By,u.length≤10→w=u→w.length≤1000000:=fun u hu e=>by rw[e];omega
 simp only[List.mem_append,List.mem_cons,Adr,Bci,List.not_mem_nil,or_false,List.mem_flatMap] at hw
 rcases hw with(hw|hw|hw|hw|hw|hw|hw|hw|hw|hw|hw|hw)|hw|hw|hw|hw|hw|hw|hw|hw|hw|hw|hw|hw|hw|hw|hw
 ·exact hc _ (by decide) hw
 ·rw[hw];exact hd.name
 ·rw[hw];exact hd.cur
 ·exact hc _ (by decide) hw
 ·exact hc _ (by decide) hw
 ·rw[hw];exact hd.basis
 ·exact hc _ (by decide) hw
 ·exact hc _ (by decide) hw
 ·rw[hw];exact hd.period
 ·exact hc _ (by decide) hw
 ·exact hc _ (by decide) hw
 ·exact hc _ (by decide) hw
 ·obtain⟨b,hb,hw⟩:=hw
  have:=hd.band b hb
  simp only[H7,List.mem_cons,List.not_mem_nil,or_false] at hw
  rcases hw with hw|hw|hw|hw|hw
  ·rw[hw];exact this.1
  ·exact hc _ (by decide) hw
  ·rw[hw];exact this.2
  ·exact hc _ (by decide) hw
  ·exact hc _ (by decide) hw
 ·exact hc _ (by decide) hw
 ·exact hc _ (by decide) hw
 ·exact h1 hw
 ·exact hc _ (by decide) hw
 ·exact hc _ (by decide) hw
 ·rw[hw];exact hd.minimum
 ·exact hc _ (by decide) hw
 ·exact hc _ (by decide) hw
 ·rw[hw];exact hd.overdraft
 ·exact hc _ (by decide) hw
 ·exact hc _ (by decide) hw
 ·rw[hw];exact hd.notice
 ·exact hc _ (by decide) hw
 ·exact hc _ (by decide) hw
theorem Agw{l:List Ae}(h:l.all Ht=true):(l.flatMap C4).length≤l.length*2100:=by
 induction l with
 |nil=>simp
 |cons d l ih=>
  simp only[List.all_cons,Bool.and_eq_true] at h
  have h1:=Bit h.1
  have h2:=ih h.2
  rw[List.flatMap_cons,List.length_append,List.length_cons,Nat.add_mul]
  omega
theorem Auh{α:Type}{n:Nat}{a b:List α}(h:(a.length+b.length)*n≤140737488355328):apO n a b=some (a++b):=by unfold apO;rw[if_pos h]
theorem Aiu{l:List Ae}(hx: ∀d∈l,DB d)(hl:l.length≤1000000):Dn l=some (Qx l):=by
 unfold Dn Qx
 rw[Bme hl hx]
 simp only[A8,Option.bind_some]
 by_cases hc:16<l.length∨l.all Ht=false
 ·rw[if_pos hc,if_pos]
  by_cases h16:16<l.length
  ·have:decide ((l.length:Int)>16)=true:=by simp;omega
   rw[this];rfl
  ·have:decide ((l.length:Int)>16)=false:=by simp;omega
   have ha:l.all Ht=false:=by rcases hc with h|h;exact absurd h h16;exact h
   rw[this,ha];rfl
 ·have h16:l.length≤16:=by omega
  have ha:l.all Ht=true:=by
   rw[←Bool.not_eq_false];exact fun h=>hc (Or.inr h)
  rw[if_neg hc,if_neg (by
   have:decide ((l.length:Int)>16)=false:=by simp;omega
   rw[this,ha];simp)]
  have hfl:=Agw ha
  have hpre: ∀i,((l.take i).flatMap C4).length≤l.length*2100:=by
   intro i
   have h1:(l.take i).all Ht=true:=List.all_eq_true.2 fun d hd=>List.all_eq_true.1 ha d (List.mem_of_mem_take hd)
   have:=Agw h1
   have h2:(l.take i).length*2100≤l.length*2100:=Nat.mul_le_mul_right _ (by simp;omega)
   exact Nat.le_trans this h2
  have hloop:A3 (fun(qj4:Int×(List (List UInt8)))=>match qj4 with
   |(x5,row6)=>(
    if (decide (x5<(l.length:Int)))=true then
     (rdO l x5).bind fun x7=>
     (apO 16 row6 [[112,114,111,100,117,99,116],x7.Cn,x7.Dt,[123],[98,97,115,105,115],x7.Bt,[59],[112,101,114,105,111,100],x7.Bi,[59],[116,105,101,114,115],[123]]).bind fun x8=>
     ((A3 (fun(qj9:Int×(List (List UInt8)))=>match qj9 with
       |(x10,row11)=>(
        if (decide (x10<(x7.Aq.length:Int)))=true then
         (rdO x7.Aq x10).bind fun x12=>
         (apO 16 row11 [x12.C7,[58],x12.Dm,[37],[59]]).bind fun x13=>
         some (.inl (IntKind.wrap .i64 (x10+1),x13))
        else
         some (.inr row11):Option ((Int×(List (List UInt8)))⊕(List (List UInt8))))) (0,x8)):Option (List (List UInt8))).bind fun j9=>
     (F5 100000 x7.Cl 0).bind fun x15=>
     (apO 16 j9 [[125],[102,101,101]]).bind fun x16=>
     (apO 16 x16 x15.1).bind fun x17=>
     (apO 16 x17 [[59],[109,105,110,105,109,117,109],x7.Ba,[59],[111,118,101,114,100,114,97,102,116],x7.A0,[59],[110,111,116,105,99,101],x7.Bf,[59],[125]]).bind fun x18=>
     some (.inl (IntKind.wrap .i64 (x5+1),x18))
    else
     some (.inr row6):Option ((Int×(List (List UInt8)))⊕(List (List UInt8))))) (0,([]:List (List UInt8)))=some (l.foldl (fun s d=>s++C4 d) []):=by
   refine Ave (l:=l) (fun s d=>s++C4 d) id (by omega) (fun i hi=>?_) ?_
   ·have hm:Ht l[i]=true:=List.all_eq_true.1 ha _ (List.getElem_mem hi)
    have hd:=hx l[i] (List.getElem_mem hi)
    have hrow:=hpre i
    rw[foldl_flat,List.nil_append]
    generalize (l.take i).flatMap C4=row at hrow
    show(if _ then _ else _)=_
    rw[if_pos (by simp;omega),Fv hi]
    simp only[Option.bind_some]
    generalize l[i]=d at hm hd
    have hw:=A4y hm
    have hwl:=Ano hw.1
    rw[Auh (by simp;omega)]
    simp only[Option.bind_some]
    have hb:A3 (fun(qj9:Int×(List (List UInt8)))=>match qj9 with
      |(x10,row11)=>(
       if (decide (x10<(d.Aq.length:Int)))=true then
        (rdO d.Aq x10).bind fun x12=>
        (apO 16 row11 [x12.C7,[58],x12.Dm,[37],[59]]).bind fun x13=>
        some (.inl (IntKind.wrap .i64 (x10+1),x13))
       else
        some (.inr row11):Option ((Int×(List (List UInt8)))⊕(List (List UInt8))))) (0,row++Adr d)=some (d.Aq.foldl (fun s b=>s++H7 b) (row++Adr d)):=by
     refine Ave (l:=d.Aq) (fun s b=>s++H7 b) id (by omega) (fun i hi=>?_) ?_
     ·rw[foldl_flat]
      show(if _ then _ else _)=_
      rw[if_pos (by simp;omega),Fv hi]
      simp only[Option.bind_some]
      rw[Auh (by
       have:=Q3 (d.Aq.take i)
       rw[List.length_append,List.length_append,this]
       simp[Adr]
       omega)]
      rfl
     ·show(if _ then _ else _)=_
      rw[if_neg (by simp)]
      rfl
    refine Bj hb ?_
    rw[foldl_flat]
    have hbl:=Q3 d.Aq
    have hrl:(row++Adr d++d.Aq.flatMap H7).length≤l.length*2100+100:=by
     rw[List.length_append,List.length_append,hbl]
     simp[Adr]
     omega
    obtain⟨hdl,dd,hs,_⟩:=Ajj hw.1
    obtain⟨rest,t1,_⟩:=Bcl d.Cl.length 100000 d.Cl dd [] 0 (Nat.le_refl _) (by omega) (by omega) hd.fee hs
    rw[show(0:Int)=((0:Nat):Int) from rfl,t1]
    simp only[Option.bind_some]
    have e:atS ((pst d.Cl).getD 0 (0,[])) 0=C1 d.Cl:=by unfold atS C1;rw[if_neg (by omega)]
    rw[e,Auh (by simp only[List.length_cons,List.length_nil];omega)]
    simp only[Option.bind_some]
    rw[Auh (by rw[List.length_append];simp only[List.length_cons,List.length_nil];omega)]
    simp only[Option.bind_some]
    rw[Auh (by rw[List.length_append,List.length_append];simp only[List.length_cons,List.length_nil];omega)]
    simp only[Option.bind_some]
    unfold C4
    simp only[List.append_assoc,List.cons_append,List.nil_append]
    rfl
   ·show(if _ then _ else _)=_
    rw[if_neg (by simp)]
    rfl
  refine Bj hloop ?_
  rw[foldl_flat,List.nil_append]
  have hwt: ∀w∈l.flatMap C4,w.length≤1000000:=by
   intro w hw
   obtain⟨d,hd,hw⟩:=List.mem_flatMap.1 hw
   exact Bdj (List.all_eq_true.1 ha d hd) (hx d hd) w hw
  have hjl:=A4k _ 1000000 hwt
  have hm:(l.flatMap C4).length*(1000000+1)≤33600*(1000000+1):=Nat.mul_le_mul_right _ (by omega)
  rw[Bhe (by omega) (by omega)]
  rfl
def tx1:By:=[97,45,98,32,45,32,99,42,45,50,37]
def nd1:List Nd:=[⟨4,[]⟩,⟨4,[]⟩,⟨1,[97]⟩,⟨1,[98]⟩,⟨5,[]⟩,⟨1,[99]⟩,⟨2,[]⟩,⟨0,[50,37]⟩]
theorem Bs0:Er tx1=(nd1,0,0,0):=by decide +kernel
def tx2:By:=[40,97,32,60,32,49,41,32,61,32,40,110,111,116,32,98,41]
def nd2:List Nd:=[⟨9,[]⟩,⟨7,[]⟩,⟨1,[97]⟩,⟨0,[49]⟩,⟨14,[]⟩,⟨1,[98]⟩]
theorem Bs1:Er tx2=(nd2,0,0,0):=by decide +kernel
def tx3:By:=[97,10,32,60,32,98,32,60,32,99]
theorem Bs2:Er tx3=([],2,6,14):=by decide +kernel
def tx4:By:=[40,97]
theorem Bs3:Er tx4=([],1,3,14):=by decide +kernel
def tx5:By:=[112,114,111,100,117,99,116,32,115,97,118,101,32,101,117,114,32,123,32,98,97,115,105,115,32,97,99,116,51,54,53,32,59,32,112,101,114,105,111,100,32,51,32,59,32,116,105,101,114,115,32,123,32,48,32,58,32,49,46,50,53,32,37,32,59,32,53,48,48,32,58,32,50,32,37,32,59,32,125,32,102,101,101,32,105,102,32,98,97,108,97,110,99,101,32,60,32,49,48,32,116,104,101,110,32,49,32,101,108,115,101,32,48,32,59,32,109,105,110,105,109,117,109,32,53,32,59,32,111,118,101,114,100,114,97,102,116,32,48,32,59,32,110,111,116,105,99,101,32,51,48,32,59,32,125]
def dc5:Ae:=⟨[115,97,118,101],[101,117,114],[97,99,116,51,54,53],[51],[⟨[48],[49,46,50,53]⟩,⟨[53,48,48],[50]⟩],[⟨15,[]⟩,⟨7,[]⟩,⟨1,[98,97,108,97,110,99,101]⟩,⟨0,[49,48]⟩,⟨0,[49]⟩,⟨0,[48]⟩],[53],[48],[51,48]⟩
theorem Bs4:Cx tx5=([dc5],0,0,0):=by decide +kernel
theorem Bs5:Anf nd1=([97,32,45,32,98,32,45,32,99,32,42,32,45,32,50,32,37],0):=by decide +kernel
theorem Bs6:Anf nd2=([40,32,97,32,60,32,49,32,41,32,61,32,40,32,110,111,116,32,98,32,41],0):=by decide +kernel
theorem Bs7:Qx [dc5]=(tx5,0):=by decide +kernel
theorem Bqp:Jm nd1=4:=by decide +kernel
theorem Bry:Jm [⟨2,[]⟩]=0:=by decide +kernel
theorem nb1:NB nd1:=by unfold NB;decide +kernel
theorem nb2:NB nd2:=by unfold NB;decide +kernel
theorem db5:DB dc5:=⟨by decide,by decide,by decide,by decide,by decide,by decide,by decide,by unfold NB;decide +kernel,by decide,by decide +kernel⟩
theorem Aue:Bn=some true:=by
 unfold Bn
 rw[show B3 [97,45,98,32,45,32,99,42,45,50,37]=some (Er tx1) from Ajz (by decide),Bs0]
 simp only[Option.bind_some]
 rw[Ape nb1,Bs5]
 simp only[Option.bind_some]
 rw[show B3 [40,97,32,60,32,49,41,32,61,32,40,110,111,116,32,98,41]=some (Er tx2) from Ajz (by decide),Bs1]
 simp only[Option.bind_some]
 rw[Ape nb2,Bs6]
 simp only[Option.bind_some]
 rw[show B3 [97,10,32,60,32,98,32,60,32,99]=some (Er tx3) from Ajz (by decide),Bs2]
 simp only[Option.bind_some]
 rw[show B3 [40,97]=some (Er tx4) from Ajz (by decide),Bs3]
 simp only[Option.bind_some]
 rw[show ∀s,s=tx5→Eb s=some (Cx tx5) from fun s h=>by rw[h];exact Auf (by decide)]
 ·rw[Bs4]
  simp only[Option.bind_some]
  rw[Aiu (l:=[dc5]) (fun d hd=>by rw[List.mem_singleton.1 hd];exact db5) (by simp),Bs7]
  simp only[Option.bind_some]
  rw[Anq (by decide)]
  simp only[Option.bind_some]
  rw[if_neg (by simp)]
  rw[A80 nb1,Bqp,right_eq nb1,Bqp,right_eq (l:=[⟨2,[]⟩]) (by simp),Bry]
  have e0:rdO [dc5] 0=some dc5:=rfl
  have e1:rdO dc5.Aq 1=some ⟨[53,48,48],[50]⟩:=rfl
  have e2:(((4:Nat):Int)==4)=true:=rfl
  have e3:((dc5.Aq.length:Int)==2)=true:=rfl
  have e4:(dc5.Bf==[51,48])=true:=rfl
  have e5:decide (0<4)=true:=rfl
  have e6:decide (0<0)=false:=rfl
  rw[show(decide (nd1=[(⟨4,[]⟩:Aa),(⟨4,[]⟩:Aa),(⟨1,[97]⟩:Aa),(⟨1,[98]⟩:Aa),(⟨5,[]⟩:Aa),(⟨1,[99]⟩:Aa),(⟨2,[]⟩:Aa),(⟨0,[50,37]⟩:Aa)]))=true from rfl]
  have hsm:Rh dc5 dc5=some (Ayc dc5 dc5):=Bjt (by decide) (by decide)
  simp only[tx5,e0,e1,e2,e3,e4,e5,e6,hsm,Ayd,beq_self_eq_true,Bool.true_and,Bool.and_true,cond_true,A8,Option.bind_some,Bool.not_false]
 ·rfl
def Gt:List Ac→List UInt8→Prop
 |[],s=>s=[]
 |t::l,s=>A5 s=((A5 t.Ag).1,t.Ag.length,0)∧s.take t.Ag.length=t.Ag∧Gt l ((s.drop t.Ag.length).drop (A2 false (s.drop t.Ag.length)))
theorem Gt.len: ∀{l:List Ac} {s:List UInt8},Gt l s→l.length≤s.length
 |[],s,_=>by simp
 |t::l,s,h=>by
  obtain⟨h1,h2,h3⟩:=h
  obtain⟨n1,n2⟩:=Hu h1
  have:=h3.len
  rw[List.length_drop,List.length_drop] at this
  rw[List.length_cons]
  omega
theorem Gt.skip{l:List Ac}{s:List UInt8}(h:Gt l s):A2 false s=0:=by
 cases l with
 |nil=>have:s=[]:=h;subst this;rfl
 |cons t l=>exact Bef h.1
theorem Gt.lex: ∀{l:List Ac} {s:List UInt8},Gt l s→(∀t∈l,okT t=true)→ ∀{T:List UInt8} {f at_ k:Nat},T.drop at_=s→l.length<f→k+l.length≤1500→ ∃M,Je f s at_ k= .inl M∧(M.map (Agk T)).map Aza=l.map Aza∧M.length=l.length
 |[],s,h,_,T,f,at_,k,_,hf,_=>by
  have:s=[]:=h
  subst this
  refine⟨[],?_,rfl,rfl⟩
  cases f with
  |zero=>simp at hf
  |succ f=>rw[Je,if_pos rfl]
 |t::l,s,h,hk,T,f,at_,k,hT,hf,hk2=>by
  obtain⟨h1,h2,h3⟩:=h
  obtain⟨n1,n2⟩:=Hu h1
  have hne:s≠[]:=fun e=>by rw[e,List.length_nil] at n2;omega
  simp only[List.length_cons] at hf hk2
  cases f with
  |zero=>omega
  |succ f=>
   obtain⟨M,e1,e2,e3⟩:=h3.lex (fun u hu=>hk u (by simp[hu])) (T:=T) (f:=f) (at_:=at_+t.Ag.length+A2 false (s.drop t.Ag.length)) (k:=k+1) (by rw[←hT,List.drop_drop,List.drop_drop]) (by omega) (by omega)
   refine⟨(at_,(A5 t.Ag).1,t.Ag.length)::M,?_,?_,by simp[e3]⟩
   ·rw[Je,if_neg hne,h1]
    simp only[ne_eq,not_true_eq_false,if_false,if_neg (show ¬k=1500 by omega),e1]
   ·obtain⟨kk,hkk,hn⟩:=Avr (hk t (by simp))
    simp only[List.map_cons,e2,List.cons.injEq,and_true]
    unfold Aza Agk
    rw[hT,h2,hn,hkk]
theorem Ak5: ∀{l:List Ac},(∀t∈l,okT t=true)→Gt l (jn l)
 |[],_=>rfl
 |t::l,hk=>by
  have ih:=Ak5 (l:=l) (fun u hu=>hk u (by simp[hu]))
  refine⟨Bpd (hk t (by simp)),?_,?_⟩
  ·cases l with
   |nil=>rw[Bd1,List.take_length]
   |cons u l=>rw[A4j,List.take_left]
  ·cases l with
   |nil=>rw[Bd1,List.drop_length];rfl
   |cons u l=>
    rw[A4j,List.drop_left,A2,if_pos (by decide),ih.skip]
    exact ih
def nt(t:Tk):Tk:=⟨t.Ad,0,0,t.Ag⟩
def Aom{α:Type}(r:Rs α):Rs α:=(r.1,r.2.map nt)
theorem Ug(s:By)(ts:List Tk):isT s (ts.map nt)=isT s ts:=by cases ts<;>rfl
theorem N4{α β:Type}{r:Rs α}{k k':α→List Tk→Rs β}(h: ∀a i,k' a (i.map nt)=Aom (k a i)):bnd (Aom r) k'=Aom (bnd r k):=by
 obtain⟨o,i⟩:=r
 cases o with
 |none=>rfl
 |some a=>exact h a i
theorem Aj1{β:Type}{s:By}{ts:List Tk}{k k':List Tk→Rs β}(h: ∀i,k' (i.map nt)=Aom (k i)):H4 s (ts.map nt) k'=Aom (H4 s ts k):=by
 unfold H4
 rw[Ug]
 split
 ·rw[←List.map_tail];exact h _
 ·rfl
theorem Bpr{f g:Ans}(hr: ∀ts n,f (ts.map nt) n=Aom (g ts n))(ts:List Tk):Db f (ts.map nt)=Aom (Db g ts):=by
 cases ts with
 |nil=>rfl
 |cons t r=>
  have e1:=Ug [40] (t::r)
  have e2:=Ug Jf (t::r)
  have e3:=Ug H2 (t::r)
  have e4:=Ug [37] r
  rw[List.map_cons] at e1 e2 e3
  rw[List.map_cons]
  unfold Db
  simp only
  rw[e1,e2,e3,e4]
  split
  ·rw[hr]
   exact N4 fun a i=>Aj1 fun j=>rfl
  ·split
   ·refine Aj1 fun r2=>?_
    rw[hr]
    refine N4 fun a i=>Aj1 fun i2=>?_
    rw[hr]
    exact N4 fun b j=>Aj1 fun j2=>rfl
   ·have k1:(nt t).Ad=t.Ad:=rfl
    have k2:(nt t).Ag=t.Ag:=rfl
    rw[k1,k2]
    split
    ·split
     ·rw[←List.map_tail];rfl
     ·rfl
    ·split
     ·rfl
     ·rfl
theorem Blt{f g:Ans}(hr: ∀ts n,f (ts.map nt) n=Aom (g ts n))(ts:List Tk)(n:Nat):Cb f (ts.map nt) n=Aom (Cb g ts n):=by
 unfold Cb
 rw[Ug,Ug,Ug]
 split
 ·rw[←List.map_tail,hr]
  refine N4 fun a i=>Aj1 fun i2=>?_
  rw[hr]
  refine N4 fun b j=>Aj1 fun j2=>?_
  rw[hr]
  exact N4 fun c k=>rfl
 ·split
  ·rw[←List.map_tail,hr]
   exact N4 fun a i=>rfl
  ·split
   ·rw[←List.map_tail,hr]
    exact N4 fun a i=>rfl
   ·rw[Bpr hr]
    exact N4 fun a i=>rfl
theorem Bhj{f g:Ans}(hr: ∀ts n,f (ts.map nt) n=Aom (g ts n))(n:Nat): ∀(k:Nat) (out:List Nd) (own:Nat) (ts:List Tk),Cc f n k out own (ts.map nt)=Aom (Cc g n k out own ts)
 |k,out,own,[]=>by cases k<;>rfl
 |0,out,own,t::r=>rfl
 |k+1,out,own,t::r=>by
  rw[List.map_cons,Cc,Cc]
  have e:Br (nt t)=Br t:=rfl
  rw[e]
  split
  ·rfl
  ·rw[hr]
   exact N4 fun b j=>Bhj hr n k _ _ j
theorem Aup: ∀(f:Nat) (ts:List Tk) (n:Nat),Hb f (ts.map nt) n=Aom (Hb f ts n)
 |0,ts,n=>rfl
 |f+1,ts,n=>by
  unfold Hb
  rw[Blt (Aup f)]
  refine N4 fun x i=>?_
  rw[List.length_map,Bhj (Aup f)]
  exact N4 fun y j=>rfl
theorem Bki(ts:List Tk)(n:Nat):CL (ts.map nt) n=Aom (CL ts n):=by
 unfold CL
 rw[List.length_map,Aup]
theorem Bht{a b:List Tk}(h:a.map Aza=b.map Aza):a.map nt=b.map nt:=by
 have e:nt=(fun k:Int×By=>(⟨k.1,0,0,k.2⟩:Tk))∘Aza:=rfl
 rw[e,←List.map_map,←List.map_map,h]
theorem Bon{a b:List Tk}(h:a.map Aza=b.map Aza){n:Nat}{o:List Nd}(e:CL a n=(some o,[])):CL b n=(some o,[]):=by
 have h1:=Bki a n
 have h2:=Bki b n
 rw[Bht h,h2,e] at h1
 cases hb:CL b n with
 |mk x i=>
  rw[hb] at h1
  simp only[Aom,Prod.mk.injEq,List.map_nil,List.map_eq_nil_iff] at h1
  rw[h1.1,h1.2]
def OkU(u:List Tk):Prop:=match u with
 |[]=>True
 |t::_=>(Br t).2=0∧isT [37] u=false
theorem OkU.pct{u:List Tk}(h:OkU u):isT [37] u=false:=by
 cases u with
 |nil=>rfl
 |cons t r=>exact h.2
theorem Kl{β:Type}{s:By}{t:Tk}{r:List Tk}{k:List Tk→Rs β}(h1:t.Ad≠2)(h2:t.Ag=s):H4 s (t::r) k=k r:=by
 unfold H4
 rw[if_pos (by simp[isT,h1,h2])]
 rfl
theorem Mk{α β:Type}{a:α}{i:List Tk}{k:α→List Tk→Rs β}{r:Rs α}(h:r=(some a,i)):bnd r k=k a i:=by rw[h];rfl
def tk(k:Int)(s:By):Tk:=⟨k,0,0,s⟩
def lp:Tk:=tk 3 [40]
def rp:Tk:=tk 3 [41]
def cm:Tk:=tk 3 [44]
def mi:Tk:=tk 3 [45]
theorem Z9{t:Tk}{r:List Tk}{n:Nat}(h1:isT sIf (t::r)=false)(h2:isT Ob (t::r)=false)(h3:isT [45] (t::r)=false):Cb CL (t::r) n=bnd (Db CL (t::r)) fun a i=>(some (a,8),i):=by
 unfold Cb
 rw[if_neg (by simp[h1]),if_neg (by simp[h2]),if_neg (by simp[h3])]
theorem Bmr{n f:Nat}{out:List Nd}{own:Nat}:Cc CL n f out own []=(some (out,own),[]):=by cases f<;>rfl
def i1:Tk:=tk 0 [105,102,49]
def Sp(l:List Tk)(s:By):Prop:=Gt l (s.drop (A2 false s))
theorem Sp.of{l:List Tk}{s:By}(h:Gt l s):Sp l s:=by
 unfold Sp
 rw[h.skip]
 exact h
theorem Gt.full: ∀{l:List Tk} {s:By},Gt l s→ ∀{f at_ k:Nat},l.length<f→k≤1500→1500<k+l.length→ ∃p,Je f s at_ k= .inr (p,6)
 |[],s,h,f,at_,k,_,h1,h2=>by simp at h2;omega
 |t::l,s,h,f,at_,k,hf,h1,h2=>by
  obtain⟨e1,e2,e3⟩:=h
  obtain⟨n1,n2⟩:=Hu e1
  have hne:s≠[]:=fun e=>by rw[e,List.length_nil] at n2;omega
  simp only[List.length_cons] at hf h2
  obtain⟨g,rfl⟩: ∃g,f=g+1:=⟨f-1,by omega⟩
  rw[Je,if_neg hne,e1]
  simp only[ne_eq,not_true_eq_false,if_false]
  by_cases hk:k=1500
  ·exact⟨at_,by rw[if_pos hk]⟩
  ·obtain⟨p,hp⟩:=e3.full (f:=g) (at_:=at_+t.Ag.length+A2 false (s.drop t.Ag.length)) (k:=k+1) (by omega) (by omega) (by omega)
   exact⟨p,by rw[if_neg hk,hp]⟩
theorem Bqj{l:List Tk}{s:By}(h:Sp l s)(hk: ∀t∈l,okT t=true)(hs:s.length≤8000):(∃l',LX s= .inl l'∧l'.map Aza=l.map Aza)∨ ∃p,LX s= .inr (p,6):=by
 have hle:l.length≤(s.drop (A2 false s)).length:=Gt.len h
 rw[List.length_drop] at hle
 by_cases hl:l.length≤1500
 ·left
  obtain⟨M,e1,e2,e3⟩:=Gt.lex h hk (T:=s) (f:=s.length+1) (at_:=A2 false s) (k:=0) rfl (by omega) (by omega)
  refine⟨M.map (Agk s),?_,e2⟩
  unfold LX Agr
  rw[if_neg (by omega),e1]
 ·right
  obtain⟨p,hp⟩:=Gt.full h (f:=s.length+1) (at_:=A2 false s) (k:=0) (by omega) (by omega) (by omega)
  refine⟨p,?_⟩
  unfold LX Agr
  rw[if_neg (by omega),hp]
theorem Sp.front{t:Tk}{l:List Tk}{w:By}(h:Sp l w)(hn:A5 (t.Ag++w)=((A5 t.Ag).1,t.Ag.length,0)):Sp (t::l) (t.Ag++w):=by
 refine Sp.of ⟨hn,List.take_left,?_⟩
 rw[List.drop_left]
 exact h
theorem At8{b:UInt8}(h1:Wv b=false)(h2:digB b=false)(h3:b≠34)(h4:b∈Ip)(h5:b≠60∧b≠62∧b≠46)(w:By):A5 (b::w)=(3,1,0):=by
 unfold A5
 simp only[h1,h2,Bool.false_eq_true,if_false]
 rw[if_neg h3]
 unfold Adk
 have: ¬((b::w).take 2=[60,61]∨(b::w).take 2=[62,61]∨(b::w).take 2=[46,46]):=by
  rw[List.take_succ_cons]
  rintro(h|h|h)
  ·exact h5.1 (List.cons.inj h).1
  ·exact h5.2.1 (List.cons.inj h).1
  ·exact h5.2.2 (List.cons.inj h).1
 rw[if_neg this]
 show(3,if b∈Ip then(1,0) else(0,14))=((3,1,0):Nat×Nat×Nat)
 rw[if_pos h4]
theorem Sp.lp{l:List Tk}{w:By}(h:Sp l w):Sp (Go.Av.G.lp::l) (40::w):=h.front (t:=Go.Av.G.lp) (At8 (by decide) (by decide) (by decide) (by decide) (by decide) w)
theorem Sp.rp{l:List Tk}{w:By}(h:Sp l w):Sp (Go.Av.G.rp::l) (41::w):=h.front (t:=Go.Av.G.rp) (At8 (by decide) (by decide) (by decide) (by decide) (by decide) w)
theorem Sp.cm{l:List Tk}{w:By}(h:Sp l w):Sp (Go.Av.G.cm::l) (44::w):=h.front (t:=Go.Av.G.cm) (At8 (by decide) (by decide) (by decide) (by decide) (by decide) w)
theorem Sp.mi{l:List Tk}{w:By}(h:Sp l w):Sp (Go.Av.G.mi::l) (45::w):=h.front (t:=Go.Av.G.mi) (At8 (by decide) (by decide) (by decide) (by decide) (by decide) w)
theorem Sp.nil:Sp [] []:=rfl
theorem Sp.max{l:List Tk}{w:By}(h:Sp l (40::w)):Sp (tk 0 H2::l) (H2++40::w):=h.front (t:=tk 0 H2) (by
 show A5 (H2++40::w)=_
 have e:H2++40::w=109::([97,120]++40::w):=rfl
 rw[e]
 unfold A5
 simp only
 rw[if_pos (by decide)]
 unfold Lf
 rw[show(109::([97,120]++40::w):By)=H2++40::w from rfl,Zo (fun b v h=>by cases h;decide)]
 rfl)
def sp(ws:List By):By:=ws.flatMap fun w=>w++[32]
def tkW(w:By):Tk:=⟨((A5 w).1:Int),0,0,w⟩
def tkL(ws:List By):List Tk:=ws.map tkW
theorem E7(w:By)(ws:List By):tkL (w::ws)=tkW w::tkL ws:=rfl
theorem Mp(a b:List By):tkL (a++b)=tkL a++tkL b:=by simp[tkL]
theorem A75:tkL []=[]:=rfl
theorem Aaj{k:Int}{w:By}(h:okT ⟨k,0,0,w⟩=true):tkW w=⟨k,0,0,w⟩∧okT (tkW w)=true:=by
 have h1:=of_decide_eq_true h
 have e:tkW w=⟨k,0,0,w⟩:=by unfold tkW;rw[h1.1]
 exact⟨e,by rw[e];exact h⟩
theorem Bee:tkW [40]=lp:=rfl
theorem Bfh:tkW [41]=rp:=rfl
theorem Blc:tkW [44]=cm:=rfl
def sgs:List Nd→List (List Nd)
 |[]=>[]
 |n::l=>(n::((sgs l).take (Ad1 n.Ad)).flatten)::(sgs l).drop (Ad1 n.Ad)
theorem Bb1: ∀l:List Nd,(sgs l).flatten=l
 |[]=>rfl
 |n::l=>by
  rw[sgs,List.flatten_cons,List.cons_append,←List.flatten_append,List.take_append_drop,Bb1 l]
theorem A7t: ∀{l:List Nd} {st:List Nat},stk l=some st→(sgs l).length=st.length
 |[],st,h=>by cases h;rfl
 |n::l,s,h=>by
  obtain⟨st,k,h1,h2,h3,h4,rfl⟩:=Sl h
  have:=A7t h1
  rw[sgs]
  simp only[List.length_cons,List.length_drop,Ad1,h2,Option.getD_some]
  omega
def Hd(u:List Tk)(own:Nat):Prop:=match u with
 |[]=>True
 |t::_=>(Br t).2≤own∧isT [37] u=false
theorem Hd.mono{u:List Tk}{a b:Nat}(h:Hd u a)(hab:a≤b):Hd u b:=by
 cases u with
 |nil=>trivial
 |cons t r=>exact⟨Nat.le_trans h.1 hab,h.2⟩
theorem Hd.pct{u:List Tk}{a:Nat}(h:Hd u a):isT [37] u=false:=by
 cases u with
 |nil=>rfl
 |cons t r=>exact h.2
theorem Aok{u:List Tk}{n own a f:Nat}{out:List Nd}(h:Hd u a)(hs: ∀m,m≤a→(m=0∨m=1∨m=2∨m=4∨m=5∨m=6)→m=0∨m<n∨own<Km m):Cc CL n f out own u=(some (out,own),u):=by
 cases u with
 |nil=>exact Bmr
 |cons t r=>exact Ew (hs _ h.1 (Mo t))
def RdC(p:Pc)(a:List Nd):Prop:= ∀(n:Nat) (u:List Tk),n≤p.1→n≤7→Hd u p.1→CL (tkL p.2++u) n=bnd (Cc CL n u.length a p.1 u) fun y j=>(some y.1,j)
def A95(p:Pc)(m:Nat):Nat:=if p.1<m then 8 else p.1
theorem Aos(p:Pc){m:Nat}(hm:m≤8):m≤A95 p m:=by unfold A95;split<;>omega
theorem RdC.zero{p:Pc}{a:List Nd}(h:RdC p a){u:List Tk}(hu:Hd u 0):CL (tkL p.2++u) 0=(some a,u):=by
 rw[h 0 u (by omega) (by omega) (hu.mono (by omega)),Aok hu (fun m h1 h2=>by omega)]
 rfl
theorem RdC.at{p:Pc}{a:List Nd}(h:RdC p a){m n:Nat}(hnm:n≤m)(hm:m≤8)(hn:n≤7){u:List Tk}(hu:Hd u (A95 p m)):CL (tkL (atS p m)++u) n=bnd (Cc CL n u.length a (A95 p m) u) fun y j=>(some y.1,j):=by
 unfold atS A95 at*
 by_cases hp:p.1<m
 ·rw[if_pos hp] at hu⊢
  rw[if_pos hp]
  have e:tkL ([40]::(p.2++[[41]]))++u=lp::(tkL p.2++rp::u):=by
   rw[E7,Mp,Bee,E7,Bfh,A75];simp
  have hpr:Db CL (lp::(tkL p.2++rp::u))=(some a,u):=by
   have e1:isT [40] (lp::(tkL p.2++rp::u))=true:=rfl
   unfold Db
   simp only[e1,if_true]
   rw[Mk (h.zero (u:=rp::u) ⟨by decide,rfl⟩),Kl (s:=[41]) (t:=rp) (by decide) rfl]
  rw[e,Q1,Z9 rfl rfl rfl,hpr]
  rfl
 ·rw[if_neg hp] at hu⊢
  rw[if_neg hp]
  exact h n u (by omega) hn hu
theorem Aai{k j:Nat}{w s:By}(h:(A5 w).1=k)(h2:(A5 s).1=j)(hkj:k≠j)(r:List Tk):isT s (tkW w::r)=false:=by
 have:w≠s:=fun e=>hkj (by rw[←h,←h2,e])
 simp[isT,tkW,this]
theorem At5{w s:By}(h:w≠s)(r:List Tk):isT s (tkW w::r)=false:=by simp[isT,tkW,h]
theorem A44{w s:By}(h:Aqr w false=false)(hs:Aqr s false=true):w≠s:=fun e=>by rw[e,hs] at h;cases h
theorem Bsc{n:Nd}(hk:n.Ad=0)(hl:Js n=true):RdC (8,Cq n [] [] []) [n]:=by
 intro m u h1 h2 hu
 have hnum:Di (trimS n.Ag)=true:=by unfold Js at hl;rw[if_pos hk] at hl;exact hl
 have hnn:n=⟨0,n.Ag⟩:=by rw[←hk]
 unfold trimS at hnum
 have key: ∀(w:By) (r:List Tk),Di w=true→CL (tkW w::r) m=bnd (if isT [37] r=true then(some [⟨0,w++[37]⟩],r.tail) else(some [⟨0,w⟩],r)) fun a i=>bnd (Cc CL m i.length a 8 i) fun y j=>(some y.1,j):=by
  intro w r hw
  obtain⟨e1,e2⟩:=Aaj hw
  have hn1:(A5 w).1=1:=by
   have:=of_decide_eq_true hw
   have:=this.1
   simp only at this
   omega
  rw[Q1,Z9 (Aai hn1 (j:=0) (by decide) (by decide) r) (Aai hn1 (j:=0) (by decide) (by decide) r) (Aai hn1 (j:=3) (by decide) (by decide) r)]
  unfold Db
  have f1:=Aai (s:=[40]) hn1 (j:=3) (by decide) (by decide) r
  have f2:=Aai (s:=Jf) hn1 (j:=0) (by decide) (by decide) r
  have f3:=Aai (s:=H2) hn1 (j:=0) (by decide) (by decide) r
  have f4:(tkW w).Ad=1:=by rw[e1]
  simp only[f1,f2,f3,f4,Bool.or_self,Bool.false_eq_true,if_false,if_true]
  rw[Hp]
  split<;>rfl
 unfold Cq
 simp only[hk,if_true]
 by_cases hp:n.Ag.getLast?=some 37
 ·rw[if_pos hp] at hnum⊢
  have e:tkL [n.Ag.dropLast,[37]]++u=tkW n.Ag.dropLast::(tkW [37]::u):=rfl
  rw[e,key _ _ hnum,if_pos (show isT [37] (tkW [37]::u)=true from rfl)]
  have ht:n.Ag.dropLast++[37]=n.Ag:=by
   rcases List.eq_nil_or_concat n.Ag with h|⟨v,b,h⟩
   ·rw[h] at hp;cases hp
   ·rw[List.concat_eq_append] at h
    rw[h] at hp⊢
    simp at hp
    simp[hp]
  rw[ht,←hnn]
  rfl
 ·rw[if_neg hp] at hnum⊢
  have e:tkL [n.Ag]++u=tkW n.Ag::u:=rfl
  rw[e,key _ _ hnum,if_neg (by rw[hu.pct];simp),←hnn]
  rfl
theorem Bpw{n:Nd}(hk:n.Ad=1)(hl:Js n=true):RdC (8,Cq n [] [] []) [n]:=by
 intro m u h1 h2 hu
 have hw:Iy n.Ag false=true:=by unfold Js at hl;rw[if_neg (by omega),if_pos hk] at hl;exact hl
 have hnn:n=⟨1,n.Ag⟩:=by rw[←hk]
 unfold Iy at hw
 simp only[Bool.and_eq_true,Bool.not_eq_true'] at hw
 obtain⟨e1,e2⟩:=Aaj hw.1
 have hn0:(A5 n.Ag).1=0:=by
  have:=(of_decide_eq_true hw.1).1
  simp only at this
  omega
 have e:tkL (Cq n [] [] [])++u=tkW n.Ag::u:=by
  unfold Cq
  rw[if_neg (by omega),if_pos hk]
  rfl
 rw[e,Q1,Z9 (At5 (A44 hw.2 (by decide)) u) (At5 (A44 hw.2 (by decide)) u) (Aai hn0 (j:=3) (by decide) (by decide) u)]
 unfold Db
 have f1:=Aai (s:=[40]) hn0 (j:=3) (by decide) (by decide) u
 have f2:=At5 (s:=Jf) (A44 hw.2 (by decide)) u
 have f3:=At5 (s:=H2) (A44 hw.2 (by decide)) u
 have f4:(tkW n.Ag).Ad=0:=by rw[e1]
 have f5:(tkW n.Ag).Ag=n.Ag:=rfl
 simp only[f1,f2,f3,f4,f5,Bool.or_self,Bool.false_eq_true,if_false,if_true,hw.2,true_and]
 rw[if_neg (by decide),←hnn]
 rfl
theorem Aor{n:Nd}(hl:Js n=true)(h0:n.Ad≠0)(h1:n.Ad≠1):n=⟨n.Ad,[]⟩:=by
 unfold Js at hl
 rw[if_neg h0,if_neg h1] at hl
 rw[←of_decide_eq_true hl]
theorem Bsb{n:Nd}(hk:n.Ad=2)(hl:Js n=true){q:Pc}{b:List Nd}(hq:RdC q b)(p1 p2:List By):RdC (7,Cq n (atS q 7) p1 p2) (n::b):=by
 intro m u h1 h2 hu
 have hnn:=Aor hl (by omega) (by omega)
 rw[hk] at hnn
 have e:tkL (Cq n (atS q 7) p1 p2)++u=mi::(tkL (atS q 7)++u):=by
  unfold Cq
  rw[if_neg (by omega),if_neg (by omega),if_pos hk]
  rfl
 have hc:CL (tkL (atS q 7)++u) 7=(some b,u):=by
  rw[hq.at (Nat.le_refl 7) (by omega) (by omega) (hu.mono (Aos q (by omega))),Aok hu (fun m h1 h2=>by omega)]
  rfl
 have hf:Cb CL (mi::(tkL (atS q 7)++u)) m=(some (⟨2,[]⟩::b,7),u):=by
  unfold Cb
  rw[if_neg (fun h=>absurd h.2 (by simp[isT,mi,tk,sIf])),if_neg (fun h=>absurd h.2 (by simp[isT,mi,tk,Ob])),if_pos (show isT [45] (mi::(tkL (atS q 7)++u))=true from rfl),List.tail_cons,hc]
  rfl
 rw[e,Q1,Mk hf,←hnn]
theorem rd_not{n:Nd}(hk:n.Ad=14)(hl:Js n=true){q:Pc}{b:List Nd}(hq:RdC q b)(p1 p2:List By):RdC (3,Cq n (atS q 3) p1 p2) (n::b):=by
 intro m u h1 h2 hu
 have hnn:=Aor hl (by omega) (by omega)
 rw[hk] at hnn
 have h1:m≤3:=h1
 have e:tkL (Cq n (atS q 3) p1 p2)++u=tkW Ob::(tkL (atS q 3)++u):=by
  unfold Cq
  rw[if_neg (by omega),if_neg (by omega),if_neg (by omega),if_pos hk]
  rfl
 have hc:CL (tkL (atS q 3)++u) 3=(some b,u):=by
  rw[hq.at (Nat.le_refl 3) (by omega) (by omega) (hu.mono (Aos q (by omega))),Aok hu (fun m h1 h2=>by simp only at h1;omega)]
  rfl
 have hf:Cb CL (tkW Ob::(tkL (atS q 3)++u)) m=(some (⟨14,[]⟩::b,3),u):=by
  unfold Cb
  rw[if_neg (fun h=>absurd h.2 (by simp[isT,tkW,Ob,sIf])),if_pos ⟨h1,(show isT Ob (tkW Ob::(tkL (atS q 3)++u))=true from rfl)⟩,List.tail_cons,hc]
  rfl
 rw[e,Q1,Mk hf,←hnn]
theorem Btc{n:Nd}(hk:n.Ad=15)(hl:Js n=true){q0 q1 q2:Pc}{b0 b1 b2:List Nd}(h0:RdC q0 b0)(h1:RdC q1 b1)(h2:RdC q2 b2):RdC (0,Cq n q0.2 q1.2 q2.2) (n::(b0++b1++b2)):=by
 intro m u hm _ hu
 have hm:m≤0:=hm
 obtain rfl:m=0:=by omega
 have hnn:=Aor hl (by omega) (by omega)
 rw[hk] at hnn
 have e:tkL (Cq n q0.2 q1.2 q2.2)++u=tkW sIf::(tkL q0.2++tkW Sh::(tkL q1.2++tkW Nz::(tkL q2.2++u))):=by
  unfold Cq
  rw[if_neg (by omega),if_neg (by omega),if_neg (by omega),if_neg (by omega),if_pos hk,E7,Mp,E7,Mp,E7]
  simp
 rw[e,Bgo,if_pos (show isT sIf (tkW sIf::(tkL q0.2++tkW Sh::(tkL q1.2++tkW Nz::(tkL q2.2++u))))=true from rfl),List.tail_cons]
 rw[Mk (h0.zero (u:=tkW Sh::(tkL q1.2++tkW Nz::(tkL q2.2++u))) ⟨by decide,rfl⟩),Kl (s:=Sh) (t:=tkW Sh) (by decide) rfl]
 rw[Mk (h1.zero (u:=tkW Nz::(tkL q2.2++u)) ⟨by decide,rfl⟩),Kl (s:=Nz) (t:=tkW Nz) (by decide) rfl,Mk (h2.zero hu)]
 rw[Aok hu (fun m h1 h2=>by simp only at h1;omega),←hnn]
 rfl
theorem Bsa{n:Nd}(hk:n.Ad=16∨n.Ad=17)(hl:Js n=true){q0 q1:Pc}{b0 b1:List Nd}(h0:RdC q0 b0)(h1:RdC q1 b1)(p2:List By):RdC (8,Cq n q0.2 q1.2 p2) (n::(b0++b1)):=by
 intro m u hm hm7 hu
 have hnn:=Aor hl (by omega) (by omega)
 have key: ∀(w:By) (k:Int),(w=Jf∧k=16∨w=H2∧k=17)→Db CL (tkW w::lp::(tkL q0.2++cm::(tkL q1.2++rp::u)))=(some (⟨k,[]⟩::(b0++b1)),u)∧isT sIf (tkW w::lp::(tkL q0.2++cm::(tkL q1.2++rp::u)))=false∧isT Ob (tkW w::lp::(tkL q0.2++cm::(tkL q1.2++rp::u)))=false∧isT [45] (tkW w::lp::(tkL q0.2++cm::(tkL q1.2++rp::u)))=false:=by
  intro w k hw
  have hz0:=h0.zero (u:=cm::(tkL q1.2++rp::u)) ⟨by decide,rfl⟩
  have hz1:=h1.zero (u:=rp::u) ⟨by decide,rfl⟩
  rcases hw with⟨rfl,rfl⟩|⟨rfl,rfl⟩
  ·refine⟨?_,by simp[isT,tkW,Jf,sIf],by simp[isT,tkW,Jf,Ob],by simp[isT,tkW,Jf]⟩
   have e1:isT [40] (tkW Jf::lp::(tkL q0.2++cm::(tkL q1.2++rp::u)))=false:=by simp[isT,tkW,Jf]
   have e2:(isT Jf (tkW Jf::lp::(tkL q0.2++cm::(tkL q1.2++rp::u)))||isT H2 (tkW Jf::lp::(tkL q0.2++cm::(tkL q1.2++rp::u))))=true:=rfl
   unfold Db
   simp only[e1,e2,Bool.false_eq_true,if_false,if_true]
   rw[Kl (s:=[40]) (t:=lp) (by decide) rfl,Mk hz0,Kl (s:=[44]) (t:=cm) (by decide) rfl,Mk hz1,Kl (s:=[41]) (t:=rp) (by decide) rfl]
   rfl
  ·refine⟨?_,by simp[isT,tkW,H2,sIf],by simp[isT,tkW,H2,Ob],by simp[isT,tkW,H2]⟩
   have e1:isT [40] (tkW H2::lp::(tkL q0.2++cm::(tkL q1.2++rp::u)))=false:=by simp[isT,tkW,H2]
   have e2:(isT Jf (tkW H2::lp::(tkL q0.2++cm::(tkL q1.2++rp::u)))||isT H2 (tkW H2::lp::(tkL q0.2++cm::(tkL q1.2++rp::u))))=true:=by
    have:isT H2 (tkW H2::lp::(tkL q0.2++cm::(tkL q1.2++rp::u)))=true:=rfl
    rw[this,Bool.or_true]
   unfold Db
   simp only[e1,e2,Bool.false_eq_true,if_false,if_true]
   rw[Kl (s:=[40]) (t:=lp) (by decide) rfl,Mk hz0,Kl (s:=[44]) (t:=cm) (by decide) rfl,Mk hz1,Kl (s:=[41]) (t:=rp) (by decide) rfl,if_neg (by decide)]
 have e: ∃w:By,(w=Jf∧n.Ad=16∨w=H2∧n.Ad=17)∧tkL (Cq n q0.2 q1.2 p2)++u=tkW w::lp::(tkL q0.2++cm::(tkL q1.2++rp::u)):=by
  unfold Cq
  rw[if_neg (by omega),if_neg (by omega),if_neg (by omega),if_neg (by omega),if_neg (by omega),if_pos hk]
  rcases hk with hk|hk
  ·refine⟨Jf,Or.inl ⟨rfl,hk⟩,?_⟩
   rw[if_neg (by omega),E7,E7,Mp,E7,Mp,E7,Bee,Blc,Bfh,A75]
   simp
  ·refine⟨H2,Or.inr ⟨rfl,hk⟩,?_⟩
   rw[if_pos hk,E7,E7,Mp,E7,Mp,E7,Bee,Blc,Bfh,A75]
   simp
 obtain⟨w,hw,e⟩:=e
 obtain⟨k1,k2,k3,k4⟩:=key w n.Ad hw
 rw[e,Q1,Z9 k2 k3 k4,k1,←hnn]
 rfl
theorem Bsd{n:Nd}(hk:(Bd n.Ad).1=(Br (tkW (Bd n.Ad).2.1)).2∧n.Ad=(Br (tkW (Bd n.Ad).2.1)).1∧(Bd n.Ad).2.2.1=Km (Bd n.Ad).1∧(Bd n.Ad).2.2.2=(Bd n.Ad).1+1∧(Bd n.Ad).1≠0∧isT [37] [tkW (Bd n.Ad).2.1]=false)
  (hl:Js n=true)(hne:n.Ad≠0∧n.Ad≠1){q0 q1:Pc}{b0 b1:List Nd}(h0:RdC q0 b0)(h1:RdC q1 b1){ws:List By}(hws:ws=atS q0 (Bd n.Ad).2.2.1++(Bd n.Ad).2.1::atS q1 (Bd n.Ad).2.2.2):RdC ((Bd n.Ad).1,ws) (n::(b0++b1)):=by
 intro m u hm hm7 hu
 have hnn:=Aor hl hne.1 hne.2
 obtain⟨k1,k2,k3,k4,k5,k6⟩:=hk
 generalize hS:(Bd n.Ad).2.1=s at*
 generalize hL:(Bd n.Ad).1=lv at*
 rw[k3,k4] at hws
 have hd:=Mo (tkW s)
 rw[←k1] at hd
 have hm:m≤lv:=hm
 have hu:Hd u lv:=hu
 have hneed:lv≤Km lv∧Km lv≤6:=by unfold Km;split<;>omega
 subst hws
 have e:tkL (atS q0 (Km lv)++s::atS q1 (lv+1))++u=tkL (atS q0 (Km lv))++(tkW s::(tkL (atS q1 (lv+1))++u)):=by
  rw[Mp,E7];simp
 have hc:CL (tkL (atS q1 (lv+1))++u) (lv+1)=(some b1,u):=by
  rw[h1.at (Nat.le_refl _) (by omega) (by omega) (hu.mono (by have:=Aos q1 (m:=lv+1) (by omega);omega)),Aok hu (fun m h1 h2=>by omega)]
  rfl
 have ho:=Aos q0 (m:=Km lv) (by omega)
 show CL (tkL (atS q0 (Km lv)++s::atS q1 (lv+1))++u) m=bnd (Cc CL m u.length (n::(b0++b1)) lv u) _
 rw[e,h0.at (m:=Km lv) (n:=m) (by omega) (by omega) hm7 (u:=tkW s::(tkL (atS q1 (lv+1))++u)) ⟨by rw[←k1];omega,k6⟩]
 rw[List.length_cons,Ju (by rw[←k1];omega),←k1,hc]
 show bnd (Cc CL m _ (⟨(Br (tkW s)).1,[]⟩::(b0++b1)) lv u) _=_
 rw[←k2,←hnn,Aqm m (n::(b0++b1)) lv (ts:=u) (b:=u.length) (by simp) (Nat.le_refl _)]
theorem Bkd{k:Int}(h:k=3∨k=4∨k=5∨k=6∨k=7∨k=8∨k=9∨k=10∨k=11∨k=12∨k=13):(Bd k).1=(Br (tkW (Bd k).2.1)).2∧k=(Br (tkW (Bd k).2.1)).1∧(Bd k).2.2.1=Km (Bd k).1∧(Bd k).2.2.2=(Bd k).1+1∧(Bd k).1≠0∧isT [37] [tkW (Bd k).2.1]=false:=by
 rcases h with rfl|rfl|rfl|rfl|rfl|rfl|rfl|rfl|rfl|rfl|rfl<;>decide +kernel
theorem Bnc: ∀{l:List Nd} {st:List Nat},stk l=some st→ ∀i,i<st.length→RdC ((pst l).getD i (0,[])) ((sgs l).getD i [])
 |[],st,h,i,hi=>by cases h;simp at hi
 |n::l,s,h,i,hi=>by
  obtain⟨st,k,h1,h2,h3,h4,rfl⟩:=Sl h
  have ih:=Bnc h1
  have hNk:Ad1 n.Ad=k:=by simp[Ad1,h2]
  have hsl:=A7t h1
  have hpl:=T6 h1
  rw[pst,sgs,hNk]
  cases i with
  |succ i=>
   have:=ih (k+i) (by simp at hi;omega)
   rw[List.getD_cons_succ,List.getD_cons_succ]
   simp only[List.getD_eq_getElem?_getD,List.getElem?_drop] at this⊢
   exact this
  |zero=>
   simp only[List.getD_cons_zero]
   have hg: ∀j,j<k→(sgs l).take k=(List.range k).map fun j=>(sgs l).getD j []:=by
    intro j hj
    refine List.ext_getElem (by simp;omega) fun i h1 h2=>?_
    simp only[List.length_take] at h1
    simp[List.getD_eq_getElem?_getD,List.getElem?_eq_getElem (show i<(sgs l).length by omega)]
   have hkn:Jd n.Ad≠none:=by rw[h2];simp
   have hcase:k=0∨k=1∨k=2∨k=3:=by have:=A4h h2;omega
   rcases hcase with rfl|rfl|rfl|rfl
   ·have hkind:n.Ad=0∨n.Ad=1:=by
     rcases kinds hkn with e|e|e|e|e|e|e|e|e|e|e|e|e|e|e|e|e|e<;>first|exact Or.inl e|exact Or.inr e|(rw[e] at h2;exact absurd h2 (by decide))
    have hw: ∀p0 p1 p2:List By,Cq n p0 p1 p2=Cq n [] [] []:=by
     intro p0 p1 p2
     unfold Cq
     rcases hkind with e|e<;>simp[e]
    rw[hw]
    simp only[List.take_zero,List.flatten_nil]
    rcases hkind with e|e
    ·have:(Bd n.Ad).1=8:=by rw[e];rfl
     rw[this];exact Bsc e h3
    ·have:(Bd n.Ad).1=8:=by rw[e];rfl
     rw[this];exact Bpw e h3
   ·have hkind:n.Ad=2∨n.Ad=14:=by
     rcases kinds hkn with e|e|e|e|e|e|e|e|e|e|e|e|e|e|e|e|e|e<;>first|exact Or.inl e|exact Or.inr e|(rw[e] at h2;exact absurd h2 (by decide))
    rw[hg 0 (by omega)]
    have hi0:=ih 0 (by omega)
    have hr:((List.range 1).map fun j=>(sgs l).getD j []).flatten=(sgs l).getD 0 []:=by simp[List.range_succ]
    rw[hr]
    rcases hkind with e|e
    ·have e1:(Bd n.Ad).1=7:=by rw[e];rfl
     have e2:gP (pst l) n.Ad 0=atS ((pst l).getD 0 (0,[])) 7:=by unfold gP;rw[e];rfl
     rw[e1,e2]
     exact Bsb e h3 hi0 _ _
    ·have e1:(Bd n.Ad).1=3:=by rw[e];rfl
     have e2:gP (pst l) n.Ad 0=atS ((pst l).getD 0 (0,[])) 3:=by unfold gP;rw[e];rfl
     rw[e1,e2]
     exact rd_not e h3 hi0 _ _
   ·rw[hg 0 (by omega)]
    have hi0:=ih 0 (by omega)
    have hi1:=ih 1 (by omega)
    have hr:((List.range 2).map fun j=>(sgs l).getD j []).flatten=(sgs l).getD 0 []++(sgs l).getD 1 []:=by simp[List.range_succ]
    rw[hr]
    by_cases h16:n.Ad=16∨n.Ad=17
    ·have e1:(Bd n.Ad).1=8:=by rcases h16 with e|e<;>rw[e]<;>rfl
     have e2:gP (pst l) n.Ad 0=((pst l).getD 0 (0,[])).2:=by
      unfold gP atS
      rw[if_neg (by rcases h16 with e|e<;>rw[e]<;>simp[Ar4,Bd])]
     have e3:gP (pst l) n.Ad 1=((pst l).getD 1 (0,[])).2:=by
      unfold gP atS
      rw[if_neg (by rcases h16 with e|e<;>rw[e]<;>simp[Ar4,Bd])]
     rw[e1,e2,e3]
     exact Bsa h16 h3 hi0 hi1 _
    ·have hkind:n.Ad=3∨n.Ad=4∨n.Ad=5∨n.Ad=6∨n.Ad=7∨n.Ad=8∨n.Ad=9∨n.Ad=10∨n.Ad=11∨n.Ad=12∨n.Ad=13:=by
      rcases kinds hkn with e|e|e|e|e|e|e|e|e|e|e|e|e|e|e|e|e|e<;>first|omega|(rw[e] at h2;exact absurd h2 (by decide))
     refine Bsd (Bkd hkind) h3 ⟨by omega,by omega⟩ hi0 hi1 ?_
     unfold Cq
     rw[if_neg (by omega),if_neg (by omega),if_neg (by omega),if_neg (by omega),if_neg (by omega),if_neg h16]
     rfl
   ·have hkind:n.Ad=15:=by
     rcases kinds hkn with e|e|e|e|e|e|e|e|e|e|e|e|e|e|e|e|e|e<;>first|exact e|(rw[e] at h2;exact absurd h2 (by decide))
    rw[hg 0 (by omega)]
    have hi0:=ih 0 (by omega)
    have hi1:=ih 1 (by omega)
    have hi2:=ih 2 (by omega)
    have hr:((List.range 3).map fun j=>(sgs l).getD j []).flatten=(sgs l).getD 0 []++(sgs l).getD 1 []++(sgs l).getD 2 []:=by simp[List.range_succ]
    rw[hr]
    have e1:(Bd n.Ad).1=0:=by rw[hkind];rfl
    have e2: ∀j,gP (pst l) n.Ad j=((pst l).getD j (0,[])).2:=by
     intro j
     unfold gP atS
     rw[if_neg (by rw[hkind];unfold Ar4;simp[Bd])]
    rw[e1,e2,e2,e2]
    exact Btc hkind h3 hi0 hi1 hi2
theorem back{l:List Nd}(h:Jm l≠0){u:List Tk}(hu:Hd u 0):CL (tkL (C1 l)++u) 0=(some l,u):=by
 obtain⟨hl,d,hs,_⟩:=Ajj h
 have h0:=Bnc hs 0 (by simp)
 have hlen:=A7t hs
 have hfl:=Bb1 l
 have hg:(sgs l).getD 0 []=l:=by
  match hp:sgs l with
  |[]=>rw[hp] at hlen;simp at hlen
  |[a]=>rw[hp] at hfl;simpa using hfl
  |a::b::c=>rw[hp] at hlen;simp at hlen
 rw[hg] at h0
 exact h0.zero hu
theorem Bns: ∀w∈([[40],[41],[44],[45],[37],Ob,sIf,Sh,Nz,Jf,H2,[43],[42],[47],[60],[60,61],[61],[62],[62,61],Bbw,sOr]:List By),okT (tkW w)=true:=by decide +kernel
theorem Bm4{k:Int}(h:k=3∨k=4∨k=5∨k=6∨k=7∨k=8∨k=9∨k=10∨k=11∨k=12∨k=13):okT (tkW (Bd k).2.1)=true:=by
 rcases h with rfl|rfl|rfl|rfl|rfl|rfl|rfl|rfl|rfl|rfl|rfl<;>decide +kernel
theorem Bnb: ∀{l:List Nd} {st:List Nat},stk l=some st→ ∀p∈pst l,∀w∈p.2,okT (tkW w)=true
 |[],st,h,p,hp=>by simp[pst] at hp
 |n::l,s,h,p,hp=>by
  obtain⟨st,k,h1,h2,h3,h4,rfl⟩:=Sl h
  have ih:=Bnb h1
  have hg: ∀i,∀w∈gP (pst l) n.Ad i,okT (tkW w)=true:=by
   intro i w hw
   have hq: ∀w∈((pst l).getD i (0,[])).2,okT (tkW w)=true:=by
    rw[List.getD_eq_getElem?_getD]
    cases hg:(pst l)[i]? with
    |none=>simp
    |some q=>exact ih q (List.mem_of_getElem? hg)
   unfold gP atS at hw
   split at hw
   ·simp only[List.mem_cons,List.mem_append,List.not_mem_nil,or_false] at hw
    rcases hw with rfl|hw|rfl
    ·decide +kernel
    ·exact hq w hw
    ·decide +kernel
   ·exact hq w hw
  rw[pst,List.mem_cons] at hp
  rcases hp with rfl|hp
  ·have hne:Jd n.Ad≠none:=by rw[h2];simp
   intro w hw
   simp only at hw
   have c:=Bns
   have h0:=hg 0 w;have h1:=hg 1 w;have h2:=hg 2 w
   generalize gP (pst l) n.Ad 0=p0 at hw h0
   generalize gP (pst l) n.Ad 1=p1 at hw h1
   generalize gP (pst l) n.Ad 2=p2 at hw h2
   unfold Cq at hw
   by_cases k0:n.Ad=0
   ·rw[if_pos k0] at hw
    have hn:Di (trimS n.Ag)=true:=by unfold Js at h3;rw[if_pos k0] at h3;exact h3
    unfold trimS at hn
    split at hw
    ·rename_i hp
     rw[if_pos hp] at hn
     simp only[List.mem_cons,List.not_mem_nil,or_false] at hw
     rcases hw with rfl|rfl
     ·exact(Aaj hn).2
     ·decide +kernel
    ·rename_i hp
     rw[if_neg hp] at hn
     simp only[List.mem_cons,List.not_mem_nil,or_false] at hw
     rw[hw]
     exact(Aaj hn).2
   ·rw[if_neg k0] at hw
    by_cases k1:n.Ad=1
    ·rw[if_pos k1] at hw
     have hn:Iy n.Ag false=true:=by unfold Js at h3;rw[if_neg k0,if_pos k1] at h3;exact h3
     unfold Iy at hn
     simp only[Bool.and_eq_true] at hn
     simp only[List.mem_cons,List.not_mem_nil,or_false] at hw
     rw[hw]
     exact(Aaj hn.1).2
    ·rw[if_neg k1] at hw
     by_cases k2:n.Ad=2
     ·rw[if_pos k2] at hw
      rcases List.mem_cons.1 hw with rfl|hw
      ·decide +kernel
      ·exact h0 hw
     ·rw[if_neg k2] at hw
      by_cases k3:n.Ad=14
      ·rw[if_pos k3] at hw
       rcases List.mem_cons.1 hw with rfl|hw
       ·decide +kernel
       ·exact h0 hw
      ·rw[if_neg k3] at hw
       by_cases k4:n.Ad=15
       ·rw[if_pos k4] at hw
        simp only[List.mem_cons,List.mem_append] at hw
        rcases hw with rfl|hw|rfl|hw|rfl|hw
        ·decide +kernel
        ·exact h0 hw
        ·decide +kernel
        ·exact h1 hw
        ·decide +kernel
        ·exact h2 hw
       ·rw[if_neg k4] at hw
        by_cases k5:n.Ad=16∨n.Ad=17
        ·rw[if_pos k5] at hw
         simp only[List.mem_cons,List.mem_append,List.not_mem_nil,or_false] at hw
         rcases hw with hw|rfl|hw|rfl|hw|rfl
         ·rw[hw]
          split<;>decide +kernel
         ·decide +kernel
         ·exact h0 hw
         ·decide +kernel
         ·exact h1 hw
         ·decide +kernel
        ·rw[if_neg k5] at hw
         simp only[List.mem_cons,List.mem_append] at hw
         rcases hw with hw|rfl|hw
         ·exact h0 hw
         ·refine Bm4 ?_
          rcases kinds hne with e|e|e|e|e|e|e|e|e|e|e|e|e|e|e|e|e|e<;>omega
         ·exact h1 hw
  ·exact ih p (List.mem_of_mem_drop hp)
theorem Aj2{l:List Nd}(h:Jm l≠0): ∀w∈C1 l,okT (tkW w)=true:=by
 obtain⟨hl,d,hs,_⟩:=Ajj h
 have hlen:=T6 hs
 refine Bnb hs _ ?_
 match hp:pst l with
 |[]=>rw[hp] at hlen;simp at hlen
 |p::q=>simp
theorem Bce{ws:List By}(h: ∀w∈ws,okT (tkW w)=true):Sp (tkL ws) (jw ws):=by
 have:=Ak5 (l:=tkL ws) (fun t ht=>by
  obtain⟨w,hw,rfl⟩:=List.mem_map.1 ht
  exact h w hw)
 have e:jn (tkL ws)=jw ws:=by
  unfold jn jw tkL
  rw[List.map_map]
  congr 1
  have:(fun t:Tk=>t.Ag)∘tkW=id:=rfl
  rw[this,List.map_id]
 rw[e] at this
 exact Sp.of this
theorem A3m{l:List Nd}(h:Jm l≠0):Er (jw (C1 l))=(l,0,0,0)∨((Er (jw (C1 l))).2.2.2=6∨(Er (jw (C1 l))).2.2.2=4)∧ ∃e,LX (jw (C1 l))= .inr e:=by
 by_cases hl:(jw (C1 l)).length≤8000
 ·have hok: ∀t∈tkL (C1 l),okT t=true:=fun t ht=>by
   obtain⟨w,hw,rfl⟩:=List.mem_map.1 ht
   exact Aj2 h w hw
  rcases Bqj (Bce (Aj2 h)) hok hl with⟨l',h1,h2⟩|⟨p,h1⟩
  ·left
   have hb:=back h (u:=[]) trivial
   rw[List.append_nil] at hb
   have h3:=Bon h2.symm hb
   unfold Er
   rw[h1]
   simp only[h3]
   rw[if_neg h]
  ·right
   refine⟨Or.inl ?_,_,h1⟩
   unfold Er
   rw[h1]
   rfl
 ·right
  have:LX (jw (C1 l))= .inr (0,4):=by unfold LX;rw[if_pos (by omega)]
  refine⟨Or.inr ?_,_,this⟩
  unfold Er
  rw[this]
  rfl
end Go.Av.G
end
