import Derived.Laws.RangeAny
import Derived.Test.YtgmiodjnojkdkaaGreatDoorC15
set_option linter.all false
section
namespace Go.Av
open Go
theorem wrap64{x:Int}(h1: -9223372036854775808≤x)(h2:x<9223372036854775808):IntKind.wrap .i64 x=x:=by
 have hb:IntKind.bits .i64=64:=rfl
 have hs:IntKind.signed .i64=true:=rfl
 unfold IntKind.wrap
 simp only[hb,hs,Bool.true_and,decide_eq_true_eq]
 split<;>omega
theorem Cu{α:Type}{l:List α}{i:Nat}(h:i<l.length):rdO l (i:Int)=some l[i]:=by
 unfold rdO
 rw[if_pos (by omega)]
 simp[List.getElem?_eq_getElem h]
theorem Aja{s:List UInt8}{i:Nat}(h:i<s.length):byO s (i:Int)=some ((s[i].toNat:Nat):Int):=by
 unfold byO
 rw[if_pos (by omega)]
 simp[List.getElem?_eq_getElem h]
theorem Bsq{O:Type}{f:Int→Option (Int⊕O)}{n:Nat}{q:Nat→Bool}{o:Nat→O}{e:O}(hn:n<4611686018427387904)(hin: ∀i:Nat,i<n→f i=some (if q i=true then .inr (o i) else .inl (IntKind.wrap .i64 ((i:Int)+1))))
  (hout: ∀i:Nat,n≤i→f i=some (.inr e))(s:Nat):A4 f s=some (match (List.range' s (n-s)).find? q with|some i=>o i|none=>e):=by
 generalize hm:n-s=m
 induction m generalizing s with
 |zero=>rw[A1 (hout s (by omega))];rfl
 |succ m ih=>
  have:=hin s (by omega)
  rw[List.range'_succ,List.find?_cons]
  cases hq:q s with
  |true=>
   rw[hq,if_pos rfl] at this
   rw[A1 this]
  |false=>
   rw[hq,if_neg (by simp),wrap64 (by omega) (by omega)] at this
   rw[Bs this]
   exact ih (s+1) (by omega)
theorem Boa{O:Type}{l:List Nat}{q:Nat→Bool}{o e:O}:(match l.find? q with|some i=>o|none=>e)=if l.any q=true then o else e:=by
 induction l with
 |nil=>rfl
 |cons x l ih=>
  rw[List.find?_cons,List.any_cons]
  cases q x with
  |true=>rfl
  |false=>simpa using ih
theorem A5t{O:Type}{f:Int→Option (Int⊕O)}{n:Nat}{q:Nat→Bool}{o e:O}(hn:n<4611686018427387904)(hin: ∀i:Nat,i<n→f i=some (if q i=true then .inr o else .inl (IntKind.wrap .i64 ((i:Int)+1))))
  (hout: ∀i:Nat,n≤i→f i=some (.inr e))(s:Nat):A4 f s=some (if (List.range' s (n-s)).any q=true then o else e):=by
 rw[Bsq hn hin hout s,Boa]
theorem Bla{α:Type}(l:List α)(p:α→Bool):(List.range' 0 l.length).any (fun i=>(l[i]?).any p)=l.any p:=by
 rw[Bool.eq_iff_iff,List.any_eq_true,List.any_eq_true]
 constructor
 ·rintro⟨i,hi,h⟩
  have hl:i<l.length:=by simpa using hi
  rw[List.getElem?_eq_getElem hl] at h
  exact⟨l[i],List.getElem_mem hl,h⟩
 ·rintro⟨x,hx,h⟩
  obtain⟨i,hi,rfl⟩:=List.getElem_of_mem hx
  exact⟨i,by simpa using hi,by simpa [List.getElem?_eq_getElem hi] using h⟩
theorem I6{α O:Type}{f:Int→Option (Int⊕O)}{l:List α}(p:α→Bool){o e:O}(hn:l.length<4611686018427387904)(hin: ∀(i:Nat) (h:i<l.length),f i=some (if p l[i]=true then .inr o else .inl (IntKind.wrap .i64 ((i:Int)+1))))
  (hout: ∀i:Nat,l.length≤i→f i=some (.inr e)):A4 f 0=some (if l.any p=true then o else e):=by
 have:=A5t (q:=fun i=>(l[i]?).any p) hn (fun i hi=>by rw[hin i hi,List.getElem?_eq_getElem hi];rfl) hout 0
 rw[←Bla]
 exact this
def Apm{α:Type}(l:List α)(p:α→Bool):Option Nat:=(List.range' 0 l.length).find? (fun i=>(l[i]?).any p)
theorem Ajl{α:Type}{l:List α}{p:α→Bool}{i:Nat}(h:Apm l p=some i): ∃hi:i<l.length,p l[i]=true∧ ∀j (hj:j<i),p (l[j]'(by omega))=false:=by
 unfold Apm at h
 have hm:=List.mem_of_find?_eq_some h
 have hi:i<l.length:=by simpa using hm
 have hp:=List.find?_some h
 rw[List.getElem?_eq_getElem hi] at hp
 refine⟨hi,hp,fun j hj=>?_⟩
 obtain⟨_,as',bs,he,hall⟩:=List.find?_eq_some_iff_append.1 h
 have hlen:as'.length=i:=by
  have h1:(List.range' 0 l.length)[as'.length]? =some i:=by rw[he];simp
  rw[List.getElem?_range' (by
   have:=congrArg List.length he
   simp at this
   omega)] at h1
  simpa using h1
 have hmem:j∈as':=by
  have h2:(List.range' 0 l.length)[j]? =some j:=by rw[List.getElem?_range' (by omega)];simp
  rw[he,List.getElem?_append_left (by omega)] at h2
  exact List.mem_of_getElem? h2
 have:=hall j hmem
 rw[List.getElem?_eq_getElem (by omega)] at this
 simpa using this
theorem Ajk{α:Type}{l:List α}{p:α→Bool}(h:Apm l p=none): ∀x∈l,p x=false:=by
 intro x hx
 obtain⟨i,hi,rfl⟩:=List.getElem_of_mem hx
 have:=List.find?_eq_none.1 h i (by simpa using hi)
 rw[List.getElem?_eq_getElem hi] at this
 simpa using this
theorem Att{α O:Type}{f:Int→Option (Int⊕O)}{l:List α}(p:α→Bool){o:Nat→O}{e:O}(hn:l.length<4611686018427387904)(hin: ∀(i:Nat) (h:i<l.length),f i=some (if p l[i]=true then .inr (o i) else .inl (IntKind.wrap .i64 ((i:Int)+1))))
  (hout: ∀i:Nat,l.length≤i→f i=some (.inr e)):A4 f 0=some (match Apm l p with|some i=>o i|none=>e):=
 Bsq (q:=fun i=>(l[i]?).any p) hn (fun i hi=>by rw[hin i hi,List.getElem?_eq_getElem hi];rfl) hout 0
theorem Ayp{α S O:Type}{f:Int×S→Option ((Int×S)⊕O)}{l:List α}(step:S→α→S)(out:S→O){s0:S}(hn:l.length<4611686018427387904)
  (hin: ∀(i:Nat) (h:i<l.length),f ((i:Int),(l.take i).foldl step s0)=some (.inl (IntKind.wrap .i64 ((i:Int)+1),step ((l.take i).foldl step s0) l[i])))
  (hout:f ((l.length:Int),l.foldl step s0)=some (.inr (out (l.foldl step s0)))):A4 f (0,s0)=some (out (l.foldl step s0)):=by
 have key: ∀k,k≤l.length→A4 f (0,s0)=A4 f ((k:Int),(l.take k).foldl step s0):=by
  intro k
  induction k with
  |zero=>intro _;rfl
  |succ k ih=>
   intro hk
   rw[ih (by omega),Bs (hin k (by omega)),wrap64 (by omega) (by omega),List.take_succ_eq_append_getElem (by omega),List.foldl_append]
   rfl
 rw[key l.length (Nat.le_refl _),List.take_length]
 exact A1 hout
def Bq4{α:Type}(key:α→Int)(l:List α):Prop:= ∀i (h:i+1<l.length),key l[i]<key l[i+1]
theorem Bq4.lt{α:Type}{key:α→Int}{l:List α}(h:Bq4 key l): ∀{j i:Nat} (hj:j<l.length) (hij:i<j),key (l[i]'(by omega))<key l[j]:=by
 intro j
 induction j with
 |zero=>intro i _ hij;omega
 |succ j ih=>
  intro i hj hij
  have h1:=h j hj
  by_cases he:i=j
  ·subst he;exact h1
  ·have:=ih (i:=i) (by omega) (by omega)
   omega
theorem Bq4.inj{α:Type}{key:α→Int}{l:List α}(h:Bq4 key l){i j:Nat}(hi:i<l.length)(hj:j<l.length)(he:key l[i]=key l[j]):i=j:=by
 by_cases h1:i<j
 ·have:=h.lt hj h1;omega
 ·by_cases h2:j<i
  ·have:=h.lt hi h2;omega
  ·omega
end Go.Av
end
section
set_option maxRecDepth 4000
set_option maxHeartbeats 4000000
namespace Go.Av.G
open Go Go.Av Go.Proofs
theorem Bg{α β:Type}{a:Option α}{x:α}{f:α→Option β}{o:Option β}(h:a=some x)(h2:f x=o):a.bind f=o:=by subst h;exact h2
theorem A6{α:Type}(g:Bool)(a d:α):gdO g (some a) d=some (bif g then a else d):=by cases g<;>rfl
def Al(q:UInt8→Bool)(s:List UInt8):Nat:=(s.takeWhile q).length
theorem Jg(q:UInt8→Bool):Al q []=0:=rfl
theorem Df(q:UInt8→Bool)(b:UInt8)(t:List UInt8):Al q (b::t)=if q b=true then Al q t+1 else 0:=by
 unfold Al
 rw[List.takeWhile_cons]
 split<;>simp
theorem Ej(q:UInt8→Bool): ∀s:List UInt8,Al q s≤s.length
 |[]=>by simp[Jg]
 |b::t=>by
  have:=Ej q t
  rw[Df,List.length_cons]
  split<;>omega
theorem Mm(q:UInt8→Bool): ∀(s:List UInt8) (m:Nat),Al q (s.take m)=min (Al q s) m
 |[],m=>by simp[Jg]
 |b::t,0=>by simp[Jg]
 |b::t,m+1=>by
  rw[List.take_succ_cons,Df,Df,Mm q t m]
  split<;>omega
theorem Kk{α:Type}{l:List α}{n:Nat}(h:n≤l.length):slO l (n:Int) (l.length:Int)=some (l.drop n):=by
 unfold slO
 rw[if_pos ⟨by omega,by omega,by omega⟩]
 simp
theorem Gu{α:Type}{l:List α}{n:Nat}(h:n≤l.length):slO l 0 (n:Int)=some (l.take n):=by
 unfold slO
 rw[if_pos ⟨by omega,by omega,by omega⟩]
 simp
theorem Bku{α:Type}{l:List α}{a b:Nat}(h1:a≤b)(h2:b≤l.length):slO l (a:Int) (b:Int)=some ((l.take b).drop a):=by
 unfold slO
 rw[if_pos ⟨by omega,by omega,by omega⟩]
 simp
theorem Bo0{p:Nat→Bool}{q:UInt8→Bool}(h1: ∀x,128≤x→p x=true)(h2: ∀b:UInt8,b.toNat<128→p b.toNat= !q b)(h3: ∀b:UInt8,128≤b.toNat→q b=false)(s:List UInt8):Lib.idxFunc p true ⟨s.toArray⟩=if Al q s=s.length then -1 else(Al q s:Int):=by
 have hsz:(ByteArray.mk s.toArray).size=s.length:=by simp[ByteArray.size]
 have key: ∀f pos,s.length-pos≤f→pos≤s.length→Lib.idxFuncFrom p true ⟨s.toArray⟩ f pos=if Al q (s.drop pos)=s.length-pos then -1 else((pos+Al q (s.drop pos):Nat):Int):=by
  intro f
  induction f with
  |zero=>
   intro pos h hp
   have:pos=s.length:=by omega
   subst this
   simp[Lib.idxFuncFrom,Jg]
  |succ f ih=>
   intro pos h hp
   simp only[Lib.idxFuncFrom]
   by_cases hpos:pos<s.length
   ·rw[if_pos (by rw[hsz];exact hpos)]
    have hget:(ByteArray.mk s.toArray)[pos]'(by rw[hsz];exact hpos)=s[pos]:=rfl
    rw[List.drop_eq_getElem_cons hpos,Df]
    have hle:=Ej q (s.drop (pos+1))
    rw[List.length_drop] at hle
    by_cases ha:(s[pos]).toNat<128
    ·have hd:=Go.decode_ascii (ByteArray.mk s.toArray) pos (by rw[hsz];exact hpos) (by rw[hget];exact ha)
     rw[hd,hget]
     simp only
     rw[h2 _ ha]
     cases hq:q s[pos] with
     |true=>
      simp only[Bool.not_true,Bool.false_eq_true,if_false,if_true]
      rw[ih (pos+1) (by omega) (by omega)]
      by_cases he:Al q (s.drop (pos+1))=s.length-(pos+1)
      ·rw[if_pos he,if_pos (by omega)]
      ·rw[if_neg he,if_neg (by omega)]
       omega
     |false=>
      simp only[Bool.not_false,if_true,Bool.false_eq_true,if_false]
      rw[if_neg (by omega)]
      simp
    ·have hd:=Go.decode_high (ByteArray.mk s.toArray) pos (by rw[hsz];exact hpos) (by rw[hget];omega)
     rw[if_pos (h1 _ hd.1),h3 _ (by omega)]
     simp only[Bool.false_eq_true,if_false]
     rw[if_neg (by omega)]
     simp
   ·have:pos=s.length:=by omega
    subst this
    rw[if_neg (by rw[hsz];omega)]
    simp[Jg]
 unfold Lib.idxFunc
 rw[key _ 0 (by rw[hsz];omega) (by omega)]
 simp
def Apr(b:UInt8):Bool:=decide (97≤b.toNat∧b.toNat≤122)
def digB(b:UInt8):Bool:=decide (48≤b.toNat∧b.toNat≤57)
def Ai3(b:UInt8):Bool:=decide ((97≤b.toNat∧b.toNat≤122)∨(48≤b.toNat∧b.toNat≤57)∨b.toNat=95)
def prB(b:UInt8):Bool:=decide (32≤b.toNat∧b.toNat≤126)
theorem M5(n:Int):Hx n=some (decide (97≤n∧n≤122)):=by simp[Hx]
theorem Q2(n:Int):Hk n=some (decide (48≤n∧n≤57)):=by simp[Hk]
theorem Bb6(n:Int):Pq n=some (decide ((97≤n∧n≤122)∨(48≤n∧n≤57)∨n=95)):=by
 simp only[Pq,M5,Q2,Option.bind_some,A6,Option.some.injEq]
 by_cases h1:97≤n∧n≤122
 ·simp[h1]
 ·by_cases h2:48≤n∧n≤57
  ·simp[h1,h2]
  ·by_cases h3:n=95
   ·simp[h3]
   ·simp[h1,h2,h3]
theorem Beg(n:Int):Pr n=some (decide (32≤n∧n≤126)):=by simp[Pr]
theorem Bu5{n:Int}(h1:0≤n)(h2:n<256):IntKind.wrap .u8 n=n:=by
 have hb:IntKind.bits .u8=8:=rfl
 have hs:IntKind.signed .u8=false:=rfl
 unfold IntKind.wrap
 simp only[hb,hs,Bool.false_and]
 simp
 omega
theorem Bid{f:Int→Option Bool}{g:Int→Bool}{q:UInt8→Bool}(hf: ∀n:Int,f n=some (bif decide (n>127) then true else !g (IntKind.wrap .u8 n)))(hg: ∀b:UInt8,g (b.toNat:Int)=q b)(hq: ∀b:UInt8,128≤b.toNat→q b=false)(s:List UInt8):strings_IndexFunc f s=some (if Al q s=s.length then -1 else(Al q s:Int)):=by
 rw[Al7 (fun x=>bif decide ((x:Int)>127) then true else !g (IntKind.wrap .u8 (x:Int))) (fun x=>hf x),Bo0 (q:=q) ?_ ?_ hq]
 ·intro x hx
  have:decide ((x:Int)>127)=true:=decide_eq_true (by omega)
  simp only[this,cond_true]
 ·intro b hb
  have:decide ((b.toNat:Int)>127)=false:=decide_eq_false (by omega)
  simp only[this,cond_false,Bu5 (show 0≤(b.toNat:Int) by omega) (show(b.toNat:Int)<256 by omega),hg]
theorem Bt1(s:List UInt8):Axd s=some (Al Ai3 s:Int):=by
 unfold Axd
 rw[Bid (g:=fun n=>decide ((97≤n∧n≤122)∨(48≤n∧n≤57)∨n=95)) (q:=Ai3)]
 ·simp only[Option.bind_some]
  by_cases h:Al Ai3 s=s.length
  ·rw[if_pos h];simp[h]
  ·rw[if_neg h];simp;omega
 ·intro n
  simp only[Qn,Bb6,Option.bind_some,A6]
  cases decide (n>127)<;>simp
 ·intro b
  unfold Ai3
  rw[Bool.eq_iff_iff]
  simp
  omega
 ·intro b hb
  unfold Ai3
  simp
  omega
theorem Bko(s:List UInt8):Qo s=some (Al digB s:Int):=by
 unfold Qo
 rw[Bid (g:=fun n=>decide (48≤n∧n≤57)) (q:=digB)]
 ·simp only[Option.bind_some]
  by_cases h:Al digB s=s.length
  ·rw[if_pos h];simp[h]
  ·rw[if_neg h];simp;omega
 ·intro n
  simp only[I4,Q2,Option.bind_some,A6]
  cases decide (n>127)<;>simp
 ·intro b
  unfold digB
  rw[Bool.eq_iff_iff]
  simp
  omega
 ·intro b hb
  unfold digB
  simp
  omega
theorem Br2(s:List UInt8):Amm s=some (Al prB s:Int):=by
 unfold Amm
 rw[Bid (g:=fun n=>decide (32≤n∧n≤126)) (q:=prB)]
 ·simp only[Option.bind_some]
  by_cases h:Al prB s=s.length
  ·rw[if_pos h];simp[h]
  ·rw[if_neg h];simp;omega
 ·intro n
  simp only[I5,Beg,Option.bind_some,A6]
  cases decide (n>127)<;>simp
 ·intro b
  unfold prB
  rw[Bool.eq_iff_iff]
  simp
  omega
 ·intro b hb
  unfold prB
  simp
  omega
end Go.Av.G
end
section
set_option maxRecDepth 4000
set_option maxHeartbeats 4000000
namespace Go.Av.G
open Go Go.Av Go.Proofs
def E6(s:List UInt8):Nat:=match s with
 |b::c::t=>if b=46 then Al digB (c::t) else 0
 |_=>0
def Us(s:List UInt8):Nat×Nat:=if 32<Al Ai3 s then(0,3) else(Al Ai3 s,0)
def Atx(s:List UInt8):Nat×Nat:=
 if 15<Al digB s∨9<E6 (s.drop (Al digB s))∨1<Al digB s∧s.head?=some 48 then(0,3)
 else if 0<E6 (s.drop (Al digB s)) then(Al digB s+1+E6 (s.drop (Al digB s)),0) else(Al digB s,0)
def Cd(b:UInt8):Bool:=b !=34
def At3(s:List UInt8):Nat×Nat:=
 if Al Cd (s.drop 1)=(s.drop 1).length then(0,14)
 else if 32<Al Cd (s.drop 1)∨Al prB ((s.drop 1).take (Al Cd (s.drop 1)))<Al Cd (s.drop 1) then(0,3)
 else(Al Cd (s.drop 1)+2,0)
def Ks:List UInt8:=[123,125,40,41,91,93,59,58,44,37,61,60,62,43,45,42,47]
def At7(s:List UInt8):Nat×Nat:=
 if s.take 2=[60,61]∨s.take 2=[62,61]∨s.take 2=[46,46] then(2,0)
 else match s with
 |b::_=>if b∈Ks then(1,0) else(0,14)
 |[]=>(0,14)
def Bm(s:List UInt8):Nat×Nat×Nat:=match s with
 |b::_=>if Apr b=true then(0,Us s) else if digB b=true then(1,Atx s) else if b=34 then(2,At3 s) else(3,At7 s)
 |[]=>(0,0,14)
def prI(x:Nat×Nat):Int×Int:=((x.1:Int),(x.2:Int))
theorem Bsi(s:List UInt8):Ajx s=some (prI (Us s)):=by
 unfold Ajx Us prI
 rw[Bt1]
 simp only[Option.bind_some,decide_eq_true_eq]
 by_cases h:32<Al Ai3 s
 ·rw[if_pos (by omega),if_pos h];rfl
 ·rw[if_neg (by omega),if_neg h];rfl
theorem Du{b:UInt8}{t:List UInt8}:byO (b::t) 0=some (b.toNat:Int):=by simp[byO]
theorem Ama{b:UInt8}{n:Nat}(hn:n<256):b.toNat=n↔b=UInt8.ofNat n:=by
 constructor
 ·intro h
  apply UInt8.toNat_inj.1
  simp[h]
  omega
 ·rintro rfl
  simp
  omega
theorem Bru(s:List UInt8):((some (decide ((s.length:Int)>1))).bind fun c4=>
 (gdO c4 (byO s 0) 0).bind fun x5=>
 ((if (c4&&(x5==46))=true then
   (slO s 1 (s.length:Int)).bind fun x7=>
   (Qo x7).bind fun x8=>
   some x8
 else
  some 0):Option Int))=some (E6 s:Int):=by
 match s with
 |[]=>rfl
 |[b]=>rfl
 |b::c::t=>
  have h1:decide ((((b::c::t).length:Nat):Int)>1)=true:=by simp;omega
  have h2:=Kk (l:=b::c::t) (n:=1) (by simp)
  have e1:((1:Nat):Int)=1:=rfl
  rw[e1] at h2
  simp only[Option.bind_some,h1,gdO,Du,Bool.true_and,h2,Bko,List.drop_succ_cons,List.drop_zero]
  unfold E6
  by_cases hb:b=46
  ·subst hb;rfl
  ·have:((b.toNat:Int)==46)=false:=by
    have:=mt (Ama (b:=b) (n:=46) (by omega)).1 hb
    simp
    omega
   rw[this]
   simp[hb]
theorem A1s{q:UInt8→Bool}{b:UInt8}{t:List UInt8}(h:q b=true):1≤Al q (b::t):=by
 rw[Df,if_pos h];omega
theorem Arx(s:List UInt8):E6 s+1≤s.length∨E6 s=0:=by
 unfold E6
 split
 ·rename_i b c t
  have:=Ej digB (c::t)
  split
  ·left;simpa using this
  ·right;rfl
 ·right;rfl
theorem number_eq{b:UInt8}{t:List UInt8}(hl:(b::t).length<4611686018427387904):Q5 (b::t)=some (prI (Atx (b::t))):=by
 generalize hs:b::t=s at hl
 have hd:=Ej digB s
 have hm:=Arx (s.drop (Al digB s))
 rw[List.length_drop] at hm
 have h0:byO s 0=some (b.toNat:Int):=by rw[←hs];exact Du
 have hh:s.head?=some b:=by rw[←hs];rfl
 unfold Q5 Atx prI
 rw[Bko]
 simp only[Option.bind_some,Kk hd]
 have hmore:=Bru (s.drop (Al digB s))
 simp only[Option.bind_some] at hmore
 cases hg:gdO (decide (((s.drop (Al digB s)).length:Int)>1)) (byO (s.drop (Al digB s)) 0) 0 with
 |none=>rw[hg] at hmore;cases hmore
 |some x5=>
  rw[hg] at hmore
  simp only[Option.bind_some] at hmore⊢
  refine Bg hmore ?_
  have h48:((b.toNat:Int)==48)=decide (b=48):=by
   rw[Bool.eq_iff_iff]
   have:=Ama (b:=b) (n:=48) (by omega)
   simp
   constructor
   ·intro h;exact this.1 (by omega)
   ·rintro rfl;rfl
  simp only[h0,A6,Option.bind_some,hh,Option.some.injEq]
  by_cases c1:15<Al digB s
  ·have:decide (((Al digB s:Nat):Int)>15)=true:=decide_eq_true (by omega)
   simp only[this,Bool.true_or,if_true]
   rw[if_pos (.inl c1)]
   rfl
  ·have e1:decide (((Al digB s:Nat):Int)>15)=false:=decide_eq_false (by omega)
   by_cases c2:9<E6 (s.drop (Al digB s))
   ·have:decide (((E6 (s.drop (Al digB s)):Nat):Int)>9)=true:=decide_eq_true (by omega)
    simp only[e1,this,Bool.false_or,Bool.true_or,if_true]
    rw[if_pos (.inr (.inl c2))]
    rfl
   ·have e2:decide (((E6 (s.drop (Al digB s)):Nat):Int)>9)=false:=decide_eq_false (by omega)
    simp only[e1,e2,Bool.or_self,Bool.not_false,Bool.true_and,Bool.false_or]
    by_cases c3:1<Al digB s∧b=48
    ·have e3:decide (((Al digB s:Nat):Int)>1)=true:=decide_eq_true (by omega)
     simp only[e3,cond_true,h48,decide_eq_true c3.2,Bool.and_self,if_true]
     rw[if_pos (.inr (.inr c3))]
     rfl
    ·have e3:(decide (((Al digB s:Nat):Int)>1)&&((bif decide (((Al digB s:Nat):Int)>1) then(b.toNat:Int) else 0)==48))=false:=by
      by_cases q:1<Al digB s
      ·have e3:decide (((Al digB s:Nat):Int)>1)=true:=decide_eq_true (by omega)
       simp only[e3,cond_true,h48,Bool.true_and]
       exact decide_eq_false (fun hb=>c3 ⟨q,hb⟩)
      ·have e3:decide (((Al digB s:Nat):Int)>1)=false:=decide_eq_false (by omega)
       simp only[e3,Bool.false_and]
     have hno: ¬(15<Al digB s∨9<E6 (s.drop (Al digB s))∨1<Al digB s∧b=48):=fun h=>h.elim c1 (fun h=>h.elim c2 c3)
     simp only[e3,Bool.false_eq_true,if_false,if_neg hno]
     by_cases c4:0<E6 (s.drop (Al digB s))
     ·have e4:IntKind.wrap .i64 (((Al digB s:Nat):Int)+1)=((Al digB s+1:Nat):Int):=by rw[wrap64 (by omega) (by omega)];rfl
      have e5:IntKind.wrap .i64 (((Al digB s+1:Nat):Int)+((E6 (s.drop (Al digB s)):Nat):Int))=((Al digB s+1+E6 (s.drop (Al digB s)):Nat):Int):=by rw[wrap64 (by omega) (by omega)];omega
      rw[e4,e5,if_pos (decide_eq_true (show((E6 (s.drop (Al digB s)):Nat):Int)>0 by omega)),if_pos c4]
      rfl
     ·rw[if_neg (show ¬(decide (((E6 (s.drop (Al digB s)):Nat):Int)>0)=true) by simp;omega),if_neg c4]
      rfl
theorem Jv(c:UInt8): ∀s:List UInt8,Lib.indexByte s c=if Al (fun b=>b !=c) s=s.length then -1 else(Al (fun b=>b !=c) s:Int)
 |[]=>rfl
 |b::t=>by
  have hle:=Ej (fun b=>b !=c) t
  unfold Lib.indexByte
  rw[Jv c t,Df,List.length_cons]
  by_cases h:b=c
  ·subst h;simp
  ·have h1:(b==c)=false:=by simpa using h
   have h2:(b !=c)=true:=by simpa using h
   rw[h1,if_neg (by simp)]
   simp only[h2,if_true]
   by_cases he:Al (fun b=>b !=c) t=t.length
   ·rw[show(if Al (fun b=>b !=c) t=t.length then(-1:Int) else(Al (fun b=>b !=c) t:Int))= -1 from if_pos he,if_pos (show Al (fun b=>b !=c) t+1=t.length+1 by omega)]
    rfl
   ·rw[show(if Al (fun b=>b !=c) t=t.length then(-1:Int) else(Al (fun b=>b !=c) t:Int))=(Al (fun b=>b !=c) t:Int) from if_neg he,if_neg (show ¬Al (fun b=>b !=c) t+1=t.length+1 by omega)]
    have:(((Al (fun b=>b !=c) t:Nat):Int)== -1)=false:=by simp
    rw[this]
    simp
theorem Bl9{b:UInt8}{t:List UInt8}(hl:(b::t).length<4611686018427387904):Q6 (b::t)=some (prI (At3 (b::t))):=by
 have h1:=Kk (l:=b::t) (n:=1) (by simp)
 have e1:((1:Nat):Int)=1:=rfl
 rw[e1] at h1
 have e2:((34:Int).toNat.toUInt8)=34:=by decide
 have hn:=Ej Cd t
 have hidx:Lib.indexByte t 34=if Al Cd t=t.length then -1 else(Al Cd t:Int):=Jv 34 t
 simp only[List.length_cons] at hl
 unfold Q6 At3 prI
 simp only[h1,List.drop_succ_cons,List.drop_zero,Option.bind_some,strings_IndexByte,e2]
 by_cases c1:Al Cd t=t.length
 ·rw[if_pos c1] at hidx
  simp only[hidx,if_pos c1]
  rfl
 ·rw[if_neg c1] at hidx
  have e3:IntKind.wrap .i64 (1+((Al Cd t:Nat):Int))=((Al Cd t+1:Nat):Int):=by rw[wrap64 (by omega) (by omega)];omega
  have e4:IntKind.wrap .i64 (((Al Cd t:Nat):Int)+2)=((Al Cd t+2:Nat):Int):=by rw[wrap64 (by omega) (by omega)];rfl
  have h2:=Bku (l:=b::t) (a:=1) (b:=Al Cd t+1) (by omega) (by simp;omega)
  rw[e1] at h2
  have e6:decide (((Al Cd t:Nat):Int)<0)=false:=decide_eq_false (by omega)
  simp only[hidx,if_neg c1,e6,Bool.false_eq_true,if_false,e3,h2,List.take_succ_cons,List.drop_succ_cons,List.drop_zero,A6,Option.bind_some,Br2,e4]
  by_cases c2:32<Al Cd t
  ·have:decide (((Al Cd t:Nat):Int)>32)=true:=decide_eq_true (by omega)
   simp only[this,Bool.true_or,if_true,if_pos (show 32<Al Cd t∨Al prB (t.take (Al Cd t))<Al Cd t from .inl c2)]
   rfl
  ·have e5:decide (((Al Cd t:Nat):Int)>32)=false:=decide_eq_false (by omega)
   simp only[e5,Bool.not_false,cond_true,Bool.false_or]
   by_cases c3:Al prB (t.take (Al Cd t))<Al Cd t
   ·have:decide (((Al prB (t.take (Al Cd t)):Nat):Int)<((Al Cd t:Nat):Int))=true:=decide_eq_true (by omega)
    simp only[this,if_true,if_pos (show 32<Al Cd t∨Al prB (t.take (Al Cd t))<Al Cd t from .inr c3)]
    rfl
   ·have:decide (((Al prB (t.take (Al Cd t)):Nat):Int)<((Al Cd t:Nat):Int))=false:=decide_eq_false (by omega)
    have hno: ¬(32<Al Cd t∨Al prB (t.take (Al Cd t))<Al Cd t):=fun h=>h.elim c2 c3
    simp only[this,Bool.false_eq_true,if_false,if_neg hno]
    rfl
end Go.Av.G
end
section
set_option maxRecDepth 4000
set_option maxHeartbeats 4000000
namespace Go.Av.G
open Go Go.Av Go.Proofs
theorem contains_nil(sub:List UInt8):Lib.contains [] sub=sub.isEmpty:=by
 unfold Lib.contains Lib.index
 cases sub<;>rfl
theorem contains_cons(b:UInt8)(l sub:List UInt8):Lib.contains (b::l) sub=(sub.isPrefixOf (b::l)||Lib.contains l sub):=by
 unfold Lib.contains
 have h:=Lib.index_ge l sub
 rw[show Lib.index (b::l) sub=if sub.isPrefixOf (b::l) then 0 else if Lib.index l sub== -1 then -1 else Lib.index l sub+1 from by rw[Lib.index]]
 cases hp:sub.isPrefixOf (b::l) with
 |true=>simp
 |false=>
  simp only[Bool.false_eq_true,if_false,Bool.false_or]
  by_cases he:Lib.index l sub= -1
  ·simp[he]
  ·have h1:(Lib.index l sub== -1)=false:=by simpa using he
   rw[h1]
   simp only[Bool.false_eq_true,if_false]
   rw[decide_eq_true (show(0:Int)≤Lib.index l sub+1 by omega),decide_eq_true (show(0:Int)≤Lib.index l sub by omega)]
theorem Bkv(c:UInt8): ∀s:List UInt8,Al (fun b=>b !=c) s=s.length↔c∉s
 |[]=>by simp[Jg]
 |b::t=>by
  have ih:=Bkv c t
  have hle:=Ej (fun b=>b !=c) t
  rw[Df,List.length_cons,List.mem_cons]
  by_cases h:b=c
  ·subst h;simp
  ·have h2:(b !=c)=true:=by simpa using h
   simp only[h2,if_true]
   constructor
   ·intro he hm
    rcases hm with rfl|hm
    ·exact h rfl
    ·exact ih.1 (by omega) hm
   ·intro hm
    have:=ih.2 (fun q=>hm (.inr q))
    omega
theorem index_one(c:UInt8): ∀s:List UInt8,Lib.index s [c]=Lib.indexByte s c
 |[]=>rfl
 |b::t=>by
  unfold Lib.index Lib.indexByte
  rw[index_one c t]
  have:([c]:List UInt8).isPrefixOf (b::t)=(b==c):=by
   simp[List.isPrefixOf]
   rw[Bool.eq_iff_iff]
   simp
   exact eq_comm
  rw[this]
theorem Bsa{b:UInt8}{t:List UInt8}(hl:(b::t).length<4294967281):Ajw (b::t)=some (prI (At7 (b::t))):=by
 have e8:(b.toNat:Int).toNat.toUInt8=b:=by simp
 have hone:decide ((Lib.indexByte [123,125,40,41,91,93,59,58,44,37,61,60,62,43,45,42,47] b)≥0)=decide (b∈Ks):=by
  rw[Jv,Bool.eq_iff_iff,decide_eq_true_eq,decide_eq_true_eq]
  have h:=Bkv b Ks
  change (if Al (fun c=>c !=b) Ks=Ks.length then(-1:Int) else(Al (fun c=>c !=b) Ks:Int))≥0↔b∈Ks
  by_cases he:Al (fun c=>c !=b) Ks=Ks.length
  ·rw[if_pos he]
   have:=h.1 he
   simp[this]
  ·rw[if_neg he]
   constructor
   ·intro _;exact Classical.byContradiction fun q=>he (h.2 q)
   ·intro _;omega
 have tail:((byO (b::t) 0).bind fun x8=>
  (strings_IndexByte [123,125,40,41,91,93,59,58,44,37,61,60,62,43,45,42,47] x8).bind fun x9=>
  if (decide (x9≥0))=true then
   some ((1:Int),(0:Int))
  else
   some (0,14))=some (prI (if b∈Ks then(1,0) else(0,14))):=by
  simp only[Du,Option.bind_some,strings_IndexByte,e8,hone]
  by_cases hm:b∈Ks
  ·simp[hm,prI]
  ·simp[hm,prI]
 unfold Ajw At7
 match t,hl with
 |[],_=>
  have h1:decide ((([b]:List UInt8).length:Int)>1)=false:=by simp
  simp only[h1,Option.bind_some,gdO,Bool.false_and,Bool.false_eq_true,if_false]
  rw[tail]
  simp
 |c::t,hl=>
  have h1:decide (((b::c::t).length:Int)>1)=true:=by simp;omega
  have h2:=Gu (l:=b::c::t) (n:=2) (by simp)
  have e1:((2:Nat):Int)=2:=rfl
  rw[e1] at h2
  have h3:strings_Contains [60,61,32,62,61,32,46,46] [b,c]=some (Lib.contains [60,61,32,62,61,32,46,46] [b,c]):=by
   unfold strings_Contains;rw[if_pos (by simp)]
  have h4:strings_Contains [b,c] [32]=some (Lib.contains [b,c] [32]):=by
   unfold strings_Contains;rw[if_pos (by simp)]
  simp only[h1,Option.bind_some,gdO,h2,List.take_succ_cons,List.take_zero,h3,Bool.true_and]
  have h5:Lib.contains [60,61,32,62,61,32,46,46] [b,c]=(((b==60)&&(c==61))||(((b==61)&&(c==32))||(((b==32)&&(c==62))||(((b==62)&&(c==61))||(((b==61)&&(c==32))||(((b==32)&&(c==46))||((b==46)&&(c==46)))))))):=by
   simp only[contains_cons,contains_nil,List.isPrefixOf,List.isEmpty,Bool.and_true,Bool.or_false,Bool.and_false]
  have h6:Lib.contains [b,c] [32]=((32==b)||(32==c)):=by
   simp only[contains_cons,contains_nil,List.isPrefixOf,List.isEmpty,Bool.and_true,Bool.or_false]
  have hx:(Lib.contains [60,61,32,62,61,32,46,46] [b,c]&& !(Lib.contains [b,c] [32]))=decide ([b,c]=[60,61]∨[b,c]=[62,61]∨[b,c]=[46,46]):=by
   rw[h5,h6,Bool.eq_iff_iff]
   simp only[Bool.and_eq_true,Bool.or_eq_true,beq_iff_eq,Bool.not_eq_true',Bool.or_eq_false_iff,beq_eq_false_iff_ne,decide_eq_true_eq,List.cons.injEq,and_true]
   constructor
   ·rintro⟨h|h|h|h|h|h|h,h7,h8⟩
    ·exact .inl h
    ·exact absurd h.2.symm h8
    ·exact absurd h.1.symm h7
    ·exact .inr (.inl h)
    ·exact absurd h.2.symm h8
    ·exact absurd h.1.symm h7
    ·exact .inr (.inr h)
   ·rintro(⟨rfl,rfl⟩|⟨rfl,rfl⟩|⟨rfl,rfl⟩)
    ·exact⟨.inl ⟨rfl,rfl⟩,by decide,by decide⟩
    ·exact⟨.inr (.inr (.inr (.inl ⟨rfl,rfl⟩))),by decide,by decide⟩
    ·exact⟨.inr (.inr (.inr (.inr (.inr (.inr ⟨rfl,rfl⟩))))),by decide,by decide⟩
  have htk:(b::c::t).take 2=[b,c]:=rfl
  rw[htk] at*
  cases hc:Lib.contains [60,61,32,62,61,32,46,46] [b,c] with
  |false=>
   rw[hc,Bool.false_and] at hx
   have hno: ¬([b,c]=[60,61]∨[b,c]=[62,61]∨[b,c]=[46,46]):=of_decide_eq_false hx.symm
   simp only[gdO,Bool.false_and,Bool.false_eq_true,if_false,Option.bind_some]
   rw[tail]
   simp only[hno,if_false]
  |true=>
   rw[hc,Bool.true_and] at hx
   simp only[gdO,h4,Option.bind_some,Bool.true_and,hx,decide_eq_true_eq]
   by_cases hy:[b,c]=[60,61]∨[b,c]=[62,61]∨[b,c]=[46,46]
   ·simp only[hy,if_true]
    rfl
   ·simp only[hy,if_false]
    simp only[decide_eq_true_eq] at tail
    exact tail
def trI(x:Nat×Nat×Nat):Int×Int×Int:=((x.1:Int),(x.2.1:Int),(x.2.2:Int))
theorem Bkf{b:UInt8}{t:List UInt8}(hl:(b::t).length<4294967281):Xb (b::t)=some (trI (Bm (b::t))):=by
 have c57: ∀n,F2 127 n=Hx n∧F2 129 n=Hk n∧F2 131 n=M6 n∧F2 133 n=Uh n:=fun n=>⟨rfl,rfl,rfl,rfl⟩
 have c58: ∀s,F3 128 s=Ajx s∧F3 130 s=Q5 s∧F3 132 s=Q6 s∧F3 134 s=Ajw s:=fun s=>⟨rfl,rfl,rfl,rfl⟩
 have hL: ∀x:Int,Apr b=decide (97≤(b.toNat:Int)∧(b.toNat:Int)≤122):=fun _=>by
  unfold Apr;rw[Bool.eq_iff_iff];simp;omega
 have hD: ∀x:Int,digB b=decide (48≤(b.toNat:Int)∧(b.toNat:Int)≤57):=fun _=>by
  unfold digB;rw[Bool.eq_iff_iff];simp;omega
 have hQ:((b.toNat:Int)==34)=decide (b=34):=by
  rw[Bool.eq_iff_iff]
  have:=Ama (b:=b) (n:=34) (by omega)
  simp
  constructor
  ·intro h;exact this.1 (by omega)
  ·rintro rfl;rfl
 have r0:rdO ([⟨127,128⟩,⟨129,130⟩,⟨131,132⟩,⟨133,134⟩]:List Br) 0=some ⟨127,128⟩:=rfl
 have r1:rdO ([⟨127,128⟩,⟨129,130⟩,⟨131,132⟩,⟨133,134⟩]:List Br) 1=some ⟨129,130⟩:=rfl
 have r2:rdO ([⟨127,128⟩,⟨129,130⟩,⟨131,132⟩,⟨133,134⟩]:List Br) 2=some ⟨131,132⟩:=rfl
 have r3:rdO ([⟨127,128⟩,⟨129,130⟩,⟨131,132⟩,⟨133,134⟩]:List Br) 3=some ⟨133,134⟩:=rfl
 have d0:decide ((0:Int)<4)=true:=by decide
 have d1:decide ((1:Int)<4)=true:=by decide
 have d2:decide ((2:Int)<4)=true:=by decide
 have d3:decide ((3:Int)<4)=true:=by decide
 have w0:IntKind.wrap .i64 ((0:Int)+1)=1:=by rw[wrap64 (by omega) (by omega)];rfl
 have w1:IntKind.wrap .i64 ((1:Int)+1)=2:=by rw[wrap64 (by omega) (by omega)];rfl
 have w2:IntKind.wrap .i64 ((2:Int)+1)=3:=by rw[wrap64 (by omega) (by omega)];rfl
 have hn:Bm (b::t)=if Apr b=true then(0,Us (b::t)) else if digB b=true then(1,Atx (b::t)) else if b=34 then(2,At3 (b::t)) else(3,At7 (b::t)):=rfl
 unfold Xb Atr
 simp only[Option.bind_some]
 rw[hn]
 cases h1:Apr b with
 |true=>
  have:=hL 0
  rw[h1] at this
  simp only[if_true]
  refine Bg (A1 (o:= .inr (0,(prI (Us (b::t))).1,(prI (Us (b::t))).2)) ?_) rfl
  simp only[d0,if_true,r0,Du,(c57 _).1,M5,←this,(c58 _).1,Bsi,Option.bind_some]
 |false=>
  have hl1:=hL 0
  rw[h1] at hl1
  simp only[Bool.false_eq_true,if_false]
  cases h2:digB b with
  |true=>
   have hd1:=hD 0
   rw[h2] at hd1
   simp only[if_true]
   refine Bg (o:=some _) ?_ ?_ (x:= .inr (1,(prI (Atx (b::t))).1,(prI (Atx (b::t))).2))
   ·rw[Bs (s':=(1:Int)),A1]
    ·simp only[d1,if_true,r1,Du,(c57 _).2.1,Q2,←hd1,(c58 _).2.1,number_eq (show(b::t).length<4611686018427387904 by omega),Option.bind_some]
    ·simp only[d0,if_true,r0,Du,(c57 _).1,M5,←hl1,Option.bind_some,Bool.false_eq_true,if_false,w0]
   ·rfl
  |false=>
   have hd1:=hD 0
   rw[h2] at hd1
   simp only[Bool.false_eq_true,if_false]
   by_cases h3:b=34
   ·rw[if_pos h3]
    have hq1:=hQ
    rw[decide_eq_true h3] at hq1
    refine Bg (o:=some _) ?_ ?_ (x:= .inr (2,(prI (At3 (b::t))).1,(prI (At3 (b::t))).2))
    ·rw[Bs (s':=(1:Int)),Bs (s':=(2:Int)),A1]
     ·simp only[d2,if_true,r2,Du,(c57 _).2.2.1,M6,hq1,(c58 _).2.2.1,Bl9 (show(b::t).length<4611686018427387904 by omega),Option.bind_some]
     ·simp only[d1,if_true,r1,Du,(c57 _).2.1,Q2,←hd1,Option.bind_some,Bool.false_eq_true,if_false,w1]
     ·simp only[d0,if_true,r0,Du,(c57 _).1,M5,←hl1,Option.bind_some,Bool.false_eq_true,if_false,w0]
    ·rfl
   ·rw[if_neg h3]
    have hq1:=hQ
    rw[decide_eq_false h3] at hq1
    refine Bg (o:=some _) ?_ ?_ (x:= .inr (3,(prI (At7 (b::t))).1,(prI (At7 (b::t))).2))
    ·rw[Bs (s':=(1:Int)),Bs (s':=(2:Int)),Bs (s':=(3:Int)),A1]
     ·simp only[d3,if_true,r3,Du,(c57 _).2.2.2,Uh,(c58 _).2.2.2,Bsa hl,Option.bind_some]
     ·simp only[d2,if_true,r2,Du,(c57 _).2.2.1,M6,hq1,Option.bind_some,Bool.false_eq_true,if_false,w2]
     ·simp only[d1,if_true,r1,Du,(c57 _).2.1,Q2,←hd1,Option.bind_some,Bool.false_eq_true,if_false,w1]
     ·simp only[d0,if_true,r0,Du,(c57 _).1,M5,←hl1,Option.bind_some,Bool.false_eq_true,if_false,w0]
    ·rfl
end Go.Av.G
end
section
set_option maxRecDepth 4000
set_option maxHeartbeats 4000000
namespace Go.Av.G
open Go Go.Av Go.Proofs
def Axu(b:UInt8):Bool:=b==32||b==9||b==10
def Bt:Bool→List UInt8→Nat
 |_,[]=>0
 |true,b::t=>if b=10 then 1+Bt false t else 1+Bt true t
 |false,b::t=>if Axu b=true then 1+Bt false t else if b=35 then 1+Bt true t else 0
theorem Ol: ∀(r:Bool) (s:List UInt8),Bt r s≤s.length
 |_,[]=>by simp[Bt]
 |true,b::t=>by
  have h1:=Ol false t
  have h2:=Ol true t
  unfold Bt
  simp only[List.length_cons]
  split<;>omega
 |false,b::t=>by
  have h1:=Ol false t
  have h2:=Ol true t
  unfold Bt
  simp only[List.length_cons]
  split
  ·omega
  ·split<;>omega
theorem Ml: ∀(r:Bool) (s:List UInt8) (m:Nat),Bt r (s.take m)=min (Bt r s) m
 |_,[],m=>by simp[Bt]
 |r,b::t,0=>by simp[Bt]
 |true,b::t,m+1=>by
  have h1:=Ml false t m
  have h2:=Ml true t m
  rw[List.take_succ_cons]
  unfold Bt
  rw[h1,h2]
  split<;>omega
 |false,b::t,m+1=>by
  have h1:=Ml false t m
  have h2:=Ml true t m
  rw[List.take_succ_cons]
  unfold Bt
  rw[h1,h2]
  split
  ·omega
  ·split<;>omega
theorem A1o: ∀s:List UInt8,Bt false s=(s.length-(Lib.trimLeftS s [32,9,10]).length)+Bt false (Lib.trimLeftS s [32,9,10])∧(Lib.trimLeftS s [32,9,10]).length≤s.length∧(∀b t,Lib.trimLeftS s [32,9,10]=b::t→Axu b=false)
 |[]=>by simp[Bt,Lib.trimLeftS]
 |b::t=>by
  obtain⟨h1,h2,h3⟩:=A1o t
  have hc:([32,9,10]:List UInt8).contains b=Axu b:=by
   unfold Axu
   simp only[List.contains_cons,List.contains_nil,Bool.or_false]
   cases b==32<;>cases b==9<;>cases b==10<;>rfl
  unfold Lib.trimLeftS at h1 h2 h3⊢
  rw[List.dropWhile_cons,hc]
  cases hb:Axu b with
  |true=>
   simp only[if_true,List.length_cons]
   rw[Bt,if_pos hb]
   exact⟨by omega,by omega,h3⟩
  |false=>
   simp only[Bool.false_eq_true,if_false,Nat.sub_self,Nat.zero_add]
   exact⟨trivial,Nat.le_refl _,fun b' t' e=>by cases e;exact hb⟩
theorem A1p: ∀t:List UInt8,Bt true t=if Al (fun b=>b !=10) t=t.length then t.length else Al (fun b=>b !=10) t+1+Bt false (t.drop (Al (fun b=>b !=10) t+1))
 |[]=>by simp[Bt,Jg]
 |b::t=>by
  have ih:=A1p t
  have hle:=Ej (fun b=>b !=10) t
  rw[Bt,Df,List.length_cons]
  by_cases hb:b=10
  ·subst hb
   simp
  ·have h2:(b !=10)=true:=by simpa using hb
   rw[if_neg hb,ih]
   simp only[h2,if_true,List.drop_succ_cons]
   by_cases he:Al (fun b=>b !=10) t=t.length
   ·rw[if_pos he,if_pos (by omega)];omega
   ·rw[if_neg he,if_neg (by omega)];omega
theorem Bmh{s:List UInt8}(hl:s.length<4294967281): ∀(n:Nat) (rest:List UInt8),rest.length≤n→rest.length≤s.length→
  A4 (fun(qj2:List UInt8)=>match qj2 with
  |rest3=>(
   (B1 rest3 [32,9,10]).bind fun x4=>
   (strings_HasPrefix x4 [35]).bind fun x5=>
   if (!x5)=true then
    some (.inr (IntKind.wrap .i64 ((s.length:Int)-(x4.length:Int))))
   else
    (strings_Cut x4 [10]).bind fun x6=>
    if (!x6.2.2)=true then
     some (.inr (s.length:Int))
    else
     some (.inl x6.2.1):Option ((List UInt8)⊕Int))) rest=some ((s.length-rest.length+Bt false rest:Nat):Int):=by
 intro n
 induction n with
 |zero=>
  intro rest hn hs
  match rest,hn with
  |[],_=>
   have h1:B1 [] [32,9,10]=some []:=by unfold B1;rw[if_pos (by decide)];rfl
   rw[A1 (o:=(s.length:Int))]
   ·simp[Bt]
   ·have h2:strings_HasPrefix [] [35]=some false:=rfl
    simp only[h1,h2,Option.bind_some,Bool.not_false,if_true]
    rw[wrap64 (by simp<;>omega) (by simp<;>omega)]
    simp
 |succ n ih=>
  intro rest hn hs
  obtain⟨h1,h2,h3⟩:=A1o rest
  have ht:B1 rest [32,9,10]=some (Lib.trimLeftS rest [32,9,10]):=by unfold B1;rw[if_pos (by decide)]
  generalize Lib.trimLeftS rest [32,9,10]=d at h1 h2 h3 ht
  have hstop:(∀t,d≠35::t)→strings_HasPrefix d [35]=some false∧Bt false d=0:=by
   intro hd
   match d,h3,hd with
   |[],_,_=>exact⟨rfl,rfl⟩
   |b::t,h3,hd=>
    have hb:=h3 b t rfl
    have hne:b≠35:=fun e=>hd t (by rw[e])
    refine⟨?_,?_⟩
    ·unfold strings_HasPrefix Lib.hasPrefix
     have:((35:UInt8)==b)=false:=by simpa using fun e=>hne e.symm
     simp[List.isPrefixOf,this]
    ·rw[Bt,if_neg (by simp[hb]),if_neg hne]
  by_cases hd: ∃t,d=35::t
  ·obtain⟨t,rfl⟩:=hd
   have hp:strings_HasPrefix (35::t) [35]=some true:=by unfold strings_HasPrefix Lib.hasPrefix;simp[List.isPrefixOf]
   have hcut:strings_Cut (35::t) [10]=some (Lib.cut (35::t) [10]):=by unfold strings_Cut;rw[if_pos (by omega)]
   have hsk:Bt false (35::t)=1+Bt true t:=by rw[Bt,if_neg (by decide),if_pos rfl]
   have hix:Lib.index (35::t) [10]=if Al (fun b=>b !=10) t=t.length then -1 else((Al (fun b=>b !=10) t+1:Nat):Int):=by
    rw[index_one,Jv,Df]
    simp only[show((35:UInt8)!=10)=true from rfl,if_true,List.length_cons]
    by_cases he:Al (fun b=>b !=10) t=t.length
    ·rw[if_pos he,if_pos (by omega)]
    ·rw[if_neg he,if_neg (by omega)]
   have hle:=Ej (fun b=>b !=10) t
   simp only[List.length_cons] at h1 h2
   have htr:=A1p t
   by_cases he:Al (fun b=>b !=10) t=t.length
   ·rw[if_pos he] at hix htr
    rw[A1 (o:=(s.length:Int))]
    ·congr 1
     omega
    ·have:Lib.cut (35::t) [10]=(35::t,[],false):=by unfold Lib.cut;rw[hix,if_neg (by omega)]
     simp only[ht,hp,hcut,this,Option.bind_some,Bool.not_true,Bool.false_eq_true,if_false,Bool.not_false,if_true]
   ·rw[if_neg he] at hix htr
    have hc:Lib.cut (35::t) [10]=((35::t).take (Al (fun b=>b !=10) t+1),t.drop (Al (fun b=>b !=10) t+1),true):=by
     unfold Lib.cut
     rw[hix,if_pos (by omega)]
     simp
    have hlen:(t.drop (Al (fun b=>b !=10) t+1)).length=t.length-(Al (fun b=>b !=10) t+1):=List.length_drop ..
    rw[Bs (s':=t.drop (Al (fun b=>b !=10) t+1)),ih _ (by omega) (by omega)]
    ·congr 1
     omega
    ·simp only[ht,hp,hcut,hc,Option.bind_some,Bool.not_true,Bool.false_eq_true,if_false]
  ·obtain⟨hp,hz⟩:=hstop (fun t e=>hd ⟨t,e⟩)
   rw[A1 (o:=((s.length-d.length:Nat):Int))]
   ·congr 1
    omega
   ·simp only[ht,hp,Option.bind_some,Bool.not_false,if_true]
    rw[wrap64 (by omega) (by omega)]
    congr 2
    omega
theorem Bkt{s:List UInt8}(hl:s.length<4294967281):Xc s=some (Bt false s:Int):=by
 unfold Xc
 rw[Bmh hl s.length s (Nat.le_refl _) (Nat.le_refl _)]
 simp
def plS(s:List UInt8):Int×Int:=((s.count 10:Int)+1,(s.length:Int)-Lib.lastIndexByte ⟨s.toArray⟩ 10)
theorem Bgq(s:List UInt8):(Lib.lastIndexByte ⟨s.toArray⟩ 10= -1∧10∉s)∨ ∃i:Nat,i<s.length∧Lib.lastIndexByte ⟨s.toArray⟩ 10=i∧s[i]? =some 10∧ ∀j,i<j→s[j]? ≠some 10:=by
 have hsz:(ByteArray.mk s.toArray).size=s.length:=by simp[ByteArray.size]
 have hat: ∀j,j<s.length→((((ByteArray.mk s.toArray).data[j]!).toNat:Int)=10↔s[j]? =some 10):=by
  intro j hj
  have e:(ByteArray.mk s.toArray).data[j]! =s[j]:=by
   simp[hj]
  rw[e,List.getElem?_eq_getElem hj,Option.some.injEq]
  have:=Ama (b:=s[j]) (n:=10) (by omega)
  constructor
  ·intro h;exact this.1 (by omega)
  ·intro h;rw[h];rfl
 have h:=Lib.lastIdx_spec ⟨s.toArray⟩ 10 s.length
 unfold Lib.lastIndexByte
 rw[hsz]
 rcases h with⟨h1,h2⟩|⟨i,h1,h2,h3,h4⟩
 ·refine .inl ⟨h1,fun hm=>?_⟩
  obtain⟨j,hj,he⟩:=List.getElem_of_mem hm
  exact h2 j hj ((hat j hj).2 (by rw[List.getElem?_eq_getElem hj,he]))
 ·refine .inr ⟨i,h1,h2,(hat i h1).1 h3,fun j hij he=>?_⟩
  have hj:j<s.length:=(List.getElem?_eq_some_iff.1 he).1
  exact h4 j hij hj ((hat j hj).2 he)
theorem Bcz{s:List UInt8}(hl:s.length<4611686018427387904):Qm s=some (plS s):=by
 have hr: -1≤Lib.lastIndexByte ⟨s.toArray⟩ 10∧Lib.lastIndexByte ⟨s.toArray⟩ 10<s.length:=by
  rcases Bgq s with⟨h,_⟩|⟨i,h1,h2,_⟩<;>omega
 have hc:s.count 10≤s.length:=List.count_le_length
 unfold Qm plS strings_LastIndexByte strings_Count Lib.countByte
 rw[if_pos hl]
 simp only[Option.bind_some]
 rw[wrap64 (by omega) (by omega),wrap64 (by omega) (by omega)]
end Go.Av.G
end
section
set_option maxRecDepth 4000
set_option maxHeartbeats 4000000
namespace Go.Av.G
open Go Go.Av Go.Proofs
theorem Qq: ∀{s:List UInt8} {k n:Nat},Bm s=(k,n,0)→1≤n∧n≤s.length
 |[],k,n,h=>by simp[Bm] at h
 |b::t,k,n,h=>by
  have hn:Bm (b::t)=if Apr b=true then(0,Us (b::t)) else if digB b=true then(1,Atx (b::t)) else if b=34 then(2,At3 (b::t)) else(3,At7 (b::t)):=rfl
  rw[hn] at h
  by_cases h1:Apr b=true
  ·rw[if_pos h1] at h
   unfold Us at h
   split at h
   ·simp at h
   ·simp only[Prod.mk.injEq] at h
    have hw:Ai3 b=true:=by
     have:=of_decide_eq_true h1
     unfold Ai3;simp;omega
    have:=A1s (t:=t) hw
    have:=Ej Ai3 (b::t)
    omega
  ·rw[if_neg h1] at h
   by_cases h2:digB b=true
   ·rw[if_pos h2] at h
    have hd1:=A1s (t:=t) h2
    have hd2:=Ej digB (b::t)
    have hm:=Arx ((b::t).drop (Al digB (b::t)))
    rw[List.length_drop] at hm
    unfold Atx at h
    split at h
    ·simp at h
    ·split at h
     ·simp only[Prod.mk.injEq] at h
      omega
     ·simp only[Prod.mk.injEq] at h
      omega
   ·rw[if_neg h2] at h
    by_cases h3:b=34
    ·rw[if_pos h3] at h
     have hq:=Ej Cd t
     unfold At3 at h
     simp only[List.drop_succ_cons,List.drop_zero] at h
     split at h
     ·simp at h
     ·split at h
      ·simp at h
      ·simp only[Prod.mk.injEq] at h
       simp only[List.length_cons]
       omega
    ·rw[if_neg h3] at h
     unfold At7 at h
     simp only[List.length_cons]
     by_cases hx:(b::t).take 2=[60,61]∨(b::t).take 2=[62,61]∨(b::t).take 2=[46,46]
     ·simp only[hx,if_true,Prod.mk.injEq] at h
      have:1≤t.length:=by
       match t,hx with
       |[],hx=>simp at hx
       |c::t,_=>simp
      omega
     ·simp only[hx,if_false] at h
      by_cases hm:b∈Ks
      ·simp only[hm,if_true,Prod.mk.injEq] at h;omega
      ·simp[hm] at h
theorem Ayz: ∀{s:List UInt8} {k n m:Nat},Bm s=(k,n,0)→n≤m→Bm (s.take m)=(k,n,0)
 |[],k,n,m,h,_=>by simp[Bm] at h
 |b::t,k,n,m,h,hm=>by
  have hlen:=Qq h
  obtain⟨m,rfl⟩: ∃m',m=m'+1:=⟨m-1,by omega⟩
  have hn: ∀t,Bm (b::t)=if Apr b=true then(0,Us (b::t)) else if digB b=true then(1,Atx (b::t)) else if b=34 then(2,At3 (b::t)) else(3,At7 (b::t)):=fun _=>rfl
  rw[List.take_succ_cons,hn]
  rw[hn] at h
  have htk:b::t.take m=(b::t).take (m+1):=rfl
  by_cases h1:Apr b=true
  ·rw[if_pos h1] at h⊢
   rw[htk]
   unfold Us at h⊢
   rw[Mm]
   split at h
   ·simp at h
   ·rename_i hw
    simp only[Prod.mk.injEq] at h
    have:min (Al Ai3 (b::t)) (m+1)=Al Ai3 (b::t):=by omega
    rw[this,if_neg hw]
    simp[h.1,h.2]
  ·rw[if_neg h1] at h⊢
   by_cases h2:digB b=true
   ·rw[if_pos h2] at h⊢
    rw[htk]
    generalize hs:b::t=s at h hlen⊢
    have hhead:(s.take (m+1)).head?=s.head?:=by rw[←hs];rfl
    unfold Atx at h⊢
    rw[Mm,hhead]
    split at h
    ·simp at h
    ·rename_i hno
     have hdm:Al digB s≤m+1:=by
      split at h<;>(simp only[Prod.mk.injEq] at h;omega)
     have hmin:min (Al digB s) (m+1)=Al digB s:=by omega
     have hmore:E6 ((s.take (m+1)).drop (Al digB s))=E6 (s.drop (Al digB s)):=by
      rw[List.drop_take]
      generalize hr:s.drop (Al digB s)=r at h
      by_cases hz:0<E6 r
      ·rw[if_pos hz] at h
       simp only[Prod.mk.injEq] at h
       unfold E6 at h hz⊢
       match r,h,hz with
       |[],h,hz=>simp at hz
       |[x],h,hz=>simp at hz
       |x::y::u,h,hz=>
        simp only at h hz
        by_cases hx:x=46
        ·rw[if_pos hx] at h hz
         obtain⟨q,hq⟩: ∃q,m+1-Al digB s=q+2:=⟨m+1-Al digB s-2,by omega⟩
         rw[hq,List.take_succ_cons,List.take_succ_cons]
         simp only
         rw[if_pos hx,if_pos hx,←List.take_succ_cons,Mm]
         omega
        ·rw[if_neg hx] at hz;omega
      ·have h0:E6 r=0:=by omega
       rw[h0]
       unfold E6 at h0⊢
       match r,h0 with
       |[],_=>simp
       |[x],_=>cases m+1-Al digB s<;>simp
       |x::y::u,h0=>
        simp only at h0
        match m+1-Al digB s with
        |0=>rfl
        |1=>rfl
        |q+2=>
         rw[List.take_succ_cons,List.take_succ_cons]
         simp only
         by_cases hx:x=46
         ·rw[if_pos hx] at h0⊢
          rw[←List.take_succ_cons,Mm]
          omega
         ·rw[if_neg hx]
     rw[hmin,hmore,if_neg hno]
     exact h
   ·rw[if_neg h2] at h⊢
    by_cases h3:b=34
    ·rw[if_pos h3] at h⊢
     unfold At3 at h⊢
     simp only[List.drop_succ_cons,List.drop_zero] at h⊢
     have hq:=Ej Cd t
     split at h
     ·simp at h
     ·rename_i hne
      split at h
      ·simp at h
      ·rename_i hno
       simp only[Prod.mk.injEq] at h
       have hmin:min (Al Cd t) m=Al Cd t:=by omega
       rw[Mm,hmin,List.length_take,List.take_take,hmin,if_neg (by omega),if_neg hno]
       obtain⟨rfl,rfl,_⟩:=h
       rfl
    ·rw[if_neg h3] at h⊢
     rw[htk]
     unfold At7 at h⊢
     rw[List.take_take]
     by_cases hx:(b::t).take 2=[60,61]∨(b::t).take 2=[62,61]∨(b::t).take 2=[46,46]
     ·simp only[hx,if_true,Prod.mk.injEq] at h
      have:min 2 (m+1)=2:=by omega
      rw[this]
      simp only[hx,if_true]
      simp[h.1,h.2]
     ·simp only[hx,if_false] at h
      have hy: ¬((b::t).take (min 2 (m+1))=[60,61]∨(b::t).take (min 2 (m+1))=[62,61]∨(b::t).take (min 2 (m+1))=[46,46]):=by
       by_cases hm2:1≤m
       ·rw[Nat.min_eq_left (by omega)];exact hx
       ·have:min 2 (m+1)=1:=by omega
        rw[this]
        simp
      simp only[hy,if_false,List.take_succ_cons]
      exact h
def W8:Nat→List UInt8→Nat→Nat→List (Nat×Nat×Nat)⊕(Nat×Nat)
 |0,_,_,_=> .inl []
 |f+1,rest,at_,k=>
  if rest=[] then .inl []
  else if (Bm rest).2.2≠0 then .inr (at_,(Bm rest).2.2)
  else if k=1500 then .inr (at_,6)
  else match W8 f ((rest.drop (Bm rest).2.1).drop (Bt false (rest.drop (Bm rest).2.1))) (at_+(Bm rest).2.1+Bt false (rest.drop (Bm rest).2.1)) (k+1) with
   | .inl l=> .inl ((at_,(Bm rest).1,(Bm rest).2.1)::l)
   | .inr e=> .inr e
def A12(text:List UInt8)(x:Nat×Nat×Nat):Ah:=⟨(x.2.1:Int),(plS (text.take x.1)).1,(plS (text.take x.1)).2,(text.drop x.1).take x.2.2⟩
def Avk(text:List UInt8):List (Nat×Nat×Nat)⊕(Nat×Nat):=W8 (text.length+1) (text.drop (Bt false text)) (Bt false text) 0
theorem Bnp{text:List UInt8}(hl:text.length≤8000): ∀(f at_:Nat) (row:List Ah),at_≤text.length→text.length-at_<f→row.length≤1500→
  A4 (fun(qj3:Int×(List Ah))=>match qj3 with
   |(at_4,row5)=>(
    if (decide (at_4<(text.length:Int)))=true then
     (slO text at_4 (text.length:Int)).bind fun x6=>
     (Xb x6).bind fun x7=>
     if (x7.2.2 !=0)=true then
      some (.inr (.inr (([]:List Ah),at_4,x7.2.2)))
     else
      if ((row5.length:Int)==1500)=true then
       some (.inr (.inr (([]:List Ah),at_4,6)))
      else
       (slO text 0 at_4).bind fun x8=>
       (Qm x8).bind fun x9=>
       (slO text at_4 (IntKind.wrap .i64 (at_4+x7.2.1))).bind fun x10=>
       (apO 40 row5 [(⟨x7.1,x9.1,x9.2,x10⟩:Ah)]).bind fun x11=>
       (slO text (IntKind.wrap .i64 (at_4+x7.2.1)) (text.length:Int)).bind fun x12=>
       (Xc x12).bind fun x13=>
       some (.inl (IntKind.wrap .i64 ((IntKind.wrap .i64 (at_4+x7.2.1))+x13),x11))
    else
     some (.inr (.inl row5)):Option ((Int×(List Ah))⊕((List Ah)⊕((List Ah)×Int×Int))))) ((at_:Int),row)
   =some (match W8 f (text.drop at_) at_ row.length with| .inl l=> .inl (row++l.map (A12 text))| .inr e=> .inr ([],(e.1:Int),(e.2:Int))):=by
 intro f
 induction f with
 |zero=>intro at_ row h1 h2;omega
 |succ f ih=>
  intro at_ row h1 h2 h3
  by_cases he:at_=text.length
  ·subst he
   rw[A1 (o:= .inl row)]
   ·simp[W8]
   ·have:decide (((text.length:Nat):Int)<(text.length:Int))=false:=by simp
    simp only[this,Bool.false_eq_true,if_false]
  ·have hlt:at_<text.length:=by omega
   have hd:decide ((at_:Int)<(text.length:Int))=true:=by simp;omega
   have hrest:text.drop at_≠[]:=by simp;omega
   obtain⟨b,t,hbt⟩: ∃b t,text.drop at_=b::t:=by
    cases hx:text.drop at_ with
    |nil=>exact absurd hx hrest
    |cons b t=>exact⟨b,t,rfl⟩
   have hlr:(b::t).length=text.length-at_:=by rw[←hbt,List.length_drop]
   have hnext:=Bkf (b:=b) (t:=t) (by omega)
   rw[←hbt] at hnext
   have hs1:=Kk (l:=text) (n:=at_) h1
   have hs2:=Gu (l:=text) (n:=at_) h1
   rw[W8,if_neg hrest]
   generalize hnx:Bm (text.drop at_)=nx at hnext
   obtain⟨k,n,e⟩:=nx
   simp only[trI] at hnext
   by_cases hee:e=0
   ·subst hee
    obtain⟨hn1,hn2⟩:=Qq hnx
    rw[List.length_drop] at hn2
    simp only[ne_eq,not_true_eq_false,if_false]
    by_cases hfull:row.length=1500
    ·rw[if_pos hfull,A1 (o:= .inr ([],(at_:Int),6))]
     ·rfl
     ·have:((row.length:Int)==1500)=true:=by simp[hfull]
      simp only[hd,if_true,hs1,hnext,Option.bind_some,Int.natCast_zero,bne_self_eq_false,Bool.false_eq_true,if_false,this]
    ·rw[if_neg hfull]
     have e1:IntKind.wrap .i64 ((at_:Int)+(n:Int))=((at_+n:Nat):Int):=by rw[wrap64 (by omega) (by omega)];omega
     have hs3:=Bku (l:=text) (a:=at_) (b:=at_+n) (by omega) (by omega)
     have hs4:=Kk (l:=text) (n:=at_+n) (by omega)
     have hdd:text.drop (at_+n)=(text.drop at_).drop n:=by rw[List.drop_drop]
     have hsk:=Ol false ((text.drop at_).drop n)
     rw[List.length_drop,List.length_drop] at hsk
     have hskip:=Bkt (s:=(text.drop at_).drop n) (by rw[List.length_drop,List.length_drop];omega)
     have e2:IntKind.wrap .i64 (((at_+n:Nat):Int)+(Bt false ((text.drop at_).drop n):Int))=((at_+n+Bt false ((text.drop at_).drop n):Nat):Int):=by rw[wrap64 (by omega) (by omega)];omega
     have hpl:=Bcz (s:=text.take at_) (by simp;omega)
     have hap: ∀x:Ah,apO 40 row [x]=some (row++[x]):=fun x=>by
      unfold apO
      rw[if_pos (by simp;omega)]
     have hmid:(text.take (at_+n)).drop at_=(text.drop at_).take n:=by rw[List.drop_take];congr 1;omega
     have hlen:((row.length:Int)==1500)=false:=by simp;omega
     rw[Bs (s':=(((at_+n+Bt false ((text.drop at_).drop n):Nat):Int),row++[A12 text (at_,k,n)])),ih (at_+n+Bt false ((text.drop at_).drop n)) (row++[A12 text (at_,k,n)]) (by omega) (by omega) (by simp;omega)]
     ·have hdr:text.drop (at_+n+Bt false ((text.drop at_).drop n))=((text.drop at_).drop n).drop (Bt false ((text.drop at_).drop n)):=by
       rw[List.drop_drop,List.drop_drop]
      rw[hdr,List.length_append,List.length_singleton]
      cases W8 f (((text.drop at_).drop n).drop (Bt false ((text.drop at_).drop n))) (at_+n+Bt false ((text.drop at_).drop n)) (row.length+1) with
      |inl l=>simp
      |inr e=>rfl
     ·simp only[hd,if_true,hs1,hnext,Option.bind_some,Int.natCast_zero,bne_self_eq_false,Bool.false_eq_true,if_false,hlen,hs2,hpl,e1,hs3,hmid,hap,hs4,hdd,hskip,e2]
      rfl
   ·have hne:((e:Int)!=0)=true:=by simp;omega
    simp only[ne_eq,hee,not_false_eq_true,if_true]
    rw[A1 (o:= .inr ([],(at_:Int),(e:Int)))]
    simp only[hd,if_true,hs1,hnext,Option.bind_some,hne]
theorem Bta{text:List UInt8}(hl:text.length≤8000):Ab3 text=some (match Avk text with| .inl l=>(l.map (A12 text),0,0)| .inr e=>([],(e.1:Int),(e.2:Int))):=by
 have hs:=Ol false text
 unfold Ab3 Avk
 have h1:decide ((text.length:Int)>8000)=false:=decide_eq_false (by omega)
 simp only[h1,Bool.false_eq_true,if_false,Bkt (show text.length<4294967281 by omega),Option.bind_some]
 have:=Bnp hl (text.length+1) (Bt false text) [] hs (by omega) (by simp)
 refine Bg this ?_
 simp only[List.length_nil]
 cases W8 (text.length+1) (text.drop (Bt false text)) (Bt false text) 0 with
 |inl l=>simp
 |inr e=>rfl
theorem Bno{text:List UInt8}(hl:8000<text.length):Ab3 text=some ([],0,4):=by
 unfold Ab3
 have h1:decide ((text.length:Int)>8000)=true:=decide_eq_true (by omega)
 simp only[h1,if_true]
end Go.Av.G
end
section
set_option maxRecDepth 4000
set_option maxHeartbeats 4000000
namespace Go.Av.G
open Go Go.Av Go.Proofs
theorem Arr: ∀(f:Nat) (rest:List UInt8) (at_ k p e:Nat),W8 f rest at_ k= .inr (p,e)→e≠0∧at_≤p∧p<at_+rest.length
 |0,rest,at_,k,p,e,h=>by simp[W8] at h
 |f+1,rest,at_,k,p,e,h=>by
  rw[W8] at h
  by_cases h0:rest=[]
  ·rw[if_pos h0] at h;cases h
  ·rw[if_neg h0] at h
   have hpos:0<rest.length:=List.length_pos_iff.2 h0
   by_cases h1:(Bm rest).2.2=0
   ·rw[if_neg (not_not_intro h1)] at h
    obtain⟨hn1,hn2⟩:=Qq (s:=rest) (k:=(Bm rest).1) (n:=(Bm rest).2.1) (by rw[←h1])
    by_cases h2:k=1500
    ·rw[if_pos h2] at h
     cases h
     exact⟨by omega,by omega,by omega⟩
    ·rw[if_neg h2] at h
     have hsk:=Ol false (rest.drop (Bm rest).2.1)
     have hl1:(rest.drop (Bm rest).2.1).length=rest.length-(Bm rest).2.1:=List.length_drop ..
     have hl2:((rest.drop (Bm rest).2.1).drop (Bt false (rest.drop (Bm rest).2.1))).length=(rest.drop (Bm rest).2.1).length-Bt false (rest.drop (Bm rest).2.1):=List.length_drop ..
     split at h
     ·cases h
     ·rename_i e' hr
      cases h
      obtain⟨a1,a2,a3⟩:=Arr f _ _ _ _ _ hr
      exact⟨a1,by omega,by omega⟩
   ·rw[if_pos h1] at h
    cases h
    exact⟨h1,Nat.le_refl _,by omega⟩
theorem Ayh: ∀(f:Nat) (rest:List UInt8) (at_ k p e:Nat),W8 f rest at_ k= .inr (p,e)→ ∀f',p-at_<f'→ ∃l,W8 f' (rest.take (p-at_)) at_ k= .inl l
 |0,rest,at_,k,p,e,h,f',hf=>by simp[W8] at h
 |f+1,rest,at_,k,p,e,h,0,hf=>by omega
 |f+1,rest,at_,k,p,e,h,f'+1,hf=>by
  have hb:=Arr _ _ _ _ _ _ h
  rw[W8] at h
  by_cases h0:rest=[]
  ·rw[if_pos h0] at h;cases h
  ·rw[if_neg h0] at h
   by_cases h1:(Bm rest).2.2=0
   ·rw[if_neg (not_not_intro h1)] at h
    have hnx:Bm rest=((Bm rest).1,(Bm rest).2.1,0):=by rw[←h1]
    by_cases h2:k=1500
    ·rw[if_pos h2] at h
     cases h
     exact⟨[],by simp[W8]⟩
    ·rw[if_neg h2] at h
     split at h
     ·cases h
     ·rename_i e' hr
      cases h
      obtain⟨a1,a2,a3⟩:=Arr f _ _ _ _ _ hr
      obtain⟨hn1,hn2⟩:=Qq hnx
      have htk:=Ayz (m:=p-at_) hnx (by omega)
      have hne:rest.take (p-at_)≠[]:=by
       intro q
       have:=congrArg List.length q
       rw[List.length_take] at this
       simp only[List.length_nil] at this
       omega
      rw[W8,if_neg hne,htk]
      simp only[ne_eq,not_true_eq_false,if_false,if_neg h2]
      have hdt:(rest.take (p-at_)).drop (Bm rest).2.1=(rest.drop (Bm rest).2.1).take (p-at_-(Bm rest).2.1):=List.drop_take ..
      have hsk:Bt false ((rest.take (p-at_)).drop (Bm rest).2.1)=Bt false (rest.drop (Bm rest).2.1):=by
       rw[hdt,Ml];omega
      obtain⟨l,hl⟩:=Ayh f _ _ _ _ _ hr f' (by omega)
      have hdd:((rest.take (p-at_)).drop (Bm rest).2.1).drop (Bt false (rest.drop (Bm rest).2.1))=((rest.drop (Bm rest).2.1).drop (Bt false (rest.drop (Bm rest).2.1))).take (p-(at_+(Bm rest).2.1+Bt false (rest.drop (Bm rest).2.1))):=by
       rw[hdt,List.drop_take]
       congr 1
       omega
      rw[hsk,hdd,hl]
      exact⟨_,rfl⟩
   ·rw[if_pos h1] at h
    cases h
    exact⟨[],by simp[W8]⟩
theorem Bq5{text:List UInt8}{p e:Nat}(h:Avk text= .inr (p,e)):e≠0∧p<text.length∧ ∃l,Avk (text.take p)= .inl l:=by
 unfold Avk at h
 have hs:=Ol false text
 obtain⟨h1,h2,h3⟩:=Arr _ _ _ _ _ _ h
 rw[List.length_drop] at h3
 refine⟨h1,by omega,?_⟩
 have hlen:(text.take p).length=p:=by rw[List.length_take];omega
 obtain⟨l,hl⟩:=Ayh _ _ _ _ _ _ h (p+1) (by omega)
 refine⟨l,?_⟩
 unfold Avk
 have hsk:Bt false (text.take p)=Bt false text:=by rw[Ml];omega
 rw[hsk,hlen,List.drop_take]
 exact hl
theorem Bui{α:Type}(l:List α)(a b c:Nat):((l.drop a).drop b).drop c=l.drop (a+b+c):=by
 rw[List.drop_drop,List.drop_drop,Nat.add_assoc]
def Aog(text:List UInt8):Nat→List (Nat×Nat×Nat)→Prop
 |_,[]=>True
 |at_,x::l=>at_≤x.1∧x.1<text.length∧Bm (text.drop x.1)=(x.2.1,x.2.2,0)∧Aog text (x.1+x.2.2) l
theorem Aog.ahead{text:List UInt8}{a b:Nat}(hab:a≤b): ∀{l:List (Nat×Nat×Nat)},Aog text b l→Aog text a l
 |[],_=>trivial
 |x::l,h=>⟨Nat.le_trans hab h.1,h.2⟩
theorem Ayg{text:List UInt8}: ∀(f at_ k:Nat) (l:List (Nat×Nat×Nat)),W8 f (text.drop at_) at_ k= .inl l→Aog text at_ l
 |0,at_,k,l,h=>by simp[W8] at h;subst h;trivial
 |f+1,at_,k,l,h=>by
  rw[W8] at h
  by_cases h0:text.drop at_=[]
  ·rw[if_pos h0] at h;cases h;trivial
  ·rw[if_neg h0] at h
   have hpos:0<(text.drop at_).length:=List.length_pos_iff.2 h0
   rw[List.length_drop] at hpos
   by_cases h1:(Bm (text.drop at_)).2.2=0
   ·rw[if_neg (not_not_intro h1)] at h
    have hnx:Bm (text.drop at_)=((Bm (text.drop at_)).1,(Bm (text.drop at_)).2.1,0):=by rw[←h1]
    by_cases h2:k=1500
    ·rw[if_pos h2] at h;cases h
    ·rw[if_neg h2] at h
     split at h
     ·rename_i l' hr
      cases h
      have hdr:((text.drop at_).drop (Bm (text.drop at_)).2.1).drop (Bt false ((text.drop at_).drop (Bm (text.drop at_)).2.1))=text.drop (at_+(Bm (text.drop at_)).2.1+Bt false ((text.drop at_).drop (Bm (text.drop at_)).2.1)):=Bui _ _ _ _
      rw[hdr] at hr
      exact⟨Nat.le_refl _,by omega,hnx,Aog.ahead (Nat.le_add_right _ _) (Ayg f _ _ _ hr)⟩
     ·cases h
   ·rw[if_pos h1] at h;cases h
end Go.Av.G
end
section
set_option maxRecDepth 4000
set_option maxHeartbeats 4000000
namespace Go.Av.G
open Go Go.Av Go.Proofs
def okT(t:Ah):Bool:=decide (((Bm t.Ag).1:Int)=t.Ac∧(Bm t.Ag).2.1=t.Ag.length∧(Bm t.Ag).2.2=0)
theorem Bpj{t:Ah}(h:okT t=true): ∃k:Nat,t.Ac=(k:Int)∧Bm t.Ag=(k,t.Ag.length,0):=by
 obtain⟨h1,h2,h3⟩:=of_decide_eq_true h
 exact⟨(Bm t.Ag).1,h1.symm,by rw[←h2,←h3]⟩
theorem Bba{t:Ah}(hl:t.Ag.length<4294967281):Xa t=some (okT t):=by
 unfold Xa okT
 cases ht:t.Ag with
 |nil=>
  have e0:(([]:List UInt8)==[])=true:=rfl
  rw[if_pos e0]
  simp[Bm]
 |cons b u=>
  rw[ht] at hl
  have he:((b::u:List UInt8)==[])=false:=rfl
  simp only[he,Bool.false_eq_true,if_false,Bkf hl,trI,Option.bind_some,Option.some.injEq]
  rw[Bool.eq_iff_iff]
  simp only[Bool.and_eq_true,beq_iff_eq,decide_eq_true_eq]
  constructor
  ·rintro⟨⟨h1,h2⟩,h3⟩
   exact⟨h2,by omega,by omega⟩
  ·rintro⟨h1,h2,h3⟩
   exact⟨⟨by omega,h1⟩,by omega⟩
def Be5(l:List Ah):Nat:=(l.map fun t=>t.Ag.length).sum
end Go.Av.G
end
section
set_option maxRecDepth 4000
set_option maxHeartbeats 4000000
namespace Go.Av.G
open Go Go.Av Go.Proofs
theorem Bqd{l:List Ah}{t:Ah}(h:t∈l):t.Ag.length≤Be5 l:=by
 induction l with
 |nil=>cases h
 |cons u l ih=>
  simp only[Be5,List.map_cons,List.sum_cons]
  rcases List.mem_cons.1 h with rfl|h
  ·omega
  ·have:=ih h
   unfold Be5 at this
   omega
theorem Aog.toks{text:List UInt8}: ∀{l:List (Nat×Nat×Nat)} {at_:Nat},Aog text at_ l→at_≤text.length→l.length+at_≤text.length∧Be5 (l.map (A12 text))+at_≤text.length∧ ∀t∈l.map (A12 text),okT t=true
 |[],at_,_,h=>by simp[Be5];omega
 |x::l,at_,hc,h=>by
  obtain⟨c1,c2,c3,c4⟩:=hc
  obtain⟨n1,n2⟩:=Qq c3
  rw[List.length_drop] at n2
  obtain⟨i1,i2,i3⟩:=Aog.toks c4 (by omega)
  have htl:(A12 text x).Ag.length=x.2.2:=by
   show((text.drop x.1).take x.2.2).length=_
   rw[List.length_take,List.length_drop];omega
  refine⟨by simp only[List.length_cons];omega,?_,?_⟩
  ·unfold Be5 at i2⊢
   simp only[List.map_cons,List.sum_cons,htl]
   omega
  ·intro t ht
   rw[List.map_cons,List.mem_cons] at ht
   rcases ht with rfl|ht
   ·have h3:=Ayz (m:=x.2.2) c3 (Nat.le_refl _)
    unfold okT
    refine decide_eq_true ?_
    rw[htl]
    have hT:(A12 text x).Ag=(text.drop x.1).take x.2.2:=rfl
    rw[hT,h3]
    exact⟨rfl,rfl,rfl⟩
   ·exact i3 t ht
theorem Bnr{text:List UInt8}(hl:text.length≤8000){l:List (Nat×Nat×Nat)}(h:Avk text= .inl l):l.length≤text.length∧Be5 (l.map (A12 text))≤text.length∧ ∀t∈l.map (A12 text),okT t=true:=by
 have hch:Aog text 0 l:=by
  unfold Avk at h
  exact(Ayg _ _ _ _ h).ahead (Nat.zero_le _)
 have:=hch.toks (Nat.zero_le _)
 exact⟨by omega,by omega,this.2.2⟩
end Go.Av.G
end
section
set_option maxRecDepth 4000
set_option maxHeartbeats 4000000
namespace Go.Av.G
open Go Go.Av Go.Proofs
theorem Aud{f:Int→Option (Int⊕Int)}{s:List UInt8}{q:UInt8→Bool}(hl:s.length<4611686018427387904)
  (hin: ∀(i:Nat) (h:i<s.length),f i=some (if q s[i]=true then .inl (IntKind.wrap .i64 ((i:Int)+1)) else .inr (i:Int)))
  (hout:f (s.length:Int)=some (.inr (s.length:Int))): ∀(n i:Nat),s.length-i=n→i≤s.length→A4 f (i:Int)=some ((i+Al q (s.drop i):Nat):Int):=by
 intro n
 induction n with
 |zero=>
  intro i h1 h2
  have:i=s.length:=by omega
  subst this
  rw[A1 hout];simp[Jg]
 |succ n ih=>
  intro i h1 h2
  have hi:i<s.length:=by omega
  have h:=hin i hi
  rw[List.drop_eq_getElem_cons hi,Df]
  by_cases hq:q s[i]=true
  ·rw[if_pos hq,wrap64 (by omega) (by omega),show(i:Int)+1=((i+1:Nat):Int) from rfl] at h
   rw[Bs h,if_pos hq,ih (i+1) (by omega) (by omega)]
   congr 2;omega
  ·rw[if_neg hq] at h
   rw[A1 h,if_neg hq];rfl
theorem Bun(b:UInt8):decide ((97:Int)≤(b.toNat:Int)∧(b.toNat:Int)≤122)=Apr b:=decide_eq_decide.2 (by omega)
theorem Brd(b:UInt8):decide ((48:Int)≤(b.toNat:Int)∧(b.toNat:Int)≤57)=digB b:=decide_eq_decide.2 (by omega)
theorem A1e(n:Int):Di n=some (decide (97≤n∧n≤122)):=by simp[Di]
theorem Amv(n:Int):B2 n=some (decide (48≤n∧n≤57)):=by simp[B2]
theorem Aw9{b:UInt8}{n:Nat}(hn:n<256):((b.toNat:Int)==(n:Int))=decide (b=UInt8.ofNat n):=by
 rw[Bool.eq_iff_iff,decide_eq_true_eq,beq_iff_eq,←Ama (b:=b) hn]
 omega
theorem A1d{s:List UInt8}(hl:s.length<4611686018427387904):Cw s=some (Al digB s:Int):=by
 unfold Cw
 refine Bg (Aud (q:=digB) hl ?_ ?_ s.length 0 (by omega) (by omega)) (by simp)
 ·intro i hi
  have hd:decide ((i:Int)<(s.length:Int))=true:=decide_eq_true (by omega)
  simp only[hd,Option.bind_some,Aja hi,A6,cond_true,Amv,Brd,Bool.true_and]
  split<;>rfl
 ·have hd:decide ((s.length:Int)<(s.length:Int))=false:=decide_eq_false (by omega)
  simp only[hd,Option.bind_some,gdO,cond_false,Bool.false_and,Bool.false_eq_true,if_false]
def reT(x:Nat×Nat×Nat):Ae:=if x.2.2=0 then⟨(x.1:Int),(x.2.1:Int),0⟩ else⟨0,0,(x.2.2:Int)⟩
theorem Bp3{s:List UInt8}(hl:s.length<4611686018427387904):Gf s=some (reT (0,Us s)):=by
 unfold Gf
 refine Bg (Aud (q:=Ai3) hl ?_ ?_ s.length 0 (by omega) (by omega)) ?_
 ·intro i hi
  have hd:decide ((i:Int)<(s.length:Int))=true:=decide_eq_true (by omega)
  have hw:(Apr s[i]||digB s[i]||((s[i].toNat:Int)==95))=Ai3 s[i]:=by
   have h95:((s[i].toNat:Int)==95)=decide (s[i].toNat=95):=by
    rw[Bool.eq_iff_iff,decide_eq_true_eq,beq_iff_eq];omega
   rw[h95]
   unfold Apr digB Ai3
   rw[Bool.eq_iff_iff]
   simp
   omega
  simp only[hd,Option.bind_some,Aja hi,A6,cond_true,A1e,Bun,Bool.true_and]
  cases h1:Apr s[i] with
  |true=>
   rw[h1] at hw
   simp only[Bool.true_or] at hw
   simp only[gdO,Bool.not_true,cond_false,Option.bind_some,Bool.true_or,if_true,←hw]
  |false=>
   rw[h1] at hw
   simp only[Bool.not_false,cond_true,Amv,Brd,A6,Option.bind_some,Bool.false_or]
   cases h2:digB s[i] with
   |true=>
    rw[h2] at hw
    simp only[Bool.false_or,Bool.true_or] at hw
    simp only[gdO,Bool.not_true,cond_false,Option.bind_some,Bool.true_or,if_true,←hw]
   |false=>
    rw[h2] at hw
    simp only[Bool.false_or] at hw
    simp only[Bool.not_false,cond_true,Bool.false_or,hw]
    split<;>rfl
 ·have hd:decide ((s.length:Int)<(s.length:Int))=false:=decide_eq_false (by omega)
  simp only[hd,Option.bind_some,gdO,cond_false,Bool.false_and,Bool.false_eq_true,if_false]
 ·simp only[Nat.zero_add,List.drop_zero,Us]
  by_cases h:32<Al Ai3 s
  ·rw[if_pos (decide_eq_true (by omega)),if_pos h];rfl
  ·rw[if_neg (by simp;omega),if_neg h];rfl
theorem Bpw{α:Type}{s:List UInt8}(hl:s.length<4611686018427387904){d:Nat}(hd:d≤s.length)(F:Int→Option α):
  ((some (decide ((IntKind.wrap .i64 ((d:Int)+1))<(s.length:Int)))).bind fun c3=>
 (gdO c3 (byO s (d:Int)) 0).bind fun x4=>
 (some (c3&&(x4==46))).bind fun c5=>
 (gdO c5 (byO s (IntKind.wrap .i64 ((d:Int)+1))) 0).bind fun x6=>
 (gdO c5 (B2 x6) (default:Bool)).bind fun x7=>
 ((if (c5&&x7)=true then
   (slO s (IntKind.wrap .i64 ((d:Int)+1)) (s.length:Int)).bind fun x9=>
   (Cw x9).bind fun x10=>
   some x10
 else
  some 0):Option Int).bind F)=F (E6 (s.drop d):Int):=by
 have e1:IntKind.wrap .i64 ((d:Int)+1)=((d+1:Nat):Int):=by rw[wrap64 (by omega) (by omega)];rfl
 rw[e1]
 by_cases h1:d+1<s.length
 ·have hc:decide (((d+1:Nat):Int)<(s.length:Int))=true:=decide_eq_true (by omega)
  have hdr:s.drop d=s[d]::s[d+1]::s.drop (d+2):=by
   rw[List.drop_eq_getElem_cons (show d<s.length by omega),List.drop_eq_getElem_cons h1]
  have hdr1:s.drop (d+1)=s[d+1]::s.drop (d+2):=List.drop_eq_getElem_cons h1
  have h46:((s[d].toNat:Int)==46)=decide (s[d]=46):=Aw9 (n:=46) (by omega)
  have hm:E6 (s.drop d)=if s[d]=46 then Al digB (s[d+1]::s.drop (d+2)) else 0:=by rw[hdr];rfl
  simp only[hc,Option.bind_some,A6,Aja (show d<s.length by omega),cond_true,h46,Bool.true_and]
  rw[hm]
  by_cases h2:s[d]=46
  ·simp only[h2,decide_true,Aja h1,A6,cond_true,Option.bind_some,Amv,Brd,Bool.true_and,if_true]
   cases h3:digB s[d+1] with
   |true=>
    have hs:=Kk (l:=s) (n:=d+1) (by omega)
    have hr:=A1d (s:=s.drop (d+1)) (by rw[List.length_drop];omega)
    simp only[if_true,hs,Option.bind_some,hr]
    rw[hdr1]
   |false=>
    simp only[Df,h3,Bool.false_eq_true,if_false]
    rfl
  ·simp only[h2,decide_false,gdO,cond_false,Bool.false_and,Bool.false_eq_true,if_false,Option.bind_some]
   rfl
 ·have hc:decide (((d+1:Nat):Int)<(s.length:Int))=false:=decide_eq_false (by omega)
  have hm:E6 (s.drop d)=0:=by
   have:=Arx (s.drop d)
   rw[List.length_drop] at this
   unfold E6
   split
   ·rename_i b c t he
    have:=congrArg List.length he
    rw[List.length_drop] at this
    simp at this
    omega
   ·rfl
  rw[hm]
  simp only[hc,gdO,cond_false,Bool.false_and,Bool.false_eq_true,if_false,Option.bind_some]
  rfl
theorem Bia{b:UInt8}{t:List UInt8}(hl:(b::t).length<4611686018427387904):Et (b::t)=some (reT (1,Atx (b::t))):=by
 generalize hs:b::t=s at hl
 have hd:=Ej digB s
 have hm:=Arx (s.drop (Al digB s))
 rw[List.length_drop] at hm
 have h0:byO s 0=some (b.toNat:Int):=by rw[←hs];exact Du
 have hh:s.head?=some b:=by rw[←hs];rfl
 unfold Et
 refine Bg (A1d hl) ?_
 refine(Bpw hl hd _).trans ?_
 unfold Atx
 generalize Al digB s=d at hd hm
 generalize E6 (s.drop d)=m at hm
 have h48:((b.toNat:Int)==48)=decide (b=48):=Aw9 (n:=48) (by omega)
 simp only[h0,A6,Option.bind_some,hh,Option.some.injEq]
 by_cases c1:15<d
 ·have:decide ((d:Int)>15)=true:=decide_eq_true (by omega)
  simp only[this,Bool.true_or,if_true]
  rw[if_pos (.inl c1)]
  rfl
 ·have e1:decide ((d:Int)>15)=false:=decide_eq_false (by omega)
  by_cases c2:9<m
  ·have:decide ((m:Int)>9)=true:=decide_eq_true (by omega)
   simp only[e1,this,Bool.false_or,Bool.true_or,if_true]
   rw[if_pos (.inr (.inl c2))]
   rfl
  ·have e2:decide ((m:Int)>9)=false:=decide_eq_false (by omega)
   simp only[e1,e2,Bool.or_self,Bool.not_false,Bool.true_and,Bool.false_or]
   by_cases c3:1<d∧b=48
   ·have e3:decide ((d:Int)>1)=true:=decide_eq_true (by omega)
    simp only[e3,cond_true,h48,decide_eq_true c3.2,Bool.and_self,if_true]
    rw[if_pos (.inr (.inr c3))]
    rfl
   ·have e3:(decide ((d:Int)>1)&&((bif decide ((d:Int)>1) then(b.toNat:Int) else 0)==48))=false:=by
     by_cases q:1<d
     ·have e3:decide ((d:Int)>1)=true:=decide_eq_true (by omega)
      simp only[e3,cond_true,h48,Bool.true_and]
      exact decide_eq_false (fun hb=>c3 ⟨q,hb⟩)
     ·have e3:decide ((d:Int)>1)=false:=decide_eq_false (by omega)
      simp only[e3,Bool.false_and]
    have hno: ¬(15<d∨9<m∨1<d∧b=48):=fun h=>h.elim c1 (fun h=>h.elim c2 c3)
    simp only[e3,Bool.false_eq_true,if_false,if_neg hno]
    by_cases c4:0<m
    ·have e4:IntKind.wrap .i64 ((d:Int)+1)=((d+1:Nat):Int):=by rw[wrap64 (by omega) (by omega)];rfl
     have e5:IntKind.wrap .i64 (((d+1:Nat):Int)+(m:Int))=((d+1+m:Nat):Int):=by rw[wrap64 (by omega) (by omega)];omega
     rw[e4,e5,if_pos (decide_eq_true (show(m:Int)>0 by omega)),if_pos c4]
     rfl
    ·rw[if_neg (show ¬(decide ((m:Int)>0)=true) by simp;omega),if_neg c4]
     rfl
end Go.Av.G
end
section
set_option maxRecDepth 4000
set_option maxHeartbeats 4000000
namespace Go.Av.G
open Go Go.Av Go.Proofs
theorem Bnu{O:Type}{f:Int→Option (Int⊕O)}{u:List UInt8}{q:UInt8→Bool}{o e:O}(hl:u.length<4611686018427387904)
  (hin: ∀(i:Nat) (h:i<u.length),f i=some (if q u[i]=true then .inl (IntKind.wrap .i64 ((i:Int)+1)) else .inr o))
  (hout:f (u.length:Int)=some (.inr e)): ∀(n i:Nat),u.length-i=n→i≤u.length→A4 f (i:Int)=some (if Al q (u.drop i)<u.length-i then o else e):=by
 intro n
 induction n with
 |zero=>
  intro i h1 h2
  have:i=u.length:=by omega
  subst this
  rw[A1 hout,if_neg (by omega)]
 |succ n ih=>
  intro i h1 h2
  have hi:i<u.length:=by omega
  have h:=hin i hi
  rw[List.drop_eq_getElem_cons hi,Df]
  by_cases hq:q u[i]=true
  ·rw[if_pos hq,wrap64 (by omega) (by omega),show(i:Int)+1=((i+1:Nat):Int) from rfl] at h
   rw[Bs h,ih (i+1) (by omega) (by omega)]
   simp only[hq,if_true]
   by_cases h3:Al q (u.drop (i+1))<u.length-(i+1)
   ·rw[if_pos h3,if_pos (by omega)]
   ·rw[if_neg h3,if_neg (by omega)]
  ·rw[if_neg hq] at h
   rw[A1 h,if_neg hq,if_pos (by omega)]
theorem Bib{b:UInt8}{t:List UInt8}(hl:(b::t).length<4611686018427387904):Eu (b::t)=some (reT (2,At3 (b::t))):=by
 have hn:=Ej Cd t
 have hlt:(b::t).length=t.length+1:=rfl
 unfold Eu
 refine Bg (Aud (q:=Cd) hl ?_ ?_ t.length 1 (by simp) (by simp)) ?_
 ·intro i hi
  have hd:decide ((i:Int)<((b::t).length:Int))=true:=decide_eq_true (by omega)
  have hq:(((b::t)[i].toNat:Int)!=34)=Cd (b::t)[i]:=by
   have:=Aw9 (b:=(b::t)[i]) (n:=34) (by omega)
   unfold Cd
   rw[show(((b::t)[i].toNat:Int)!=34)= !(((b::t)[i].toNat:Int)==((34:Nat):Int)) from rfl,this]
   rw[Bool.eq_iff_iff]
   simp
  simp only[hd,Option.bind_some,Aja hi,A6,cond_true,Bool.true_and,hq]
  split<;>rfl
 ·have hd:decide (((b::t).length:Int)<((b::t).length:Int))=false:=decide_eq_false (by omega)
  simp only[hd,Option.bind_some,gdO,cond_false,Bool.false_and,Bool.false_eq_true,if_false]
 ·simp only[List.drop_succ_cons,List.drop_zero,At3]
  by_cases c1:Al Cd t=t.length
  ·have:(((1+Al Cd t:Nat):Int)==((b::t).length:Int))=true:=by rw[beq_iff_eq,hlt];omega
   rw[if_pos this,if_pos c1]
   rfl
  ·have:(((1+Al Cd t:Nat):Int)==((b::t).length:Int))=false:=by rw[beq_eq_false_iff_ne,hlt];omega
   simp only[this,Bool.false_eq_true,if_false,c1]
   have hu:((b::t).take (1+Al Cd t)).length=1+Al Cd t:=by rw[List.length_take,hlt];omega
   have hu2:((b::t).take (1+Al Cd t)).drop 1=t.take (Al Cd t):=by
    rw[Nat.add_comm 1];rfl
   refine Bg (Bnu (u:=(b::t).take (1+Al Cd t)) (q:=prB) (o:=(.inr (⟨0,0,3⟩:Ae):Unit⊕Ae)) (e:= .inl ()) (by rw[hu];omega) ?_ ?_ (Al Cd t) 1 (by rw[hu];omega) (by rw[hu];omega)) ?_
   ·intro i hi
    have hi2:i<(b::t).length:=by rw[hu] at hi;rw[hlt];omega
    have hd:decide ((i:Int)<((1+Al Cd t:Nat):Int))=true:=decide_eq_true (by rw[hu] at hi;omega)
    have hg:((b::t).take (1+Al Cd t))[i]=(b::t)[i]:=by simp
    rw[hg]
    generalize hx:(b::t)[i]=x
    have hb:byO (b::t) (i:Int)=some (x.toNat:Int):=by rw[Aja hi2,hx]
    simp only[hd,if_true,hb,Option.bind_some,A6]
    have hp:(decide ((x.toNat:Int)<32)||decide ((bif !decide ((x.toNat:Int)<32) then(x.toNat:Int) else 0)>126))= !prB x:=by
     by_cases h1:(x.toNat:Int)<32
     ·simp only[h1,decide_true,Bool.true_or]
      unfold prB
      rw[decide_eq_false (by omega)]
      rfl
     ·simp only[h1,decide_false,Bool.false_or,Bool.not_false,cond_true]
      unfold prB
      rw[Bool.eq_iff_iff]
      simp
      omega
    rw[hp]
    cases prB x<;>rfl
   ·rw[hu]
    have hd:decide (((1+Al Cd t:Nat):Int)<((1+Al Cd t:Nat):Int))=false:=decide_eq_false (by omega)
    simp only[hd,Bool.false_eq_true,if_false]
   ·rw[hu,hu2,Nat.add_sub_cancel_left]
    have e1:IntKind.wrap .i64 (((1+Al Cd t:Nat):Int)+1)=((Al Cd t+2:Nat):Int):=by rw[wrap64 (by omega) (by omega)];omega
    by_cases c3:Al prB (t.take (Al Cd t))<Al Cd t
    ·rw[if_pos c3,if_pos (show 32<Al Cd t∨Al prB (t.take (Al Cd t))<Al Cd t from .inr c3)]
     rfl
    ·rw[if_neg c3]
     simp only[e1]
     by_cases c2:32<Al Cd t
     ·rw[if_pos (decide_eq_true (by omega)),if_pos (show 32<Al Cd t∨Al prB (t.take (Al Cd t))<Al Cd t from .inl c2)]
      rfl
     ·rw[if_neg (by simp only[decide_eq_true_eq];omega),if_neg (show ¬(32<Al Cd t∨Al prB (t.take (Al Cd t))<Al Cd t) from fun h=>h.elim c2 c3)]
      rfl
theorem Bp0{b:UInt8}{t:List UInt8}(hl:(b::t).length<4611686018427387904):Ge (b::t)=some (reT (3,At7 (b::t))):=by
 have tail:(((A4 (fun(qj8:Int)=>match qj8 with
   |i9=>(
    if (decide (i9<([123,125,40,41,91,93,59,58,44,37,61,60,62,43,45,42,47].length:Int)))=true then
     (byO [123,125,40,41,91,93,59,58,44,37,61,60,62,43,45,42,47] i9).bind fun x10=>
     (byO (b::t) 0).bind fun x11=>
     if (x10==x11)=true then
      some (.inr (.inr (⟨3,1,0⟩:Ae)))
     else
      some (.inl (IntKind.wrap .i64 (i9+1)))
    else
     some (.inr (.inl ())):Option (Int⊕(Unit⊕Ae)))) 0):Option (Unit⊕Ae)))=some (if b∈Ks then .inr ⟨3,1,0⟩ else .inl ()):=by
  rw[I6 (l:=Ks) (fun c=>c==b) (o:= .inr (⟨3,1,0⟩:Ae)) (e:= .inl ()) (by decide)]
  ·have:Ks.any (fun c=>c==b)=true↔b∈Ks:=by
    simp only[List.any_eq_true,beq_iff_eq]
    exact⟨fun⟨x,h1,h2⟩=>h2▸h1,fun h=>⟨b,h,rfl⟩⟩
   by_cases h:b∈Ks
   ·rw[if_pos (this.2 h),if_pos h]
   ·rw[if_neg (mt this.1 h),if_neg h]
  ·intro i hi
   show(if decide ((i:Int)<(Ks.length:Int))=true then(byO Ks (i:Int)).bind _ else _)=_
   rw[if_pos (decide_eq_true (by omega)),Aja hi]
   simp only[Option.bind_some,Du]
   have:((Ks[i].toNat:Int)==(b.toNat:Int))=(Ks[i]==b):=by
    rw[Bool.eq_iff_iff,beq_iff_eq,beq_iff_eq,←UInt8.toNat_inj];omega
   rw[this]
   split<;>rfl
  ·intro i hi
   show(if decide ((i:Int)<(Ks.length:Int))=true then _ else _)=_
   rw[if_neg (by simp only[decide_eq_true_eq];omega)]
 have fin: ∀x:Unit⊕Ae,x=(if b∈Ks then .inr ⟨3,1,0⟩ else .inl ())→(match x with
  | .inr o=>some o
  | .inl _=>some (⟨0,0,14⟩:Ae))=some (reT (3,if b∈Ks then(1,0) else(0,14))):=by
  rintro x rfl
  by_cases h:b∈Ks
  ·rw[if_pos h,if_pos h];rfl
  ·rw[if_neg h,if_neg h];rfl
 unfold Ge At7
 cases t with
 |nil=>
  have e:decide ((([b]:List UInt8).length:Int)>1)=false:=by simp
  have h1: ¬([b].take 2=([60,61]:List UInt8)∨[b].take 2=[62,61]∨[b].take 2=[46,46]):=by simp
  rw[if_neg h1]
  simp only[e,Option.bind_some,gdO,Bool.false_and,Bool.false_eq_true,if_false]
  exact Bg tail (fin _ rfl)
 |cons c t=>
  have e:decide (((b::c::t).length:Int)>1)=true:=decide_eq_true (by simp;omega)
  have h2:=Gu (l:=b::c::t) (n:=2) (by simp)
  rw[show((2:Nat):Int)=2 from rfl,show(b::c::t).take 2=[b,c] from rfl] at h2
  rw[show(b::c::t).take 2=[b,c] from rfl]
  simp only[e,h2,A6,Option.bind_some,cond_true,Bool.true_and]
  by_cases p1:[b,c]=([60,61]:List UInt8)
  ·have e1:([b,c]==([60,61]:List UInt8))=true:=by rw[beq_iff_eq];exact p1
   simp only[e1,Bool.true_or,if_true]
   rw[if_pos (.inl p1)]
   rfl
  ·have e1:([b,c]==([60,61]:List UInt8))=false:=by rw[beq_eq_false_iff_ne];exact p1
   simp only[e1,Bool.false_or,Bool.not_false,cond_true]
   by_cases p2:[b,c]=([62,61]:List UInt8)
   ·have e2:([b,c]==([62,61]:List UInt8))=true:=by rw[beq_iff_eq];exact p2
    simp only[e2,Bool.true_or,if_true]
    rw[if_pos (.inr (.inl p2))]
    rfl
   ·have e2:([b,c]==([62,61]:List UInt8))=false:=by rw[beq_eq_false_iff_ne];exact p2
    simp only[e2,Bool.false_or,Bool.not_false,cond_true]
    by_cases p3:[b,c]=([46,46]:List UInt8)
    ·have e3:([b,c]==([46,46]:List UInt8))=true:=by rw[beq_iff_eq];exact p3
     simp only[e3,if_true]
     rw[if_pos (.inr (.inr p3))]
     rfl
    ·have e3:([b,c]==([46,46]:List UInt8))=false:=by rw[beq_eq_false_iff_ne];exact p3
     simp only[e3,Bool.false_eq_true,if_false]
     rw[if_neg (fun h=>h.elim p1 (fun h=>h.elim p2 p3))]
     exact Bg tail (fin _ rfl)
theorem Bpx{b:UInt8}{t:List UInt8}(hl:(b::t).length<4611686018427387904):Gd (b::t)=some (reT (Bm (b::t))):=by
 have hn:Bm (b::t)=if Apr b=true then(0,Us (b::t)) else if digB b=true then(1,Atx (b::t)) else if b=34 then(2,At3 (b::t)) else(3,At7 (b::t)):=rfl
 unfold Gd
 rw[hn]
 have hQ:((b.toNat:Int)==34)=decide (b=34):=Aw9 (n:=34) (by omega)
 simp only[Du,Option.bind_some,A1e,Bun,Amv,Brd,hQ,Bp3 hl,Bia hl,Bib hl,Bp0 hl]
 by_cases h1:Apr b=true
 ·rw[if_pos h1,if_pos h1]
 ·rw[if_neg h1,if_neg h1]
  by_cases h2:digB b=true
  ·rw[if_pos h2,if_pos h2]
  ·rw[if_neg h2,if_neg h2]
   by_cases h3:b=34
   ·rw[if_pos (decide_eq_true h3),if_pos h3]
   ·rw[if_neg (by simp only[decide_eq_true_eq];exact h3),if_neg h3]
theorem A6c{t:Ah}(hl:t.Ag.length<4611686018427387904):Dv t=some (okT t):=by
 unfold Dv okT
 cases ht:t.Ag with
 |nil=>
  have e0:(([]:List UInt8)==[])=true:=rfl
  rw[if_pos e0]
  simp[Bm]
 |cons b u=>
  rw[ht] at hl
  have he:((b::u:List UInt8)==[])=false:=rfl
  simp only[he,Bool.false_eq_true,if_false,Bpx hl,Option.bind_some,Option.some.injEq]
  generalize Bm (b::u)=x
  obtain⟨k,n,e⟩:=x
  unfold reT
  by_cases h:e=0
  ·subst h
   rw[Bool.eq_iff_iff]
   simp only[if_true,Bool.and_eq_true,beq_iff_eq,decide_eq_true_eq]
   constructor
   ·rintro⟨⟨h1,h2⟩,h3⟩
    exact⟨h2,by omega,trivial⟩
   ·rintro⟨h1,h2,h3⟩
    exact⟨⟨trivial,h1⟩,by omega⟩
  ·rw[Bool.eq_iff_iff]
   simp only[h,if_false,Bool.and_eq_true,beq_iff_eq,decide_eq_true_eq]
   constructor
   ·rintro⟨⟨h1,h2⟩,h3⟩
    omega
   ·rintro⟨h1,h2,h3⟩
    exact h3.elim
end Go.Av.G
end
section
set_option maxRecDepth 4000
set_option maxHeartbeats 4000000
namespace Go.Av.G
open Go Go.Av Go.Proofs
end Go.Av.G
end
section
set_option maxRecDepth 4000
set_option maxHeartbeats 4000000
namespace Go.Av.G
open Go Go.Av Go.Proofs
end Go.Av.G
end
section
set_option maxRecDepth 4000
set_option maxHeartbeats 4000000
namespace Go.Av.G
open Go Go.Av Go.Proofs
def Sz(r:Rs (List Nd))(n:Nat):Prop:= ∀a,r.1=some a→a.length+r.2.length≤n
theorem Bj9{N:Nat}(hr: ∀ts' k,ts'.length<N→Sz (CL ts' k) ts'.length)(n:Nat): ∀(f:Nat) (out:List Nd) (own:Nat) (ts:List Tk),ts.length≤N→ ∀x j,C9 CL n f out own ts=(some x,j)→x.1.length+j.length≤out.length+ts.length
 |f,out,own,[],_,x,j,h=>by
  have:C9 CL n f out own []=(some (out,own),[]):=by cases f<;>rfl
  rw[this] at h;cases h;exact Nat.le_refl _
 |0,out,own,t::r,_,x,j,h=>by
  rw[C9] at h;cases h;exact Nat.le_refl _
 |f+1,out,own,t::r,hN,x,j,h=>by
  simp only[List.length_cons] at hN⊢
  by_cases hs:(Bw t).2=0∨(Bw t).2<n∨own<Ajz (Bw t).2
  ·rw[Fo hs] at h;cases h;exact Nat.le_refl _
  ·rw[Ms hs] at h
   have hl:=(Gb r ((Bw t).2+1)).length_le
   have hz:=hr r ((Bw t).2+1) (by omega)
   cases hc:CL r ((Bw t).2+1) with
   |mk o i=>
    rw[hc] at h hl hz
    cases o with
    |none=>cases h
    |some b=>
     have h1:=hz b rfl
     simp only at hl h1
     have:=Bj9 hr n f _ _ i (by omega) x j h
     simp at this
     omega
theorem Fm{s:By}{ts:List Tk}(h:isT s ts=true): ∃t r,ts=t::r∧t.Ac≠2∧t.Ag=s:=by
 cases ts with
 |nil=>cases h
 |cons t r=>exact⟨t,r,rfl,of_decide_eq_true h⟩
theorem Hd{α β:Type}{r:Rs α}{k:α→List Tk→Rs β}{b:β}{j:List Tk}(h:bnd r k=(some b,j)): ∃a i,r=(some a,i)∧k a i=(some b,j):=by
 obtain⟨o,i⟩:=r
 cases o with
 |none=>cases h
 |some a=>exact⟨a,i,rfl,h⟩
theorem Qu{β:Type}{s:By}{ts:List Tk}{k:List Tk→Rs β}{b:β}{j:List Tk}(h:Lc s ts k=(some b,j)): ∃t r,ts=t::r∧t.Ac≠2∧t.Ag=s∧k r=(some b,j):=by
 unfold Lc at h
 split at h
 ·obtain⟨t,r,rfl,h1,h2⟩:=Fm (by assumption)
  exact⟨t,r,rfl,h1,h2,h⟩
 ·cases h
theorem Bud: ∀(N:Nat) (ts:List Tk) (n:Nat),ts.length≤N→Sz (CL ts n) ts.length:=by
 intro N
 induction N with
 |zero=>
  intro ts n h
  obtain rfl:ts=[]:=List.eq_nil_of_length_eq_zero (by omega)
  rw[Bs2]
  intro a ha;cases ha
 |succ N ih=>
  intro ts n hN
  have hp: ∀a i,F6 CL ts=(some a,i)→a.length+i.length≤ts.length:=by
   intro a i h
   cases ts with
   |nil=>cases h
   |cons t r=>
    simp only[List.length_cons] at hN⊢
    unfold F6 at h
    simp only at h
    split at h
    ·obtain⟨a1,i1,h1,h2⟩:=Hd h
     obtain⟨t1,r1,rfl,_,_,h3⟩:=Qu h2
     cases h3
     have:=ih r 0 (by omega) _ (by rw[h1])
     rw[h1] at this
     simp at this
     omega
    ·split at h
     ·obtain⟨t1,r1,rfl,_,_,h3⟩:=Qu h
      obtain⟨a1,i1,h1,h2⟩:=Hd h3
      obtain⟨t2,r2,rfl,_,_,h4⟩:=Qu h2
      obtain⟨a2,i2,h5,h6⟩:=Hd h4
      obtain⟨t3,r3,rfl,_,_,h7⟩:=Qu h6
      cases h7
      simp only[List.length_cons] at hN⊢
      have e1:=ih r1 0 (by omega) _ (by rw[h1])
      rw[h1] at e1
      simp at e1
      have e2:=ih r2 0 (by omega) _ (by rw[h5])
      rw[h5] at e2
      simp at e2⊢
      omega
     ·split at h
      ·split at h
       ·obtain⟨t1,r1,rfl,_,_⟩:=Fm (by assumption)
        cases h;simp;omega
       ·cases h;simp;omega
      ·split at h
       ·cases h;simp;omega
       ·cases h
  have hf: ∀x i,Dd CL ts n=(some x,i)→x.1.length+i.length≤ts.length:=by
   intro x i h
   unfold Dd at h
   split at h
   ·obtain⟨t,r,rfl,_,_⟩:=Fm (And.right (by assumption))
    obtain⟨a1,i1,h1,h2⟩:=Hd h
    obtain⟨t1,r1,rfl,_,_,h3⟩:=Qu h2
    obtain⟨a2,i2,h4,h5⟩:=Hd h3
    obtain⟨t2,r2,rfl,_,_,h6⟩:=Qu h5
    obtain⟨a3,i3,h7,h8⟩:=Hd h6
    cases h8
    simp only[List.length_cons,List.tail_cons] at*
    have e1:=ih r 0 (by omega) _ (by rw[h1])
    rw[h1] at e1
    simp at e1
    have e2:=ih r1 0 (by omega) _ (by rw[h4])
    rw[h4] at e2
    simp at e2
    have e3:=ih r2 0 (by omega) _ (by rw[h7])
    rw[h7] at e3
    simp at e3⊢
    omega
   ·split at h
    ·obtain⟨t,r,rfl,_,_⟩:=Fm (And.right (by assumption))
     obtain⟨a1,i1,h1,h2⟩:=Hd h
     cases h2
     simp only[List.length_cons,List.tail_cons] at*
     have e1:=ih r 3 (by omega) _ (by rw[h1])
     rw[h1] at e1
     simp at e1⊢
     omega
    ·split at h
     ·obtain⟨t,r,rfl,_,_⟩:=Fm (by assumption)
      obtain⟨a1,i1,h1,h2⟩:=Hd h
      cases h2
      simp only[List.length_cons,List.tail_cons] at*
      have e1:=ih r 7 (by omega) _ (by rw[h1])
      rw[h1] at e1
      simp at e1⊢
      omega
     ·obtain⟨a1,i1,h1,h2⟩:=Hd h
      cases h2
      exact hp _ _ h1
  rw[Aq5]
  intro a ha
  generalize hr:bnd (Dd CL ts n) (fun x i=>bnd (C9 CL n i.length x.1 x.2 i) fun y j=>(some y.1,j))=res at ha
  obtain⟨o,j⟩:=res
  cases ha
  obtain⟨x,i,h1,h2⟩:=Hd hr
  obtain⟨y,j',h3,h4⟩:=Hd h2
  cases h4
  have e1:=hf x i h1
  have hlt:=Boc ts n (by rw[h1];simp)
  rw[h1] at hlt
  have e2:=Bj9 (N:=N) (fun ts' k hk=>ih ts' k (by omega)) n i.length x.1 x.2 i (by simp at hlt;omega) y j h3
  simp only at e1 e2⊢
  omega
theorem Mn{ts i:List Tk}{n:Nat}{a:List Nd}(h:CL ts n=(some a,i)):a.length+i.length≤ts.length:=by
 have:=Bud ts.length ts n (Nat.le_refl _) a (by rw[h])
 rw[h] at this
 exact this
def ps(l ts:List Tk):Int:=((l.length-ts.length:Nat):Int)
def RD(l ts:List Tk)(b:Bool):Ab:=⟨l,ps l ts,b⟩
theorem Bp6{l ts:List Tk}(h:ts <:+ l):l.drop (l.length-ts.length)=ts:=by
 obtain⟨p,rfl⟩:=h
 simp
theorem A1c{l r:List Tk}{t:Tk}(h:t::r <:+ l):rdO l (ps l (t::r))=some t:=by
 have hd:=Bp6 h
 have hle:=h.length_le
 unfold ps
 have hi:l.length-(t::r).length<l.length:=by simp at hle⊢;omega
 rw[Cu hi]
 have:=List.drop_eq_getElem_cons hi
 rw[hd] at this
 exact congrArg some (List.cons.inj this).1.symm
theorem A6b{l ts:List Tk}(h:ts <:+ l):decide (ps l ts<(l.length:Int))= !ts.isEmpty:=by
 have hle:=h.length_le
 unfold ps
 cases ts with
 |nil=>simp
 |cons t r=>
  simp only[List.length_cons] at hle⊢
  simp
  omega
theorem Bsx{l ts:List Tk}(h:ts <:+ l):decide (ps l ts≥(l.length:Int))=ts.isEmpty:=by
 have:=A6b h
 cases ts with
 |nil=>
  simp only[List.isEmpty_nil,Bool.not_true,decide_eq_false_iff_not] at this
  simp only[List.isEmpty_nil,decide_eq_true_eq]
  omega
 |cons t r=>
  simp only[List.isEmpty_cons,Bool.not_false,decide_eq_true_eq] at this
  simp only[List.isEmpty_cons,decide_eq_false_iff_not]
  omega
theorem Aso{l r:List Tk}{t:Tk}(h:t::r <:+ l)(hl:l.length≤1000000):IntKind.wrap .i64 (ps l (t::r)+1)=ps l r:=by
 have hle:=h.length_le
 unfold ps
 simp only[List.length_cons] at hle⊢
 rw[wrap64 (by omega) (by omega)]
 omega
theorem Bkl{l r:List Tk}{t:Tk}(h:t::r <:+ l)(hl:l.length≤1000000):IntKind.wrap .i64 (ps l r-1)=ps l (t::r):=by
 have hle:=h.length_le
 unfold ps
 simp only[List.length_cons] at hle⊢
 rw[wrap64 (by omega) (by omega)]
 omega
theorem Kj{l r:List Tk}{t:Tk}(h:t::r <:+ l):r <:+ l:=(List.suffix_cons t r).trans h
theorem Bo2(k:Int)(x s:By):((k !=2)&&(x==s))=decide (k≠2∧x=s):=by
 by_cases h1:k=2<;>by_cases h2:x=s<;>simp[h1,h2]
theorem A5l{l ts:List Tk}(h:ts <:+ l)(s:By)(b:Bool):Bv s (RD l ts b)=some (!b&&isT s ts):=by
 unfold Bv RD
 simp only[Option.bind_some,A6b h]
 cases b with
 |true=>rfl
 |false=>
  cases ts with
  |nil=>rfl
  |cons t r=>
   rw[A1c h]
   simp only[List.isEmpty_cons,Bool.not_false,Bool.and_true,Bool.true_and,A6,Option.bind_some,cond_true,Option.some.injEq,isT]
   rw[←Bo2]
   cases (t.Ac !=2)<;>rfl
theorem As2{l ts:List Tk}(h:ts <:+ l)(hl:l.length≤1000000)(s:By)(b:Bool):Bd s (RD l ts b)=some (if (!b&&isT s ts)=true then(true,RD l ts.tail b) else(false,RD l ts b)):=by
 unfold Bd
 rw[A5l h]
 simp only[Option.bind_some]
 cases hc:(!b&&isT s ts) with
 |false=>simp
 |true=>
  simp only[Bool.and_eq_true] at hc
  obtain⟨t,r,rfl,_,_⟩:=Fm hc.2
  simp only[Bool.not_true,Bool.false_eq_true,if_false,if_true,Option.some.injEq,Prod.mk.injEq,true_and]
  unfold RD
  simp only[Aso h hl,List.tail_cons]
def Li:List By→List Tk×Bool→List Tk×Bool
 |[],x=>x
 |s::ss,x=>if (!x.2&&isT s x.1)=true then Li ss (x.1.tail,x.2) else(x.1,true)
theorem A5y: ∀(L:List By) (x:List Tk×Bool),(Li L x).1 <:+ x.1
 |[],x=>List.suffix_refl _
 |s::ss,x=>by
  rw[Li]
  split
  ·exact(A5y ss _).trans Ss
  ·exact List.suffix_refl _
theorem Ary{l ts:List Tk}(h:ts <:+ l)(hl:l.length≤1000000)(L:List By)(hL:L.length≤1000000)(b:Bool):Ap L (RD l ts b)=some (RD l (Li L (ts,b)).1 (Li L (ts,b)).2):=by
 unfold Ap
 have key: ∀(t pre:List By) (ts:List Tk) (b:Bool),L=pre++t→ts <:+ l→A4 (fun(qj3:Int×Ab)=>match qj3 with
  |(x4,r5)=>(
   if (decide (x4<(L.length:Int)))=true then
    (rdO L x4).bind fun x6=>
    (Bd x6 r5).bind fun x7=>
    if (!x7.1)=true then
     some (.inr (⟨x7.2.Jt,x7.2.Cz,true⟩:Ab))
    else
     some (.inl (IntKind.wrap .i64 (x4+1),x7.2))
   else
    some (.inr r5):Option ((Int×Ab)⊕Ab))) ((pre.length:Int),RD l ts b)=some (RD l (Li t (ts,b)).1 (Li t (ts,b)).2):=by
  intro t
  induction t with
  |nil=>
   intro pre ts b he hs
   refine A1 ?_
   subst he
   simp[Li]
  |cons s t ih=>
   intro pre ts b he hs
   have hlen:pre.length<L.length:=by subst he;simp
   have hg:L[pre.length]=s:=by subst he;simp
   by_cases hc:(!b&&isT s ts)=true
   ·rw[Bs (s':=((((pre++[s]).length:Nat):Int),RD l ts.tail b)),ih (pre++[s]) ts.tail b (by simp[he]) (Ss.trans hs),Li,if_pos hc]
    show(if _ then _ else _)=_
    rw[if_pos (by simp;omega),Cu hlen,hg]
    simp only[Option.bind_some]
    rw[As2 hs hl,if_pos hc]
    simp only[Option.bind_some,Bool.not_true,Bool.false_eq_true,if_false,List.length_append,List.length_cons,List.length_nil,Option.some.injEq,Sum.inl.injEq,Prod.mk.injEq,and_true]
    rw[wrap64 (by omega) (by omega)]
    omega
   ·rw[Li,if_neg hc]
    refine A1 ?_
    show(if _ then _ else _)=_
    rw[if_pos (by simp;omega),Cu hlen,hg]
    simp only[Option.bind_some]
    rw[As2 hs hl,if_neg hc]
    rfl
 exact key L [] ts b rfl h
theorem Ajy{s:By}{ss:List By}{ts:List Tk}:Li (s::ss) (ts,true)=(ts,true):=by simp[Li]
theorem Arz{s:By}{ts:List Tk}:Li [s] (ts,false)=if isT s ts=true then(ts.tail,false) else(ts,true):=by simp[Li]
theorem A5j{L:List By}(hL:L.length≤1000000)(s:By):Cn L s=some (L.contains s):=by
 unfold Cn Ei
 have h:=Att (f:=fun(qj3:Int)=>match qj3 with
  |x4=>(
   if (decide (x4<(L.length:Int)))=true then
    (rdO L x4).bind fun x5=>
    if (s==x5)=true then
     some (.inr (.inr x4))
    else
     some (.inl (IntKind.wrap .i64 (x4+1)))
   else
    some (.inr (.inl ())):Option (Int⊕(Unit⊕Int)))) (l:=L) (p:=fun x=>s==x) (o:=fun i=> .inr (i:Int)) (e:= .inl ()) (by omega)
  (fun i hi=>by
   show(if _ then _ else _)=_
   rw[if_pos (by simp;omega),Cu hi]
   simp only[Option.bind_some]
   split<;>rfl)
  (fun i hi=>by
   show(if _ then _ else _)=_
   rw[if_neg (by simp;omega)])
 rw[h]
 simp only[Option.bind_some]
 cases hf:Apm L (fun x=>s==x) with
 |none=>
  have:=Ajk hf
  simp only[Option.bind_some,Option.some.injEq]
  have h1:L.contains s=false:=by
   rw[←Bool.not_eq_true,List.contains_iff_mem]
   intro hm
   have:=this s hm
   simp at this
  rw[h1]
  rfl
 |some i=>
  obtain⟨hi,h1,_⟩:=Ajl hf
  simp only[Option.bind_some,Option.some.injEq]
  have h2:L.contains s=true:=by
   rw[List.contains_iff_mem]
   have:=eq_of_beq h1
   rw[this]
   exact List.getElem_mem hi
  rw[h2]
  simp
theorem Bpl(s:By)(p:Bool):Xh s p=some (Ay2 s p):=by
 unfold Xh
 cases p with
 |false=>
  simp only[Bool.false_eq_true,if_false,Option.bind_some]
  rw[A5j (by simp)]
  simp only[Option.bind_some,Ay2,Bool.false_and,Bool.or_false]
  rfl
 |true=>
  simp only[if_true]
  have:apO 16 [[105,102],[116,104,101,110],[101,108,115,101],[97,110,100],[111,114],[110,111,116],[109,105,110],[109,97,120]] [[112,114,111,100,117,99,116],[98,97,115,105,115],[112,101,114,105,111,100],[116,105,101,114,115],[102,101,101],[109,105,110,105,109,117,109],[111,118,101,114,100,114,97,102,116],[110,111,116,105,99,101]]=some (Bty++Btz):=rfl
  rw[this]
  simp only[Option.bind_some]
  rw[A5j (by simp[Bty,Btz])]
  simp only[Option.bind_some,Ay2,Bool.true_and,List.contains_eq_any_beq,List.any_append]
def Ko(kind:Int)(p:Bool)(x:List Tk×Bool):By×List Tk×Bool:=match x with
 |(ts,true)=>([],ts,true)
 |([],false)=>([],[],true)
 |(t::r,false)=>if t.Ac≠kind∨(kind=0∧Ay2 t.Ag p=true) then([],t::r,true) else(t.Ag,r,false)
theorem Bmi(kind:Int)(p:Bool)(x:List Tk×Bool):(Ko kind p x).2.1 <:+ x.1:=by
 obtain⟨ts,b⟩:=x
 cases b with
 |true=>cases ts<;>exact List.suffix_refl _
 |false=>
  cases ts with
  |nil=>exact List.suffix_refl _
  |cons t r=>
   unfold Ko
   simp only
   split
   ·exact List.suffix_refl _
   ·exact List.suffix_cons t r
theorem Amx{l ts:List Tk}(h:ts <:+ l)(hl:l.length≤1000000)(kind:Int)(p b:Bool):A9 kind p (RD l ts b)=some ((Ko kind p (ts,b)).1,RD l (Ko kind p (ts,b)).2.1 (Ko kind p (ts,b)).2.2):=by
 unfold A9
 have e1:(RD l ts b).Cz=ps l ts:=rfl
 have e2:(RD l ts b).Jt=l:=rfl
 have e3:(RD l ts b).Ca=b:=rfl
 simp only[Option.bind_some,e1,e2,e3,Bsx h]
 cases b with
 |true=>cases ts<;>simp[gdO,Ko,RD]
 |false=>
  cases ts with
  |nil=>simp[gdO,Ko,RD]
  |cons t r=>
   rw[A1c h]
   simp only[List.isEmpty_cons,Bool.or_false,Bool.false_or,Bool.not_false,A6,cond_true,Option.bind_some]
   by_cases h1:t.Ac=kind
   ·have hb:(t.Ac !=kind)=false:=by simp[h1]
    simp only[hb,Bool.not_false,Bool.true_and,Bool.false_or]
    rw[Bpl]
    by_cases h2:kind=0
    ·subst h2
     simp only[beq_self_eq_true,A6,cond_true,Option.bind_some,Bool.true_and]
     cases ho:Ay2 t.Ag p with
     |true=>simp[Ko,h1,ho,RD]
     |false=>
      simp only[Bool.false_eq_true,if_false]
      rw[Aso h hl,Bkl h hl,A1c h]
      simp[Ko,h1,ho,RD]
    ·have hz:(kind==0)=false:=by simp[h2]
     simp only[hz,A6,cond_false,Option.bind_some,Bool.false_and,Bool.false_eq_true,if_false]
     rw[Aso h hl,Bkl h hl,A1c h]
     simp[Ko,h1,h2,RD]
   ·have hb:(t.Ac !=kind)=true:=by simp[h1]
    simp only[hb,Bool.not_true,Bool.false_and,A6,gdO,Option.bind_some,Bool.true_or,if_true]
    simp[Ko,h1,RD]
theorem Blg{L:List (List Nd)}(hL:L.length≤1000)(hs:L.flatten.length≤1000000):Ds L=some L.flatten:=by
 unfold Ds
 have h1:A4 (fun(qj2:Int×Int)=>match qj2 with
  |(size3,x4)=>(
   if (decide (x4<(L.length:Int)))=true then
    (rdO L x4).bind fun x5=>
    ((if (decide ((IntKind.wrap .i64 (size3+(x5.length:Int)))<0))=true then
      none
    else
     some ()):Option Unit).bind fun _=>
    some (.inl (IntKind.wrap .i64 (size3+(x5.length:Int)),IntKind.wrap .i64 (x4+1)))
   else
    some (.inr size3):Option ((Int×Int)⊕Int))) (0,0)=some (L.flatten.length:Int):=by
  have key: ∀(t pre:List (List Nd)),L=pre++t→A4 (fun(qj2:Int×Int)=>match qj2 with
  |(size3,x4)=>(
   if (decide (x4<(L.length:Int)))=true then
    (rdO L x4).bind fun x5=>
    ((if (decide ((IntKind.wrap .i64 (size3+(x5.length:Int)))<0))=true then
      none
    else
     some ()):Option Unit).bind fun _=>
    some (.inl (IntKind.wrap .i64 (size3+(x5.length:Int)),IntKind.wrap .i64 (x4+1)))
   else
    some (.inr size3):Option ((Int×Int)⊕Int))) ((pre.flatten.length:Int),(pre.length:Int))=some (L.flatten.length:Int):=by
   intro t
   induction t with
   |nil=>
    intro pre he
    refine A1 ?_
    subst he
    simp
   |cons x t ih=>
    intro pre he
    have hlen:pre.length<L.length:=by subst he;simp
    have hg:L[pre.length]=x:=by subst he;simp
    have hfl:pre.flatten.length+x.length≤L.flatten.length:=by subst he;simp
    rw[Bs (s':=((((pre++[x]).flatten.length:Nat):Int),(((pre++[x]).length:Nat):Int))),ih (pre++[x]) (by simp[he])]
    show(if _ then _ else _)=_
    rw[if_pos (by simp;omega),Cu hlen,hg]
    simp only[Option.bind_some]
    rw[wrap64 (x:=(pre.flatten.length:Int)+(x.length:Int)) (by omega) (by omega),wrap64 (by omega) (by omega),if_neg (by simp;omega)]
    simp
  exact key L [] rfl
 rw[h1]
 simp only[Option.bind_some]
 have hg:C2 Aa 24 (L.flatten.length:Int)=some []:=by
  unfold C2 D6
  rw[if_pos ⟨by omega,by omega⟩]
  rfl
 rw[hg]
 simp only[Option.bind_some]
 have key: ∀(t pre:List (List Nd)),L=pre++t→A4 (fun(qj9:Int×(List Aa))=>match qj9 with
  |(x10,row11)=>(
   if (decide (x10<(L.length:Int)))=true then
    (rdO L x10).bind fun x12=>
    (apO 24 row11 x12).bind fun x13=>
    some (.inl (IntKind.wrap .i64 (x10+1),x13))
   else
    some (.inr row11):Option ((Int×(List Aa))⊕(List Aa)))) ((pre.length:Int),pre.flatten)=some L.flatten:=by
  intro t
  induction t with
  |nil=>
   intro pre he
   refine A1 ?_
   subst he
   simp
  |cons x t ih=>
   intro pre he
   have hlen:pre.length<L.length:=by subst he;simp
   have hg:L[pre.length]=x:=by subst he;simp
   have hfl:pre.flatten.length+x.length≤L.flatten.length:=by subst he;simp
   rw[Bs (s':=((((pre++[x]).length:Nat):Int),(pre++[x]).flatten)),ih (pre++[x]) (by simp[he])]
   show(if _ then _ else _)=_
   rw[if_pos (by simp;omega),Cu hlen,hg]
   simp only[Option.bind_some]
   unfold apO
   rw[if_pos (by omega)]
   simp only[Option.bind_some]
   rw[wrap64 (by omega) (by omega)]
   simp
 exact Bg (key L [] rfl) rfl
theorem A70{k:Int}{L:List (List Nd)}(hL:L.length≤1000)(hs:L.flatten.length≤1000000):Ci k L=some (⟨k,[]⟩::L.flatten):=by
 unfold Ci
 rw[Blg hL hs]
 simp only[Option.bind_some]
 unfold apO
 rw[if_pos (by simp only[List.length_cons,List.length_nil];omega)]
 rfl
def At8:List (By×Ar):=[(sOr,⟨13,1⟩),(Bel,⟨12,2⟩),([60],⟨7,4⟩),([60,61],⟨8,4⟩),([61],⟨9,4⟩),([62],⟨10,4⟩),([62,61],⟨11,4⟩),([43],⟨3,5⟩),([45],⟨4,5⟩),([42],⟨5,6⟩),([47],⟨6,6⟩)]
theorem Bp8:Aka=some At8:=by decide +kernel
theorem Bmg(s:By):(((A2p At8 s).getD ⟨0,0⟩).Apg,((A2p At8 s).getD ⟨0,0⟩).Ab0)=((Asz s).1,((Asz s).2:Int))∧((A2p At8 s).isSome=decide ((Asz s).2≠0)):=by
 unfold Asz
 by_cases h0:s=sOr
 ·subst h0;exact⟨rfl,rfl⟩
 simp only[if_neg h0]
 by_cases h1:s=Bel
 ·subst h1;exact⟨rfl,rfl⟩
 simp only[if_neg h1]
 by_cases h2:s=[60]
 ·subst h2;exact⟨rfl,rfl⟩
 simp only[if_neg h2]
 by_cases h3:s=[60,61]
 ·subst h3;exact⟨rfl,rfl⟩
 simp only[if_neg h3]
 by_cases h4:s=[61]
 ·subst h4;exact⟨rfl,rfl⟩
 simp only[if_neg h4]
 by_cases h5:s=[62]
 ·subst h5;exact⟨rfl,rfl⟩
 simp only[if_neg h5]
 by_cases h6:s=[62,61]
 ·subst h6;exact⟨rfl,rfl⟩
 simp only[if_neg h6]
 by_cases h7:s=[43]
 ·subst h7;exact⟨rfl,rfl⟩
 simp only[if_neg h7]
 by_cases h8:s=[45]
 ·subst h8;exact⟨rfl,rfl⟩
 simp only[if_neg h8]
 by_cases h9:s=[42]
 ·subst h9;exact⟨rfl,rfl⟩
 simp only[if_neg h9]
 by_cases h10:s=[47]
 ·subst h10;exact⟨rfl,rfl⟩
 simp only[if_neg h10]
 have hn:A2p At8 s=none:=by
  unfold A2p
  rw[List.find?_eq_none.2 (by
   intro x hx
   simp only[At8,List.mem_cons,List.not_mem_nil,or_false] at hx
   rcases hx with rfl|rfl|rfl|rfl|rfl|rfl|rfl|rfl|rfl|rfl|rfl<;>simp[*])]
  rfl
 rw[hn]
 exact⟨rfl,rfl⟩
end Go.Av.G
end
section
set_option maxRecDepth 4000
set_option maxHeartbeats 4000000
namespace Go.Av.G
open Go Go.Av Go.Proofs
theorem Bks{t:Tk}(h:t.Ac≠2):Bw t=Asz t.Ag:=by unfold Bw;rw[if_neg h]
def Am1(n:Nat)(ts:List Tk)(b:Bool):Bool:= !b&&match ts with
 |[]=>false
 |t::_=>decide ((Bw t).2=n)
theorem Apb{l ts:List Tk}(h:ts <:+ l){n:Nat}(hn:1≤n)(b:Bool): ∃k,B6 (n:Int) (RD l ts b)=some (k,Am1 n ts b)∧(Am1 n ts b=true→ ∃t r,ts=t::r∧b=false∧(Bw t).2=n∧k=(Bw t).1):=by
 unfold B6
 have e1:(RD l ts b).Cz=ps l ts:=rfl
 have e2:(RD l ts b).Jt=l:=rfl
 have e3:(RD l ts b).Ca=b:=rfl
 simp only[Option.bind_some,e1,e2,e3,Bsx h]
 cases b with
 |true=>exact⟨0,by simp[gdO,Am1],by simp[Am1]⟩
 |false=>
  cases ts with
  |nil=>exact⟨0,by simp[gdO,Am1],by simp[Am1]⟩
  |cons t r=>
   rw[A1c h,Bp8]
   simp only[List.isEmpty_cons,Bool.or_false,Bool.false_or,Bool.not_false,A6,cond_true,Option.bind_some]
   by_cases h2:t.Ac=2
   ·refine⟨0,(by simp[h2,Am1,Bw];omega),fun hb=>?_⟩
    simp[h2,Am1,Bw] at hb
    omega
   ·have hb:(t.Ac==2)=false:=by simp[h2]
    obtain⟨g1,g2⟩:=Bmg t.Ag
    have g3:=congrArg Prod.fst g1
    have g4:=congrArg Prod.snd g1
    simp only at g3 g4
    rw[hb,g2]
    simp only[Bool.false_eq_true,if_false,Option.bind_some]
    rw[g3,g4]
    refine⟨(Asz t.Ag).1,?_,fun hb2=>⟨t,r,(by simp),(by simp),?_,?_⟩⟩
    ·simp only[Am1,Option.some.injEq,Prod.mk.injEq,true_and,Bks h2,Bool.not_false]
     rw[Bool.eq_iff_iff]
     simp only[Bool.and_eq_true,decide_eq_true_eq,beq_iff_eq,Bool.true_and]
     constructor
     ·rintro⟨h3,h4⟩;omega
     ·intro h3;omega
    ·simpa [Am1] using hb2
    ·rw[Bks h2]
theorem Axt{l ts:List Tk}(h:ts <:+ l){n:Nat}(hn:1≤n): ∃k,B6 (n:Int) (RD l ts true)=some (k,false):=by
 obtain⟨k,h1,_⟩:=Apb h hn true
 exact⟨k,h1⟩
theorem Al8{l ts:List Tk}(h:ts <:+ l)(hl:l.length≤1000000){s:By}(hs:isT s ts=true):Bd s (RD l ts false)=some (true,RD l ts.tail false):=by
 rw[As2 h hl];simp[hs]
theorem Afn{l ts:List Tk}(h:ts <:+ l)(hl:l.length≤1000000){s:By}(hs: ¬isT s ts=true):Bd s (RD l ts false)=some (false,RD l ts false):=by
 rw[As2 h hl];simp[hs]
theorem Bqf{l ts:List Tk}(h:ts <:+ l)(hl:l.length≤1000000){s:By}:Bd s (RD l ts true)=some (false,RD l ts true):=by
 rw[As2 h hl];simp
theorem Fg{l ts:List Tk}(h:ts <:+ l)(hl:l.length≤1000000){s:By}(hs:isT s ts=true):Ap [s] (RD l ts false)=some (RD l ts.tail false):=by
 rw[Ary h hl _ (by simp),Arz,if_pos hs]
theorem Aty{l ts:List Tk}(h:ts <:+ l)(hl:l.length≤1000000){s:By}(hs: ¬isT s ts=true):Ap [s] (RD l ts false)=some (RD l ts true):=by
 rw[Ary h hl _ (by simp),Arz,if_neg hs]
theorem J0{l ts:List Tk}(h:ts <:+ l)(hl:l.length≤1000000){s:By}:Ap [s] (RD l ts true)=some (RD l ts true):=by
 rw[Ary h hl _ (by simp),Ajy]
theorem Blu(f:Nat)(n:Int)(l ts:List Tk):parse_reader_level (f+1) n (RD l ts true)=some ([],RD l ts true):=by
 rw[parse_reader_level]
 rfl
theorem Jk{l ts:List Tk}(h:ts <:+ l)(hl:l.length≤1000000)(f:Nat):parse_reader_any (f+2) (RD l ts true)=some ([],RD l ts true):=by
 rw[parse_reader_any,Bqf h hl]
 simp only[Option.bind_some,Bool.not_false,if_true]
 rw[Blu]
 rfl
def NB(o:List Nd):Prop:= ∀n∈o,n.Ag.length≤1000000
theorem Db:NB []↔True:=by simp[NB]
theorem Cc{n:Nd}{o:List Nd}:NB (n::o)↔n.Ag.length≤1000000∧NB o:=by simp[NB]
theorem Da{a b:List Nd}:NB (a++b)↔NB a∧NB b:=by
 unfold NB
 constructor
 ·intro h;exact⟨fun n hn=>h n (by simp[hn]),fun n hn=>h n (by simp[hn])⟩
 ·rintro⟨h1,h2⟩ n hn
  rcases List.mem_append.1 hn with h|h
  ·exact h1 n h
  ·exact h2 n h
def PG(F:Ab→Option (List Nd×Ab))(l ts:List Tk)(r:Rs (List Nd)):Prop:=
 ∃o,F (RD l ts false)=some (o,RD l r.2 r.1.isNone)∧(∀a,r.1=some a→o=a)∧o.length≤ts.length+1∧NB o
structure Fit (l:List Tk):Prop where
 len:l.length≤100000
 tx: ∀t∈l,t.Ag.length≤100000
theorem Fit.l6{l:List Tk}(h:Fit l):l.length≤1000000:=by have:=h.len;omega
theorem Fit.le{l ts:List Tk}(h:Fit l)(hs:ts <:+ l):ts.length≤100000:=by have:=h.len;have:=hs.length_le;omega
theorem Aor{k:Int}{a b:List Nd}(h:a.length+b.length≤1000000):Ci k [a,b]=some (⟨k,[]⟩::(a++b)):=by
 rw[A70 (by simp) (by simp;omega)];simp
theorem Bkg{k:Int}{a:List Nd}(h:a.length≤1000000):Ci k [a]=some (⟨k,[]⟩::a):=by
 rw[A70 (by simp) (by simp;omega)];simp
theorem node3{k:Int}{a b c:List Nd}(h:a.length+b.length+c.length≤1000000):Ci k [a,b,c]=some (⟨k,[]⟩::(a++b++c)):=by
 rw[A70 (by simp) (by simp;omega)];simp
theorem PG.of{F:Ab→Option (List Nd×Ab)}{l ts:List Tk}{r:Rs (List Nd)}(h:PG F l ts r):(∃a i,r=(some a,i)∧F (RD l ts false)=some (a,RD l i false)∧NB a)∨(∃o i,r=(none,i)∧F (RD l ts false)=some (o,RD l i true)∧o.length≤ts.length+1∧NB o):=by
 obtain⟨o,h1,h2,h3,h4⟩:=h
 obtain⟨x,i⟩:=r
 cases x with
 |none=>exact Or.inr ⟨o,i,rfl,h1,h3,h4⟩
 |some a=>
  have:=h2 a rfl
  subst this
  exact Or.inl ⟨o,i,rfl,h1,h4⟩
theorem Ai5{F:Ab→Option (List Nd×Ab)}{l ts i:List Tk}{a:List Nd}(h:F (RD l ts false)=some (a,RD l i false))(hz:a.length≤ts.length+1)(hn:NB a):PG F l ts (some a,i):=
 ⟨a,h,fun b hb=>Option.some.inj hb,hz,hn⟩
theorem PG.no{F:Ab→Option (List Nd×Ab)}{l ts i:List Tk}{o:List Nd}(h:F (RD l ts false)=some (o,RD l i true))(hz:o.length≤ts.length+1)(hn:NB o):PG F l ts (none,i):=
 ⟨o,h,(fun b hb=>by cases hb),hz,hn⟩
theorem A59{l ts:List Tk}(hF:Fit l)(h:ts <:+ l){f:Nat}(hf:2≤f)(ih: ∀r,r <:+ l→r.length<ts.length→PG (parse_reader_any f) l r (CL r 0)):PG (parse_reader_primary (f+1)) l ts (F6 CL ts):=by
 have hl:=hF.l6
 obtain⟨f,rfl⟩: ∃g,f=g+2:=⟨f-2,by omega⟩
 have hle:=hF.le h
 cases ts with
 |nil=>
  refine PG.no (o:=[⟨1,[]⟩]) ?_ (by simp) (by(try simp only[Db,Cc,Da,List.length_append,List.length_cons,List.length_nil]);(repeat' apply And.intro)<;>first|assumption|omega|trivial)
  rw[parse_reader_primary,Afn h hl (by simp[isT])]
  simp only[Option.bind_some,A5l h]
  have e0:ps l []<(l.length:Int)↔False:=by have:=A6b h;simpa using this
  have e1:(RD l [] false).Cz=ps l []:=rfl
  have e2:(RD l [] false).Jt=l:=rfl
  simp only[isT,Bool.and_false,Bool.not_false,Bool.false_eq_true,if_false,A6,Option.bind_some,cond_true,Bool.or_false,Bool.cond_self,e1,e2,e0,decide_false,gdO,Bool.false_and]
  have:=Amx h hl 0 false false
  rw[show(⟨l,ps l [],(RD l [] false).Ca⟩:Ab)=RD l [] false from rfl,this]
  rfl
 |cons t r=>
  have hr:=Kj h
  simp only[List.length_cons] at hle
  by_cases hp:isT [40] (t::r)=true
  ·have hspec:F6 CL (t::r)=bnd (CL r 0) fun a i=>Lc [41] i fun j=>(some a,j):=by unfold F6;simp only[if_pos hp]
   rw[hspec]
   have hprog:parse_reader_primary (f+2+1) (RD l (t::r) false)=(parse_reader_any (f+2) (RD l r false)).bind fun x3=>(Ap [[41]] x3.2).bind fun x4=>some (x3.1,x4):=by
    rw[parse_reader_primary,Al8 h hl hp]
    rfl
   rcases(ih r hr (by simp)).of with⟨a,i,e1,e2,nb1⟩|⟨o,i,e1,e2,e3,nb3⟩
   ·rw[e1]
    have hz:=Mn e1
    have hi:i <:+ l:=by have:=(Gb r 0).trans hr;rw[e1] at this;exact this
    show PG _ _ _ (Lc [41] i fun j=>(some a,j))
    unfold Lc
    by_cases hc:isT [41] i=true
    ·rw[if_pos hc]
     refine Ai5 ?_ (by simp;omega) (by(try simp only[Db,Cc,Da,List.length_append,List.length_cons,List.length_nil]);(repeat' apply And.intro)<;>first|assumption|omega|trivial)
     rw[hprog,e2]
     simp only[Option.bind_some]
     rw[Fg hi hl hc]
     rfl
    ·rw[if_neg hc]
     refine PG.no (o:=a) ?_ (by simp;omega) (by(try simp only[Db,Cc,Da,List.length_append,List.length_cons,List.length_nil]);(repeat' apply And.intro)<;>first|assumption|omega|trivial)
     rw[hprog,e2]
     simp only[Option.bind_some]
     rw[Aty hi hl hc]
     rfl
   ·rw[e1]
    have hi:i <:+ l:=by have:=(Gb r 0).trans hr;rw[e1] at this;exact this
    refine PG.no (o:=o) ?_ (by simp;omega) (by(try simp only[Db,Cc,Da,List.length_append,List.length_cons,List.length_nil]);(repeat' apply And.intro)<;>first|assumption|omega|trivial)
    rw[hprog,e2]
    simp only[Option.bind_some]
    rw[J0 hi hl]
    rfl
  ·by_cases hm:(isT Aqy (t::r)||isT A4y (t::r))=true
   ·have hspec:F6 CL (t::r)=Lc [40] r fun r2=>bnd (CL r2 0) fun a i=>Lc [44] i fun i2=>bnd (CL i2 0) fun b j=>Lc [41] j fun j2=>
      (some (⟨if t.Ag=Aqy then 16 else 17,[]⟩::(a++b)),j2):=by unfold F6;simp only[if_neg hp,if_pos hm]
    rw[hspec]
    generalize hk:(if t.Ag=Aqy then(16:Int) else 17)=k
    have hprog:parse_reader_primary (f+2+1) (RD l (t::r) false)=(Ap [[40]] (RD l r false)).bind fun x10=>(parse_reader_any (f+2) x10).bind fun x11=>
      (Ap [[44]] x11.2).bind fun x12=>(parse_reader_any (f+2) x12).bind fun x13=>(Ap [[41]] x13.2).bind fun x14=>(Ci k [x11.1,x13.1]).bind fun x15=>some (x15,x14):=by
     rw[parse_reader_primary,Afn h hl hp]
     simp only[Option.bind_some,A5l h,Bool.not_false,Bool.true_and,A6,Bool.cond_self]
     have hm2:(isT [109,105,110] (t::r)||bif !isT [109,105,110] (t::r) then isT [109,97,120] (t::r) else default)=true:=by
      have e1:Aqy=[109,105,110]:=rfl
      have e2:A4y=[109,97,120]:=rfl
      rw[e1,e2] at hm
      cases hx:isT [109,105,110] (t::r) with
      |true=>rfl
      |false=>rw[hx] at hm;simpa using hm
     rw[if_pos hm2]
     have e3:(⟨(RD l (t::r) false).Jt,(RD l (t::r) false).Cz,(RD l (t::r) false).Ca⟩:Ab)=RD l (t::r) false:=rfl
     have e4:IntKind.wrap .i64 ((RD l (t::r) false).Cz+1)=ps l r:=Aso h hl
     rw[e4]
     have e5:(⟨(RD l (t::r) false).Jt,ps l r,(RD l (t::r) false).Ca⟩:Ab)=RD l r false:=rfl
     rw[e5]
     have hk2:(if (isT [109,97,120] (t::r))=true then some (17:Int) else some 16)=some k:=by
      rw[←hk]
      by_cases hx:t.Ag=Aqy
      ·have:isT [109,97,120] (t::r)=false:=by simp[isT,hx,Aqy]
       rw[this,if_pos hx];rfl
      ·have:isT [109,97,120] (t::r)=true:=by
        rcases(Bool.or_eq_true_iff).1 hm with hy|hy
        ·exact absurd (of_decide_eq_true hy).2 hx
        ·exact hy
       rw[this,if_neg hx];rfl
     simp only[Bool.false_eq_true,if_false,hk2,Option.bind_some]
    unfold Lc
    by_cases hc:isT [40] r=true
    ·rw[if_pos hc]
     obtain⟨t1,r1,rfl,_,_⟩:=Fm hc
     simp only[List.tail_cons,List.length_cons] at hle⊢
     have hr1:=Kj hr
     rcases(ih r1 hr1 (by simp;omega)).of with⟨a,i,e1,e2,nb1⟩|⟨o,i,e1,e2,e3,nb3⟩
     ·rw[e1]
      have hz:=Mn e1
      have hi:i <:+ l:=by have:=(Gb r1 0).trans hr1;rw[e1] at this;exact this
      have hil:i.length≤r1.length:=by have:=(Gb r1 0).length_le;rw[e1] at this;exact this
      show PG _ _ _ (if isT [44] i=true then _ else _)
      by_cases hc2:isT [44] i=true
      ·rw[if_pos hc2]
       obtain⟨t2,r2,rfl,_,_⟩:=Fm hc2
       simp only[List.tail_cons,List.length_cons] at hz hil⊢
       have hr2:=Kj hi
       rcases(ih r2 hr2 (by simp;omega)).of with⟨b,j,e4,e5,nb4⟩|⟨o,j,e4,e5,e6,nb6⟩
       ·rw[e4]
        have hz2:=Mn e4
        have hj:j <:+ l:=by have:=(Gb r2 0).trans hr2;rw[e4] at this;exact this
        show PG _ _ _ (if isT [41] j=true then _ else _)
        by_cases hc3:isT [41] j=true
        ·rw[if_pos hc3]
         refine Ai5 ?_ (by simp;omega) (by(try simp only[Db,Cc,Da,List.length_append,List.length_cons,List.length_nil]);(repeat' apply And.intro)<;>first|assumption|omega|trivial)
         rw[hprog,Fg hr hl hc]
         simp only[Option.bind_some,List.tail_cons,e2]
         rw[Fg hi hl hc2]
         simp only[Option.bind_some,List.tail_cons,e5]
         rw[Fg hj hl hc3]
         simp only[Option.bind_some,List.tail_cons]
         rw[Aor (by omega)]
         rfl
        ·rw[if_neg hc3]
         refine PG.no (o:=⟨k,[]⟩::(a++b)) ?_ (by simp;omega) (by(try simp only[Db,Cc,Da,List.length_append,List.length_cons,List.length_nil]);(repeat' apply And.intro)<;>first|assumption|omega|trivial)
         rw[hprog,Fg hr hl hc]
         simp only[Option.bind_some,List.tail_cons,e2]
         rw[Fg hi hl hc2]
         simp only[Option.bind_some,List.tail_cons,e5]
         rw[Aty hj hl hc3]
         simp only[Option.bind_some,List.tail_cons]
         rw[Aor (by omega)]
         rfl
       ·rw[e4]
        have hj:j <:+ l:=by have:=(Gb r2 0).trans hr2;rw[e4] at this;exact this
        refine PG.no (o:=⟨k,[]⟩::(a++o)) ?_ (by simp;omega) (by(try simp only[Db,Cc,Da,List.length_append,List.length_cons,List.length_nil]);(repeat' apply And.intro)<;>first|assumption|omega|trivial)
        rw[hprog,Fg hr hl hc]
        simp only[Option.bind_some,List.tail_cons,e2]
        rw[Fg hi hl hc2]
        simp only[Option.bind_some,List.tail_cons,e5]
        rw[J0 hj hl]
        simp only[Option.bind_some,List.tail_cons]
        rw[Aor (by omega)]
        rfl
      ·rw[if_neg hc2]
       refine PG.no (o:=⟨k,[]⟩::(a++[])) ?_ (by simp;omega) (by(try simp only[Db,Cc,Da,List.length_append,List.length_cons,List.length_nil]);(repeat' apply And.intro)<;>first|assumption|omega|trivial)
       rw[hprog,Fg hr hl hc]
       simp only[Option.bind_some,List.tail_cons,e2]
       rw[Aty hi hl hc2]
       simp only[Option.bind_some,List.tail_cons]
       rw[Jk hi hl]
       simp only[Option.bind_some]
       rw[J0 hi hl]
       simp only[Option.bind_some]
       rw[Aor (by simp;omega)]
       rfl
     ·rw[e1]
      have hi:i <:+ l:=by have:=(Gb r1 0).trans hr1;rw[e1] at this;exact this
      refine PG.no (o:=⟨k,[]⟩::(o++[])) ?_ (by simp;omega) (by(try simp only[Db,Cc,Da,List.length_append,List.length_cons,List.length_nil]);(repeat' apply And.intro)<;>first|assumption|omega|trivial)
      rw[hprog,Fg hr hl hc]
      simp only[Option.bind_some,List.tail_cons,e2]
      rw[J0 hi hl]
      simp only[Option.bind_some,List.tail_cons]
      rw[Jk hi hl]
      simp only[Option.bind_some]
      rw[J0 hi hl]
      simp only[Option.bind_some]
      rw[Aor (by simp;omega)]
      rfl
    ·rw[if_neg hc]
     refine PG.no (o:=[⟨k,[]⟩]) ?_ (by simp) (by(try simp only[Db,Cc,Da,List.length_append,List.length_cons,List.length_nil]);(repeat' apply And.intro)<;>first|assumption|omega|trivial)
     rw[hprog,Aty hr hl hc]
     simp only[Option.bind_some]
     rw[Jk hr hl]
     simp only[Option.bind_some]
     rw[J0 hr hl]
     simp only[Option.bind_some]
     rw[Jk hr hl]
     simp only[Option.bind_some]
     rw[J0 hr hl]
     simp only[Option.bind_some]
     rw[Aor (by simp)]
     rfl
   ·have hspec:F6 CL (t::r)=if t.Ac=1 then(if isT [37] r=true then(some [⟨0,t.Ag++[37]⟩],r.tail) else(some [⟨0,t.Ag⟩],r))
      else if t.Ac=0∧Ay2 t.Ag false=false then(some [⟨1,t.Ag⟩],r) else(none,t::r):=by unfold F6;simp only[if_neg hp,if_neg hm]
    rw[hspec]
    have hprog:parse_reader_primary (f+2+1) (RD l (t::r) false)=if (t.Ac==1)=true then
      (A9 1 false (RD l (t::r) false)).bind fun x18=>
      (Bd [37] x18.2).bind fun x19=>
      ((if x19.1=true then
        (A5 x18.1 [37]).bind fun x21=>
        some x21
      else
       some x18.1):Option (List UInt8)).bind fun j20=>
      some ([(⟨0,j20⟩:Aa)],x19.2)
     else
      (A9 0 false (RD l (t::r) false)).bind fun x23=>
      some ([(⟨1,x23.1⟩:Aa)],x23.2):=by
     rw[parse_reader_primary,Afn h hl hp]
     simp only[Option.bind_some,A5l h,Bool.not_false,Bool.true_and,A6,Bool.cond_self]
     have hm2:(isT [109,105,110] (t::r)||bif !isT [109,105,110] (t::r) then isT [109,97,120] (t::r) else default)=false:=by
      have e1:Aqy=[109,105,110]:=rfl
      have e2:A4y=[109,97,120]:=rfl
      rw[e1,e2] at hm
      cases hx:isT [109,105,110] (t::r) with
      |true=>rw[hx] at hm;simp at hm
      |false=>rw[hx] at hm;simpa using hm
     rw[hm2]
     have e4:(decide ((RD l (t::r) false).Cz<((RD l (t::r) false).Jt.length:Int)))=true:=A6b h
     have e5:rdO (RD l (t::r) false).Jt (RD l (t::r) false).Cz=some t:=A1c h
     simp only[Bool.false_eq_true,if_false,e4,e5,A6,cond_true,Option.bind_some,Bool.true_and]
    have htx:t.Ag.length≤100000:=hF.tx t (h.subset (by simp))
    by_cases h1:t.Ac=1
    ·have hb:(t.Ac==1)=true:=by simp[h1]
     have hs:Ko 1 false (t::r,false)=(t.Ag,r,false):=by simp[Ko,h1]
     rw[if_pos h1]
     by_cases hc:isT [37] r=true
     ·rw[if_pos hc]
      refine Ai5 ?_ (by simp) (by(try simp only[Db,Cc,Da,List.length_append,List.length_cons,List.length_nil]);(repeat' apply And.intro)<;>first|assumption|omega|trivial)
      rw[hprog,if_pos hb,Amx h hl,hs]
      simp only[Option.bind_some]
      rw[Al8 hr hl hc]
      simp only[Option.bind_some,if_true]
      unfold A5
      rw[if_pos (by simp;omega)]
      rfl
     ·rw[if_neg hc]
      refine Ai5 ?_ (by simp) (by(try simp only[Db,Cc,Da,List.length_append,List.length_cons,List.length_nil]);(repeat' apply And.intro)<;>first|assumption|omega|trivial)
      rw[hprog,if_pos hb,Amx h hl,hs]
      simp only[Option.bind_some]
      rw[Afn hr hl hc]
      rfl
    ·have hb:(t.Ac==1)=false:=by simp[h1]
     rw[if_neg h1]
     by_cases h2:t.Ac=0∧Ay2 t.Ag false=false
     ·rw[if_pos h2]
      have hs:Ko 0 false (t::r,false)=(t.Ag,r,false):=by simp[Ko,h2.1,h2.2]
      refine Ai5 ?_ (by simp) (by(try simp only[Db,Cc,Da,List.length_append,List.length_cons,List.length_nil]);(repeat' apply And.intro)<;>first|assumption|omega|trivial)
      rw[hprog,hb]
      simp only[Bool.false_eq_true,if_false]
      rw[Amx h hl,hs]
      rfl
     ·rw[if_neg h2]
      have hs:Ko 0 false (t::r,false)=([],t::r,true):=by
       simp only[Ko]
       rw[if_pos]
       by_cases h3:t.Ac=0
       ·right
        cases ho:Ay2 t.Ag false with
        |true=>simp
        |false=>exact absurd ⟨h3,ho⟩ h2
       ·exact Or.inl h3
      refine PG.no (o:=[⟨1,[]⟩]) ?_ (by simp) (by(try simp only[Db,Cc,Da,List.length_append,List.length_cons,List.length_nil]);(repeat' apply And.intro)<;>first|assumption|omega|trivial)
      rw[hprog,hb]
      simp only[Bool.false_eq_true,if_false]
      rw[Amx h hl,hs]
      rfl
end Go.Av.G
end
section
set_option maxRecDepth 4000
set_option maxHeartbeats 4000000
namespace Go.Av.G
open Go Go.Av Go.Proofs
theorem Wu{ts l i:List Tk}{n:Nat}{o:Option (List Nd)}(h:ts <:+ l)(e:CL ts n=(o,i)):i <:+ l:=by
 have:=(Gb ts n).trans h;rw[e] at this;exact this
theorem Bj7{ts i:List Tk}{n:Nat}{o:Option (List Nd)}(e:CL ts n=(o,i)):i.length≤ts.length:=by
 have:=(Gb ts n).length_le;rw[e] at this;exact this
theorem A1n{l ts:List Tk}(hF:Fit l)(h:ts <:+ l){f:Nat}(hp:PG (parse_reader_primary f) l ts (F6 CL ts))
  (ih: ∀r,r <:+ l→r.length<ts.length→PG (parse_reader_level f 7) l r (CL r 7)):PG (parse_reader_level (f+1) 7) l ts (CL ts 7):=by
 have hl:=hF.l6
 have hle:=hF.le h
 rw[Bm3]
 by_cases hc:isT [45] ts=true
 ·rw[if_pos hc]
  obtain⟨t,r,rfl,_,_⟩:=Fm hc
  have hr:=Kj h
  have hprog:parse_reader_level (f+1) 7 (RD l (t::r) false)=(parse_reader_level f 7 (RD l r false)).bind fun x8=>(Ci 2 [x8.1]).bind fun x9=>some (x9,x8.2):=by
   rw[parse_reader_level]
   have e:(RD l (t::r) false).Ca=false:=rfl
   simp only[e,Bool.false_eq_true,if_false]
   rw[if_neg (by simp),if_pos (by simp),Al8 h hl hc]
   rfl
  simp only[List.tail_cons,List.length_cons] at hle⊢
  rcases(ih r hr (by simp)).of with⟨a,i,e1,e2,nb1⟩|⟨o,i,e1,e2,e3,nb3⟩
  ·rw[e1]
   have hz:=Mn e1
   refine Ai5 ?_ (by simp;omega) (by(try simp only[Db,Cc,Da,List.length_append,List.length_cons,List.length_nil]);(repeat' apply And.intro)<;>first|assumption|omega|trivial)
   rw[hprog,e2]
   simp only[Option.bind_some]
   rw[Bkg (by omega)]
   rfl
  ·rw[e1]
   refine PG.no (o:=⟨2,[]⟩::o) ?_ (by simp;omega) (by(try simp only[Db,Cc,Da,List.length_append,List.length_cons,List.length_nil]);(repeat' apply And.intro)<;>first|assumption|omega|trivial)
   rw[hprog,e2]
   simp only[Option.bind_some]
   rw[Bkg (by omega)]
   rfl
 ·rw[if_neg hc]
  have hprog:parse_reader_level (f+1) 7 (RD l ts false)=parse_reader_primary f (RD l ts false):=by
   rw[parse_reader_level]
   have e:(RD l ts false).Ca=false:=rfl
   simp only[e,Bool.false_eq_true,if_false]
   rw[if_neg (by simp),if_pos (by simp),Afn h hl hc]
   simp only[Option.bind_some,Bool.false_eq_true,if_false]
   cases parse_reader_primary f (RD l ts false)<;>rfl
  unfold PG at hp⊢
  rw[hprog]
  exact hp
theorem A10{l ts:List Tk}(hF:Fit l)(h:ts <:+ l){f:Nat}(hp:PG (parse_reader_level f 4) l ts (CL ts 4))
  (ih: ∀r,r <:+ l→r.length<ts.length→PG (parse_reader_level f 3) l r (CL r 3)):PG (parse_reader_level (f+1) 3) l ts (CL ts 3):=by
 have hl:=hF.l6
 have hle:=hF.le h
 rw[Bm4]
 by_cases hc:isT Aqz ts=true
 ·rw[if_pos hc]
  obtain⟨t,r,rfl,_,_⟩:=Fm hc
  have hr:=Kj h
  have hprog:parse_reader_level (f+1) 3 (RD l (t::r) false)=(parse_reader_level f 3 (RD l r false)).bind fun x8=>(Ci 14 [x8.1]).bind fun x9=>some (x9,x8.2):=by
   rw[parse_reader_level]
   have e:(RD l (t::r) false).Ca=false:=rfl
   simp only[e,Bool.false_eq_true,if_false]
   rw[if_pos (by simp),show([110,111,116]:By)=Aqz from rfl,Al8 h hl hc]
   rfl
  simp only[List.tail_cons,List.length_cons] at hle⊢
  rcases(ih r hr (by simp)).of with⟨a,i,e1,e2,nb1⟩|⟨o,i,e1,e2,e3,nb3⟩
  ·rw[e1]
   have hz:=Mn e1
   refine Ai5 ?_ (by simp;omega) (by(try simp only[Db,Cc,Da,List.length_append,List.length_cons,List.length_nil]);(repeat' apply And.intro)<;>first|assumption|omega|trivial)
   rw[hprog,e2]
   simp only[Option.bind_some]
   rw[Bkg (by omega)]
   rfl
  ·rw[e1]
   refine PG.no (o:=⟨14,[]⟩::o) ?_ (by simp;omega) (by(try simp only[Db,Cc,Da,List.length_append,List.length_cons,List.length_nil]);(repeat' apply And.intro)<;>first|assumption|omega|trivial)
   rw[hprog,e2]
   simp only[Option.bind_some]
   rw[Bkg (by omega)]
   rfl
 ·rw[if_neg hc]
  have hprog:parse_reader_level (f+1) 3 (RD l ts false)=parse_reader_level f 4 (RD l ts false):=by
   rw[parse_reader_level]
   have e:(RD l ts false).Ca=false:=rfl
   simp only[e,Bool.false_eq_true,if_false]
   rw[if_pos (by simp),show([110,111,116]:By)=Aqz from rfl,Afn h hl hc]
   simp only[Option.bind_some,Bool.false_eq_true,if_false]
   cases parse_reader_level f 4 (RD l ts false)<;>rfl
  unfold PG at hp⊢
  rw[hprog]
  exact hp
theorem Bbg{l ts:List Tk}(hF:Fit l)(h:ts <:+ l){f:Nat}(hf:2≤f)(hp:PG (parse_reader_level f 1) l ts (CL ts 1))
  (ih: ∀r,r <:+ l→r.length<ts.length→PG (parse_reader_any f) l r (CL r 0)):PG (parse_reader_any (f+1)) l ts (CL ts 0):=by
 have hl:=hF.l6
 have hle:=hF.le h
 obtain⟨f,rfl⟩: ∃g,f=g+2:=⟨f-2,by omega⟩
 rw[Bq1]
 by_cases hc:isT sIf ts=true
 ·rw[if_pos hc]
  obtain⟨t,r,rfl,_,_⟩:=Fm hc
  have hr:=Kj h
  have hprog:parse_reader_any (f+2+1) (RD l (t::r) false)=(parse_reader_any (f+2) (RD l r false)).bind fun x4=>
   (Ap [Al3] x4.2).bind fun x5=>
   (parse_reader_any (f+2) x5).bind fun x6=>
   (Ap [Afv] x6.2).bind fun x7=>
   (parse_reader_any (f+2) x7).bind fun x8=>
   (Ci 15 [x4.1,x6.1,x8.1]).bind fun x9=>
   some (x9,x8.2):=by
   rw[parse_reader_any,show([105,102]:By)=sIf from rfl,Al8 h hl hc]
   rfl
  simp only[List.tail_cons,List.length_cons] at hle⊢
  rcases(ih r hr (by simp)).of with⟨a,i,e1,e2,nb1⟩|⟨o,i,e1,e2,e3,nb3⟩
  ·rw[e1]
   have hz:=Mn e1
   have hi:=Wu hr e1
   have hil:=Bj7 e1
   show PG _ _ _ (Lc Al3 i fun i2=>bnd (CL i2 0) fun b j=>Lc Afv j fun j2=>bnd (CL j2 0) fun c k=>(some (⟨15,[]⟩::(a++b++c)),k))
   unfold Lc
   by_cases hc2:isT Al3 i=true
   ·rw[if_pos hc2]
    obtain⟨t2,r2,rfl,_,_⟩:=Fm hc2
    simp only[List.tail_cons,List.length_cons] at hz hil⊢
    have hr2:=Kj hi
    rcases(ih r2 hr2 (by simp;omega)).of with⟨b,j,e4,e5,nb4⟩|⟨o,j,e4,e5,e6,nb6⟩
    ·rw[e4]
     have hz2:=Mn e4
     have hj:=Wu hr2 e4
     have hjl:=Bj7 e4
     show PG _ _ _ (if isT Afv j=true then _ else _)
     by_cases hc3:isT Afv j=true
     ·rw[if_pos hc3]
      obtain⟨t3,r3,rfl,_,_⟩:=Fm hc3
      simp only[List.tail_cons,List.length_cons] at hz2 hjl⊢
      have hr3:=Kj hj
      rcases(ih r3 hr3 (by simp;omega)).of with⟨c,k,e7,e8,nb7⟩|⟨o,k,e7,e8,e9,nb9⟩
      ·rw[e7]
       have hz3:=Mn e7
       refine Ai5 ?_ (by simp;omega) (by(try simp only[Db,Cc,Da,List.length_append,List.length_cons,List.length_nil]);(repeat' apply And.intro)<;>first|assumption|omega|trivial)
       rw[hprog,e2]
       simp only[Option.bind_some]
       rw[Fg hi hl hc2]
       simp only[Option.bind_some,List.tail_cons,e5]
       rw[Fg hj hl hc3]
       simp only[Option.bind_some,List.tail_cons,e8]
       rw[node3 (by omega)]
       rfl
      ·rw[e7]
       refine PG.no (o:=⟨15,[]⟩::(a++b++o)) ?_ (by simp;omega) (by(try simp only[Db,Cc,Da,List.length_append,List.length_cons,List.length_nil]);(repeat' apply And.intro)<;>first|assumption|omega|trivial)
       rw[hprog,e2]
       simp only[Option.bind_some]
       rw[Fg hi hl hc2]
       simp only[Option.bind_some,List.tail_cons,e5]
       rw[Fg hj hl hc3]
       simp only[Option.bind_some,List.tail_cons,e8]
       rw[node3 (by omega)]
       rfl
     ·rw[if_neg hc3]
      refine PG.no (o:=⟨15,[]⟩::(a++b++[])) ?_ (by simp;omega) (by(try simp only[Db,Cc,Da,List.length_append,List.length_cons,List.length_nil]);(repeat' apply And.intro)<;>first|assumption|omega|trivial)
      rw[hprog,e2]
      simp only[Option.bind_some]
      rw[Fg hi hl hc2]
      simp only[Option.bind_some,List.tail_cons,e5]
      rw[Aty hj hl hc3]
      simp only[Option.bind_some]
      rw[Jk hj hl]
      simp only[Option.bind_some]
      rw[node3 (by simp;omega)]
      rfl
    ·rw[e4]
     have hj:=Wu hr2 e4
     refine PG.no (o:=⟨15,[]⟩::(a++o++[])) ?_ (by simp;omega) (by(try simp only[Db,Cc,Da,List.length_append,List.length_cons,List.length_nil]);(repeat' apply And.intro)<;>first|assumption|omega|trivial)
     rw[hprog,e2]
     simp only[Option.bind_some]
     rw[Fg hi hl hc2]
     simp only[Option.bind_some,List.tail_cons,e5]
     rw[J0 hj hl]
     simp only[Option.bind_some]
     rw[Jk hj hl]
     simp only[Option.bind_some]
     rw[node3 (by simp;omega)]
     rfl
   ·rw[if_neg hc2]
    refine PG.no (o:=⟨15,[]⟩::(a++[]++[])) ?_ (by simp;omega) (by(try simp only[Db,Cc,Da,List.length_append,List.length_cons,List.length_nil]);(repeat' apply And.intro)<;>first|assumption|omega|trivial)
    rw[hprog,e2]
    simp only[Option.bind_some]
    rw[Aty hi hl hc2]
    simp only[Option.bind_some]
    rw[Jk hi hl]
    simp only[Option.bind_some]
    rw[J0 hi hl]
    simp only[Option.bind_some]
    rw[Jk hi hl]
    simp only[Option.bind_some]
    rw[node3 (by simp;omega)]
    rfl
  ·rw[e1]
   have hi:=Wu hr e1
   refine PG.no (o:=⟨15,[]⟩::(o++[]++[])) ?_ (by simp;omega) (by(try simp only[Db,Cc,Da,List.length_append,List.length_cons,List.length_nil]);(repeat' apply And.intro)<;>first|assumption|omega|trivial)
   rw[hprog,e2]
   simp only[Option.bind_some]
   rw[J0 hi hl]
   simp only[Option.bind_some]
   rw[Jk hi hl]
   simp only[Option.bind_some]
   rw[J0 hi hl]
   simp only[Option.bind_some]
   rw[Jk hi hl]
   simp only[Option.bind_some]
   rw[node3 (by simp;omega)]
   rfl
 ·rw[if_neg hc]
  have hprog:parse_reader_any (f+2+1) (RD l ts false)=parse_reader_level (f+2) 1 (RD l ts false):=by
   rw[parse_reader_any,show([105,102]:By)=sIf from rfl,Afn h hl hc]
   simp only[Option.bind_some,Bool.not_false,if_true]
   cases parse_reader_level (f+2) 1 (RD l ts false)<;>rfl
  unfold PG at hp⊢
  rw[hprog]
  exact hp
theorem Bpe{l:List Tk}(hF:Fit l){f n:Nat}(hn:n=1∨n=2∨n=4∨n=5∨n=6){N T:Nat}(hT:T≤100000)
  (ih: ∀r,r <:+ l→r.length<N→PG (parse_reader_level f ((n+1:Nat):Int)) l r (CL r (n+1))): ∀(k:Nat) (out:List Nd) (i:List Tk),i <:+ l→i.length≤k→i.length≤N→out.length+i.length≤T→NB out→ ∀kk,
   (Am1 n i false=true→ ∃t r,i=t::r∧(Bw t).2=n∧kk=(Bw t).1)→
   ∃o,A4 (fun(qj13:(List Aa)×Int×Bool×Ab)=>match qj13 with
      |(out14,kind15,is16,r17)=>(
       if is16=true then
        (parse_reader_level f (IntKind.wrap .i64 ((n:Int)+1)) (⟨r17.Jt,IntKind.wrap .i64 (r17.Cz+1),r17.Ca⟩:Ab)).bind fun x18=>
        (Ci kind15 [out14,x18.1]).bind fun x19=>
        if ((n:Int)==4)=true then
         some (.inr (x19,x18.2))
        else
         (B6 (n:Int) x18.2).bind fun x20=>
         some (.inl (x19,x20.1,x20.2,x18.2))
       else
        some (.inr (out14,r17)):Option (((List Aa)×Int×Bool×Ab)⊕((List Aa)×Ab)))) (out,kk,Am1 n i false,RD l i false)=some (o,RD l (Af5 n k out i).2 (Af5 n k out i).1.isNone)∧(∀a,(Af5 n k out i).1=some a→o=a)∧o.length≤T+1∧NB o:=by
 have hl:=hF.l6
 have hw:IntKind.wrap .i64 ((n:Int)+1)=((n+1:Nat):Int):=by rw[wrap64 (by omega) (by omega)];rfl
 intro k
 induction k with
 |zero=>
  intro out i hi hk hN hout hnb kk hkk
  obtain rfl:i=[]:=List.eq_nil_of_length_eq_zero (by omega)
  exact⟨out,A1 (by rfl),(fun a ha=>Option.some.inj ha),by omega,hnb⟩
 |succ k ihk=>
  intro out i hi hk hN hout hnb kk hkk
  cases i with
  |nil=>exact⟨out,A1 (by rfl),(fun a ha=>Option.some.inj ha),by omega,hnb⟩
  |cons t r=>
   simp only[List.length_cons] at hk hN hout
   have hr:=Kj hi
   have hrl:=hF.le hr
   rw[Af5]
   by_cases hs:(Bw t).2=n
   ·rw[if_pos hs]
    have hb:Am1 n (t::r) false=true:=by simp[Am1,hs]
    obtain⟨t',r',he,h2,h3⟩:=hkk hb
    cases he
    subst h3
    rw[hb]
    have hstep:(⟨(RD l (t::r) false).Jt,IntKind.wrap .i64 ((RD l (t::r) false).Cz+1),(RD l (t::r) false).Ca⟩:Ab)=RD l r false:=by
     have e:IntKind.wrap .i64 ((RD l (t::r) false).Cz+1)=ps l r:=Aso hi hl
     rw[e];rfl
    rcases(ih r hr (by omega)).of with⟨b,j,e1,e2,nb1⟩|⟨o,j,e1,e2,e3,nb3⟩
    ·have hz:=Mn e1
     have hj:=Wu hr e1
     have hjl:=Bj7 e1
     rw[e1]
     show ∃o,_∧(∀a,(if n=4 then _ else _:Rs (List Nd)).1=some a→o=a)∧_
     by_cases h4:n=4
     ·have e4:bnd ((some b,j):Rs (List Nd)) (fun b j=>if n=4 then((some (⟨(Bw t).1,[]⟩::(out++b)),j):Rs (List Nd)) else Af5 n k (⟨(Bw t).1,[]⟩::(out++b)) j)=(some (⟨(Bw t).1,[]⟩::(out++b)),j):=by
       show(if n=4 then _ else _)=_
       rw[if_pos h4]
      rw[e4,if_pos h4]
      refine⟨⟨(Bw t).1,[]⟩::(out++b),A1 ?_,(fun a ha=>Option.some.inj ha),(by simp;omega),(by(try simp only[Db,Cc,Da,List.length_append,List.length_cons,List.length_nil]);(repeat' apply And.intro)<;>first|assumption|omega|trivial)⟩
      show(if true=true then _ else _)=_
      rw[if_pos rfl,hstep,hw,e2]
      simp only[Option.bind_some]
      rw[Aor (by omega)]
      simp only[Option.bind_some]
      rw[if_pos (by simp;omega)]
      rfl
     ·have e4:bnd ((some b,j):Rs (List Nd)) (fun b j=>if n=4 then((some (⟨(Bw t).1,[]⟩::(out++b)),j):Rs (List Nd)) else Af5 n k (⟨(Bw t).1,[]⟩::(out++b)) j)=Af5 n k (⟨(Bw t).1,[]⟩::(out++b)) j:=by
       show(if n=4 then _ else _)=_
       rw[if_neg h4]
      rw[e4,if_neg h4]
      obtain⟨k2,h5,h6⟩:=Apb hj (n:=n) (by omega) false
      obtain⟨o,h7,h8,h9⟩:=ihk (⟨(Bw t).1,[]⟩::(out++b)) j hj (by omega) (by omega) (by simp;omega) (by(try simp only[Db,Cc,Da,List.length_append,List.length_cons,List.length_nil]);(repeat' apply And.intro)<;>first|assumption|omega|trivial) k2 (fun hb=>by
       obtain⟨t,r,g1,_,g2,g3⟩:=h6 hb
       exact⟨t,r,g1,g2,g3⟩)
      refine⟨o,?_,h8,h9⟩
      rw[←h7]
      refine Bs ?_
      show(if true=true then _ else _)=_
      rw[if_pos rfl,hstep,hw,e2]
      simp only[Option.bind_some]
      rw[Aor (by omega)]
      simp only[Option.bind_some]
      rw[if_neg (by simp;omega),h5]
      rfl
    ·have hj:=Wu hr e1
     have e4:bnd (CL r (n+1)) (fun b j=>if n=4 then((some (⟨(Bw t).1,[]⟩::(out++b)),j):Rs (List Nd)) else Af5 n k (⟨(Bw t).1,[]⟩::(out++b)) j)=(none,j):=by rw[e1];rfl
     rw[e4]
     refine⟨⟨(Bw t).1,[]⟩::(out++o),?_,(fun a ha=>by cases ha),(by simp;omega),(by(try simp only[Db,Cc,Da,List.length_append,List.length_cons,List.length_nil]);(repeat' apply And.intro)<;>first|assumption|omega|trivial)⟩
     by_cases h4:n=4
     ·refine A1 ?_
      show(if true=true then _ else _)=_
      rw[if_pos rfl,hstep,hw,e2]
      simp only[Option.bind_some]
      rw[Aor (by omega)]
      simp only[Option.bind_some]
      rw[if_pos (by simp;omega)]
      rfl
     ·obtain⟨k2,h5⟩:=Axt hj (n:=n) (by omega)
      refine(Bs (s':=(⟨(Bw t).1,[]⟩::(out++o),k2,false,RD l j true)) ?_).trans (A1 (by rfl))
      show(if true=true then _ else _)=_
      rw[if_pos rfl,hstep,hw,e2]
      simp only[Option.bind_some]
      rw[Aor (by omega)]
      simp only[Option.bind_some]
      rw[if_neg (by simp;omega),h5]
      rfl
   ·rw[if_neg hs]
    have hb:Am1 n (t::r) false=false:=by simp[Am1,hs]
    rw[hb]
    exact⟨out,A1 (by rfl),(fun a ha=>Option.some.inj ha),by omega,hnb⟩
theorem mid_step{l ts:List Tk}(hF:Fit l)(h:ts <:+ l){f n:Nat}(hn:n=1∨n=2∨n=4∨n=5∨n=6)(hp:PG (parse_reader_level f ((n+1:Nat):Int)) l ts (CL ts (n+1)))
  (ih: ∀r,r <:+ l→r.length<ts.length→PG (parse_reader_level f ((n+1:Nat):Int)) l r (CL r (n+1))):PG (parse_reader_level (f+1) (n:Int)) l ts (CL ts n):=by
 have hl:=hF.l6
 have hle:=hF.le h
 rw[Bs1 hn]
 have hw:IntKind.wrap .i64 ((n:Int)+1)=((n+1:Nat):Int):=by rw[wrap64 (by omega) (by omega)];rfl
 have h3: ¬(((n:Int)==3)=true):=by simp;omega
 have h7: ¬(((n:Int)==7)=true):=by simp;omega
 rcases hp.of with⟨a,i,e1,e2,nb1⟩|⟨o,i,e1,e2,e3,nb3⟩
 ·have hz:=Mn e1
  have hi:=Wu h e1
  have hil:=Bj7 e1
  rw[e1]
  show PG _ _ _ (Af5 n i.length a i)
  obtain⟨k2,h5,h6⟩:=Apb hi (n:=n) (by omega) false
  obtain⟨o,g1,g2,g3⟩:=Bpe hF hn (N:=ts.length) (T:=ts.length) hle ih i.length a i hi (Nat.le_refl _) hil hz nb1 k2 (fun hb=>by
   obtain⟨t,r,g1,_,g2,g3⟩:=h6 hb
   exact⟨t,r,g1,g2,g3⟩)
  refine⟨o,?_,g2,g3⟩
  rw[parse_reader_level]
  have e:(RD l ts false).Ca=false:=rfl
  simp only[e,Bool.false_eq_true,if_false]
  rw[if_neg h3,if_neg h7,hw,e2]
  simp only[Option.bind_some]
  rw[h5]
  simp only[Option.bind_some]
  rw[hw] at g1
  exact Bg g1 rfl
 ·have hi:=Wu h e1
  rw[e1]
  refine PG.no (o:=o) ?_ e3 nb3
  rw[parse_reader_level]
  have e:(RD l ts false).Ca=false:=rfl
  simp only[e,Bool.false_eq_true,if_false]
  obtain⟨k2,h5⟩:=Axt hi (n:=n) (by omega)
  rw[if_neg h3,if_neg h7,hw,e2]
  simp only[Option.bind_some]
  rw[h5]
  simp only[Option.bind_some]
  refine Bg (A1 (o:=(o,RD l i true)) ?_) rfl
  rfl
theorem Bpu{l:List Tk}(hF:Fit l): ∀(N:Nat) (ts:List Tk),ts <:+ l→ts.length≤N→
  (∀f,12*ts.length+3≤f→PG (parse_reader_primary f) l ts (F6 CL ts))∧
  (∀(n f:Nat),1≤n→n≤7→12*ts.length+11≤f+n→PG (parse_reader_level f (n:Int)) l ts (CL ts n))∧
  (∀f,12*ts.length+12≤f→PG (parse_reader_any f) l ts (CL ts 0)):=by
 intro N
 induction N with
 |zero=>
  intro ts hts hN
  obtain rfl:ts=[]:=List.eq_nil_of_length_eq_zero (by omega)
  have hp: ∀f,12*([]:List Tk).length+3≤f→PG (parse_reader_primary f) l [] (F6 CL []):=by
   intro f hf
   obtain⟨g,rfl⟩: ∃g,f=g+1:=⟨f-1,by omega⟩
   exact A59 hF hts (by simp at hf;omega) (fun r _ hr=>absurd hr (by simp))
  have hlv: ∀(d n f:Nat),n+d=7→1≤n→12*([]:List Tk).length+11≤f+n→PG (parse_reader_level f (n:Int)) l [] (CL [] n):=by
   intro d
   induction d with
   |zero=>
    intro n f hd _ hf
    obtain rfl:n=7:=by omega
    obtain⟨g,rfl⟩: ∃g,f=g+1:=⟨f-1,by simp at hf;omega⟩
    exact A1n hF hts (hp g (by simp at hf⊢;omega)) (fun r _ hr=>absurd hr (by simp))
   |succ d ihd=>
    intro n f hd hn hf
    obtain⟨g,rfl⟩: ∃g,f=g+1:=⟨f-1,by simp at hf;omega⟩
    have hnx:=ihd (n+1) g (by omega) (by omega) (by simp at hf⊢;omega)
    by_cases h3:n=3
    ·subst h3
     exact A10 hF hts hnx (fun r _ hr=>absurd hr (by simp))
    ·exact mid_step hF hts (by omega) hnx (fun r _ hr=>absurd hr (by simp))
  refine⟨hp,fun n f h1 h2 hf=>hlv (7-n) n f (by omega) h1 hf,fun f hf=>?_⟩
  obtain⟨g,rfl⟩: ∃g,f=g+1:=⟨f-1,by simp at hf;omega⟩
  exact Bbg hF hts (by simp at hf;omega) (hlv 6 1 g rfl (by omega) (by simp at hf⊢;omega)) (fun r _ hr=>absurd hr (by simp))
 |succ N ih=>
  intro ts hts hN
  have hp: ∀f,12*ts.length+3≤f→PG (parse_reader_primary f) l ts (F6 CL ts):=by
   intro f hf
   obtain⟨g,rfl⟩: ∃g,f=g+1:=⟨f-1,by omega⟩
   exact A59 hF hts (by omega) (fun r h1 hr=>(ih r h1 (by omega)).2.2 g (by omega))
  have hlv: ∀(d n f:Nat),n+d=7→1≤n→12*ts.length+11≤f+n→PG (parse_reader_level f (n:Int)) l ts (CL ts n):=by
   intro d
   induction d with
   |zero=>
    intro n f hd _ hf
    obtain rfl:n=7:=by omega
    obtain⟨g,rfl⟩: ∃g,f=g+1:=⟨f-1,by omega⟩
    exact A1n hF hts (hp g (by omega)) (fun r h1 hr=>(ih r h1 (by omega)).2.1 7 g (by omega) (by omega) (by omega))
   |succ d ihd=>
    intro n f hd hn hf
    obtain⟨g,rfl⟩: ∃g,f=g+1:=⟨f-1,by omega⟩
    have hnx:=ihd (n+1) g (by omega) (by omega) (by omega)
    by_cases h3:n=3
    ·subst h3
     exact A10 hF hts hnx (fun r h1 hr=>(ih r h1 (by omega)).2.1 3 g (by omega) (by omega) (by omega))
    ·exact mid_step hF hts (by omega) hnx (fun r h1 hr=>(ih r h1 (by omega)).2.1 (n+1) g (by omega) (by omega) (by omega))
  refine⟨hp,fun n f h1 h2 hf=>hlv (7-n) n f (by omega) h1 hf,fun f hf=>?_⟩
  obtain⟨g,rfl⟩: ∃g,f=g+1:=⟨f-1,by omega⟩
  exact Bbg hF hts (by omega) (hlv 6 1 g rfl (by omega) (by omega)) (fun r h1 hr=>(ih r h1 (by omega)).2.2 g (by omega))
theorem Bns{l ts:List Tk}(hF:Fit l)(h:ts <:+ l)(hl:l.length≤8000):PG (parse_reader_any 100000) l ts (CL ts 0):=
 (Bpu hF ts.length ts h (Nat.le_refl _)).2.2 100000 (by have:=h.length_le;omega)
end Go.Av.G
end
section
set_option maxRecDepth 4000
set_option maxHeartbeats 4000000
namespace Go.Av.G
open Go Go.Av Go.Proofs
theorem Bsj{L:List By}(hL:L.length≤1000000)(s:By):Fl L s=some (L.contains s):=by
 unfold Fl
 refine Bg (I6 (l:=L) (fun x=>x==s) (o:=Sum.inr true) (e:=Sum.inl ()) (by omega) (fun i hi=>?_) (fun i hi=>?_)) ?_
 ·show(if _ then _ else _)=_
  rw[if_pos (by simp;omega),Cu hi]
  simp only[Option.bind_some]
  split<;>rfl
 ·show(if _ then _ else _)=_
  rw[if_neg (by simp;omega)]
 ·have:L.contains s=L.any (fun x=>x==s):=by
   rw[List.contains_eq_any_beq]
   congr 1
   funext x
   exact Bool.beq_comm
  rw[this]
  cases hx:L.any (fun x=>x==s)<;>rfl
theorem Bs4(s:By)(p:Bool):Ey s p=some (Ay2 s p):=by
 unfold Ey
 rw[Bsj (by simp),Bsj (by simp)]
 simp only[Option.bind_some]
 rfl
end Go.Av.G
end
section
set_option maxRecDepth 4000
set_option maxHeartbeats 4000000
namespace Go.Av.G
open Go Go.Av Go.Proofs
def Hj(k:Int):Option Nat:=if k<0∨17<k then none else if k≤1 then some 0 else if k=2∨k=14 then some 1 else if k=15 then some 3 else some 2
theorem Ax9{k:Int}{n:Nat}(h1:Hj k=some n):n≤3:=by
 unfold Hj at h1
 split at h1
 ·cases h1
 ·split at h1
  ·cases h1;omega
  ·split at h1
   ·cases h1;omega
   ·split at h1
    ·cases h1;omega
    ·cases h1;omega
def Ax8(k:Int):Int:=match Hj k with|none=> -1|some n=>(n:Int)
theorem has_eq(k:Int):Ls k=some (Ax8 k):=by
 unfold Ls Ax8 Hj
 simp only[Option.bind_some,Bool.or_eq_true,decide_eq_true_eq,beq_iff_eq]
 by_cases h0:k<0∨17<k
 ·rw[if_pos (by omega),if_pos h0]
 ·rw[if_neg (by omega),if_neg h0]
  by_cases h1:k≤1
  ·rw[if_pos h1,if_pos h1];rfl
  ·rw[if_neg h1,if_neg h1]
   by_cases h2:k=2∨k=14
   ·rw[if_pos h2,if_pos h2];rfl
   ·rw[if_neg h2,if_neg h2]
    by_cases h3:k=15
    ·rw[if_pos h3,if_pos h3];rfl
    ·rw[if_neg h3,if_neg h3];rfl
theorem Bap(k:Int):Ck k=some (Ax8 k):=by
 rw[←has_eq]
 unfold Ls Ck
 simp only[Option.bind_some,Bool.or_eq_true,decide_eq_true_eq,beq_iff_eq]
 have:k<2↔k≤1:=by omega
 simp only[this]
def trimS(s:By):By:=if s.getLast?=some 37 then s.dropLast else s
def Fp(s:By):Bool:=okT ⟨1,0,0,s⟩
def O9(s:By)(p:Bool):Bool:=okT ⟨0,0,0,s⟩&& !Ay2 s p
def Xe(n:Nd):Bool:=if n.Ac=0 then Fp (trimS n.Ag) else if n.Ac=1 then O9 n.Ag false else decide (n.Ag=[])
theorem A5i{s:By}(hl:s.length≤1000000):stringslite_HasSuffix s [37]=some (decide (s.getLast?=some 37)):=by
 unfold stringslite_HasSuffix
 simp only[Option.bind_some]
 rcases List.eq_nil_or_concat s with rfl|⟨u,b,rfl⟩
 ·rfl
 ·have hlen:((u++[b]).length:Int)=(u.length:Int)+1:=by simp
  have hle:u.length≤1000000:=by simp only[List.length_append,List.length_cons,List.length_nil,List.concat_eq_append] at hl;omega
  simp only[List.concat_eq_append] at*
  have hw:IntKind.wrap .i64 (((u++[b]).length:Int)-(([37]:By).length:Int))=(u.length:Int):=by
   rw[wrap64 (by simp only[List.length_append,List.length_cons,List.length_nil];omega) (by simp only[List.length_append,List.length_cons,List.length_nil];omega)];simp
  have hg:decide (((u++[b]).length:Int)≥(([37]:By).length:Int))=true:=by simp only[List.length_append,List.length_cons,List.length_nil,decide_eq_true_eq];omega
  rw[hw,hg,Kk (by simp),List.drop_left]
  simp only[A6,cond_true,Option.bind_some,Bool.true_and,Option.some.injEq]
  by_cases hb:b=37<;>simp[hb]
theorem Aus{s:By}(hl:s.length≤1000000)(h:s.getLast?=some 37):slO s 0 (IntKind.wrap .i64 ((s.length:Int)-(([37]:By).length:Int)))=some s.dropLast:=by
 rcases List.eq_nil_or_concat s with rfl|⟨u,b,rfl⟩
 ·cases h
 ·simp only[List.concat_eq_append] at*
  have hle:u.length≤1000000:=by simp only[List.length_append,List.length_cons,List.length_nil,List.concat_eq_append] at hl;omega
  have hw:IntKind.wrap .i64 (((u++[b]).length:Int)-(([37]:By).length:Int))=(u.length:Int):=by
   rw[wrap64 (by simp only[List.length_append,List.length_cons,List.length_nil];omega) (by simp only[List.length_append,List.length_cons,List.length_nil];omega)];simp
  rw[hw,Gu (by simp)]
  simp
theorem Bsg{s:By}(hl:s.length≤1000000):strings_TrimSuffix s [37]=some (trimS s):=by
 unfold strings_TrimSuffix stringslite_TrimSuffix trimS
 rw[A5i hl]
 simp only[Option.bind_some,decide_eq_true_eq]
 split
 ·rw[Aus hl (by assumption)];rfl
 ·rfl
theorem Bfb(s:By):(trimS s).length≤s.length:=by unfold trimS;split<;>simp
theorem Ams{s:By}(hl:s.length≤1000000):Ez s=some (Fp s):=by
 unfold Ez
 rw[Bba (t:=⟨1,0,0,s⟩) (by show s.length<_;omega)]
 rfl
theorem Bk7{s:By}(hl:s.length≤1000000)(p:Bool):Lu s p=some (O9 s p):=by
 unfold Lu O9
 rw[Bba (t:=⟨0,0,0,s⟩) (by show s.length<_;omega)]
 simp only[Option.bind_some]
 rw[Bpl]
 simp only[A6,Option.bind_some,Option.some.injEq]
 cases okT ⟨0,0,0,s⟩<;>rfl
theorem Brq{n:Nd}(hl:n.Ag.length≤1000000):Acc n=some (Xe n):=by
 unfold Acc Xe
 simp only[beq_iff_eq]
 by_cases h0:n.Ac=0
 ·rw[if_pos h0,if_pos h0,Bsg hl]
  simp only[Option.bind_some]
  rw[Ams (Nat.le_trans (Bfb _) hl)]
  rfl
 ·rw[if_neg h0,if_neg h0]
  by_cases h1:n.Ac=1
  ·rw[if_pos h1,if_pos h1,Bk7 hl];rfl
  ·rw[if_neg h1,if_neg h1]
   cases n.Ag<;>rfl
theorem Afh{s:By}(hl:s.length≤1000000):Bk s=some (Fp s):=by
 unfold Bk
 rw[A6c (t:=⟨1,0,0,s⟩) (by show s.length<_;omega)]
 rfl
theorem Asu{s:By}(hl:s.length≤1000000)(p:Bool):Cs s p=some (O9 s p):=by
 unfold Cs O9
 rw[A6c (t:=⟨0,0,0,s⟩) (by show s.length<_;omega)]
 simp only[Option.bind_some]
 rw[Bs4]
 rfl
theorem A5n{s:By}(hl:s.length≤1000000)(h:s≠[]):byO s (IntKind.wrap .i64 ((s.length:Int)-1))=(s.getLast?).map fun b=>(b.toNat:Int):=by
 rcases List.eq_nil_or_concat s with rfl|⟨u,b,rfl⟩
 ·exact absurd rfl h
 ·simp only[List.concat_eq_append] at*
  have hle:u.length≤1000000:=by simp only[List.length_append,List.length_cons,List.length_nil,List.concat_eq_append] at hl;omega
  have hw:IntKind.wrap .i64 (((u++[b]).length:Int)-1)=(u.length:Int):=by
   rw[wrap64 (by simp only[List.length_append,List.length_cons,List.length_nil];omega) (by simp only[List.length_append,List.length_cons,List.length_nil];omega)];simp
  rw[hw,Aja (by simp)]
  simp
theorem Bei{n:Nd}(hl:n.Ag.length≤1000000):Ed n=some (Xe n):=by
 unfold Ed Xe
 simp only[beq_iff_eq]
 by_cases h0:n.Ac=0
 ·rw[if_pos h0,if_pos h0]
  simp only[Option.bind_some]
  have key:(gdO (decide ((n.Ag.length:Int)>0)) (byO n.Ag (IntKind.wrap .i64 ((n.Ag.length:Int)-1))) 0).bind (fun x3=>
    ((if (decide ((n.Ag.length:Int)>0)&&(x3==37))=true then
      some (IntKind.wrap .i64 ((n.Ag.length:Int)-1))
    else
     some (n.Ag.length:Int)):Option Int))=some ((trimS n.Ag).length:Int)∧slO n.Ag 0 ((trimS n.Ag).length:Int)=some (trimS n.Ag):=by
   rcases List.eq_nil_or_concat n.Ag with he|⟨u,b,he⟩
   ·rw[he];exact⟨rfl,rfl⟩
   ·rw[List.concat_eq_append] at he
    have hle:u.length≤1000000:=by rw[he] at hl;simp only[List.length_append,List.length_cons,List.length_nil] at hl;omega
    have hne:n.Ag≠[]:=by rw[he];simp
    have hd:decide ((n.Ag.length:Int)>0)=true:=by rw[he];simp only[List.length_append,List.length_cons,List.length_nil,decide_eq_true_eq];omega
    have hw:IntKind.wrap .i64 ((n.Ag.length:Int)-1)=(u.length:Int):=by
     rw[he,wrap64 (by simp only[List.length_append,List.length_cons,List.length_nil];omega) (by simp only[List.length_append,List.length_cons,List.length_nil];omega)];simp
    rw[hd,A5n hl hne,hw]
    unfold trimS
    rw[he]
    simp only[List.getLast?_append,List.getLast?_singleton,Option.some_or,Option.map_some,A6,cond_true,Option.bind_some,Bool.true_and,Option.some.injEq,List.dropLast_concat]
    by_cases hb:b=37
    ·subst hb
     refine⟨rfl,?_⟩
     simp only[if_true]
     rw[Gu (by simp)]
     simp
    ·have hb2:((b.toNat:Int)==37)=false:=by
      rw[beq_eq_false_iff_ne]
      intro hc
      refine hb (UInt8.toNat_inj.1 ?_)
      show b.toNat=37
      omega
     rw[hb2,if_neg hb]
     refine⟨rfl,?_⟩
     rw[Gu (Nat.le_refl _),List.take_length]
  obtain⟨k1,k2⟩:=key
  obtain⟨x3,k3,k4⟩:=Arb k1
  rw[k3]
  simp only[Option.bind_some]
  refine Bg k4 ?_
  refine Bg k2 ?_
  rw[Afh (Nat.le_trans (Bfb _) hl)]
  rfl
 ·rw[if_neg h0,if_neg h0]
  by_cases h1:n.Ac=1
  ·rw[if_pos h1,if_pos h1,Asu hl];rfl
  ·rw[if_neg h1,if_neg h1]
   cases n.Ag<;>rfl
def stk:List Nd→Option (List Nat)
 |[]=>some []
 |n::l=>match stk l with
  |none=>none
  |some st=>match Hj n.Ac with
   |none=>none
   |some k=>if Xe n=true∧k≤st.length then some (((st.take k).foldl max 0+1)::st.drop k) else none
def Ip(l:List Nd):Nat:=if 200<l.length then 0 else match stk l with
 |some [d]=>if d≤24 then d else 0
 |_=>0
theorem Be4: ∀(p:List Nd) {l:List Nd},stk l=none→stk (p++l)=none
 |[],l,h=>h
 |n::p,l,h=>by rw[List.cons_append,stk,Be4 p h]
theorem Bax: ∀{l:List Nd} {st:List Nat},stk l=some st→st.length≤l.length
 |[],st,h=>by cases h;exact Nat.le_refl _
 |n::l,st,h=>by
  rw[stk] at h
  cases h1:stk l with
  |none=>rw[h1] at h;cases h
  |some s=>
   have:=Bax h1
   rw[h1] at h
   simp only at h
   cases h2:Hj n.Ac with
   |none=>rw[h2] at h;cases h
   |some k=>
    rw[h2] at h
    simp only at h
    split at h
    ·cases h;simp;omega
    ·cases h
theorem Bsd{l:List Nd}(h:stk l=some []):l=[]:=by
 cases l with
 |nil=>rfl
 |cons n l=>
  rw[stk] at h
  cases h1:stk l with
  |none=>rw[h1] at h;cases h
  |some s=>
   rw[h1] at h
   simp only at h
   cases h2:Hj n.Ac with
   |none=>rw[h2] at h;cases h
   |some k=>
    rw[h2] at h
    simp only at h
    split at h<;>cases h
theorem Apl: ∀(l:List Nat) (m b:Nat),m≤b→(∀x∈l,x≤b)→l.foldl max m≤b
 |[],m,b,h,_=>h
 |x::l,m,b,h,hx=>Apl l _ b (Nat.max_le.2 ⟨h,hx x (by simp)⟩) (fun y hy=>hx y (by simp[hy]))
theorem A6q: ∀{l:List Nd} {st:List Nat},stk l=some st→ ∀d∈st,d≤l.length
 |[],st,h=>by cases h;simp
 |n::l,st,h=>by
  rw[stk] at h
  cases h1:stk l with
  |none=>rw[h1] at h;cases h
  |some s=>
   have hb:=A6q h1
   rw[h1] at h
   simp only at h
   cases h2:Hj n.Ac with
   |none=>rw[h2] at h;cases h
   |some k=>
    rw[h2] at h
    simp only at h
    split at h
    ·cases h
     intro d hd
     rw[List.mem_cons] at hd
     rcases hd with rfl|hd
     ·have:=Apl (s.take k) 0 l.length (by omega) (fun x hx=>hb x (List.mem_of_mem_take hx))
      simp only[List.length_cons]
      omega
     ·have:=hb d (List.mem_of_mem_drop hd)
      simp only[List.length_cons]
      omega
    ·cases h
def stI(st:List Nat):List Int:=(st.map fun(d:Nat)=>(d:Int)).reverse
theorem Bpc{st:List Nat}{k:Nat}(hk:k≤st.length)(hl:st.length≤100000):A4 (fun(qj11:Int×Int)=>match qj11 with
       |(deep12,k13)=>(
        if (decide (k13<(k:Int)))=true then
         (rdO (stI st) (IntKind.wrap .i64 ((IntKind.wrap .i64 (((stI st).length:Int)-1))-k13))).bind fun x14=>
         some (.inl ((if x14>deep12 then x14 else deep12),IntKind.wrap .i64 (k13+1)))
        else
         some (.inr deep12):Option ((Int×Int)⊕Int))) (0,0)=some (((st.take k).foldl max 0:Nat):Int):=by
 have key: ∀(d j:Nat),j+d=k→A4 (fun(qj11:Int×Int)=>match qj11 with
       |(deep12,k13)=>(
        if (decide (k13<(k:Int)))=true then
         (rdO (stI st) (IntKind.wrap .i64 ((IntKind.wrap .i64 (((stI st).length:Int)-1))-k13))).bind fun x14=>
         some (.inl ((if x14>deep12 then x14 else deep12),IntKind.wrap .i64 (k13+1)))
        else
         some (.inr deep12):Option ((Int×Int)⊕Int))) ((((st.take j).foldl max 0:Nat):Int),(j:Int))=some (((st.take k).foldl max 0:Nat):Int):=by
  intro d
  induction d with
  |zero=>
   intro j hj
   obtain rfl:j=k:=by omega
   refine A1 ?_
   show(if _ then _ else _)=_
   rw[if_neg (by simp)]
  |succ d ih=>
   intro j hj
   have hjl:j<st.length:=by omega
   rw[←ih (j+1) (by omega)]
   refine Bs ?_
   show(if _ then _ else _)=_
   have hlen:(stI st).length=st.length:=by simp[stI]
   have hw:IntKind.wrap .i64 ((IntKind.wrap .i64 (((stI st).length:Int)-1))-(j:Int))=((st.length-1-j:Nat):Int):=by
    rw[hlen,wrap64 (x:=(st.length:Int)-1) (by omega) (by omega),wrap64 (by omega) (by omega)]
    omega
   rw[if_pos (by simp;omega),hw,Cu (by rw[hlen];omega)]
   have hg:(stI st)[st.length-1-j]'(by rw[hlen];omega)=(st[j]:Int):=by
    simp only[stI,List.getElem_reverse,List.length_map,List.getElem_map]
    congr 2
    omega
   rw[hg]
   simp only[Option.bind_some]
   rw[List.take_succ_eq_append_getElem hjl,List.foldl_append,wrap64 (by omega) (by omega)]
   simp only[List.foldl_cons,List.foldl_nil,Option.some.injEq,Sum.inl.injEq,Prod.mk.injEq]
   refine⟨?_,rfl⟩
   generalize (st.take j).foldl max 0=m
   split<;>omega
 exact key k 0 (by omega)
theorem Bf8{l:List Nd}(hl:l.length≤200)(hx: ∀n∈l,n.Ag.length≤1000000): ∀(pre suf:List Nd),l=pre++suf→ ∀st,stk suf=some st→A4 (fun(qj2:(List Int)×Int)=>match qj2 with
   |(stack3,i4)=>(
    if (decide (i4≥0))=true then
     (rdO l i4).bind fun x5=>
     (Ck x5.Ac).bind fun x6=>
     (rdO l i4).bind fun x7=>
     (Ed x7).bind fun x8=>
     (some (decide (x6<0))).bind fun c9=>
     (some (c9||(!x8))).bind fun c10=>
     if (c10||(decide (x6>(stack3.length:Int))))=true then
      some (.inr (.inr 0))
     else
      ((A4 (fun(qj11:Int×Int)=>match qj11 with
        |(deep12,k13)=>(
         if (decide (k13<x6))=true then
          (rdO stack3 (IntKind.wrap .i64 ((IntKind.wrap .i64 ((stack3.length:Int)-1))-k13))).bind fun x14=>
          some (.inl ((if x14>deep12 then x14 else deep12),IntKind.wrap .i64 (k13+1)))
         else
          some (.inr deep12):Option ((Int×Int)⊕Int))) (0,0)):Option Int).bind fun j11=>
      (slO stack3 0 (IntKind.wrap .i64 ((stack3.length:Int)-x6))).bind fun x16=>
      (apO 8 ([]:List Int) x16).bind fun x17=>
      (apO 8 x17 [IntKind.wrap .i64 (j11+1)]).bind fun x18=>
      some (.inl (x18,IntKind.wrap .i64 (i4-1)))
    else
     some (.inr (.inl stack3)):Option (((List Int)×Int)⊕((List Int)⊕Int)))) (stI st,(pre.length:Int)-1)=some (match stk l with|some s=> .inl (stI s)|none=> .inr 0):=by
 intro pre
 induction hn:pre.length generalizing pre with
 |zero=>
  intro suf he st hst
  obtain rfl:pre=[]:=List.eq_nil_of_length_eq_zero hn
  rw[List.nil_append] at he
  subst he
  rw[hst]
  refine A1 ?_
  rfl
 |succ m ih=>
  intro suf he st hst
  rcases List.eq_nil_or_concat pre with rfl|⟨q,n,rfl⟩
  ·cases hn
  ·rw[List.concat_eq_append] at*
   have hq:q.length=m:=by simp at hn;omega
   have he2:l=q++(n::suf):=by simp[he]
   have hlen:q.length<l.length:=by rw[he2];simp
   have hg:l[q.length]=n:=by simp[he2]
   have hm:((m+1:Nat):Int)-1=(q.length:Int):=by omega
   have hnx:n.Ag.length≤1000000:=hx n (by rw[he2];simp)
   have hstl:=Bax hst
   have hsl:suf.length+q.length+1≤200:=by rw[he2] at hl;simp at hl;omega
   have hstI:(stI st).length=st.length:=by simp[stI]
   rw[hm]
   by_cases hgood: ∃k,Hj n.Ac=some k∧Xe n=true∧k≤st.length
   ·obtain⟨k,h1,h2,h3⟩:=hgood
    have hk3:k≤3:=Ax9 h1
    have hst2:stk (n::suf)=some (((st.take k).foldl max 0+1)::st.drop k):=by
     rw[stk,hst]
     simp only[h1]
     rw[if_pos ⟨h2,h3⟩]
    have:=ih q hq (n::suf) he2 _ hst2
    rw[←this]
    refine Bs ?_
    show(if _ then _ else _)=_
    rw[if_pos (by simp),Cu hlen,hg]
    simp only[Option.bind_some]
    rw[Bap,Bei hnx]
    have hI:Ax8 n.Ac=(k:Int):=by unfold Ax8;rw[h1]
    simp only[Option.bind_some,hI,h2]
    rw[if_neg (by rw[hstI];simp;omega),Bpc h3 (by omega)]
    have hb:(st.take k).foldl max 0≤200:=Apl _ _ _ (by omega) (fun x hx=>by
     have:=A6q hst x (List.mem_of_mem_take hx);omega)
    simp only[Option.bind_some]
    have hw:IntKind.wrap .i64 (((stI st).length:Int)-(k:Int))=((st.length-k:Nat):Int):=by
     rw[hstI,wrap64 (by omega) (by omega)];omega
    rw[hw,Gu (by rw[hstI];omega)]
    simp only[Option.bind_some]
    unfold apO
    rw[if_pos (by simp[hstI];omega)]
    simp only[Option.bind_some]
    rw[if_pos (by simp[hstI];omega)]
    simp only[Option.bind_some]
    rw[wrap64 (by omega) (by omega),wrap64 (by omega) (by omega)]
    simp only[List.nil_append,Option.some.injEq,Sum.inl.injEq,Prod.mk.injEq]
    refine⟨?_,by omega⟩
    simp only[stI,List.map_cons,List.reverse_cons]
    congr 1
    rw[List.take_reverse]
    congr 1
    simp only[List.length_map]
    rw[show st.length-(st.length-k)=k by omega,List.map_drop]
   ·have hnone:stk (n::suf)=none:=by
     rw[stk,hst]
     simp only
     cases h1:Hj n.Ac with
     |none=>rfl
     |some k=>
      simp only
      rw[if_neg]
      rintro⟨h2,h3⟩
      exact hgood ⟨k,h1,h2,h3⟩
    have hln:stk l=none:=by rw[he2];exact Be4 q hnone
    rw[hln]
    refine A1 ?_
    show(if _ then _ else _)=_
    rw[if_pos (by simp),Cu hlen,hg]
    simp only[Option.bind_some]
    rw[Bap,Bei hnx]
    simp only[Option.bind_some]
    rw[if_pos]
    rw[hstI]
    simp only[Bool.or_eq_true,decide_eq_true_eq,Bool.not_eq_true']
    unfold Ax8
    cases h1:Hj n.Ac with
    |none=>left;left;simp
    |some k=>
     simp only
     by_cases h2:Xe n=true
     ·right
      have: ¬k≤st.length:=fun h3=>hgood ⟨k,h1,h2,h3⟩
      omega
     ·left;right
      simpa using h2
theorem At4{l:List Nd}(hx: ∀n∈l,n.Ag.length≤1000000):Cg l=some (Ip l:Int):=by
 unfold Cg Ip
 by_cases hl:200<l.length
 ·rw[if_pos (by simp;omega),if_pos hl];rfl
 ·rw[if_neg (by simp;omega),if_neg hl]
  have h1:=Bf8 (by omega) hx l [] (by simp) [] rfl
  have hw:IntKind.wrap .i64 ((l.length:Int)-1)=(l.length:Int)-1:=wrap64 (by omega) (by omega)
  rw[hw]
  refine Bg h1 ?_
  cases hs:stk l with
  |none=>rfl
  |some st=>
   simp only
   have hstI:(stI st).length=st.length:=by simp[stI]
   match st with
   |[]=>rfl
   |[d]=>
    have e0:rdO (stI [d]) 0=some (d:Int):=rfl
    have e1:(((stI [d]).length:Int)!=1)=false:=rfl
    simp only[Option.bind_some,e1,e0,Bool.not_false,A6,cond_true,Bool.false_or]
    by_cases hd:d≤24
    ·rw[if_neg (by simp;omega),if_pos hd]
    ·rw[if_pos (by simp;omega),if_neg hd]
     rfl
   |a::b::st=>
    have e1:(((stI (a::b::st)).length:Int)!=1)=true:=by simp[stI];omega
    simp only[Option.bind_some,e1,Bool.not_true,gdO,Bool.true_or,if_true]
    rfl
def I2(w:List Nd→Option (List Nd×Nat)):Nat→List Nd→Nat→Option (List Nd×Nat)
 |0,l,deep=>some (l,deep)
 |k+1,l,deep=>match w l with
  |none=>none
  |some (r,d)=>I2 w k r (max deep d)
def Fe:Nat→List Nd→Option (List Nd×Nat)
 |0,_=>none
 |_+1,[]=>none
 |f+1,n::l=>match Hj n.Ac with
  |none=>none
  |some k=>if Xe n=true then(I2 (Fe f) k l 0).map (fun x=>(x.1,x.2+1)) else none
theorem Aye{w:List Nd→Option (List Nd×Nat)}(hw: ∀l r d,w l=some (r,d)→r <:+ l): ∀(k:Nat) (l:List Nd) (m:Nat) (r:List Nd) (d:Nat),I2 w k l m=some (r,d)→r <:+ l
 |0,l,m,r,d,h=>by cases h;exact List.suffix_refl _
 |k+1,l,m,r,d,h=>by
  rw[I2] at h
  cases h1:w l with
  |none=>rw[h1] at h;cases h
  |some x=>
   rw[h1] at h
   exact(Aye hw k _ _ r d h).trans (hw l x.1 x.2 h1)
theorem A19: ∀(f:Nat) (l r:List Nd) (d:Nat),Fe f l=some (r,d)→r <:+ l
 |0,l,r,d,h=>by cases h
 |f+1,[],r,d,h=>by cases h
 |f+1,n::l,r,d,h=>by
  rw[Fe] at h
  cases h1:Hj n.Ac with
  |none=>rw[h1] at h;cases h
  |some k=>
   rw[h1] at h
   simp only at h
   split at h
   ·cases h2:I2 (Fe f) k l 0 with
    |none=>rw[h2] at h;cases h
    |some x=>
     rw[h2] at h
     cases h
     exact(Aye (A19 f) k l 0 x.1 x.2 h2).trans (List.suffix_cons n l)
   ·cases h
theorem Bff(f:Nat)(l r:List Nd)(d:Nat)(h:Fe f l=some (r,d)):1≤d∧r.length<l.length:=by
 match f,l with
 |0,l=>cases h
 |f+1,[]=>cases h
 |f+1,n::l=>
  rw[Fe] at h
  cases h1:Hj n.Ac with
  |none=>rw[h1] at h;cases h
  |some k=>
   rw[h1] at h
   simp only at h
   split at h
   ·cases h2:I2 (Fe f) k l 0 with
    |none=>rw[h2] at h;cases h
    |some x=>
     rw[h2] at h
     cases h
     have:=(Aye (A19 f) k l 0 x.1 x.2 h2).length_le
     simp
     omega
   ·cases h
theorem Bj5{w:List Nd→Option (List Nd×Nat)}{N:Nat}(hw: ∀l d st,l.length≤N→stk l=some (d::st)→ ∃r,w l=some (r,d)∧r.length<l.length∧stk r=some st): ∀(k:Nat) (l:List Nd) (m:Nat) (st:List Nat),l.length≤N→stk l=some st→k≤st.length→ ∃r,I2 w k l m=some (r,(st.take k).foldl max m)∧stk r=some (st.drop k)
 |0,l,m,st,_,h,_=>⟨l,rfl,h⟩
 |k+1,l,m,[],_,h,hk=>absurd hk (by simp)
 |k+1,l,m,d::st,hN,h,hk=>by
  obtain⟨r,h1,h2,h3⟩:=hw l d st hN h
  obtain⟨r2,h4,h5⟩:=Bj5 hw k r (max m d) st (by omega) h3 (by simpa using hk)
  refine⟨r2,?_,h5⟩
  rw[I2,h1]
  exact h4
theorem Bk5: ∀(N f:Nat) (l:List Nd) (d:Nat) (st:List Nat),l.length≤N→l.length<f→stk l=some (d::st)→ ∃r,Fe f l=some (r,d)∧r.length<l.length∧stk r=some st:=by
 intro N
 induction N with
 |zero=>
  intro f l d st hN hf h
  obtain rfl:l=[]:=List.eq_nil_of_length_eq_zero (by omega)
  cases h
 |succ N ih=>
  intro f l d st hN hf h
  cases l with
  |nil=>cases h
  |cons n l=>
   obtain⟨g,rfl⟩: ∃g,f=g+1:=⟨f-1,by omega⟩
   simp only[List.length_cons] at hN hf
   rw[stk] at h
   cases h1:stk l with
   |none=>rw[h1] at h;cases h
   |some s=>
    rw[h1] at h
    simp only at h
    cases h2:Hj n.Ac with
    |none=>rw[h2] at h;cases h
    |some k=>
     rw[h2] at h
     simp only at h
     split at h
     ·rename_i h3
      cases h
      obtain⟨r,h4,h5⟩:=Bj5 (w:=Fe g) (N:=l.length) (fun l' d' st' hl' hs'=>ih g l' d' st' (by omega) (by omega) hs') k l 0 s (Nat.le_refl _) h1 h3.2
      have h6:Fe (g+1) (n::l)=some (r,(s.take k).foldl max 0+1):=by
       rw[Fe,h2]
       simp only
       rw[if_pos h3.1,h4]
       rfl
      exact⟨r,h6,(Bff _ _ _ _ h6).2,h5⟩
     ·cases h
theorem Bj6{w:List Nd→Option (List Nd×Nat)}(hw: ∀l r d st,w l=some (r,d)→stk r=some st→stk l=some (d::st)): ∀(k:Nat) (l:List Nd) (m:Nat) (r:List Nd) (d:Nat) (st:List Nat),I2 w k l m=some (r,d)→stk r=some st→ ∃ds:List Nat,ds.length=k∧stk l=some (ds++st)∧d=ds.foldl max m
 |0,l,m,r,d,st,h,hs=>by cases h;exact⟨[],rfl,hs,rfl⟩
 |k+1,l,m,r,d,st,h,hs=>by
  rw[I2] at h
  cases h1:w l with
  |none=>rw[h1] at h;cases h
  |some x=>
   rw[h1] at h
   obtain⟨ds,h2,h3,h4⟩:=Bj6 hw k x.1 (max m x.2) r d st h hs
   exact⟨x.2::ds,by simp[h2],hw l x.1 x.2 _ h1 h3,h4⟩
theorem Bk6: ∀(f:Nat) (l r:List Nd) (d:Nat) (st:List Nat),Fe f l=some (r,d)→stk r=some st→stk l=some (d::st)
 |0,l,r,d,st,h,hs=>by cases h
 |f+1,[],r,d,st,h,hs=>by cases h
 |f+1,n::l,r,d,st,h,hs=>by
  rw[Fe] at h
  cases h1:Hj n.Ac with
  |none=>rw[h1] at h;cases h
  |some k=>
   rw[h1] at h
   simp only at h
   split at h
   ·rename_i h3
    cases h2:I2 (Fe f) k l 0 with
    |none=>rw[h2] at h;cases h
    |some x=>
     rw[h2] at h
     cases h
     obtain⟨ds,g1,g2,g3⟩:=Bj6 (Bk6 f) k l 0 x.1 x.2 st h2 hs
     rw[stk,g2]
     simp only[h1]
     rw[if_pos ⟨h3,by simp;omega⟩]
     have e1:(ds++st).take k=ds:=by rw[←g1];simp
     have e2:(ds++st).drop k=st:=by rw[←g1];simp
     rw[e1,e2,g3]
   ·cases h
theorem walk_eq: ∀(f:Nat) (l:List Nd),l.length<f→l.length≤100000→(∀n∈l,n.Ag.length≤1000000)→Iv f l=some (match Fe f l with|some x=>(x.1,(x.2:Int))|none=>([],0))
 |0,l,h,_,_=>absurd h (by simp)
 |f+1,[],_,_,_=>by
  rw[Iv]
  rfl
 |f+1,n::l,hf,hl,hx=>by
  simp only[List.length_cons] at hf hl
  have hnx:=hx n (by simp)
  rw[Iv]
  have e0:rdO (n::l) 0=some n:=rfl
  have e1:(((n::l).length:Int)==0)=false:=by simp;omega
  rw[e0]
  simp only[Option.bind_some,e1,Bool.not_false,A6,cond_true,Bool.false_or]
  rw[has_eq]
  simp only[A6,cond_true,Option.bind_some]
  rw[Fe]
  have hI:Ax8 n.Ac=match Hj n.Ac with|none=> -1|some n=>(n:Int):=rfl
  cases h1:Hj n.Ac with
  |none=>
   rw[h1] at hI
   rw[hI]
   rfl
  |some k=>
   have hk3:k≤3:=Ax9 h1
   rw[h1] at hI
   simp only at hI⊢
   rw[hI]
   have hneg:decide ((k:Int)<0)=false:=by simp
   rw[hneg]
   simp only[Bool.not_false,cond_true,Bool.false_or]
   rw[Brq hnx]
   simp only[A6,cond_true,Option.bind_some]
   by_cases h2:Xe n=true
   ·rw[if_neg (by simp[h2]),if_pos h2]
    have e2:slO (n::l) 1 ((n::l).length:Int)=some l:=by
     have:=Kk (l:=n::l) (n:=1) (by simp)
     simpa using this
    rw[e2]
    simp only[Option.bind_some]
    have key: ∀(d j:Nat) (rest:List Nd) (m:Nat),j+d=k→rest.length≤l.length→m≤100000→(∀n∈rest,n.Ag.length≤1000000)→(∀r d',I2 (Fe f) d rest m=some (r,d')→d'≤1000000)→A4 (fun(qj11:(List Aa)×Int×Int)=>match qj11 with
    |(rest12,deep13,x14)=>(
     if (decide (x14<(k:Int)))=true then
      (Iv f rest12).bind fun x15=>
      if (x15.2==0)=true then
       some (.inr (.inr (([]:List Aa),0)))
      else
       some (.inl (x15.1,(if x15.2>deep13 then x15.2 else deep13),IntKind.wrap .i64 (x14+1)))
     else
      some (.inr (.inl (rest12,deep13))):Option (((List Aa)×Int×Int)⊕(((List Aa)×Int)⊕((List Aa)×Int))))) (rest,(m:Int),(j:Int))=some (match I2 (Fe f) d rest m with|some x=> .inl (x.1,(x.2:Int))|none=> .inr ([],0)):=by
     intro d
     induction d with
     |zero=>
      intro j rest m hj _ _ _ _
      refine A1 ?_
      show(if _ then _ else _)=_
      rw[if_neg (by simp;omega)]
      rfl
     |succ d ihd=>
      intro j rest m hj hr hm hxr hb
      have hw:=walk_eq f rest (by omega) (by omega) hxr
      rw[I2]
      rw[I2] at hb
      cases h3:Fe f rest with
      |none=>
       rw[h3] at hw
       simp only
       refine A1 ?_
       show(if _ then _ else _)=_
       rw[if_pos (by simp;omega),hw]
       rfl
      |some x=>
       rw[h3] at hw hb
       simp only at hw hb⊢
       have hp:=Bff f rest x.1 x.2 h3
       have hs:=A19 f rest x.1 x.2 h3
       have hxd:x.2≤100000:=by
        have:=walk_depth f rest x.1 x.2 h3
        omega
       rw[←ihd (j+1) x.1 (max m x.2) (by omega) (by omega) (by omega) (fun n hn=>hxr n (hs.subset hn)) hb]
       refine Bs ?_
       show(if _ then _ else _)=_
       rw[if_pos (by simp;omega),hw]
       simp only[Option.bind_some]
       rw[if_neg (by simp;omega),wrap64 (by omega) (by omega)]
       simp only[Option.some.injEq,Sum.inl.injEq,Prod.mk.injEq,true_and]
       refine⟨?_,rfl⟩
       split<;>omega
    have hb: ∀r d',I2 (Fe f) k l 0=some (r,d')→d'≤1000000:=by
     intro r d' h
     have:=walk_depth (f+1) (n::l) r (d'+1) (by rw[Fe,h1];simp only;rw[if_pos h2,h];rfl)
     simp at this
     omega
    refine Bg (key k 0 l 0 (by omega) (Nat.le_refl _) (by omega) (fun n hn=>hx n (by simp[hn])) hb) ?_
    cases h3:I2 (Fe f) k l 0 with
    |none=>rfl
    |some x=>
     have:=hb x.1 x.2 h3
     simp only[Option.map_some]
     rw[wrap64 (by omega) (by omega)]
     rfl
   ·rw[if_pos (by simpa using h2),if_neg h2]
where walk_depth: ∀(f:Nat) (l r:List Nd) (d:Nat),Fe f l=some (r,d)→d+r.length≤l.length
 |0,l,r,d,h=>by cases h
 |f+1,[],r,d,h=>by cases h
 |f+1,n::l,r,d,h=>by
  rw[Fe] at h
  cases h1:Hj n.Ac with
  |none=>rw[h1] at h;cases h
  |some k=>
   rw[h1] at h
   simp only at h
   split at h
   ·cases h2:I2 (Fe f) k l 0 with
    |none=>rw[h2] at h;cases h
    |some x=>
     rw[h2] at h
     cases h
     have key: ∀(k:Nat) (l:List Nd) (m:Nat) (r:List Nd) (d:Nat),I2 (Fe f) k l m=some (r,d)→d+r.length≤max (m+r.length) l.length∧r.length≤l.length:=by
      intro k
      induction k with
      |zero=>intro l m r d h;cases h;omega
      |succ k ih=>
       intro l m r d h
       rw[I2] at h
       cases h3:Fe f l with
       |none=>rw[h3] at h;cases h
       |some x=>
        rw[h3] at h
        have e1:=walk_depth f l x.1 x.2 h3
        have e2:=ih x.1 (max m x.2) r d h
        omega
     have:=key k l 0 x.1 x.2 h2
     simp
     omega
   ·cases h
theorem Axz{l:List Nd}(hx: ∀n∈l,n.Ag.length≤1000000):I8 l=some (Ip l:Int):=by
 unfold I8 Ip
 by_cases hl:200<l.length
 ·rw[if_pos (by simp;omega),if_pos hl];rfl
 ·rw[if_neg (by simp;omega),if_neg hl,walk_eq 100000 l (by omega) (by omega) hx]
  simp only[Option.bind_some]
  cases hw:Fe 100000 l with
  |none=>
   simp only
   cases hs:stk l with
   |none=>rfl
   |some st=>
    cases st with
    |nil=>rfl
    |cons d st=>
     obtain⟨r,h1,_⟩:=Bk5 l.length 100000 l d st (Nat.le_refl _) (by omega) hs
     rw[hw] at h1
     cases h1
  |some x=>
   obtain⟨r,d⟩:=x
   simp only
   cases r with
   |nil=>
    have hs:=Bk6 _ _ _ _ [] hw rfl
    rw[hs]
    simp only
    by_cases hd:d≤24
    ·rw[if_neg (by simp;omega),if_pos hd]
    ·rw[if_pos (by simp;omega),if_neg hd];rfl
   |cons a r=>
    rw[if_pos (by simp)]
    cases hs:stk l with
    |none=>rfl
    |some st=>
     match st with
     |[]=>rfl
     |[d']=>
      obtain⟨r',h1,_,h3⟩:=Bk5 l.length 100000 l d' [] (Nat.le_refl _) (by omega) hs
      rw[hw] at h1
      cases h1
      exact absurd (Bsd h3) (by simp)
     |a::b::st=>rfl
theorem right_eq{l:List Nd}(hx: ∀n∈l,n.Ag.length≤1000000):Dk l=some (decide (0<Ip l)):=by
 unfold Dk
 rw[Axz hx]
 simp only[Option.bind_some,Option.some.injEq,decide_eq_decide]
 omega
end Go.Av.G
end
section
set_option maxRecDepth 4000
set_option maxHeartbeats 4000000
namespace Go.Av.G
open Go Go.Av Go.Proofs
theorem Ba9{text:List UInt8}(hl:text.length<4611686018427387904){i:Nat}(hi:i≤text.length):W9 text (i:Int)=some ((plS (text.take i)).1,(plS (text.take i)).2,0):=by
 unfold W9
 have h1:decide ((i:Int)<0)=false:=decide_eq_false (by omega)
 have h2:decide ((i:Int)>(text.length:Int))=false:=decide_eq_false (by omega)
 simp only[h1,h2,Option.bind_some,Bool.or_self,Bool.false_eq_true,if_false,Gu hi,Bcz (s:=text.take i) (by simp;omega)]
end Go.Av.G
end
section
set_option maxRecDepth 4000
set_option maxHeartbeats 4000000
namespace Go.Av.G
open Go Go.Av Go.Proofs
end Go.Av.G
end
section
set_option maxRecDepth 4000
set_option maxHeartbeats 4000000
namespace Go.Av.G
open Go Go.Av Go.Proofs
def LX(s:By):List Tk⊕(Nat×Nat):=if 8000<s.length then .inr (0,4) else match Avk s with
 | .inl l=> .inl (l.map (A12 s))
 | .inr e=> .inr e
theorem Bs3(s:By):Ab3 s=some (match LX s with| .inl l=>(l,0,0)| .inr e=>([],(e.1:Int),(e.2:Int))):=by
 unfold LX
 by_cases h:8000<s.length
 ·rw[if_pos h,Bno h];rfl
 ·rw[if_neg h,Bta (by omega)]
  cases Avk s<;>rfl
theorem Bm5{s:By}{l:List Tk}(h:LX s= .inl l):Fit l∧l.length≤8000∧s.length≤8000∧(∀t∈l,okT t=true)∧Be5 l≤s.length:=by
 unfold LX at h
 split at h
 ·cases h
 ·rename_i hs
  have hs:s.length≤8000:=by omega
  cases ha:Avk s with
  |inr e=>rw[ha] at h;cases h
  |inl m=>
   rw[ha] at h
   cases h
   obtain⟨h1,h2,h3⟩:=Bnr hs ha
   refine⟨⟨by simp;omega,fun t ht=>?_⟩,by simp;omega,hs,h3,h2⟩
   have:=Bqd ht
   omega
theorem Bfi{s:By}{e:Nat×Nat}(h:LX s= .inr e):e.2≠0∧e.1≤s.length:=by
 unfold LX at h
 split at h
 ·cases h;exact⟨by simp,by simp⟩
 ·cases ha:Avk s with
  |inl m=>rw[ha] at h;cases h
  |inr e'=>
   rw[ha] at h
   cases h
   obtain⟨h1,h2,_⟩:=Bq5 (p:=e.1) (e:=e.2) ha
   exact⟨h1,by omega⟩
def Ao6(s:By):List Nd×Int×Int×Int:=match LX s with
 | .inr e=>([],(plS (s.take e.1)).1,(plS (s.take e.1)).2,(e.2:Int))
 | .inl l=>match CL l 0 with
  |(_,t::_)=>([],t.Abz,t.Arh,14)
  |(none,[])=>([],(plS s).1,(plS s).2,14)
  |(some a,[])=>if Ip a=0 then([],1,1,4) else(a,0,0,0)
theorem Bq3(l:List Tk):(⟨l,0,false⟩:Ab)=RD l l false:=by
 unfold RD ps
 simp
theorem Bbk{s:By}(hs:s.length≤1000000):M7 s=some (match LX s with| .inl l=> .inl (0,0,0,RD l l false)| .inr e=> .inr ((plS (s.take e.1)).1,(plS (s.take e.1)).2,(e.2:Int))):=by
 unfold M7
 rw[Bs3]
 simp only[Option.bind_some]
 cases h:LX s with
 |inl l=>
  simp only[beq_self_eq_true,if_true]
  rw[Bq3]
 |inr e=>
  obtain⟨h1,h2⟩:=Bfi h
  simp only
  rw[if_neg (by simp;omega),Ba9 (by omega) h2]
  rfl
theorem Bga{s:By}(hs:s.length≤1000000){l ts:List Tk}(h:ts <:+ l)(fits b:Bool):Ft s fits (RD l ts b)=some (match ts with
  |t::_=>(t.Abz,t.Arh,14)
  |[]=>if b=true then((plS s).1,(plS s).2,14) else if fits=false then(1,1,4) else(0,0,0)):=by
 unfold Ft
 have e1:(RD l ts b).Cz=ps l ts:=rfl
 have e2:(RD l ts b).Jt=l:=rfl
 have e3:(RD l ts b).Ca=b:=rfl
 rw[e1,e2,e3,A6b h]
 cases ts with
 |cons t r=>
  rw[A1c h]
  rfl
 |nil=>
  have:=Ba9 (text:=s) (i:=s.length) (by omega) (Nat.le_refl _)
  rw[List.take_length] at this
  cases b with
  |true=>simp[this]
  |false=>cases fits<;>rfl
theorem Axi{s:By}(hs:s.length≤1000000):Ef s=some (Ao6 s):=by
 unfold Ef Ao6
 rw[Bbk hs]
 simp only[Option.bind_some]
 cases h:LX s with
 |inr e=>
  obtain⟨h1,_⟩:=Bfi h
  simp only
  rw[if_pos (by simp;omega)]
 |inl l=>
  obtain⟨hF,hl,_⟩:=Bm5 h
  simp only[bne_self_eq_false,Bool.false_eq_true,if_false]
  have hsf:=List.suffix_refl l
  rcases(Bns hF hsf hl).of with⟨a,i,e1,e2,e3⟩|⟨o,i,e1,e2,e3,e4⟩
  ·have hi:=Wu hsf e1
   rw[e1,e2]
   simp only[Option.bind_some]
   rw[right_eq e3]
   simp only[Option.bind_some]
   rw[Bga hs hi]
   cases i with
   |cons t r=>rfl
   |nil=>
    simp only[Option.bind_some]
    by_cases hd:Ip a=0
    ·rw[if_pos hd]
     have:decide (0<Ip a)=false:=by simp[hd]
     rw[this];rfl
    ·rw[if_neg hd]
     have:decide (0<Ip a)=true:=by simp;omega
     rw[this];rfl
  ·have hi:=Wu hsf e1
   rw[e1,e2]
   simp only[Option.bind_some]
   rw[right_eq e4]
   simp only[Option.bind_some]
   rw[Bga hs hi]
   cases i with
   |cons t r=>rfl
   |nil=>rfl
theorem A6j(x y:Nd):Aa.same x y=decide (x=y):=Aa.same_iff x y
theorem Bjj{α:Type} [DecidableEq α]: ∀{a b:List α},a.length=b.length→((List.range' 0 a.length).any fun i=>decide (a[i]? ≠b[i]?))=decide (a≠b)
 |[],[],_=>rfl
 |[],y::b,h=>by simp at h
 |x::a,[],h=>by simp at h
 |x::a,y::b,h=>by
  have ih:=Bjj (a:=a) (b:=b) (by simpa using h)
  rw[List.length_cons,List.range'_succ,List.any_cons]
  have hs:(List.range' (0+1) a.length).any (fun i=>decide ((x::a)[i]? ≠(y::b)[i]?))=(List.range' 0 a.length).any fun i=>decide (a[i]? ≠b[i]?):=by
   rw[show(0+1:Nat)=1 from rfl,List.range'_eq_map_range,List.range'_eq_map_range,List.any_map,List.any_map]
   congr 1
   funext i
   simp only[Function.comp_apply,Nat.zero_add]
   rw[Nat.add_comm 1 i]
   simp
  rw[hs,ih]
  by_cases hxy:x=y<;>by_cases hab:a=b<;>simp[hxy,hab]
theorem Axb{α:Type} [DecidableEq α]{a b:List α}{same:α→α→Bool}(hsame: ∀x y,same x y=decide (x=y))(hn:a.length≤1000000)(h:a.length=b.length):A4 (fun(qj3:Int)=>match qj3 with
   |i4=>(
    if (decide (i4<(a.length:Int)))=true then
     (rdO a i4).bind fun x5=>
     (rdO b i4).bind fun x6=>
     if (!(same x5 x6))=true then
      some (.inr (.inr false))
     else
      some (.inl (IntKind.wrap .i64 (i4+1)))
    else
     some (.inr (.inl ())):Option (Int⊕(Unit⊕Bool)))) 0=some (if a=b then .inl () else .inr false):=by
 have:=A5t (n:=a.length) (q:=fun i=>decide (a[i]? ≠b[i]?)) (o:=(.inr false:Unit⊕Bool)) (e:= .inl ()) (f:=fun(qj3:Int)=>match qj3 with
   |i4=>(
    if (decide (i4<(a.length:Int)))=true then
     (rdO a i4).bind fun x5=>
     (rdO b i4).bind fun x6=>
     if (!(same x5 x6))=true then
      some (.inr (.inr false))
     else
      some (.inl (IntKind.wrap .i64 (i4+1)))
    else
     some (.inr (.inl ())):Option (Int⊕(Unit⊕Bool)))) (by omega) (fun i hi=>by
   show(if _ then _ else _)=_
   rw[if_pos (by simp;omega),Cu hi,Cu (by omega)]
   simp only[Option.bind_some]
   rw[hsame,List.getElem?_eq_getElem hi,List.getElem?_eq_getElem (h▸hi)]
   by_cases hx:a[i]=b[i]
   ·simp[hx]
   ·simp[hx]) (fun i hi=>by
   show(if _ then _ else _)=_
   rw[if_neg (by simp;omega)]) 0
 refine this.trans ?_
 rw[Nat.sub_zero,Bjj h]
 by_cases hab:a=b<;>simp[hab]
theorem Ba8{a b:List Nd}(hn:a.length≤1000000):Dw a b=some (decide (a=b)):=by
 unfold Dw
 by_cases h:a.length=b.length
 ·rw[if_neg (by simp;omega)]
  refine Bg (Axb A6j hn h) ?_
  by_cases hab:a=b
  ·simp[hab]
  ·simp[hab]
 ·rw[if_pos (by simp;omega)]
  have:a≠b:=fun c=>h (by rw[c])
  simp[this]
end Go.Av.G
end
section
set_option maxRecDepth 4000
set_option maxHeartbeats 4000000
namespace Go.Av.G
open Go Go.Av Go.Proofs
abbrev St:=List Tk×Bool
def mT(s:By)(x:St):St:=Li [s] x
def sm(k:Int)(x:St):By×St:=Ko k true x
theorem Dj(s:By)(x:St):(mT s x).1 <:+ x.1:=A5y _ _
theorem Afj(k:Int)(x:St):(sm k x).2.1 <:+ x.1:=Bmi _ _ _
theorem Bpa{s:By}{ts:List Tk}:mT s (ts,true)=(ts,true):=Ajy
theorem Bt5{k:Int}{ts:List Tk}:sm k (ts,true)=([],ts,true):=by cases ts<;>rfl
theorem Ff{s:By}{x:St}(h:(mT s x).2=false):x.2=false∧(mT s x).1.length+1=x.1.length:=by
 obtain⟨ts,b⟩:=x
 cases b with
 |true=>rw[Bpa] at h;cases h
 |false=>
  unfold mT at h⊢
  rw[Arz] at h⊢
  split at h
  ·rename_i hs
   rw[if_pos hs]
   exact⟨rfl,Jx hs⟩
  ·cases h
theorem Amw{k:Int}{x:St}(h:(sm k x).2.2=false):x.2=false∧(sm k x).2.1.length+1=x.1.length:=by
 obtain⟨ts,b⟩:=x
 cases b with
 |true=>rw[Bt5] at h;cases h
 |false=>
  cases ts with
  |nil=>cases h
  |cons t r=>
   unfold sm Ko at h⊢
   simp only at h⊢
   split at h
   ·cases h
   ·rename_i hs
    rw[if_neg hs]
    simp
theorem Bpf(s u:By)(ss:List By)(x:St):Li (s::u::ss) x=Li (u::ss) (mT s x):=by
 obtain⟨ts,b⟩:=x
 cases b with
 |true=>rw[Bpa,Ajy,Ajy]
 |false=>
  unfold mT
  rw[Arz,Li]
  simp only[Bool.not_false,Bool.true_and]
  split
  ·rfl
  ·rw[Ajy]
def RX(l:List Tk)(x:St):Ab:=RD l x.1 x.2
theorem Apv{l:List Tk}(hl:l.length≤1000000){x:St}(h:x.1 <:+ l)(s:By):Ap [s] (RX l x)=some (RX l (mT s x)):=Ary h hl [s] (by simp) x.2
theorem Axf{l:List Tk}(hl:l.length≤1000000){x:St}(h:x.1 <:+ l)(s u:By):Ap [s,u] (RX l x)=some (RX l (mT u (mT s x))):=by
 have:=Ary h hl [s,u] (by simp) x.2
 rw[Bpf] at this
 exact this
theorem Aua{l:List Tk}(hl:l.length≤1000000){x:St}(h:x.1 <:+ l)(k:Int):A9 k true (RX l x)=some ((sm k x).1,RX l (sm k x).2):=Amx h hl k true x.2
def Io(s:By)(x:St):By×St:=((sm 1 (mT s x)).1,mT [59] (sm 1 (mT s x)).2)
theorem Aby(s:By)(x:St):(Io s x).2.1 <:+ x.1:=(Dj _ _).trans ((Afj _ _).trans (Dj _ _))
theorem Uc{s:By}{x:St}(h:(Io s x).2.2=false):x.2=false:=(Ff (Amw (Ff h).1).1).1
theorem Ard{l:List Tk}(hl:l.length≤1000000){x:St}(h:x.1 <:+ l)(s:By):Cj s (RX l x)=some ((Io s x).1,RX l (Io s x).2):=by
 unfold Cj
 rw[Apv hl h]
 simp only[Option.bind_some]
 have h1:=(Dj s x).trans h
 rw[Aua hl h1]
 simp only[Option.bind_some]
 rw[Apv hl ((Afj _ _).trans h1)]
 rfl
def G6(x:St):Aq×St:=(⟨(sm 1 x).1,(sm 1 (mT [58] (sm 1 x).2)).1⟩,mT [59] (mT [37] (sm 1 (mT [58] (sm 1 x).2)).2))
theorem Axs(x:St):(G6 x).2.1 <:+ x.1:=(Dj _ _).trans ((Dj _ _).trans ((Afj _ _).trans ((Dj _ _).trans (Afj _ _))))
theorem A46{x:St}(h:(G6 x).2.2=false):x.2=false∧(G6 x).2.1.length<x.1.length:=by
 have h1:=Ff h
 have h2:=Ff h1.1
 have h3:=Amw h2.1
 have h4:=Ff h3.1
 have h5:=Amw h4.1
 refine⟨h5.1,?_⟩
 have e:(G6 x).2.1.length+1=_:=h1.2
 omega
def Fj:Nat→St→List Aq×St
 |0,x=>([],x)
 |f+1,x=>if x.2=true then([],x) else if isT [125] (G6 x).2.1=true then([(G6 x).1],(G6 x).2) else((G6 x).1::(Fj f (G6 x).2).1,(Fj f (G6 x).2).2)
def Btd(x:St):List Aq×St:=Fj (x.1.length+2) x
theorem A47: ∀(f:Nat) (x:St),(Fj f x).2.1 <:+ x.1
 |0,x=>List.suffix_refl _
 |f+1,x=>by
  rw[Fj]
  split
  ·exact List.suffix_refl _
  ·split
   ·exact Axs x
   ·exact(A47 f _).trans (Axs x)
theorem Bfv: ∀(f:Nat) (x:St),(Fj f x).2.2=false→x.2=false
 |0,x,h=>h
 |f+1,x,h=>by
  rw[Fj] at h
  cases hx:x.2 with
  |false=>rfl
  |true=>rw[if_pos hx] at h;exact h.symm.trans hx |>.symm▸rfl
theorem Bfw{l:List Tk}(hl:l.length≤100000)(d13 d14 d15 d16:By)(d17:List Nd)(d18 d19 d20:By): ∀(f:Nat) (x:St) (first:Bool) (row:List Aq),x.1 <:+ l→(x.2=false→x.1.length+2≤f)→1≤f→(x.2=false→row.length+x.1.length≤100000)→row.length≤100001→
  A4 (fun(qj10:Bool×Ab×(List UInt8)×(List UInt8)×(List UInt8)×(List UInt8)×(List Aa)×(List UInt8)×(List UInt8)×(List UInt8)×(List Aq))=>match qj10 with
  |(first11,r12,d13,d14,d15,d16,d17,d18,d19,d20,row21)=>(
   (some (!r12.Ca)).bind fun c22=>
   (gdO (c22&& !first11) (Bv [125] r12) (default:Bool)).bind fun x23=>
   if (c22&&(first11||(!x23)))=true then
    (A9 1 true (⟨(bif (c22&& !first11) then r12.Jt else r12.Jt),(bif (c22&& !first11) then r12.Cz else r12.Cz),(bif (c22&& !first11) then r12.Ca else r12.Ca)⟩:Ab)).bind fun x24=>
    (Ap [[58]] x24.2).bind fun x25=>
    (A9 1 true x25).bind fun x26=>
    (Ap [[37],[59]] x26.2).bind fun x27=>
    (apO 32 row21 [(⟨x24.1,x26.1⟩:Aq)]).bind fun x28=>
    some (.inl (false,x27,d13,d14,d15,d16,d17,d18,d19,d20,x28))
   else
    some (.inr ((⟨(bif (c22&& !first11) then r12.Jt else r12.Jt),(bif (c22&& !first11) then r12.Cz else r12.Cz),(bif (c22&& !first11) then r12.Ca else r12.Ca)⟩:Ab),(⟨d13,d14,d15,d16,row21,d17,d18,d19,d20⟩:Af))):Option ((Bool×Ab×(List UInt8)×(List UInt8)×(List UInt8)×(List UInt8)×(List Aa)×(List UInt8)×(List UInt8)×(List UInt8)×(List Aq))⊕(Ab×Af)))) (first,RX l x,d13,d14,d15,d16,d17,d18,d19,d20,row)
  =some (if first=false∧isT [125] x.1=true then(RX l x,⟨d13,d14,d15,d16,row,d17,d18,d19,d20⟩) else(RX l (Fj f x).2,⟨d13,d14,d15,d16,row++(Fj f x).1,d17,d18,d19,d20⟩)):=by
 have hl6:l.length≤1000000:=by omega
 intro f
 induction f with
 |zero=>intro x first row _ _ h;exact absurd h (by simp)
 |succ f ih=>
  intro x first row hx hf _ hrow hrow2
  have e3:(RX l x).Ca=x.2:=rfl
  cases hb:x.2 with
  |true=>
   have hbs:Fj (f+1) x=([],x):=by rw[Fj,if_pos hb]
   rw[hbs]
   simp only[List.append_nil,ite_self]
   refine A1 ?_
   simp only[Option.bind_some,e3,hb,Bool.not_true,Bool.false_and,gdO,Bool.false_eq_true,if_false,cond_false]
   rw[show(⟨(RX l x).Jt,(RX l x).Cz,true⟩:Ab)=RX l x by unfold RX;rw[hb];rfl]
  |false=>
   have hf:=hf hb
   have hrow:=hrow hb
   by_cases hc:first=false∧isT [125] x.1=true
   ·rw[if_pos hc]
    refine A1 ?_
    simp only[Option.bind_some,e3,hb,Bool.not_false,Bool.true_and,hc.1]
    rw[show Bv [125] (RX l x)=some (!x.2&&isT [125] x.1) from A5l hx _ _,hb,hc.2]
    simp only[Bool.not_false,Bool.true_and,A6,cond_true,Option.bind_some,Bool.not_true,Bool.or_self,Bool.false_eq_true,if_false]
    rw[show(⟨(RX l x).Jt,(RX l x).Cz,false⟩:Ab)=RX l x by unfold RX;rw[hb];rfl]
   ·rw[if_neg hc]
    have hy:=Axs x
    have hbs:Fj (f+1) x=if isT [125] (G6 x).2.1=true then([(G6 x).1],(G6 x).2) else((G6 x).1::(Fj f (G6 x).2).1,(Fj f (G6 x).2).2):=by
     rw[Fj,if_neg (by simp[hb])]
    have hih:=ih (G6 x).2 false (row++[(G6 x).1]) (hy.trans hx) (fun hg=>by have:=(A46 hg).2;omega) (by omega) (fun hg=>by have:=(A46 hg).2;simp;omega) (by simp;omega)
    have hgoal:(if isT [125] (G6 x).2.1=true then(RX l (G6 x).2,(⟨d13,d14,d15,d16,row++[(G6 x).1],d17,d18,d19,d20⟩:Af)) else(RX l (Fj f (G6 x).2).2,⟨d13,d14,d15,d16,(row++[(G6 x).1])++(Fj f (G6 x).2).1,d17,d18,d19,d20⟩))=(RX l (Fj (f+1) x).2,⟨d13,d14,d15,d16,row++(Fj (f+1) x).1,d17,d18,d19,d20⟩):=by
     rw[hbs]
     split
     ·rfl
     ·simp
    rw[←hgoal]
    simp only[true_and] at hih
    rw[←hih]
    refine Bs ?_
    have hx23:gdO (!false&& !first) (Bv [125] (RX l x)) (default:Bool)=some (bif !first then isT [125] x.1 else default):=by
     rw[show Bv [125] (RX l x)=some (!x.2&&isT [125] x.1) from A5l hx _ _,hb]
     simp[A6]
    simp only[Option.bind_some,e3,hb]
    rw[hx23]
    simp only[Option.bind_some,Bool.not_false,Bool.true_and,Bool.cond_self]
    rw[if_pos (by
     cases first with
     |true=>rfl
     |false=>
      have:isT [125] x.1=false:=by rw[←Bool.not_eq_true];exact fun h=>hc ⟨rfl,h⟩
      simp[this])]
    rw[show(⟨(RX l x).Jt,(RX l x).Cz,false⟩:Ab)=RX l x by unfold RX;rw[hb];rfl]
    have s1:=Afj 1 x
    rw[Aua hl6 hx]
    simp only[Option.bind_some]
    rw[Apv hl6 (s1.trans hx)]
    simp only[Option.bind_some]
    have s2:=(Dj [58] (sm 1 x).2).trans (s1.trans hx)
    rw[Aua hl6 s2]
    simp only[Option.bind_some]
    rw[Axf hl6 ((Afj 1 _).trans s2)]
    simp only[Option.bind_some]
    unfold apO
    rw[if_pos (by simp only[List.length_cons,List.length_nil];omega)]
    rfl
def Avl(x:St):List Nd×St:=if x.2=true then([],x) else match CL x.1 0 with
 |(some a,i)=>(a,i,false)
 |(none,i)=>([],i,true)
theorem Brf(x:St):(Avl x).2.1 <:+ x.1:=by
 unfold Avl
 split
 ·exact List.suffix_refl _
 ·have:=Gb x.1 0
  cases h:CL x.1 0 with
  |mk o i=>rw[h] at this;cases o<;>exact this
theorem Bn7{x:St}(h:(Avl x).2.2=false):x.2=false:=by
 unfold Avl at h
 cases hx:x.2 with
 |false=>rfl
 |true=>rw[if_pos hx] at h;rw[hx] at h;exact h
theorem Bn8{l:List Tk}(hF:Fit l)(hl:l.length≤8000){x:St}(h:x.1 <:+ l): ∃o,parse_reader_any 100000 (RX l x)=some (o,RX l (Avl x).2)∧((Avl x).2.2=false→o=(Avl x).1)∧NB o:=by
 obtain⟨ts,b⟩:=x
 cases b with
 |true=>
  refine⟨[],?_,fun hh=>by simp[Avl] at hh,fun n hn=>by simp at hn⟩
  exact Jk h hF.l6 99998
 |false=>
  have hfe:Avl (ts,false)=match CL ts 0 with
   |(some a,i)=>(a,i,false)
   |(none,i)=>([],i,true):=by unfold Avl;rw[if_neg (by simp)]
  rcases(Bns hF h hl).of with⟨a,i,e1,e2,e3⟩|⟨o,i,e1,e2,e3,e4⟩
  ·rw[e1] at hfe
   rw[hfe]
   exact⟨a,e2,fun _=>rfl,e3⟩
  ·rw[e1] at hfe
   rw[hfe]
   exact⟨o,e2,(fun hh=>by cases hh),e4⟩
def Al2:By:=[112,114,111,100,117,99,116]
def A1j:By:=[98,97,115,105,115]
def Asw:By:=[112,101,114,105,111,100]
def Afi:By:=[116,105,101,114,115]
def Bie:By:=[102,101,101]
def Al1:By:=[109,105,110,105,109,117,109]
def Sk:By:=[111,118,101,114,100,114,97,102,116]
def Asv:By:=[110,111,116,105,99,101]
def pA(x:St):By×St:=sm 0 (mT Al2 x)
def pB(x:St):By×St:=sm 0 (pA x).2
def pC(x:St):By×St:=sm 0 (mT A1j (mT [123] (pB x).2))
def pD(x:St):By×St:=Io Asw (mT [59] (pC x).2)
def pE(x:St):List Aq×St:=Btd (mT [123] (mT Afi (pD x).2))
def pF(x:St):List Nd×St:=Avl (mT Bie (mT [125] (pE x).2))
def pG(x:St):By×St:=Io Al1 (mT [59] (pF x).2)
def pH(x:St):By×St:=Io Sk (pG x).2
def pI(x:St):By×St:=Io Asv (pH x).2
def pZ(x:St):St:=mT [125] (pI x).2
def Aft(x:St):Af×St:=(⟨(pA x).1,(pB x).1,(pC x).1,(pD x).1,(pE x).1,(pF x).1,(pG x).1,(pH x).1,(pI x).1⟩,pZ x)
theorem Bpm(x:St):(pA x).2.1 <:+ x.1:=(Afj _ _).trans (Dj _ _)
theorem Bg4(x:St):(pB x).2.1 <:+ x.1:=(Afj _ _).trans (Bpm x)
theorem Bg5(x:St):(pC x).2.1 <:+ x.1:=(Afj _ _).trans ((Dj _ _).trans ((Dj _ _).trans (Bg4 x)))
theorem Bg6(x:St):(pD x).2.1 <:+ x.1:=(Aby _ _).trans ((Dj _ _).trans (Bg5 x))
theorem Bg7(x:St):(pE x).2.1 <:+ x.1:=(A47 _ _).trans ((Dj _ _).trans ((Dj _ _).trans (Bg6 x)))
theorem Bg8(x:St):(pF x).2.1 <:+ x.1:=(Brf _).trans ((Dj _ _).trans ((Dj _ _).trans (Bg7 x)))
theorem Bpn(x:St):(pG x).2.1 <:+ x.1:=(Aby _ _).trans ((Dj _ _).trans (Bg8 x))
theorem Bpo(x:St):(pH x).2.1 <:+ x.1:=(Aby _ _).trans (Bpn x)
theorem Bg9(x:St):(pI x).2.1 <:+ x.1:=(Aby _ _).trans (Bpo x)
theorem Bee(x:St):(Aft x).2.1 <:+ x.1:=(Dj _ _).trans (Bg9 x)
theorem Bed{x:St}(h:(Aft x).2.2=false):(pF x).2.2=false:=(Ff (Uc (Uc (Uc (Ff h).1)))).1
theorem A6a{x:St}(h:(Aft x).2.2=false):x.2=false∧(Aft x).2.1.length<x.1.length:=by
 have h1:=(Ff (Ff (Bn7 (Bed h))).1).1
 have h2:=Bfv _ _ h1
 have h3:=Uc (Ff (Ff h2).1).1
 have h4:=(Ff h3).1
 have h5:=(Ff (Ff (Amw h4).1).1).1
 have h6:=(Amw h5).1
 have h7:=(Amw h6).1
 refine⟨(Ff h7).1,?_⟩
 have e:=Ff h
 have:=(Bg9 x).length_le
 have e2:(Aft x).2.1.length+1=(pI x).2.1.length:=e.2
 omega
theorem Bl7{l:List Tk}(hF:Fit l)(hl:l.length≤8000){x:St}(h:x.1 <:+ l): ∃d,Dl (RX l x)=some (d,RX l (Aft x).2)∧((Aft x).2.2=false→d=(Aft x).1)∧NB d.B9:=by
 have hl6:=hF.l6
 obtain⟨o,f1,f2,f3⟩:=Bn8 hF hl (x:=mT Bie (mT [125] (pE x).2)) ((Dj _ _).trans ((Dj _ _).trans ((Bg7 x).trans h)))
 refine⟨⟨(pA x).1,(pB x).1,(pC x).1,(pD x).1,(pE x).1,o,(pG x).1,(pH x).1,(pI x).1⟩,?_,fun hh=>?_,f3⟩
 ·unfold Dl
  rw[show([112,114,111,100,117,99,116]:By)=Al2 from rfl,show([98,97,115,105,115]:By)=A1j from rfl,show([112,101,114,105,111,100]:By)=Asw from rfl,show([116,105,101,114,115]:By)=Afi from rfl,show([102,101,101]:By)=Bie from rfl,show([109,105,110,105,109,117,109]:By)=Al1 from rfl,show([111,118,101,114,100,114,97,102,116]:By)=Sk from rfl,show([110,111,116,105,99,101]:By)=Asv from rfl]
  rw[Apv hl6 h]
  simp only[Option.bind_some]
  rw[Aua hl6 ((Dj _ _).trans h)]
  simp only[Option.bind_some]
  rw[show sm 0 (mT Al2 x)=pA x from rfl,Aua hl6 ((Bpm x).trans h)]
  simp only[Option.bind_some]
  rw[show sm 0 (pA x).2=pB x from rfl,Axf hl6 ((Bg4 x).trans h)]
  simp only[Option.bind_some]
  rw[Aua hl6 ((Dj _ _).trans ((Dj _ _).trans ((Bg4 x).trans h)))]
  simp only[Option.bind_some]
  rw[show sm 0 (mT A1j (mT [123] (pB x).2))=pC x from rfl,Apv hl6 ((Bg5 x).trans h)]
  simp only[Option.bind_some]
  rw[Ard hl6 ((Dj _ _).trans ((Bg5 x).trans h))]
  simp only[Option.bind_some]
  rw[show Io Asw (mT [59] (pC x).2)=pD x from rfl,Axf hl6 ((Bg6 x).trans h)]
  simp only[Option.bind_some]
  have hE:(mT [123] (mT Afi (pD x).2)).1 <:+ l:=(Dj _ _).trans ((Dj _ _).trans ((Bg6 x).trans h))
  have hEl:=hE.length_le
  have hb:=Bfw (l:=l) (by omega) (pA x).1 (pB x).1 (pC x).1 (pD x).1 [] [] [] [] ((mT [123] (mT Afi (pD x).2)).1.length+2) (mT [123] (mT Afi (pD x).2)) true [] hE (fun _=>Nat.le_refl _) (by omega) (fun _=>by simp;omega) (by simp)
  refine Bg hb ?_
  rw[if_neg (by simp)]
  rw[show Fj ((mT [123] (mT Afi (pD x).2)).1.length+2) (mT [123] (mT Afi (pD x).2))=pE x from rfl]
  simp only[List.nil_append]
  rw[Axf hl6 ((Bg7 x).trans h)]
  simp only[Option.bind_some]
  rw[f1]
  simp only[Option.bind_some]
  rw[show Avl (mT Bie (mT [125] (pE x).2))=pF x from rfl,Apv hl6 ((Bg8 x).trans h)]
  simp only[Option.bind_some]
  rw[Ard hl6 ((Dj _ _).trans ((Bg8 x).trans h))]
  simp only[Option.bind_some]
  rw[show Io Al1 (mT [59] (pF x).2)=pG x from rfl,Ard hl6 ((Bpn x).trans h)]
  simp only[Option.bind_some]
  rw[show Io Sk (pG x).2=pH x from rfl,Ard hl6 ((Bpo x).trans h)]
  simp only[Option.bind_some]
  rw[show Io Asv (pH x).2=pI x from rfl,Apv hl6 ((Bg9 x).trans h)]
  rfl
 ·rw[f2 (Bed hh)]
  rfl
end Go.Av.G
end
section
set_option maxRecDepth 4000
set_option maxHeartbeats 4000000
namespace Go.Av.G
open Go Go.Av Go.Proofs
def Bgf(d:Af):Bool:=decide (d.Ai.length≤8)&&decide (0<Ip d.B9)
def Lm:Nat→St→List Af×St
 |0,x=>([],x)
 |f+1,x=>if x.2=false∧x.1≠[] then((Aft x).1::(Lm f (Aft x).2).1,(Lm f (Aft x).2).2) else([],x)
theorem A5d: ∀(f:Nat) (x:St),(Lm f x).2.1 <:+ x.1
 |0,x=>List.suffix_refl _
 |f+1,x=>by
  rw[Lm]
  split
  ·exact(A5d f _).trans (Bee x)
  ·exact List.suffix_refl _
theorem Bf5: ∀(f:Nat) (x:St),(Lm f x).2.2=false→x.2=false
 |0,x,h=>h
 |f+1,x,h=>by
  cases hb:x.2 with
  |false=>rfl
  |true=>
   rw[Lm,if_neg (by simp[hb])] at h
   exact hb▸h
theorem Bf7{l:List Tk}(hF:Fit l)(hl:l.length≤8000): ∀(f:Nat) (x:St) (fits:Bool) (row:List Af),x.1 <:+ l→(x.2=false→x.1.length<f)→1≤f→(x.2=false→row.length+x.1.length≤100000)→row.length≤100001→
  ∃o ft,A4 (fun(qj5:Bool×Ab×(List Af))=>match qj5 with
    |(fits6,x7,row8)=>(
     (some (!x7.Ca)).bind fun c9=>
     if (c9&&(decide (x7.Cz<(x7.Jt.length:Int))))=true then
      (Dl x7).bind fun x10=>
      (some (fits6&&(decide ((x10.1.Ai.length:Int)≤8)))).bind fun c11=>
      (gdO c11 (Dk x10.1.B9) (default:Bool)).bind fun x12=>
      (apO 160 row8 [x10.1]).bind fun x13=>
      some (.inl ((c11&&x12),x10.2,x13))
     else
      some (.inr (row8,fits6,x7)):Option ((Bool×Ab×(List Af))⊕((List Af)×Bool×Ab)))) (fits,RX l x,row)=some (o,ft,RX l (Lm f x).2)∧((Lm f x).2.2=false→o=row++(Lm f x).1∧ft=(fits&&(Lm f x).1.all Bgf)):=by
 have hl6:=hF.l6
 intro f
 induction f with
 |zero=>intro x fits row _ _ h;exact absurd h (by simp)
 |succ f ih=>
  intro x fits row hx hf _ hrow hrow2
  have e1:(RX l x).Ca=x.2:=rfl
  have e2:decide ((RX l x).Cz<((RX l x).Jt.length:Int))= !x.1.isEmpty:=A6b hx
  rw[Lm]
  by_cases hc:x.2=false∧x.1≠[]
  ·rw[if_pos hc]
   have hf:=hf hc.1
   have hrow:=hrow hc.1
   obtain⟨d,p1,p2,p3⟩:=Bl7 hF hl hx
   have hne:0<x.1.length:=List.length_pos_iff.2 hc.2
   obtain⟨o,ft,g1,g2⟩:=ih (Aft x).2 (fits&&Bgf d) (row++[d]) ((Bee x).trans hx) (fun hg=>by have:=(A6a hg).2;omega) (by omega) (fun hg=>by have:=(A6a hg).2;simp;omega) (by simp;omega)
   refine⟨o,ft,?_,fun hg=>?_⟩
   ·rw[←g1]
    refine Bs ?_
    simp only[Option.bind_some,e1,e2,hc.1]
    rw[if_pos (by cases hx1:x.1 with|nil=>exact absurd hx1 hc.2|cons a b=>rfl),p1]
    simp only[Option.bind_some]
    rw[right_eq p3]
    simp only[A6,Option.bind_some]
    unfold apO
    rw[if_pos (by simp only[List.length_cons,List.length_nil];omega)]
    simp only[Option.bind_some,Option.some.injEq,Sum.inl.injEq,Prod.mk.injEq,and_true]
    unfold Bgf
    have:decide ((d.Ai.length:Int)≤8)=decide (d.Ai.length≤8):=by rw[decide_eq_decide];omega
    rw[this]
    cases fits<;>cases decide (d.Ai.length≤8)<;>rfl
   ·have hd:=p2 (Bf5 f _ hg)
    obtain⟨g3,g4⟩:=g2 hg
    refine⟨by rw[g3,hd];simp,?_⟩
    rw[g4,hd,List.all_cons,Bool.and_assoc]
  ·rw[if_neg hc]
   refine⟨row,fits,A1 ?_,fun _=>⟨by simp,by simp⟩⟩
   simp only[Option.bind_some,e1,e2]
   rw[if_neg]
   intro h
   simp only[Bool.and_eq_true,Bool.not_eq_true'] at h
   refine hc ⟨h.1,?_⟩
   intro he
   rw[he] at h
   simp at h
def Bao(s:By):List Af×Int×Int×Int:=match LX s with
 | .inr e=>([],(plS (s.take e.1)).1,(plS (s.take e.1)).2,(e.2:Int))
 | .inl l=>match Lm (l.length+1) (l,false) with
  |(_,t::_,_)=>([],t.Abz,t.Arh,14)
  |(_,[],true)=>([],(plS s).1,(plS s).2,14)
  |(ds,[],false)=>if ds.all Bgf=true∧ds.length≤16 then(ds,0,0,0) else([],1,1,4)
theorem Bnq{s:By}(hs:s.length≤1000000):Xg s=some (Bao s):=by
 unfold Xg Bao
 rw[Bbk hs]
 simp only[Option.bind_some]
 cases h:LX s with
 |inr e=>
  obtain⟨h1,_⟩:=Bfi h
  simp only
  rw[if_pos (by simp;omega)]
 |inl l=>
  obtain⟨hF,hl,_⟩:=Bm5 h
  simp only[bne_self_eq_false,Bool.false_eq_true,if_false]
  have hsf:=List.suffix_refl l
  obtain⟨o,ft,g1,g2⟩:=Bf7 hF hl (l.length+1) (l,false) true [] hsf (fun _=>by simp) (by omega) (fun _=>by simp;omega) (by simp)
  refine Bg g1 ?_
  have hy:=A5d (l.length+1) (l,false)
  generalize hr:Lm (l.length+1) (l,false)=r at g1 g2 hy
  obtain⟨ds,ts,b⟩:=r
  have hy:ts <:+ l:=hy
  simp only
  rw[show RX l (ts,b)=RD l ts b from rfl,Bga hs hy]
  cases ts with
  |cons t r=>cases b<;>rfl
  |nil=>
   cases b with
   |true=>rfl
   |false=>
    obtain⟨g3,g4⟩:=g2 rfl
    simp only[List.nil_append,Bool.true_and] at g3 g4
    subst g3;subst g4
    simp only[Option.bind_some,Bool.false_eq_true,if_false]
    by_cases hc:List.all o Bgf=true∧o.length≤16
    ·have e:(List.all o Bgf&&decide ((o.length:Int)≤16))=true:=by
      rw[hc.1];simp;omega
     rw[if_pos hc,e]
     rfl
    ·have e:(List.all o Bgf&&decide ((o.length:Int)≤16))=false:=by
      rw[←Bool.not_eq_true]
      intro h
      simp only[Bool.and_eq_true,decide_eq_true_eq] at h
      exact hc ⟨h.1,by omega⟩
     rw[if_neg hc,e]
     rfl
def A1k(a b:Af):Bool:=decide (a.Ai=b.Ai)&&decide (a.B9=b.B9)&&decide (a.B3=b.B3)&&decide (a.C8=b.C8)&&decide (a.Bo=b.Bo)&&decide (a.Bf=b.Bf)&&decide (a.Bb=b.Bb)&&decide (a.A3=b.A3)&&decide (a.Bj=b.Bj)
theorem Bif(a:Af):A1k a a=true:=by simp[A1k]
theorem A6i(x y:Aq):Aq.same x y=decide (x=y):=Aq.same_iff x y
theorem Bnv(a b:By):(a==b)=decide (a=b):=by
 by_cases h:a=b<;>simp[h]
theorem Bgc{a b:List Aq}(hn:a.length≤1000000):D4 a b=some (decide (a=b)):=by
 unfold D4
 by_cases h:a.length=b.length
 ·rw[if_neg (by simp;omega)]
  refine Bg (Axb A6i hn h) ?_
  by_cases hab:a=b<;>simp[hab]
 ·rw[if_pos (by simp;omega)]
  have:a≠b:=fun c=>h (by rw[c])
  simp[this]
theorem Bgd{a b:List Nd}(hn:a.length≤1000000):D5 a b=some (decide (a=b)):=by
 unfold D5
 by_cases h:a.length=b.length
 ·rw[if_neg (by simp;omega)]
  refine Bg (Axb A6j hn h) ?_
  by_cases hab:a=b<;>simp[hab]
 ·rw[if_pos (by simp;omega)]
  have:a≠b:=fun c=>h (by rw[c])
  simp[this]
theorem A6k{a b:Af}(h1:a.Ai.length≤1000000)(h2:a.B9.length≤1000000):Lr a b=some (A1k a b):=by
 unfold Lr
 rw[Bgc h1,Bgd h2]
 simp only[Option.bind_some,A6,Bnv]
 unfold A1k
 cases decide (a.Ai=b.Ai)<;>rfl
theorem Bp5{a b:Af}(h1:a.Ai.length≤1000000)(h2:a.B9.length≤1000000):Gh a b=some (A1k a b):=by
 unfold Gh
 rw[Ba8 h2]
 simp only[Option.bind_some,Bnv]
 unfold A1k
 by_cases hf:a.B9=b.B9
 ·by_cases hl:a.Ai.length=b.Ai.length
  ·rw[if_neg (by simp[hf,hl])]
   refine Bg (Axb A6i h1 hl) ?_
   by_cases hb:a.Ai=b.Ai
   ·rw[if_pos hb]
    simp[hb,hf]
   ·rw[if_neg hb]
    simp[hb]
  ·rw[if_pos (by simp;omega)]
   have:a.Ai≠b.Ai:=fun c=>hl (by rw[c])
   simp[this]
 ·rw[if_pos (by simp[hf])]
  simp[hf]
end Go.Av.G
end
section
set_option maxRecDepth 4000
set_option maxHeartbeats 4000000
namespace Go.Av.G
open Go Go.Av Go.Proofs
theorem Ct{L:List (List By)}(hL:L.length≤1000)(hs:L.flatten.length≤1000000):Am L=some L.flatten:=by
 unfold Am
 have h1:A4 (fun(qj2:Int×Int)=>match qj2 with
  |(size3,x4)=>(
   if (decide (x4<(L.length:Int)))=true then
    (rdO L x4).bind fun x5=>
    ((if (decide ((IntKind.wrap .i64 (size3+(x5.length:Int)))<0))=true then
      none
    else
     some ()):Option Unit).bind fun _=>
    some (.inl (IntKind.wrap .i64 (size3+(x5.length:Int)),IntKind.wrap .i64 (x4+1)))
   else
    some (.inr size3):Option ((Int×Int)⊕Int))) (0,0)=some (L.flatten.length:Int):=by
  have key: ∀(t pre:List (List By)),L=pre++t→A4 (fun(qj2:Int×Int)=>match qj2 with
  |(size3,x4)=>(
   if (decide (x4<(L.length:Int)))=true then
    (rdO L x4).bind fun x5=>
    ((if (decide ((IntKind.wrap .i64 (size3+(x5.length:Int)))<0))=true then
      none
    else
     some ()):Option Unit).bind fun _=>
    some (.inl (IntKind.wrap .i64 (size3+(x5.length:Int)),IntKind.wrap .i64 (x4+1)))
   else
    some (.inr size3):Option ((Int×Int)⊕Int))) ((pre.flatten.length:Int),(pre.length:Int))=some (L.flatten.length:Int):=by
   intro t
   induction t with
   |nil=>
    intro pre he
    refine A1 ?_
    subst he
    simp
   |cons x t ih=>
    intro pre he
    have hlen:pre.length<L.length:=by subst he;simp
    have hg:L[pre.length]=x:=by subst he;simp
    have hfl:pre.flatten.length+x.length≤L.flatten.length:=by subst he;simp
    rw[Bs (s':=((((pre++[x]).flatten.length:Nat):Int),(((pre++[x]).length:Nat):Int))),ih (pre++[x]) (by simp[he])]
    show(if _ then _ else _)=_
    rw[if_pos (by simp;omega),Cu hlen,hg]
    simp only[Option.bind_some]
    rw[wrap64 (x:=(pre.flatten.length:Int)+(x.length:Int)) (by omega) (by omega),wrap64 (by omega) (by omega),if_neg (by simp;omega)]
    simp
  exact key L [] rfl
 rw[h1]
 simp only[Option.bind_some]
 have hg:C2 (List UInt8) 16 (L.flatten.length:Int)=some []:=by
  unfold C2 D6
  rw[if_pos ⟨by omega,by omega⟩]
  rfl
 rw[hg]
 simp only[Option.bind_some]
 have key: ∀(t pre:List (List By)),L=pre++t→A4 (fun(qj9:Int×(List (List UInt8)))=>match qj9 with
  |(x10,row11)=>(
   if (decide (x10<(L.length:Int)))=true then
    (rdO L x10).bind fun x12=>
    (apO 16 row11 x12).bind fun x13=>
    some (.inl (IntKind.wrap .i64 (x10+1),x13))
   else
    some (.inr row11):Option ((Int×(List (List UInt8)))⊕(List (List UInt8))))) ((pre.length:Int),pre.flatten)=some L.flatten:=by
  intro t
  induction t with
  |nil=>
   intro pre he
   refine A1 ?_
   subst he
   simp
  |cons x t ih=>
   intro pre he
   have hlen:pre.length<L.length:=by subst he;simp
   have hg:L[pre.length]=x:=by subst he;simp
   have hfl:pre.flatten.length+x.length≤L.flatten.length:=by subst he;simp
   rw[Bs (s':=((((pre++[x]).length:Nat):Int),(pre++[x]).flatten)),ih (pre++[x]) (by simp[he])]
   show(if _ then _ else _)=_
   rw[if_pos (by simp;omega),Cu hlen,hg]
   simp only[Option.bind_some]
   unfold apO
   rw[if_pos (by omega)]
   simp only[Option.bind_some]
   rw[wrap64 (by omega) (by omega)]
   simp
 exact Bg (key L [] rfl) rfl
abbrev Pc:=Nat×List By
def atS(p:Pc)(lvl:Nat):List By:=if p.1<lvl then [40]::(p.2++[[41]]) else p.2
def Bn(k:Int):Nat×By×Nat×Nat:=
 if k=2 then(7,[45],7,7) else if k=3 then(5,[43],5,6) else if k=4 then(5,[45],5,6) else if k=5 then(6,[42],6,7) else if k=6 then(6,[47],6,7)
 else if k=7 then(4,[60],5,5) else if k=8 then(4,[60,61],5,5) else if k=9 then(4,[61],5,5) else if k=10 then(4,[62],5,5) else if k=11 then(4,[62,61],5,5)
 else if k=12 then(2,Bel,2,3) else if k=13 then(1,sOr,1,2) else if k=14 then(3,Aqz,3,3) else if k=15 then(0,sIf,0,0) else if k=16 then(8,Aqy,0,0)
 else if k=17 then(8,A4y,0,0) else(8,[],0,0)
def Afw(k:Int)(i:Nat):Nat:=if i=0 then(Bn k).2.2.1 else if i=1 then(Bn k).2.2.2 else 0
def Cv(n:Nd)(p0 p1 p2:List By):List By:=
 if n.Ac=0 then(if n.Ag.getLast?=some 37 then [n.Ag.dropLast,[37]] else [n.Ag])
 else if n.Ac=1 then [n.Ag]
 else if n.Ac=2 then [45]::p0
 else if n.Ac=14 then Aqz::p0
 else if n.Ac=15 then sIf::(p0++Al3::(p1++Afv::p2))
 else if n.Ac=16∨n.Ac=17 then(if n.Ac=17 then A4y else Aqy)::[40]::(p0++[44]::(p1++[[41]]))
 else p0++(Bn n.Ac).2.1::p1
def gP(st:List Pc)(k:Int)(i:Nat):List By:=atS (st.getD i (0,[])) (Afw k i)
def Apn(k:Int):Nat:=(Hj k).getD 0
def pst:List Nd→List Pc
 |[]=>[]
 |n::l=>((Bn n.Ac).1,Cv n (gP (pst l) n.Ac 0) (gP (pst l) n.Ac 1) (gP (pst l) n.Ac 2))::(pst l).drop (Apn n.Ac)
theorem kinds{k:Int}(h:Hj k≠none):k=0∨k=1∨k=2∨k=3∨k=4∨k=5∨k=6∨k=7∨k=8∨k=9∨k=10∨k=11∨k=12∨k=13∨k=14∨k=15∨k=16∨k=17:=by
 unfold Hj at h
 split at h
 ·exact absurd rfl h
 ·omega
theorem Sn{n:Nd}{l:List Nd}{s:List Nat}(h:stk (n::l)=some s): ∃st k,stk l=some st∧Hj n.Ac=some k∧Xe n=true∧k≤st.length∧s=((st.take k).foldl max 0+1)::st.drop k:=by
 rw[stk] at h
 cases h1:stk l with
 |none=>rw[h1] at h;cases h
 |some st=>
  rw[h1] at h
  simp only at h
  cases h2:Hj n.Ac with
  |none=>rw[h2] at h;cases h
  |some k=>
   rw[h2] at h
   simp only at h
   split at h
   ·rename_i h3
    cases h
    exact⟨st,k,rfl,rfl,h3.1,h3.2,rfl⟩
   ·cases h
theorem Qe: ∀{l:List Nd} {st:List Nat},stk l=some st→(pst l).length=st.length
 |[],st,h=>by cases h;rfl
 |n::l,s,h=>by
  obtain⟨st,k,h1,h2,h3,h4,rfl⟩:=Sn h
  have:=Qe h1
  rw[pst]
  simp only[List.length_cons,List.length_drop,Apn,h2,Option.getD_some]
  omega
def tw(st:List Pc):Nat:=(st.map fun p=>p.2.length).sum
theorem Bsh(st:List Pc)(k:Nat):tw (st.take k)+tw (st.drop k)=tw st:=by
 unfold tw
 rw[←List.sum_append,←List.map_append,List.take_append_drop]
theorem A7d(p:Pc)(lvl:Nat):(atS p lvl).length≤p.2.length+2:=by
 unfold atS
 split
 ·simp
 ·omega
theorem Bm1(n:Nd)(p0 p1 p2:List By):(Cv n p0 p1 p2).length≤(if Apn n.Ac=0 then 0 else p0.length)+(if Apn n.Ac≤1 then 0 else p1.length)+(if Apn n.Ac≤2 then 0 else p2.length)+4∨Hj n.Ac=none:=by
 by_cases h:Hj n.Ac=none
 ·exact Or.inr h
 ·left
  unfold Cv
  rcases kinds h with e|e|e|e|e|e|e|e|e|e|e|e|e|e|e|e|e|e<;>rw[e]<;>simp[Apn,Hj]<;>(try split)<;>(try simp)<;>(try omega)
theorem Qs: ∀{l:List Nd} {st:List Nat},stk l=some st→tw (pst l)≤10*l.length
 |[],st,h=>by simp[pst,tw]
 |n::l,s,h=>by
  obtain⟨st,k,h1,h2,h3,h4,rfl⟩:=Sn h
  have ih:=Qs h1
  have hlen:=Qe h1
  have hd:=Bsh (pst l) k
  have hk:=Ax9 h2
  rcases Bm1 n (gP (pst l) n.Ac 0) (gP (pst l) n.Ac 1) (gP (pst l) n.Ac 2) with hw|hw
  ·rw[pst]
   have hN:Apn n.Ac=k:=by simp[Apn,h2]
   rw[hN] at hw⊢
   have hg: ∀i,(gP (pst l) n.Ac i).length≤((pst l).getD i (0,[])).2.length+2:=fun i=>A7d _ _
   have g0:=hg 0;have g1:=hg 1;have g2:=hg 2
   have hsum:(if k=0 then 0 else((pst l).getD 0 (0,[])).2.length)+(if k≤1 then 0 else((pst l).getD 1 (0,[])).2.length)+(if k≤2 then 0 else((pst l).getD 2 (0,[])).2.length)=tw ((pst l).take k):=by
    match hp:pst l,k,hk with
    |[],0,_=>rfl
    |[],k+1,_=>rw[hp] at hlen;simp at hlen;omega
    |a::s,0,_=>rfl
    |a::s,1,_=>simp[tw]
    |[a],2,_=>rw[hp] at hlen;simp at hlen;omega
    |[a],3,_=>rw[hp] at hlen;simp at hlen;omega
    |a::b::s,2,_=>simp[tw]
    |[a,b],3,_=>rw[hp] at hlen;simp at hlen;omega
    |a::b::c::s,3,_=>simp[tw];omega
   have htw:tw (((Bn n.Ac).1,Cv n (gP (pst l) n.Ac 0) (gP (pst l) n.Ac 1) (gP (pst l) n.Ac 2))::(pst l).drop k)=(Cv n (gP (pst l) n.Ac 0) (gP (pst l) n.Ac 1) (gP (pst l) n.Ac 2)).length+tw ((pst l).drop k):=by simp[tw]
   rw[htw]
   simp only[List.length_cons]
   split at hw<;>(try split at hw)<;>(try split at hw)<;>(try split at hsum)<;>(try split at hsum)<;>(try split at hsum)<;>omega
  ·rw[hw] at h2;cases h2
theorem Auh{st:List Pc}{p:Pc}(h:p∈st):p.2.length≤tw st:=by
 unfold tw
 exact List.single_le_sum_nat (List.mem_map.2 ⟨p,h,rfl⟩)
where
 List.single_le_sum_nat: ∀{l:List Nat} {x:Nat},x∈l→x≤l.sum:=by
  intro l
  induction l with
  |nil=>intro x h;cases h
  |cons a l ih=>
   intro x h
   rw[List.sum_cons]
   rcases List.mem_cons.1 h with rfl|h
   ·omega
   ·have:=ih h;omega
theorem Btj{s:By}(hl:s.length≤1000000):strings_CutSuffix s [37]=some (if s.getLast?=some 37 then(s.dropLast,true) else(s,false)):=by
 unfold strings_CutSuffix stringslite_CutSuffix
 rw[A5i hl]
 simp only[Option.bind_some]
 by_cases h:s.getLast?=some 37
 ·rw[if_neg (by simp[h]),Aus hl h,if_pos h]
  rfl
 ·rw[if_pos (by simp[h]),if_neg h]
  rfl
def A76(k:Nat)(p0 p1 p2:List By):List (List By):=[p0,p1,p2].take k
theorem Bqy{n:Nd}(hx:n.Ag.length≤1000000){k:Nat}(hk:Hj n.Ac=some k){p0 p1 p2:List By}(hb:p0.length≤100000∧p1.length≤100000∧p2.length≤100000):Uk n (placeOf n.Ac).2.1 (A76 k p0 p1 p2)=some (Cv n p0 p1 p2):=by
 have hb0:=hb.1
 have hb1:=hb.2.1
 have hb2:=hb.2.2
 have hne:Hj n.Ac≠none:=by rw[hk];simp
 unfold Uk Cv
 rcases kinds hne with e|e|e|e|e|e|e|e|e|e|e|e|e|e|e|e|e|e<;>rw[e] at hk⊢ <;>(have hk:=Option.some.inj hk)<;>subst hk
 ·simp only[beq_self_eq_true,if_true]
  rw[Btj hx]
  simp only[Option.bind_some]
  split<;>simp
 ·rfl
 ·show(apO 16 [[45]] p0).bind _=_
  unfold apO
  rw[if_pos (by simp;omega)]
  rfl
 ·show(Am [p0,[[43]],p1]).bind _=_
  rw[Ct (by simp) (by simp;omega)]
  simp[Bn]
 ·show(Am [p0,[[45]],p1]).bind _=_
  rw[Ct (by simp) (by simp;omega)]
  simp[Bn]
 ·show(Am [p0,[[42]],p1]).bind _=_
  rw[Ct (by simp) (by simp;omega)]
  simp[Bn]
 ·show(Am [p0,[[47]],p1]).bind _=_
  rw[Ct (by simp) (by simp;omega)]
  simp[Bn]
 ·show(Am [p0,[[60]],p1]).bind _=_
  rw[Ct (by simp) (by simp;omega)]
  simp[Bn]
 ·show(Am [p0,[[60,61]],p1]).bind _=_
  rw[Ct (by simp) (by simp;omega)]
  simp[Bn]
 ·show(Am [p0,[[61]],p1]).bind _=_
  rw[Ct (by simp) (by simp;omega)]
  simp[Bn]
 ·show(Am [p0,[[62]],p1]).bind _=_
  rw[Ct (by simp) (by simp;omega)]
  simp[Bn]
 ·show(Am [p0,[[62,61]],p1]).bind _=_
  rw[Ct (by simp) (by simp;omega)]
  simp[Bn]
 ·show(Am [p0,[[97,110,100]],p1]).bind _=_
  rw[Ct (by simp) (by simp;omega)]
  simp[Bn,Bel]
 ·show(Am [p0,[[111,114]],p1]).bind _=_
  rw[Ct (by simp) (by simp;omega)]
  simp[Bn,sOr]
 ·show(apO 16 [[110,111,116]] p0).bind _=_
  unfold apO
  rw[if_pos (by simp;omega)]
  rfl
 ·show(Am [[[105,102]],p0,[[116,104,101,110]],p1,[[101,108,115,101]],p2]).bind _=_
  rw[Ct (by simp) (by simp;omega)]
  simp[sIf,Al3,Afv]
 ·show(Am [[[109,105,110],[40]],p0,[[44]],p1,[[41]]]).bind _=_
  rw[Ct (by simp) (by simp;omega)]
  simp[Aqy]
 ·show(Am [[[109,97,120],[40]],p0,[[44]],p1,[[41]]]).bind _=_
  rw[Ct (by simp) (by simp;omega)]
  simp[A4y]
theorem Bp7{kind:Int}(h:Hj kind≠none): ∃sd:List Int,((if (kind==2)=true then
   some (7,[7])
  else
   if (kind==14)=true then
    some (3,[3])
   else
    if (kind==15)=true then
     some (0,[(placeOf kind).2.2.1,(placeOf kind).2.2.2,0])
    else
     some ((placeOf kind).1,[(placeOf kind).2.2.1,(placeOf kind).2.2.2,0])):Option (Int×(List Int)))=some (((Bn kind).1:Int),sd)∧ ∀i,i<Apn kind→rdO sd (i:Int)=some (Afw kind i:Int):=by
 rcases kinds h with rfl|rfl|rfl|rfl|rfl|rfl|rfl|rfl|rfl|rfl|rfl|rfl|rfl|rfl|rfl|rfl|rfl|rfl
 ·exact⟨_,rfl,fun i hi=>absurd hi (by simp[Apn,Hj])⟩
 ·exact⟨_,rfl,fun i hi=>absurd hi (by simp[Apn,Hj])⟩
 ·refine⟨_,rfl,fun i hi=>?_⟩
  have:i<1:=hi
  obtain rfl:i=0:=by omega
  rfl
 ·refine⟨_,rfl,fun i hi=>?_⟩
  have:i<2:=hi
  rcases(show i=0∨i=1 by omega) with rfl|rfl<;>rfl
 ·refine⟨_,rfl,fun i hi=>?_⟩
  have:i<2:=hi
  rcases(show i=0∨i=1 by omega) with rfl|rfl<;>rfl
 ·refine⟨_,rfl,fun i hi=>?_⟩
  have:i<2:=hi
  rcases(show i=0∨i=1 by omega) with rfl|rfl<;>rfl
 ·refine⟨_,rfl,fun i hi=>?_⟩
  have:i<2:=hi
  rcases(show i=0∨i=1 by omega) with rfl|rfl<;>rfl
 ·refine⟨_,rfl,fun i hi=>?_⟩
  have:i<2:=hi
  rcases(show i=0∨i=1 by omega) with rfl|rfl<;>rfl
 ·refine⟨_,rfl,fun i hi=>?_⟩
  have:i<2:=hi
  rcases(show i=0∨i=1 by omega) with rfl|rfl<;>rfl
 ·refine⟨_,rfl,fun i hi=>?_⟩
  have:i<2:=hi
  rcases(show i=0∨i=1 by omega) with rfl|rfl<;>rfl
 ·refine⟨_,rfl,fun i hi=>?_⟩
  have:i<2:=hi
  rcases(show i=0∨i=1 by omega) with rfl|rfl<;>rfl
 ·refine⟨_,rfl,fun i hi=>?_⟩
  have:i<2:=hi
  rcases(show i=0∨i=1 by omega) with rfl|rfl<;>rfl
 ·refine⟨_,rfl,fun i hi=>?_⟩
  have:i<2:=hi
  rcases(show i=0∨i=1 by omega) with rfl|rfl<;>rfl
 ·refine⟨_,rfl,fun i hi=>?_⟩
  have:i<2:=hi
  rcases(show i=0∨i=1 by omega) with rfl|rfl<;>rfl
 ·refine⟨_,rfl,fun i hi=>?_⟩
  have:i<1:=hi
  obtain rfl:i=0:=by omega
  rfl
 ·refine⟨_,rfl,fun i hi=>?_⟩
  have:i<3:=hi
  rcases(show i=0∨i=1∨i=2 by omega) with rfl|rfl|rfl<;>rfl
 ·refine⟨_,rfl,fun i hi=>?_⟩
  have:i<2:=hi
  rcases(show i=0∨i=1 by omega) with rfl|rfl<;>rfl
 ·refine⟨_,rfl,fun i hi=>?_⟩
  have:i<2:=hi
  rcases(show i=0∨i=1 by omega) with rfl|rfl<;>rfl
theorem Be8: ∀(N f:Nat) (l:List Nd) (d:Nat) (st:List Nat) (lvl:Nat),l.length≤N→l.length<f→l.length≤1000→(∀n∈l,n.Ag.length≤1000000)→stk l=some (d::st)→
  ∃rest,F5 f l (lvl:Int)=some (atS ((pst l).getD 0 (0,[])) lvl,rest)∧stk rest=some st∧pst rest=(pst l).drop 1∧rest <:+ l∧rest.length<l.length:=by
 intro N
 induction N with
 |zero=>
  intro f l d st lvl hN hf hl hx hs
  obtain rfl:l=[]:=List.eq_nil_of_length_eq_zero (by omega)
  cases hs
 |succ N ih=>
  intro f l d st lvl hN hf hl hx hs
  cases l with
  |nil=>cases hs
  |cons n l=>
   obtain⟨g,rfl⟩: ∃g,f=g+1:=⟨f-1,by omega⟩
   simp only[List.length_cons] at hN hf hl
   obtain⟨st',k,h1,h2,h3,h4,h5⟩:=Sn hs
   have hst:st=st'.drop k:=(List.cons.inj h5).2
   have hNk:Apn n.Ac=k:=by simp[Apn,h2]
   have hk3:=Ax9 h2
   have hnx:=hx n (by simp)
   have hplen:=Qe h1
   have htw:=Qs h1
   obtain⟨sd,s1,s2⟩:=Bp7 (kind:=n.Ac) (by rw[h2];simp)
   rw[hNk] at s2
   have hP: ∀i,(gP (pst l) n.Ac i).length≤10*l.length+2:=by
    intro i
    have:=A7d ((pst l).getD i (0,[])) (Afw n.Ac i)
    have h6:((pst l).getD i (0,[])).2.length≤tw (pst l):=by
     rw[List.getD_eq_getElem?_getD]
     cases hg:(pst l)[i]? with
     |none=>simp
     |some p=>exact Auh (List.mem_of_getElem? hg)
    unfold gP
    omega
   have key: ∀(j:Nat) (rest:List Nd),j≤k→rest <:+ l→stk rest=some (st'.drop j)→pst rest=(pst l).drop j→ ∃rest',rest' <:+ l∧stk rest'=some (st'.drop k)∧pst rest'=(pst l).drop k∧A4 (fun(qj10:(List Aa)×Int×(List (List (List UInt8))))=>match qj10 with
   |(rest11,x12,row13)=>(
    if (decide (x12<(k:Int)))=true then
     (rdO sd x12).bind fun x14=>
     (F5 g rest11 x14).bind fun x15=>
     (apO 24 row13 [x15.1]).bind fun x16=>
     some (.inl (x15.2,IntKind.wrap .i64 (x12+1),x16))
    else
     some (.inr (rest11,row13)):Option (((List Aa)×Int×(List (List (List UInt8))))⊕((List Aa)×(List (List (List UInt8))))))) (rest,(j:Int),A76 j (gP (pst l) n.Ac 0) (gP (pst l) n.Ac 1) (gP (pst l) n.Ac 2))=some (rest',A76 k (gP (pst l) n.Ac 0) (gP (pst l) n.Ac 1) (gP (pst l) n.Ac 2)):=by
    intro j
    generalize hd:k-j=dd
    induction dd generalizing j with
    |zero=>
     intro rest hj hr hs1 hs2
     obtain rfl:j=k:=by omega
     refine⟨rest,hr,hs1,hs2,A1 ?_⟩
     show(if _ then _ else _)=_
     rw[if_neg (by simp)]
    |succ dd ihd=>
     intro rest hj hr hs1 hs2
     have hjk:j<k:=by omega
     have hjl:j<st'.length:=by omega
     have hcons:st'.drop j=st'[j]::st'.drop (j+1):=List.drop_eq_getElem_cons hjl
     rw[hcons] at hs1
     have hrl:=hr.length_le
     obtain⟨r2,t1,t2,t3,t4,t5⟩:=ih g rest st'[j] (st'.drop (j+1)) (Afw n.Ac j) (by omega) (by omega) (by omega) (fun m hm=>hx m (by simp[hr.subset hm])) hs1
     obtain⟨rest',q1,q2,q3,q4⟩:=ihd (j+1) (by omega) r2 (by omega) (t4.trans hr) t2 (by rw[t3,hs2,List.drop_drop])
     refine⟨rest',q1,q2,q3,?_⟩
     rw[←q4]
     refine Bs ?_
     show(if _ then _ else _)=_
     rw[if_pos (by simp;omega),s2 j hjk]
     simp only[Option.bind_some]
     rw[t1]
     simp only[Option.bind_some]
     have hat:atS ((pst rest).getD 0 (0,[])) (Afw n.Ac j)=gP (pst l) n.Ac j:=by
      rw[hs2]
      unfold gP
      congr 1
      simp
     rw[hat]
     unfold apO
     rw[if_pos (by simp[A76];omega)]
     simp only[Option.bind_some]
     rw[wrap64 (by omega) (by omega)]
     simp only[Option.some.injEq,Sum.inl.injEq,Prod.mk.injEq,true_and]
     refine⟨rfl,?_⟩
     rcases(show j=0∨j=1∨j=2 by omega) with rfl|rfl|rfl<;>rfl
   obtain⟨rest',q1,q2,q3,q4⟩:=key 0 l (by omega) (List.suffix_refl l) (by simpa using h1) (by simp)
   refine⟨rest',?_,by rw[hst];exact q2,?_,q1.trans (List.suffix_cons n l),by have:=q1.length_le;simp;omega⟩
   ·rw[F5]
    have e0:rdO (n::l) 0=some n:=rfl
    have e2:slO (n::l) 1 ((n::l).length:Int)=some l:=by
     have:=Kk (l:=n::l) (n:=1) (by simp)
     simpa using this
    rw[e0,e2]
    simp only[Option.bind_some]
    rw[show Aj9 n.Ac=some (placeOf n.Ac) from rfl]
    simp only[Option.bind_some]
    refine Bg s1 ?_
    simp only
    rw[has_eq]
    have hI:Ax8 n.Ac=(k:Int):=by unfold Ax8;rw[h2]
    rw[hI]
    simp only[Option.bind_some]
    refine Bg q4 ?_
    simp only
    rw[Bqy hnx h2 ⟨by have:=hP 0;omega,by have:=hP 1;omega,by have:=hP 2;omega⟩]
    simp only[Option.bind_some]
    have hhead:(pst (n::l)).getD 0 (0,[])=((Bn n.Ac).1,Cv n (gP (pst l) n.Ac 0) (gP (pst l) n.Ac 1) (gP (pst l) n.Ac 2)):=rfl
    rw[hhead]
    unfold atS
    have htw2:=Qs hs
    have hwl:(Cv n (gP (pst l) n.Ac 0) (gP (pst l) n.Ac 1) (gP (pst l) n.Ac 2)).length≤20000:=by
     have:=Auh (st:=pst (n::l)) (p:=((Bn n.Ac).1,Cv n (gP (pst l) n.Ac 0) (gP (pst l) n.Ac 1) (gP (pst l) n.Ac 2))) (by rw[pst];simp)
     simp at this htw2
     omega
    by_cases hb:(Bn n.Ac).1<lvl
    ·rw[if_pos hb,if_pos (by simp;omega),Ct (by simp) (by simp;omega)]
     simp
    ·rw[if_neg hb,if_neg (by simp;omega)]
     rfl
   ·rw[q3]
    rw[pst,hNk]
    simp
def jw(ws:List By):By:=Lib.join ws [32]
theorem Bto:jw []=[]:=rfl
theorem Ajn(w:By):jw [w]=w:=by simp[jw,Lib.join,List.intercalate]
theorem Aro(w v:By)(ws:List By):jw (w::v::ws)=w++32::jw (v::ws):=by simp[jw,Lib.join,List.intercalate]
theorem App: ∀(ws:List By) (b:Nat),(∀w∈ws,w.length≤b)→(jw ws).length≤ws.length*(b+1)
 |[],b,h=>by simp[Bto]
 |[w],b,h=>by
  have:=h w (by simp)
  rw[Ajn];simp;omega
 |w::v::ws,b,h=>by
  have h1:=h w (by simp)
  have h2:=App (v::ws) b (fun x hx=>h x (by simp[hx]))
  rw[Aro]
  simp only[List.length_append,List.length_cons] at h2⊢
  rw[Nat.add_mul,Nat.add_mul] at*
  omega
theorem Bj4{ws:List By}(h1:ws.length≤1000000)(h2:(jw ws).length≤140737488355328):strings_Join ws [32]=some (jw ws):=by
 unfold strings_Join
 rw[if_pos ⟨by omega,h2⟩]
 rfl
def Gm(l:List Nd):List By:=((pst l).getD 0 (0,[])).2
def Aqt(l:List Nd):By×Int:=if Ip l=0 then([],1) else(jw (Gm l),0)
theorem Amh{l:List Nd}(h:Ip l≠0):l.length≤200∧ ∃d,stk l=some [d]∧d≤24∧Ip l=d:=by
 unfold Ip at h⊢
 by_cases hl:200<l.length
 ·rw[if_pos hl] at h;exact absurd rfl h
 ·rw[if_neg hl] at h⊢
  refine⟨by omega,?_⟩
  match hs:stk l with
  |none=>rw[hs] at h;exact absurd rfl h
  |some []=>rw[hs] at h;exact absurd rfl h
  |some [d]=>
   rw[hs] at h
   simp only at h
   split at h
   ·exact⟨d,rfl,by assumption,by simp only;rw[if_pos (by assumption)]⟩
   ·exact absurd rfl h
  |some (a::b::s)=>rw[hs] at h;exact absurd rfl h
theorem Amu{B:Nat}(hB:10≤B): ∀(l:List Nd) (st:List Nat),stk l=some st→(∀n∈l,n.Ag.length≤B)→ ∀p∈pst l,∀w∈p.2,w.length≤B
 |[],st,h,hx,p,hp=>by simp[pst] at hp
 |n::l,s,h,hx,p,hp=>by
  obtain⟨st,k,h1,h2,h3,h4,rfl⟩:=Sn h
  have ih:=Amu hB l st h1 (fun m hm=>hx m (by simp[hm]))
  have hn:=hx n (by simp)
  have hg: ∀i,∀w∈gP (pst l) n.Ac i,w.length≤B:=by
   intro i w hw
   have hq: ∀w∈((pst l).getD i (0,[])).2,w.length≤B:=by
    rw[List.getD_eq_getElem?_getD]
    cases hg:(pst l)[i]? with
    |none=>simp
    |some q=>exact ih q (List.mem_of_getElem? hg)
   unfold gP atS at hw
   split at hw
   ·simp only[List.mem_cons,List.mem_append,List.not_mem_nil,or_false] at hw
    rcases hw with rfl|hw|rfl
    ·simp;omega
    ·exact hq w hw
    ·simp;omega
   ·exact hq w hw
  rw[pst,List.mem_cons] at hp
  rcases hp with rfl|hp
  ·have hne:Hj n.Ac≠none:=by rw[h2];simp
   intro w hw
   simp only at hw
   unfold Cv at hw
   have h0:=hg 0 w;have h1:=hg 1 w;have h2:=hg 2 w
   generalize gP (pst l) n.Ac 0=p0 at hw h0
   generalize gP (pst l) n.Ac 1=p1 at hw h1
   generalize gP (pst l) n.Ac 2=p2 at hw h2
   have hdl:n.Ag.dropLast.length≤B:=by simp;omega
   rcases kinds hne with e|e|e|e|e|e|e|e|e|e|e|e|e|e|e|e|e|e<;>rw[e] at hw<;>simp[Bn,Bel,sOr,Aqz,sIf,Al3,Afv,Aqy,A4y] at hw<;>(try split at hw)<;>(try simp at hw)<;>(repeat' (refine Or.elim hw (fun hw=>?_) (fun hw=>?_)))<;>first|exact h0 hw|exact h1 hw|exact h2 hw|(rw[hw];simp at hn hdl⊢;omega)
  ·exact ih p (List.mem_of_mem_drop hp)
theorem A09{l:List Nd}(hx: ∀n∈l,n.Ag.length≤1000000):I9 l=some (Aqt l):=by
 unfold I9 Aqt
 rw[right_eq hx]
 simp only[Option.bind_some]
 by_cases hd:Ip l=0
 ·rw[if_pos (by simp[hd]),if_pos hd]
 ·rw[if_neg (by simp;omega),if_neg hd]
  obtain⟨hl,d,hs,_⟩:=Amh hd
  obtain⟨rest,h1,_⟩:=Be8 l.length 100000 l d [] 0 (Nat.le_refl _) (by omega) (by omega) hx hs
  rw[show(0:Int)=((0:Nat):Int) from rfl,h1]
  simp only[Option.bind_some]
  have e:atS ((pst l).getD 0 (0,[])) 0=Gm l:=by unfold atS Gm;rw[if_neg (by omega)]
  rw[e]
  have htw:=Qs hs
  have hlen:=Qe hs
  have hmem:(pst l).getD 0 (0,[])∈pst l:=by
   match hp:pst l with
   |[]=>rw[hp] at hlen;simp at hlen
   |p::q=>simp
  have hwl:=Auh hmem
  have hwt:=Amu (B:=1000000) (by omega) l [d] hs hx _ hmem
  have hjl:=App (Gm l) 1000000 hwt
  have hc:(Gm l).length≤2000:=by unfold Gm;omega
  have hm:(Gm l).length*(1000000+1)≤2000*(1000000+1):=Nat.mul_le_mul_right _ hc
  rw[Bj4 (by omega) (by omega)]
  rfl
end Go.Av.G
end
section
set_option maxRecDepth 20000
set_option maxHeartbeats 4000000
namespace Go.Av.G
open Go Go.Av Go.Proofs
def H2(b:Aq):Bool:=Fp b.C3&&Fp b.C4
def Jz(d:Af):Bool:=O9 d.B3 true&&O9 d.C8 true&&O9 d.Bo true&&Fp d.Bf&&Fp d.Bb&&Fp d.A3&&Fp d.Bj&&decide (1≤d.Ai.length)&&decide (d.Ai.length≤8)&&d.Ai.all H2&&decide (0<Ip d.B9)
structure DB (d:Af):Prop where
 name:d.B3.length≤1000000
 cur:d.C8.length≤1000000
 basis:d.Bo.length≤1000000
 period:d.Bf.length≤1000000
 minimum:d.Bb.length≤1000000
 overdraft:d.A3.length≤1000000
 notice:d.Bj.length≤1000000
 fee:NB d.B9
 bands:d.Ai.length≤1000000
 band: ∀b∈d.Ai,b.C3.length≤1000000∧b.C4.length≤1000000
theorem Bjg{L:List By}(hL:L.length≤1000)(hx: ∀w∈L,w.length≤1000000):A4 (fun(qj2:Int)=>match qj2 with
  |x3=>(
   if (decide (x3<(L.length:Int)))=true then
    (rdO L x3).bind fun x4=>
    (Lu x4 true).bind fun x5=>
    if (!x5)=true then
     some (.inr (.inr false))
    else
     some (.inl (IntKind.wrap .i64 (x3+1)))
   else
    some (.inr (.inl ())):Option (Int⊕(Unit⊕Bool)))) 0=some (if L.all (fun w=>O9 w true)=true then .inl () else .inr false):=by
 rw[I6 (l:=L) (fun w=> !O9 w true) (o:=(.inr false:Unit⊕Bool)) (e:= .inl ()) (by omega) (fun i hi=>?_) (fun i hi=>?_)]
 ·have:L.any (fun w=> !O9 w true)= !L.all (fun w=>O9 w true):=by rw[List.not_all_eq_any_not]
  rw[this]
  cases L.all (fun w=>O9 w true)<;>rfl
 ·show(if _ then _ else _)=_
  rw[if_pos (by simp;omega),Cu hi]
  simp only[Option.bind_some]
  rw[Bk7 (hx _ (List.getElem_mem hi))]
  simp only[Option.bind_some]
  split<;>rfl
 ·show(if _ then _ else _)=_
  rw[if_neg (by simp;omega)]
theorem Blz{L:List By}(hL:L.length≤1000)(hx: ∀w∈L,w.length≤1000000):A4 (fun(qj2:Int)=>match qj2 with
  |x3=>(
   if (decide (x3<(L.length:Int)))=true then
    (rdO L x3).bind fun x4=>
    (Ez x4).bind fun x5=>
    if (!x5)=true then
     some (.inr (.inr false))
    else
     some (.inl (IntKind.wrap .i64 (x3+1)))
   else
    some (.inr (.inl ())):Option (Int⊕(Unit⊕Bool)))) 0=some (if L.all Fp=true then .inl () else .inr false):=by
 rw[I6 (l:=L) (fun w=> !Fp w) (o:=(.inr false:Unit⊕Bool)) (e:= .inl ()) (by omega) (fun i hi=>?_) (fun i hi=>?_)]
 ·have:L.any (fun w=> !Fp w)= !L.all Fp:=by rw[List.not_all_eq_any_not]
  rw[this]
  cases L.all Fp<;>rfl
 ·show(if _ then _ else _)=_
  rw[if_pos (by simp;omega),Cu hi]
  simp only[Option.bind_some]
  rw[Ams (hx _ (List.getElem_mem hi))]
  simp only[Option.bind_some]
  split<;>rfl
 ·show(if _ then _ else _)=_
  rw[if_neg (by simp;omega)]
theorem Bov{l:List Aq}(hl:l.length≤1000000)(hx: ∀b∈l,b.C3.length≤1000000∧b.C4.length≤1000000):Cl l=some (!l.all H2):=by
 unfold Cl Eg
 have h:=Att (l:=l) (p:=fun b=> !H2 b) (o:=fun i=>(.inr (i:Int):Unit⊕Int)) (e:= .inl ()) (f:=fun(qj2:Int)=>match qj2 with
  |x3=>(
   if (decide (x3<(l.length:Int)))=true then
    (rdO l x3).bind fun x4=>
    (M8 x4).bind fun x5=>
    if x5=true then
     some (.inr (.inr x3))
    else
     some (.inl (IntKind.wrap .i64 (x3+1)))
   else
    some (.inr (.inl ())):Option (Int⊕(Unit⊕Int)))) (by omega) (fun i hi=>by
   have hb:=hx l[i] (List.getElem_mem hi)
   have hm:M8 l[i]=some (!H2 l[i]):=by
    unfold M8 H2
    rw[Ams hb.1,Ams hb.2]
    simp only[Option.bind_some,A6]
    cases Fp l[i].C3<;>rfl
   show(if _ then _ else _)=_
   rw[if_pos (by simp;omega),Cu hi]
   simp only[Option.bind_some]
   rw[hm]
   simp only[Option.bind_some]
   split<;>rfl) (fun i hi=>by
   show(if _ then _ else _)=_
   rw[if_neg (by simp;omega)])
 rw[h]
 simp only[Option.bind_some]
 cases hf:Apm l (fun b=> !H2 b) with
 |none=>
  have:=Ajk hf
  have ha:l.all H2=true:=List.all_eq_true.2 fun b hb=>by simpa using this b hb
  rw[ha]
  rfl
 |some i=>
  obtain⟨hi,h1,_⟩:=Ajl hf
  have ha:l.all H2=false:=by
   rw[←Bool.not_eq_true,List.all_eq_true]
   intro h
   have:=h l[i] (List.getElem_mem hi)
   rw[this] at h1
   cases h1
  rw[ha]
  simp
theorem Bts{d:Af}(h:DB d):Amt d=some (Jz d):=by
 unfold Amt
 refine Bg (Bjg (L:=[d.B3,d.C8,d.Bo]) (by simp) (fun w hw=>?_)) ?_
 ·simp at hw
  rcases hw with rfl|rfl|rfl
  ·exact h.name
  ·exact h.cur
  ·exact h.basis
 ·by_cases c1:[d.B3,d.C8,d.Bo].all (fun w=>O9 w true)=true
  ·rw[if_pos c1]
   simp only
   refine Bg (Blz (L:=[d.Bf,d.Bb,d.A3,d.Bj]) (by simp) (fun w hw=>?_)) ?_
   ·simp at hw
    rcases hw with rfl|rfl|rfl|rfl
    ·exact h.period
    ·exact h.minimum
    ·exact h.overdraft
    ·exact h.notice
   ·by_cases c2:[d.Bf,d.Bb,d.A3,d.Bj].all Fp=true
    ·rw[if_pos c2]
     simp only[Option.bind_some]
     rw[Bov h.bands h.band,right_eq h.fee]
     simp only[A6,Option.bind_some,Option.some.injEq]
     simp only[List.all_cons,List.all_nil,Bool.and_true,Bool.and_eq_true] at c1 c2
     have e1:decide ((d.Ai.length:Int)≥1)=decide (1≤d.Ai.length):=by rw[decide_eq_decide];omega
     have e2:decide ((d.Ai.length:Int)≤8)=decide (d.Ai.length≤8):=by rw[decide_eq_decide];omega
     unfold Jz
     rw[c1.1,c1.2.1,c1.2.2,c2.1,c2.2.1,c2.2.2.1,c2.2.2.2,e1,e2]
     cases decide (1≤d.Ai.length)<;>cases decide (d.Ai.length≤8)<;>cases d.Ai.all H2<;>rfl
    ·rw[if_neg c2]
     simp only[Option.some.injEq]
     symm
     rw[←Bool.not_eq_true]
     intro hm
     unfold Jz at hm
     simp only[Bool.and_eq_true] at hm
     refine c2 ?_
     simp[hm]
  ·rw[if_neg c1]
   simp only[Option.some.injEq]
   symm
   rw[←Bool.not_eq_true]
   intro hm
   unfold Jz at hm
   simp only[Bool.and_eq_true] at hm
   refine c1 ?_
   simp[hm]
theorem Bow{l:List Af}(hl:l.length≤1000000)(hx: ∀d∈l,DB d):Cm l=some (!l.all Jz):=by
 unfold Cm Eh
 have h:=Att (l:=l) (p:=fun b=> !Jz b) (o:=fun i=>(.inr (i:Int):Unit⊕Int)) (e:= .inl ()) (f:=fun(qj2:Int)=>match qj2 with
  |x3=>(
   if (decide (x3<(l.length:Int)))=true then
    (rdO l x3).bind fun x4=>
    (Fq x4).bind fun x5=>
    if x5=true then
     some (.inr (.inr x3))
    else
     some (.inl (IntKind.wrap .i64 (x3+1)))
   else
    some (.inr (.inl ())):Option (Int⊕(Unit⊕Int)))) (by omega) (fun i hi=>by
   have hb:=hx l[i] (List.getElem_mem hi)
   have hm:Fq l[i]=some (!Jz l[i]):=by
    unfold Fq
    rw[Bts hb]
    rfl
   show(if _ then _ else _)=_
   rw[if_pos (by simp;omega),Cu hi]
   simp only[Option.bind_some]
   rw[hm]
   simp only[Option.bind_some]
   split<;>rfl) (fun i hi=>by
   show(if _ then _ else _)=_
   rw[if_neg (by simp;omega)])
 rw[h]
 simp only[Option.bind_some]
 cases hf:Apm l (fun b=> !Jz b) with
 |none=>
  have:=Ajk hf
  have ha:l.all Jz=true:=List.all_eq_true.2 fun b hb=>by simpa using this b hb
  rw[ha]
  rfl
 |some i=>
  obtain⟨hi,h1,_⟩:=Ajl hf
  have ha:l.all Jz=false:=by
   rw[←Bool.not_eq_true,List.all_eq_true]
   intro h
   have:=h l[i] (List.getElem_mem hi)
   rw[this] at h1
   cases h1
  rw[ha]
  simp
def Mx(b:Aq):List By:=[b.C3,[58],b.C4,[37],[59]]
def Afq(d:Af):List By:=[Al2,d.B3,d.C8,[123],A1j,d.Bo,[59],Asw,d.Bf,[59],Afi,[123]]
def Avg(d:Af):List By:=[[59],Al1,d.Bb,[59],Sk,d.A3,[59],Asv,d.Bj,[59],[125]]
def Fz(d:Af):List By:=Afq d++(d.Ai.flatMap Mx++([125]::Bie::(Gm d.B9++Avg d)))
def Abe(l:List Af):By×Int:=if 16<l.length∨l.all Jz=false then([],1) else(jw (l.flatMap Fz),0)
theorem foldl_flat{α β:Type}(f:α→List β): ∀(l:List α) (s:List β),l.foldl (fun s x=>s++f x) s=s++l.flatMap f
 |[],s=>by simp
 |x::l,s=>by rw[List.foldl_cons,foldl_flat f l];simp
theorem Axe{d:Af}(h:Jz d=true):Ip d.B9≠0∧d.Ai.length≤8:=by
 unfold Jz at h
 simp only[Bool.and_eq_true,decide_eq_true_eq] at h
 exact⟨by omega,by omega⟩
theorem Aq3{l:List Nd}(h:Ip l≠0):(Gm l).length≤2000:=by
 obtain⟨hl,d,hs,_⟩:=Amh h
 have htw:=Qs hs
 have hlen:=Qe hs
 have hmem:(pst l).getD 0 (0,[])∈pst l:=by
  match hp:pst l with
  |[]=>rw[hp] at hlen;simp at hlen
  |p::q=>simp
 have hwl:=Auh hmem
 unfold Gm
 omega
theorem Avi{B:Nat}(hB:10≤B){l:List Nd}(h:Ip l≠0)(hx: ∀n∈l,n.Ag.length≤B): ∀w∈Gm l,w.length≤B:=by
 obtain⟨hl,d,hs,_⟩:=Amh h
 have hlen:=Qe hs
 have hmem:(pst l).getD 0 (0,[])∈pst l:=by
  match hp:pst l with
  |[]=>rw[hp] at hlen;simp at hlen
  |p::q=>simp
 exact Amu hB l [d] hs hx _ hmem
theorem Ll: ∀(l:List Aq),(l.flatMap Mx).length=5*l.length
 |[]=>rfl
 |b::l=>by
  rw[List.flatMap_cons,List.length_append,Ll l]
  simp[Mx]
  omega
theorem Blh{d:Af}(h:Jz d=true):(Fz d).length≤2100:=by
 have h1:=Axe h
 have h2:=Aq3 h1.1
 unfold Fz
 rw[List.length_append,List.length_append,Ll]
 simp[Afq,Avg]
 omega
theorem Ape{d:Af}(h:Jz d=true)(hd:DB d): ∀w∈Fz d,w.length≤1000000:=by
 intro w hw
 unfold Fz at hw
 have h1:=Avi (B:=1000000) (by omega) (Axe h).1 hd.fee w
 have hc: ∀u:By,u.length≤10→w=u→w.length≤1000000:=fun u hu e=>by rw[e];omega
 simp only[List.mem_append,List.mem_cons,Afq,Avg,List.not_mem_nil,or_false,List.mem_flatMap] at hw
 rcases hw with(hw|hw|hw|hw|hw|hw|hw|hw|hw|hw|hw|hw)|hw|hw|hw|hw|hw|hw|hw|hw|hw|hw|hw|hw|hw|hw|hw
 ·exact hc _ (by decide) hw
 ·rw[hw];exact hd.name
 ·rw[hw];exact hd.cur
 ·exact hc _ (by decide) hw
 ·exact hc _ (by decide) hw
 ·rw[hw];exact hd.basis
 ·exact hc _ (by decide) hw
 ·exact hc _ (by decide) hw
 ·rw[hw];exact hd.period
 ·exact hc _ (by decide) hw
 ·exact hc _ (by decide) hw
 ·exact hc _ (by decide) hw
 ·obtain⟨b,hb,hw⟩:=hw
  have:=hd.band b hb
  simp only[Mx,List.mem_cons,List.not_mem_nil,or_false] at hw
  rcases hw with hw|hw|hw|hw|hw
  ·rw[hw];exact this.1
  ·exact hc _ (by decide) hw
  ·rw[hw];exact this.2
  ·exact hc _ (by decide) hw
  ·exact hc _ (by decide) hw
 ·exact hc _ (by decide) hw
 ·exact hc _ (by decide) hw
 ·exact h1 hw
 ·exact hc _ (by decide) hw
 ·exact hc _ (by decide) hw
 ·rw[hw];exact hd.minimum
 ·exact hc _ (by decide) hw
 ·exact hc _ (by decide) hw
 ·rw[hw];exact hd.overdraft
 ·exact hc _ (by decide) hw
 ·exact hc _ (by decide) hw
 ·rw[hw];exact hd.notice
 ·exact hc _ (by decide) hw
 ·exact hc _ (by decide) hw
theorem Ajf{l:List Af}(h:l.all Jz=true):(l.flatMap Fz).length≤l.length*2100:=by
 induction l with
 |nil=>simp
 |cons d l ih=>
  simp only[List.all_cons,Bool.and_eq_true] at h
  have h1:=Blh h.1
  have h2:=ih h.2
  rw[List.flatMap_cons,List.length_append,List.length_cons,Nat.add_mul]
  omega
theorem Hc{α:Type}{n:Nat}{a b:List α}(h:(a.length+b.length)*n≤140737488355328):apO n a b=some (a++b):=by unfold apO;rw[if_pos h]
theorem Ava{l:List Af}(hx: ∀d∈l,DB d)(hl:l.length≤1000000):Hm l=some (Abe l):=by
 unfold Hm Abe
 rw[Bow hl hx]
 simp only[A6,Option.bind_some]
 by_cases hc:16<l.length∨l.all Jz=false
 ·rw[if_pos hc,if_pos]
  by_cases h16:16<l.length
  ·have:decide ((l.length:Int)>16)=true:=by simp;omega
   rw[this];rfl
  ·have:decide ((l.length:Int)>16)=false:=by simp;omega
   have ha:l.all Jz=false:=by rcases hc with h|h;exact absurd h h16;exact h
   rw[this,ha];rfl
 ·have h16:l.length≤16:=by omega
  have ha:l.all Jz=true:=by
   rw[←Bool.not_eq_false];exact fun h=>hc (Or.inr h)
  rw[if_neg hc,if_neg (by
   have:decide ((l.length:Int)>16)=false:=by simp;omega
   rw[this,ha];simp)]
  have hfl:=Ajf ha
  have hpre: ∀i,((l.take i).flatMap Fz).length≤l.length*2100:=by
   intro i
   have h1:(l.take i).all Jz=true:=List.all_eq_true.2 fun d hd=>List.all_eq_true.1 ha d (List.mem_of_mem_take hd)
   have:=Ajf h1
   have h2:(l.take i).length*2100≤l.length*2100:=Nat.mul_le_mul_right _ (by simp;omega)
   exact Nat.le_trans this h2
  have hloop:A4 (fun(qj4:Int×(List (List UInt8)))=>match qj4 with
   |(x5,row6)=>(
    if (decide (x5<(l.length:Int)))=true then
     (rdO l x5).bind fun x7=>
     (apO 16 row6 [[112,114,111,100,117,99,116],x7.B3,x7.C8,[123],[98,97,115,105,115],x7.Bo,[59],[112,101,114,105,111,100],x7.Bf,[59],[116,105,101,114,115],[123]]).bind fun x8=>
     ((A4 (fun(qj9:Int×(List (List UInt8)))=>match qj9 with
       |(x10,row11)=>(
        if (decide (x10<(x7.Ai.length:Int)))=true then
         (rdO x7.Ai x10).bind fun x12=>
         (apO 16 row11 [x12.C3,[58],x12.C4,[37],[59]]).bind fun x13=>
         some (.inl (IntKind.wrap .i64 (x10+1),x13))
        else
         some (.inr row11):Option ((Int×(List (List UInt8)))⊕(List (List UInt8))))) (0,x8)):Option (List (List UInt8))).bind fun j9=>
     (F5 100000 x7.B9 0).bind fun x15=>
     (apO 16 j9 [[125],[102,101,101]]).bind fun x16=>
     (apO 16 x16 x15.1).bind fun x17=>
     (apO 16 x17 [[59],[109,105,110,105,109,117,109],x7.Bb,[59],[111,118,101,114,100,114,97,102,116],x7.A3,[59],[110,111,116,105,99,101],x7.Bj,[59],[125]]).bind fun x18=>
     some (.inl (IntKind.wrap .i64 (x5+1),x18))
    else
     some (.inr row6):Option ((Int×(List (List UInt8)))⊕(List (List UInt8))))) (0,([]:List (List UInt8)))=some (l.foldl (fun s d=>s++Fz d) []):=by
   refine Ayp (l:=l) (fun s d=>s++Fz d) id (by omega) (fun i hi=>?_) ?_
   ·have hm:Jz l[i]=true:=List.all_eq_true.1 ha _ (List.getElem_mem hi)
    have hd:=hx l[i] (List.getElem_mem hi)
    have hrow:=hpre i
    rw[foldl_flat,List.nil_append]
    generalize (l.take i).flatMap Fz=row at hrow
    show(if _ then _ else _)=_
    rw[if_pos (by simp;omega),Cu hi]
    simp only[Option.bind_some]
    generalize l[i]=d at hm hd
    have hw:=Axe hm
    have hwl:=Aq3 hw.1
    rw[Hc (by simp;omega)]
    simp only[Option.bind_some]
    have hb:A4 (fun(qj9:Int×(List (List UInt8)))=>match qj9 with
      |(x10,row11)=>(
       if (decide (x10<(d.Ai.length:Int)))=true then
        (rdO d.Ai x10).bind fun x12=>
        (apO 16 row11 [x12.C3,[58],x12.C4,[37],[59]]).bind fun x13=>
        some (.inl (IntKind.wrap .i64 (x10+1),x13))
       else
        some (.inr row11):Option ((Int×(List (List UInt8)))⊕(List (List UInt8))))) (0,row++Afq d)=some (d.Ai.foldl (fun s b=>s++Mx b) (row++Afq d)):=by
     refine Ayp (l:=d.Ai) (fun s b=>s++Mx b) id (by omega) (fun i hi=>?_) ?_
     ·rw[foldl_flat]
      show(if _ then _ else _)=_
      rw[if_pos (by simp;omega),Cu hi]
      simp only[Option.bind_some]
      rw[Hc (by
       have:=Ll (d.Ai.take i)
       rw[List.length_append,List.length_append,this]
       simp[Afq]
       omega)]
      rfl
     ·show(if _ then _ else _)=_
      rw[if_neg (by simp)]
      rfl
    refine Bg hb ?_
    rw[foldl_flat]
    have hbl:=Ll d.Ai
    have hrl:(row++Afq d++d.Ai.flatMap Mx).length≤l.length*2100+100:=by
     rw[List.length_append,List.length_append,hbl]
     simp[Afq]
     omega
    obtain⟨hdl,dd,hs,_⟩:=Amh hw.1
    obtain⟨rest,t1,_⟩:=Be8 d.B9.length 100000 d.B9 dd [] 0 (Nat.le_refl _) (by omega) (by omega) hd.fee hs
    rw[show(0:Int)=((0:Nat):Int) from rfl,t1]
    simp only[Option.bind_some]
    have e:atS ((pst d.B9).getD 0 (0,[])) 0=Gm d.B9:=by unfold atS Gm;rw[if_neg (by omega)]
    rw[e,Hc (by simp only[List.length_cons,List.length_nil];omega)]
    simp only[Option.bind_some]
    rw[Hc (by rw[List.length_append];simp only[List.length_cons,List.length_nil];omega)]
    simp only[Option.bind_some]
    rw[Hc (by rw[List.length_append,List.length_append];simp only[List.length_cons,List.length_nil];omega)]
    simp only[Option.bind_some]
    unfold Fz
    simp only[List.append_assoc,List.cons_append,List.nil_append]
    rfl
   ·show(if _ then _ else _)=_
    rw[if_neg (by simp)]
    rfl
  refine Bg hloop ?_
  rw[foldl_flat,List.nil_append]
  have hwt: ∀w∈l.flatMap Fz,w.length≤1000000:=by
   intro w hw
   obtain⟨d,hd,hw⟩:=List.mem_flatMap.1 hw
   exact Ape (List.all_eq_true.1 ha d hd) (hx d hd) w hw
  have hjl:=App _ 1000000 hwt
  have hm:(l.flatMap Fz).length*(1000000+1)≤33600*(1000000+1):=Nat.mul_le_mul_right _ (by omega)
  rw[Bj4 (by omega) (by omega)]
  rfl
def tx1:By:=[97,45,98,32,45,32,99,42,45,50,37]
def nd1:List Nd:=[⟨4,[]⟩,⟨4,[]⟩,⟨1,[97]⟩,⟨1,[98]⟩,⟨5,[]⟩,⟨1,[99]⟩,⟨2,[]⟩,⟨0,[50,37]⟩]
theorem Buo:Ao6 tx1=(nd1,0,0,0):=by decide +kernel
def tx2:By:=[40,97,32,60,32,49,41,32,61,32,40,110,111,116,32,98,41]
def nd2:List Nd:=[⟨9,[]⟩,⟨7,[]⟩,⟨1,[97]⟩,⟨0,[49]⟩,⟨14,[]⟩,⟨1,[98]⟩]
theorem Bup:Ao6 tx2=(nd2,0,0,0):=by decide +kernel
def tx3:By:=[97,10,32,60,32,98,32,60,32,99]
theorem Buq:Ao6 tx3=([],2,6,14):=by decide +kernel
def tx4:By:=[40,97]
theorem Bur:Ao6 tx4=([],1,3,14):=by decide +kernel
def tx5:By:=[112,114,111,100,117,99,116,32,115,97,118,101,32,101,117,114,32,123,32,98,97,115,105,115,32,97,99,116,51,54,53,32,59,32,112,101,114,105,111,100,32,51,32,59,32,116,105,101,114,115,32,123,32,48,32,58,32,49,46,50,53,32,37,32,59,32,53,48,48,32,58,32,50,32,37,32,59,32,125,32,102,101,101,32,105,102,32,98,97,108,97,110,99,101,32,60,32,49,48,32,116,104,101,110,32,49,32,101,108,115,101,32,48,32,59,32,109,105,110,105,109,117,109,32,53,32,59,32,111,118,101,114,100,114,97,102,116,32,48,32,59,32,110,111,116,105,99,101,32,51,48,32,59,32,125]
def dc5:Af:=⟨[115,97,118,101],[101,117,114],[97,99,116,51,54,53],[51],[⟨[48],[49,46,50,53]⟩,⟨[53,48,48],[50]⟩],[⟨15,[]⟩,⟨7,[]⟩,⟨1,[98,97,108,97,110,99,101]⟩,⟨0,[49,48]⟩,⟨0,[49]⟩,⟨0,[48]⟩],[53],[48],[51,48]⟩
theorem Bus:Bao tx5=([dc5],0,0,0):=by decide +kernel
theorem But:Aqt nd1=([97,32,45,32,98,32,45,32,99,32,42,32,45,32,50,32,37],0):=by decide +kernel
theorem Buu:Aqt nd2=([40,32,97,32,60,32,49,32,41,32,61,32,40,32,110,111,116,32,98,32,41],0):=by decide +kernel
theorem Buv:Abe [dc5]=(tx5,0):=by decide +kernel
theorem Bsp:Ip nd1=4:=by decide +kernel
theorem Btr:Ip [⟨2,[]⟩]=0:=by decide +kernel
theorem nb1:NB nd1:=by unfold NB;decide +kernel
theorem nb2:NB nd2:=by unfold NB;decide +kernel
theorem db5:DB dc5:=⟨by decide,by decide,by decide,by decide,by decide,by decide,by decide,by unfold NB;decide +kernel,by decide,by decide +kernel⟩
theorem Axp:Cf=some true:=by
 unfold Cf
 rw[show Ef [97,45,98,32,45,32,99,42,45,50,37]=some (Ao6 tx1) from Axi (by decide),Buo]
 simp only[Option.bind_some]
 rw[A09 nb1,But]
 simp only[Option.bind_some]
 rw[show Ef [40,97,32,60,32,49,41,32,61,32,40,110,111,116,32,98,41]=some (Ao6 tx2) from Axi (by decide),Bup]
 simp only[Option.bind_some]
 rw[A09 nb2,Buu]
 simp only[Option.bind_some]
 rw[show Ef [97,10,32,60,32,98,32,60,32,99]=some (Ao6 tx3) from Axi (by decide),Buq]
 simp only[Option.bind_some]
 rw[show Ef [40,97]=some (Ao6 tx4) from Axi (by decide),Bur]
 simp only[Option.bind_some]
 rw[show ∀s,s=tx5→Xg s=some (Bao tx5) from fun s h=>by rw[h];exact Bnq (by decide)]
 ·rw[Bus]
  simp only[Option.bind_some]
  rw[Ava (l:=[dc5]) (fun d hd=>by rw[List.mem_singleton.1 hd];exact db5) (by simp),Buv]
  simp only[Option.bind_some]
  rw[Ba8 (by decide)]
  simp only[Option.bind_some]
  rw[if_neg (by simp)]
  rw[Axz nb1,Bsp,right_eq nb1,Bsp,right_eq (l:=[⟨2,[]⟩]) (by simp),Btr]
  have e0:rdO [dc5] 0=some dc5:=rfl
  have e1:rdO dc5.Ai 1=some ⟨[53,48,48],[50]⟩:=rfl
  have e2:(((4:Nat):Int)==4)=true:=rfl
  have e3:((dc5.Ai.length:Int)==2)=true:=rfl
  have e4:(dc5.Bj==[51,48])=true:=rfl
  have e5:decide (0<4)=true:=rfl
  have e6:decide (0<0)=false:=rfl
  rw[show(decide (nd1=[(⟨4,[]⟩:Aa),(⟨4,[]⟩:Aa),(⟨1,[97]⟩:Aa),(⟨1,[98]⟩:Aa),(⟨5,[]⟩:Aa),(⟨1,[99]⟩:Aa),(⟨2,[]⟩:Aa),(⟨0,[50,37]⟩:Aa)]))=true from rfl]
  have hsm:Lr dc5 dc5=some (A1k dc5 dc5):=A6k (by decide) (by decide)
  simp only[tx5,e0,e1,e2,e3,e4,e5,e6,hsm,Bif,beq_self_eq_true,Bool.true_and,Bool.and_true,cond_true,A6,Option.bind_some,Bool.not_false]
 ·rfl
end Go.Av.G
end
section
set_option maxRecDepth 20000
set_option maxHeartbeats 4000000
namespace Go.Av.G
open Go Go.Av Go.Proofs
theorem Bo6(k:Int):C0 k=some (((Bn k).1:Int),(Bn k).2.1,((Bn k).2.2.1:Int),((Bn k).2.2.2:Int)):=by
 unfold C0 Bn
 simp only[beq_iff_eq]
 have e1:Bel=[97,110,100]:=rfl
 have e2:sOr=[111,114]:=rfl
 have e3:Aqz=[110,111,116]:=rfl
 have e4:sIf=[105,102]:=rfl
 have e5:Aqy=[109,105,110]:=rfl
 have e6:A4y=[109,97,120]:=rfl
 rw[e1,e2,e3,e4,e5,e6]
 by_cases h2:k=2
 ·simp only[if_pos h2];rfl
 simp only[if_neg h2]
 by_cases h3:k=3
 ·simp only[if_pos h3];rfl
 simp only[if_neg h3]
 by_cases h4:k=4
 ·simp only[if_pos h4];rfl
 simp only[if_neg h4]
 by_cases h5:k=5
 ·simp only[if_pos h5];rfl
 simp only[if_neg h5]
 by_cases h6:k=6
 ·simp only[if_pos h6];rfl
 simp only[if_neg h6]
 by_cases h7:k=7
 ·simp only[if_pos h7];rfl
 simp only[if_neg h7]
 by_cases h8:k=8
 ·simp only[if_pos h8];rfl
 simp only[if_neg h8]
 by_cases h9:k=9
 ·simp only[if_pos h9];rfl
 simp only[if_neg h9]
 by_cases h10:k=10
 ·simp only[if_pos h10];rfl
 simp only[if_neg h10]
 by_cases h11:k=11
 ·simp only[if_pos h11];rfl
 simp only[if_neg h11]
 by_cases h12:k=12
 ·simp only[if_pos h12];rfl
 simp only[if_neg h12]
 by_cases h13:k=13
 ·simp only[if_pos h13];rfl
 simp only[if_neg h13]
 by_cases h14:k=14
 ·simp only[if_pos h14];rfl
 simp only[if_neg h14]
 by_cases h15:k=15
 ·simp only[if_pos h15];rfl
 simp only[if_neg h15]
 by_cases h16:k=16
 ·simp only[if_pos h16];rfl
 simp only[if_neg h16]
 by_cases h17:k=17
 ·simp only[if_pos h17];rfl
 simp only[if_neg h17]
 rfl
def sp(ws:List By):By:=ws.flatMap fun w=>w++[32]
theorem Baw(w:By)(ws:List By):sp (w::ws)=w++32::sp ws:=by simp[sp]
theorem Wv(a b:List By):sp (a++b)=sp a++sp b:=by simp[sp]
theorem Arp: ∀{ws:List By},ws≠[]→sp ws=jw ws++[32]
 |[],h=>absurd rfl h
 |[w],_=>by rw[Ajn];simp[sp]
 |w::v::ws,_=>by
  rw[Baw,Aro,Arp (ws:=v::ws) (by simp)]
  simp
theorem Q3: ∀(a:List By) {b:List By},b≠[]→jw (a++b)=sp a++jw b
 |[],b,_=>rfl
 |w::a,b,h=>by
  have ih:=Q3 a h
  cases hab:a++b with
  |nil=>rw[List.append_eq_nil_iff] at hab;exact absurd hab.2 h
  |cons v c=>
   rw[hab] at ih
   rw[List.cons_append,hab,Aro,ih,Baw]
   simp
theorem Cq{a b:By}(h:a.length+b.length≤9223372036854775807):A5 a b=some (a++b):=by unfold A5;rw[if_pos h]
def pcI(p:Pc):Ad:=⟨(p.1:Int),jw p.2⟩
def D3(st:List Pc):List Ad:=(st.map pcI).reverse
theorem Btc{p:Pc}(h:p.2≠[])(lvl:Nat):atS p lvl≠[]:=by
 unfold atS
 split
 ·simp
 ·exact h
theorem at_eq{p:Pc}(h:p.2≠[])(hl:(jw p.2).length≤1000000000000)(lvl:Nat):A2 (pcI p) (lvl:Int)=some (jw (atS p lvl)):=by
 unfold A2 atS pcI
 simp only
 by_cases hb:p.1<lvl
 ·rw[if_pos (by simp;omega),if_pos hb,Cq (by simp only[List.length_append,List.length_cons,List.length_nil];omega)]
  simp only[Option.bind_some]
  rw[Cq (by simp only[List.length_append,List.length_cons,List.length_nil];omega)]
  simp only[Option.bind_some,Option.some.injEq]
  have e:[40]::(p.2++[[41]])=([[40]]++p.2)++[[41]]:=by simp
  rw[e,Q3 _ (by simp),Wv,Arp h,Ajn]
  simp[sp]
 ·rw[if_neg (by simp;omega),if_neg hb]
theorem rdP{st:List Pc}{j:Nat}(hj:j<st.length):rdO (D3 st) ((st.length-1-j:Nat):Int)=some (pcI (st.getD j (0,[]))):=by
 have hlen:(D3 st).length=st.length:=by simp[D3]
 rw[Cu (by omega)]
 congr 1
 simp only[D3,List.getElem_reverse,List.length_map,List.getElem_map,List.getD_eq_getElem?_getD]
 have:st.length-1-(st.length-1-j)=j:=by omega
 simp only[this]
 rw[List.getElem?_eq_getElem hj]
 rfl
theorem Btu{t:Tk}(h:okT t=true):t.Ag≠[]:=by
 obtain⟨k,h1,h2⟩:=Bpj h
 intro e
 rw[e] at h2
 have:=Qq h2
 simp at this
theorem Be1{q:UInt8→Bool}: ∀{s:By},Al q s=s.length→ ∀b∈s,q b=true
 |[],_,b,hb=>by cases hb
 |c::s,h,b,hb=>by
  rw[Df] at h
  split at h
  ·rename_i hc
   rcases List.mem_cons.1 hb with rfl|hb
   ·exact hc
   ·exact Be1 (by simpa using h) b hb
  ·simp at h
theorem A2a{s:By}{p:Bool}(h:O9 s p=true):s≠[]∧ ∀b∈s,Ai3 b=true:=by
 unfold O9 at h
 simp only[Bool.and_eq_true] at h
 have h1:=h.1
 refine⟨Btu h1,?_⟩
 obtain⟨h2,h3,h4⟩:=of_decide_eq_true h1
 simp only at h2 h3 h4
 cases s with
 |nil=>intro b hb;cases hb
 |cons b t=>
  unfold Bm at h2 h3 h4
  simp only at h2 h3 h4
  split at h2
  ·rename_i hb
   rw[if_pos hb] at h3 h4
   unfold Us at h3 h4
   split at h3
   ·simp at h3
   ·exact Be1 h3
  ·split at h2
   ·simp at h2
   ·split at h2
    ·simp at h2
    ·simp at h2
theorem Bmz{s:By}{p:Bool}(h:O9 s p=true):s.getLast?≠some 37:=by
 intro he
 have:=(A2a h).2 37 (List.mem_of_getLast? he)
 exact absurd this (by decide)
theorem Bqz{n:Nd}(h:Hj n.Ac≠none)(p0 p1 p2:List By):Cv n p0 p1 p2≠[]:=by
 unfold Cv
 rcases kinds h with e|e|e|e|e|e|e|e|e|e|e|e|e|e|e|e|e|e<;>rw[e]<;>simp
 split<;>simp
theorem Bh7: ∀{l:List Nd} {st:List Nat},stk l=some st→ ∀p∈pst l,p.2≠[]
 |[],st,h,p,hp=>by simp[pst] at hp
 |n::l,s,h,p,hp=>by
  obtain⟨st,k,h1,h2,h3,h4,rfl⟩:=Sn h
  rw[pst,List.mem_cons] at hp
  rcases hp with rfl|hp
  ·exact Bqz (by rw[h2];simp) _ _ _
  ·exact Bh7 h1 p (List.mem_of_mem_drop hp)
theorem Qp{a b c:Nat}(h:a≤b):a*c≤b*c:=Nat.mul_le_mul_right _ h
theorem Bh5{l q suf:List Nd}{n:Nd}(hl:l.length≤200)(he:l=q++n::suf)(hx: ∀n∈l,n.Ag.length≤1000000){st s:List Nat}(hst:stk suf=some st)(hs:stk (n::suf)=some s):
  (fun(qj3:(List Ad)×Int)=>match qj3 with
    |(stack4,i5)=>(
     if (decide (i5≥0))=true then
      (rdO l i5).bind fun x6=>
      (Ck x6.Ac).bind fun x7=>
      (rdO l i5).bind fun x8=>
      (C0 x8.Ac).bind fun x9=>
      (rdO l i5).bind fun x10=>
      (some (x7==0)).bind fun c11=>
      (gdO c11 (byO x10.Ag (IntKind.wrap .i64 ((x10.Ag.length:Int)-1))) 0).bind fun x12=>
      ((if (c11&&(x12==37))=true then
        (slO x10.Ag 0 (IntKind.wrap .i64 ((x10.Ag.length:Int)-1))).bind fun x14=>
        (A5 x14 [32,37]).bind fun x15=>
        some x15
      else
       some x10.Ag):Option (List UInt8)).bind fun j13=>
      ((if (x7==1)=true then
        (A5 x9.2.1 [32]).bind fun x18=>
        (rdO stack4 (IntKind.wrap .i64 ((stack4.length:Int)-1))).bind fun x19=>
        (A2 x19 x9.2.2.1).bind fun x20=>
        (A5 x18 x20).bind fun x21=>
        some x21
      else
       some j13):Option (List UInt8)).bind fun j17=>
      (some (x7==2)).bind fun c23=>
      (gdO c23 (rdO l i5) (default:Aa)).bind fun x24=>
      ((if (c23&&(decide (x24.Ac<16)))=true then
        (rdO stack4 (IntKind.wrap .i64 ((stack4.length:Int)-1))).bind fun x26=>
        (A2 x26 x9.2.2.1).bind fun x27=>
        (A5 x27 [32]).bind fun x28=>
        (A5 x28 x9.2.1).bind fun x29=>
        (A5 x29 [32]).bind fun x30=>
        (rdO stack4 (IntKind.wrap .i64 ((IntKind.wrap .i64 ((stack4.length:Int)-1))-1))).bind fun x31=>
        (A2 x31 x9.2.2.2).bind fun x32=>
        (A5 x30 x32).bind fun x33=>
        some x33
      else
       some j17):Option (List UInt8)).bind fun j25=>
      (some (x7==2)).bind fun c35=>
      (gdO c35 (rdO l i5) (default:Aa)).bind fun x36=>
      ((if (c35&&(decide (x36.Ac≥16)))=true then
        (A5 x9.2.1 [32,40,32]).bind fun x38=>
        (rdO stack4 (IntKind.wrap .i64 ((stack4.length:Int)-1))).bind fun x39=>
        (A5 x38 x39.Ag).bind fun x40=>
        (A5 x40 [32,44,32]).bind fun x41=>
        (rdO stack4 (IntKind.wrap .i64 ((IntKind.wrap .i64 ((stack4.length:Int)-1))-1))).bind fun x42=>
        (A5 x41 x42.Ag).bind fun x43=>
        (A5 x43 [32,41]).bind fun x44=>
        some x44
      else
       some j25):Option (List UInt8)).bind fun j37=>
      ((if (x7==3)=true then
        (rdO stack4 (IntKind.wrap .i64 ((stack4.length:Int)-1))).bind fun x47=>
        (A5 [105,102,32] x47.Ag).bind fun x48=>
        (A5 x48 [32,116,104,101,110,32]).bind fun x49=>
        (rdO stack4 (IntKind.wrap .i64 ((IntKind.wrap .i64 ((stack4.length:Int)-1))-1))).bind fun x50=>
        (A5 x49 x50.Ag).bind fun x51=>
        (A5 x51 [32,101,108,115,101,32]).bind fun x52=>
        (rdO stack4 (IntKind.wrap .i64 ((IntKind.wrap .i64 ((stack4.length:Int)-1))-2))).bind fun x53=>
        (A5 x52 x53.Ag).bind fun x54=>
        some x54
      else
       some j37):Option (List UInt8)).bind fun j46=>
      (slO stack4 0 (IntKind.wrap .i64 ((stack4.length:Int)-x7))).bind fun x56=>
      (apO 24 ([]:List Ad) x56).bind fun x57=>
      (apO 24 x57 [(⟨x9.1,j46⟩:Ad)]).bind fun x58=>
      some (.inl (x58,IntKind.wrap .i64 (i5-1)))
     else
      some (.inr stack4):Option (((List Ad)×Int)⊕(List Ad)))) (D3 (pst suf),(q.length:Int))=some (.inl (D3 (pst (n::suf)),(q.length:Int)-1)):=by
 have hlen:q.length<l.length:=by rw[he];simp
 have hg:l[q.length]=n:=by simp[he]
 have hnx:n.Ag.length≤1000000:=hx n (by rw[he];simp)
 have hsl2:suf.length+q.length+1≤200:=by rw[he] at hl;simp at hl;omega
 have hxs: ∀m∈suf,m.Ag.length≤1000000:=fun m hm=>hx m (by rw[he];simp[hm])
 obtain⟨st',k,h1,h2,h3,h4,h5⟩:=Sn hs
 obtain rfl:st=st':=Option.some.inj (hst.symm.trans h1)
 have hplen:=Qe hst
 have hk3:=Ax9 h2
 have hne:=Bh7 hst
 have hkn:Hj n.Ac≠none:=by rw[h2];simp
 have hNk:Apn n.Ac=k:=by simp[Apn,h2]
 have hsl3:=Bax hst
 have hpI:(D3 (pst suf)).length=(pst suf).length:=by simp[D3]
 have htw:=Qs hst
 have hwt:=Amu (B:=1000000) (by omega) suf st hst hxs
 have hmem: ∀j,j<k→(pst suf).getD j (0,[])∈pst suf:=by
  intro j hj
  rw[List.getD_eq_getElem?_getD,List.getElem?_eq_getElem (by omega)]
  exact List.getElem_mem (by omega)
 have hpn: ∀j,j<k→((pst suf).getD j (0,[])).2≠[]:=fun j hj=>hne _ (hmem j hj)
 have hpl: ∀j,j<k→(jw ((pst suf).getD j (0,[])).2).length≤10000000000:=by
  intro j hj
  have e1:=App _ 1000000 (hwt _ (hmem j hj))
  have e2:=Auh (hmem j hj)
  have e3:((pst suf).getD j (0,[])).2.length*(1000000+1)≤2000*(1000000+1):=Qp (by omega)
  omega
 have hgl: ∀j,j<k→(jw (gP (pst suf) n.Ac j)).length≤10000000000:=by
  intro j hj
  have hw: ∀w∈gP (pst suf) n.Ac j,w.length≤1000000:=by
   intro w hw
   unfold gP atS at hw
   split at hw
   ·simp only[List.mem_cons,List.mem_append,List.not_mem_nil,or_false] at hw
    rcases hw with rfl|hw|rfl
    ·simp
    ·exact hwt _ (hmem j hj) w hw
    ·simp
   ·exact hwt _ (hmem j hj) w hw
  have e1:=App _ 1000000 hw
  have e2:=Auh (hmem j hj)
  have e4:=A7d ((pst suf).getD j (0,[])) (Afw n.Ac j)
  have e3:(gP (pst suf) n.Ac j).length*(1000000+1)≤2100*(1000000+1):=Qp (by unfold gP;omega)
  omega
 have hw1:IntKind.wrap .i64 (((D3 (pst suf)).length:Int)-1)=((pst suf).length:Int)-1:=by rw[hpI,wrap64 (by omega) (by omega)]
 have hw2:IntKind.wrap .i64 (((pst suf).length:Int)-1-1)=((pst suf).length:Int)-1-1:=wrap64 (by omega) (by omega)
 have hw3:IntKind.wrap .i64 (((pst suf).length:Int)-1-2)=((pst suf).length:Int)-1-2:=wrap64 (by omega) (by omega)
 have hr0:0<k→rdO (D3 (pst suf)) (((pst suf).length:Int)-1)=some (pcI ((pst suf).getD 0 (0,[]))):=by
  intro h
  rw[←rdP (st:=pst suf) (j:=0) (by omega)]
  congr 1;omega
 have hr1:1<k→rdO (D3 (pst suf)) (((pst suf).length:Int)-1-1)=some (pcI ((pst suf).getD 1 (0,[]))):=by
  intro h
  rw[←rdP (st:=pst suf) (j:=1) (by omega)]
  congr 1;omega
 have hr2:2<k→rdO (D3 (pst suf)) (((pst suf).length:Int)-1-2)=some (pcI ((pst suf).getD 2 (0,[]))):=by
  intro h
  rw[←rdP (st:=pst suf) (j:=2) (by omega)]
  congr 1;omega
 have ha0:0<k→ ∀lvl:Nat,A2 (pcI ((pst suf).getD 0 (0,[]))) (lvl:Int)=some (jw (atS ((pst suf).getD 0 (0,[])) lvl)):=fun h lvl=>at_eq (hpn 0 h) (by have:=hpl 0 h;omega) lvl
 have ha1:1<k→ ∀lvl:Nat,A2 (pcI ((pst suf).getD 1 (0,[]))) (lvl:Int)=some (jw (atS ((pst suf).getD 1 (0,[])) lvl)):=fun h lvl=>at_eq (hpn 1 h) (by have:=hpl 1 h;omega) lvl
 have hgn: ∀j,j<k→gP (pst suf) n.Ac j≠[]:=fun j hj=>Btc (hpn j hj) _
 have hsl:slO (D3 (pst suf)) 0 (IntKind.wrap .i64 (((D3 (pst suf)).length:Int)-(k:Int)))=some (D3 ((pst suf).drop k)):=by
  have hw:IntKind.wrap .i64 (((D3 (pst suf)).length:Int)-(k:Int))=(((pst suf).length-k:Nat):Int):=by
   rw[hpI,wrap64 (by omega) (by omega)];omega
  rw[hw,Gu (by rw[hpI];omega)]
  congr 1
  unfold D3
  rw[List.take_reverse,List.length_map,show(pst suf).length-((pst suf).length-k)=k by omega,List.map_drop]
 have hdl:(D3 ((pst suf).drop k)).length≤200:=by simp[D3];omega
 have hwi:IntKind.wrap .i64 ((q.length:Int)-1)=(q.length:Int)-1:=wrap64 (by omega) (by omega)
 have hfin:some (.inl ([]++D3 ((pst suf).drop k)++[(⟨((Bn n.Ac).1:Int),jw (Cv n (gP (pst suf) n.Ac 0) (gP (pst suf) n.Ac 1) (gP (pst suf) n.Ac 2))⟩:Ad)],(q.length:Int)-1))=(some (.inl (D3 (pst (n::suf)),(q.length:Int)-1)):Option (((List Ad)×Int)⊕(List Ad))):=by
  rw[pst,hNk]
  simp[D3,pcI]
 show(if _ then _ else _)=_
 rw[if_pos (by simp),Cu hlen,hg]
 simp only[Option.bind_some]
 rw[Bap,Bo6]
 have hI:Ax8 n.Ac=(k:Int):=by unfold Ax8;rw[h2]
 rw[hI]
 simp only[Option.bind_some]
 have hside: ∀j,Afw n.Ac j=if j=0 then(Bn n.Ac).2.2.1 else if j=1 then(Bn n.Ac).2.2.2 else 0:=fun j=>rfl
 have hk:k=0∨k=1∨k=2∨k=3:=by omega
 rcases hk with rfl|rfl|rfl|rfl
 ·have hkind:n.Ac=0∨n.Ac=1:=by
   rcases kinds hkn with e|e|e|e|e|e|e|e|e|e|e|e|e|e|e|e|e|e<;>first|exact Or.inl e|exact Or.inr e|(rw[e] at h2;exact absurd h2 (by decide))
  have htn:n.Ag≠[]:=by
   rcases hkind with e|e
   ·have:Fp (trimS n.Ag)=true:=by unfold Xe at h3;rw[if_pos e] at h3;exact h3
    intro h
    rw[h] at this
    exact absurd this (by decide +kernel)
   ·have:O9 n.Ag false=true:=by unfold Xe at h3;rw[if_neg (by omega),if_pos e] at h3;exact h3
    exact(A2a this).1
  rw[A5n hnx htn]
  obtain⟨u,b,hub⟩: ∃u b,n.Ag=u++[b]:=by
   rcases List.eq_nil_or_concat n.Ag with h|⟨u,b,h⟩
   ·exact absurd h htn
   ·exact⟨u,b,by rw[h,List.concat_eq_append]⟩
  have hlast:n.Ag.getLast?=some b:=by rw[hub];simp
  have c0:(((0:Nat):Int)==0)=true:=rfl
  have c1:(((0:Nat):Int)==1)=false:=rfl
  have c2:(((0:Nat):Int)==2)=false:=rfl
  have c3:(((0:Nat):Int)==3)=false:=rfl
  simp only[hlast,Option.map_some,c0,c1,c2,c3,A6,cond_true,cond_false,Option.bind_some,Bool.true_and,Bool.false_and,Bool.false_eq_true,if_false]
  by_cases hb:b=37
  ·have hk0:n.Ac=0:=by
    rcases hkind with e|e
    ·exact e
    ·have:O9 n.Ag false=true:=by unfold Xe at h3;rw[if_neg (by omega),if_pos e] at h3;exact h3
     exact absurd (hb▸hlast) (Bmz this)
   have hb2:((b.toNat:Int)==37)=true:=by rw[hb];rfl
   have hwl:IntKind.wrap .i64 ((n.Ag.length:Int)-1)=(u.length:Int):=by rw[hub,wrap64 (by simp only[List.length_append,List.length_cons,List.length_nil];omega) (by rw[hub] at hnx;simp only[List.length_append,List.length_cons,List.length_nil] at hnx⊢;omega)];simp
   have hul:u.length≤1000000:=by rw[hub] at hnx;simp only[List.length_append,List.length_cons,List.length_nil] at hnx;omega
   rw[hb2,hwl]
   simp only[if_true]
   have hsu:slO n.Ag 0 (u.length:Int)=some u:=by rw[hub,Gu (by simp)];simp
   rw[hsu]
   simp only[Option.bind_some]
   rw[Cq (by simp only[List.length_append,List.length_cons,List.length_nil];omega)]
   have hwd:u++[32,37]=jw (Cv n (gP (pst suf) n.Ac 0) (gP (pst suf) n.Ac 1) (gP (pst suf) n.Ac 2)):=by
    unfold Cv
    rw[if_pos hk0,hlast,hb,if_pos rfl,hub,List.dropLast_concat,Aro,Ajn]
   rw[hwd]
   simp only[Option.bind_some]
   rw[hsl]
   simp only[Option.bind_some]
   rw[Hc (by simp only[List.length_append,List.length_cons,List.length_nil];omega)]
   simp only[Option.bind_some]
   rw[Hc (by simp only[List.length_append,List.length_cons,List.length_nil];omega)]
   simp only[Option.bind_some]
   rw[hwi]
   exact hfin
  ·have hb2:((b.toNat:Int)==37)=false:=by
    rw[beq_eq_false_iff_ne]
    intro hc
    refine hb (UInt8.toNat_inj.1 ?_)
    show b.toNat=37
    omega
   rw[hb2]
   simp only[Bool.false_eq_true,if_false]
   have hwd:n.Ag=jw (Cv n (gP (pst suf) n.Ac 0) (gP (pst suf) n.Ac 1) (gP (pst suf) n.Ac 2)):=by
    unfold Cv
    rcases hkind with e|e
    ·rw[if_pos e,hlast,if_neg (by simp[hb]),Ajn]
    ·rw[if_neg (by omega),if_pos e,Ajn]
   have hT: ∀(T:By),n.Ag=T→T=jw (Cv n (gP (pst suf) n.Ac 0) (gP (pst suf) n.Ac 1) (gP (pst suf) n.Ac 2)):=fun T hT=>hT▸hwd
   generalize hTx:n.Ag=T
   rw[hT T hTx]
   simp only[Option.bind_some]
   rw[hsl]
   simp only[Option.bind_some]
   rw[Hc (by simp only[List.length_append,List.length_cons,List.length_nil];omega)]
   simp only[Option.bind_some]
   rw[Hc (by simp only[List.length_append,List.length_cons,List.length_nil];omega)]
   simp only[Option.bind_some]
   rw[hwi]
   exact hfin
 ·have hkind:n.Ac=2∨n.Ac=14:=by
   rcases kinds hkn with e|e|e|e|e|e|e|e|e|e|e|e|e|e|e|e|e|e<;>first|(rw[e];decide)|(rw[e] at h2;exact absurd h2 (by decide))
  have c0:(((1:Nat):Int)==0)=false:=rfl
  have c1:(((1:Nat):Int)==1)=true:=rfl
  have c2:(((1:Nat):Int)==2)=false:=rfl
  have c3:(((1:Nat):Int)==3)=false:=rfl
  simp only[c0,c1,c2,c3,gdO,Option.bind_some,Bool.true_and,Bool.false_and,Bool.false_eq_true,if_false,if_true]
  have hs8:(Bn n.Ac).2.1.length≤10:=by rcases hkind with e|e<;>rw[e]<;>decide
  rw[Cq (by simp only[List.length_append,List.length_cons,List.length_nil];omega),hw1,hr0 (by omega)]
  simp only[Option.bind_some]
  rw[ha0 (by omega)]
  simp only[Option.bind_some]
  have hg0:atS ((pst suf).getD 0 (0,[])) (Bn n.Ac).2.2.1=gP (pst suf) n.Ac 0:=rfl
  have hgl0:=hgl 0 (by omega)
  rw[hg0,Cq (by simp only[List.length_append,List.length_cons,List.length_nil];omega)]
  have hwd:(Bn n.Ac).2.1++[32]++jw (gP (pst suf) n.Ac 0)=jw (Cv n (gP (pst suf) n.Ac 0) (gP (pst suf) n.Ac 1) (gP (pst suf) n.Ac 2)):=by
   have e0:Cv n (gP (pst suf) n.Ac 0) (gP (pst suf) n.Ac 1) (gP (pst suf) n.Ac 2)=[(Bn n.Ac).2.1]++gP (pst suf) n.Ac 0:=by
    generalize gP (pst suf) n.Ac 0=p0
    unfold Cv
    rcases hkind with e|e<;>rw[e]<;>rfl
   rw[e0,Q3 _ (hgn 0 (by omega))]
   simp[sp]
  rw[hwd]
  simp only[Option.bind_some]
  rw[hsl]
  simp only[Option.bind_some]
  rw[Hc (by simp only[List.length_append,List.length_cons,List.length_nil];omega)]
  simp only[Option.bind_some]
  rw[Hc (by simp only[List.length_append,List.length_cons,List.length_nil];omega)]
  simp only[Option.bind_some]
  rw[hwi]
  exact hfin
 ·have hs8:(Bn n.Ac).2.1.length≤10:=by
   rcases kinds hkn with e|e|e|e|e|e|e|e|e|e|e|e|e|e|e|e|e|e<;>rw[e]<;>decide
  have hgl0:=hgl 0 (by omega)
  have hgl1:=hgl 1 (by omega)
  have hpl0:=hpl 0 (by omega)
  have hpl1:=hpl 1 (by omega)
  have c0:(((2:Nat):Int)==0)=false:=rfl
  have c1:(((2:Nat):Int)==1)=false:=rfl
  have c2:(((2:Nat):Int)==2)=true:=rfl
  have c3:(((2:Nat):Int)==3)=false:=rfl
  simp only[c0,c1,c2,c3,gdO,Option.bind_some,Bool.true_and,Bool.false_and,Bool.false_eq_true,if_false,if_true]
  have hg0:atS ((pst suf).getD 0 (0,[])) (Bn n.Ac).2.2.1=gP (pst suf) n.Ac 0:=rfl
  have hg1:atS ((pst suf).getD 1 (0,[])) (Bn n.Ac).2.2.2=gP (pst suf) n.Ac 1:=rfl
  by_cases h16:n.Ac<16
  ·have d1:decide (n.Ac<16)=true:=by simpa using h16
   have d2:decide (n.Ac≥16)=false:=by simp;omega
   rw[d1,d2]
   simp only[if_true,Bool.false_eq_true,if_false]
   rw[hw1,hr0 (by omega)]
   simp only[Option.bind_some]
   rw[ha0 (by omega),hg0]
   simp only[Option.bind_some]
   rw[Cq (by simp only[List.length_append,List.length_cons,List.length_nil];omega)]
   simp only[Option.bind_some]
   rw[Cq (by simp only[List.length_append,List.length_cons,List.length_nil];omega)]
   simp only[Option.bind_some]
   rw[Cq (by simp only[List.length_append,List.length_cons,List.length_nil];omega)]
   simp only[Option.bind_some]
   rw[hw2,hr1 (by omega)]
   simp only[Option.bind_some]
   rw[ha1 (by omega),hg1]
   simp only[Option.bind_some]
   rw[Cq (by simp only[List.length_append,List.length_cons,List.length_nil];omega)]
   have hwd:jw (gP (pst suf) n.Ac 0)++[32]++(Bn n.Ac).2.1++[32]++jw (gP (pst suf) n.Ac 1)=jw (Cv n (gP (pst suf) n.Ac 0) (gP (pst suf) n.Ac 1) (gP (pst suf) n.Ac 2)):=by
    have e0:Cv n (gP (pst suf) n.Ac 0) (gP (pst suf) n.Ac 1) (gP (pst suf) n.Ac 2)=(gP (pst suf) n.Ac 0++[(Bn n.Ac).2.1])++gP (pst suf) n.Ac 1:=by
     generalize gP (pst suf) n.Ac 0=p0
     generalize gP (pst suf) n.Ac 1=p1
     generalize gP (pst suf) n.Ac 2=p2
     unfold Cv
     rcases kinds hkn with e|e|e|e|e|e|e|e|e|e|e|e|e|e|e|e|e|e<;>first|(rw[e] at h2;exact absurd h2 (by decide))|(rw[e] at h16;exact absurd h16 (by decide))|(rw[e];simp)
    rw[e0,Q3 _ (hgn 1 (by omega)),Wv,Arp (hgn 0 (by omega))]
    simp[sp]
   rw[hwd]
   simp only[Option.bind_some]
   rw[hsl]
   simp only[Option.bind_some]
   rw[Hc (by simp only[List.length_append,List.length_cons,List.length_nil];omega)]
   simp only[Option.bind_some]
   rw[Hc (by simp only[List.length_append,List.length_cons,List.length_nil];omega)]
   simp only[Option.bind_some]
   rw[hwi]
   exact hfin
  ·have d1:decide (n.Ac<16)=false:=by simpa using h16
   have d2:decide (n.Ac≥16)=true:=by simp;omega
   have hkind:n.Ac=16∨n.Ac=17:=by
    rcases kinds hkn with e|e|e|e|e|e|e|e|e|e|e|e|e|e|e|e|e|e<;>first|(rw[e];decide)|(rw[e] at h16;exact absurd h16 (by decide))
   have hz0:gP (pst suf) n.Ac 0=((pst suf).getD 0 (0,[])).2:=by
    unfold gP
    rcases hkind with e|e<;>rw[e]<;>(unfold atS;rw[if_neg (by simp[Afw,Bn])])
   have hz1:gP (pst suf) n.Ac 1=((pst suf).getD 1 (0,[])).2:=by
    unfold gP
    rcases hkind with e|e<;>rw[e]<;>(unfold atS;rw[if_neg (by simp[Afw,Bn])])
   rw[d1,d2]
   simp only[if_true,Bool.false_eq_true,if_false]
   rw[Cq (by simp only[List.length_append,List.length_cons,List.length_nil];omega)]
   simp only[Option.bind_some]
   rw[hw1,hr0 (by omega)]
   simp only[Option.bind_some,pcI]
   rw[Cq (by simp only[List.length_append,List.length_cons,List.length_nil];omega)]
   simp only[Option.bind_some]
   rw[Cq (by simp only[List.length_append,List.length_cons,List.length_nil];omega)]
   simp only[Option.bind_some]
   rw[hw2,hr1 (by omega)]
   simp only[Option.bind_some,pcI]
   rw[Cq (by simp only[List.length_append,List.length_cons,List.length_nil];omega)]
   simp only[Option.bind_some]
   rw[Cq (by simp only[List.length_append,List.length_cons,List.length_nil];omega)]
   have hwd:(Bn n.Ac).2.1++[32,40,32]++jw ((pst suf).getD 0 (0,[])).2++[32,44,32]++jw ((pst suf).getD 1 (0,[])).2++[32,41]=jw (Cv n (gP (pst suf) n.Ac 0) (gP (pst suf) n.Ac 1) (gP (pst suf) n.Ac 2)):=by
    have n0:=hgn 0 (by omega)
    have n1:=hgn 1 (by omega)
    rw[←hz0,←hz1]
    have e0:Cv n (gP (pst suf) n.Ac 0) (gP (pst suf) n.Ac 1) (gP (pst suf) n.Ac 2)=((([(Bn n.Ac).2.1,[40]]++gP (pst suf) n.Ac 0)++[[44]])++gP (pst suf) n.Ac 1)++[[41]]:=by
     generalize gP (pst suf) n.Ac 0=p0
     generalize gP (pst suf) n.Ac 1=p1
     generalize gP (pst suf) n.Ac 2=p2
     unfold Cv
     rcases hkind with e|e<;>rw[e]<;>simp[Bn]
    rw[e0,Q3 _ (by simp),Wv,Arp n1,Wv,Wv,Arp n0]
    simp[sp,Ajn]
   rw[hwd]
   simp only[Option.bind_some]
   rw[hsl]
   simp only[Option.bind_some]
   rw[Hc (by simp only[List.length_append,List.length_cons,List.length_nil];omega)]
   simp only[Option.bind_some]
   rw[Hc (by simp only[List.length_append,List.length_cons,List.length_nil];omega)]
   simp only[Option.bind_some]
   rw[hwi]
   exact hfin
 ·have hkind:n.Ac=15:=by
   rcases kinds hkn with e|e|e|e|e|e|e|e|e|e|e|e|e|e|e|e|e|e<;>first|exact e|(rw[e] at h2;exact absurd h2 (by decide))
  have hpl0:=hpl 0 (by omega)
  have hpl1:=hpl 1 (by omega)
  have hpl2:=hpl 2 (by omega)
  have hz0:gP (pst suf) n.Ac 0=((pst suf).getD 0 (0,[])).2:=by
   unfold gP;rw[hkind];unfold atS;rw[if_neg (by simp[Afw,Bn])]
  have hz1:gP (pst suf) n.Ac 1=((pst suf).getD 1 (0,[])).2:=by
   unfold gP;rw[hkind];unfold atS;rw[if_neg (by simp[Afw,Bn])]
  have hz2:gP (pst suf) n.Ac 2=((pst suf).getD 2 (0,[])).2:=by
   unfold gP;rw[hkind];unfold atS;rw[if_neg (by simp[Afw,Bn])]
  have c0:(((3:Nat):Int)==0)=false:=rfl
  have c1:(((3:Nat):Int)==1)=false:=rfl
  have c2:(((3:Nat):Int)==2)=false:=rfl
  have c3:(((3:Nat):Int)==3)=true:=rfl
  simp only[c0,c1,c2,c3,gdO,Option.bind_some,Bool.true_and,Bool.false_and,Bool.false_eq_true,if_false,if_true]
  rw[hw1,hr0 (by omega)]
  simp only[Option.bind_some,pcI]
  rw[Cq (by simp only[List.length_append,List.length_cons,List.length_nil];omega)]
  simp only[Option.bind_some]
  rw[Cq (by simp only[List.length_append,List.length_cons,List.length_nil];omega)]
  simp only[Option.bind_some]
  rw[hw2,hr1 (by omega)]
  simp only[Option.bind_some,pcI]
  rw[Cq (by simp only[List.length_append,List.length_cons,List.length_nil];omega)]
  simp only[Option.bind_some]
  rw[Cq (by simp only[List.length_append,List.length_cons,List.length_nil];omega)]
  simp only[Option.bind_some]
  rw[hw3,hr2 (by omega)]
  simp only[Option.bind_some,pcI]
  rw[Cq (by simp only[List.length_append,List.length_cons,List.length_nil];omega)]
  have hwd:[105,102,32]++jw ((pst suf).getD 0 (0,[])).2++[32,116,104,101,110,32]++jw ((pst suf).getD 1 (0,[])).2++[32,101,108,115,101,32]++jw ((pst suf).getD 2 (0,[])).2=jw (Cv n (gP (pst suf) n.Ac 0) (gP (pst suf) n.Ac 1) (gP (pst suf) n.Ac 2)):=by
   have n0:=hgn 0 (by omega)
   have n1:=hgn 1 (by omega)
   have n2:=hgn 2 (by omega)
   rw[←hz0,←hz1,←hz2]
   have e0:Cv n (gP (pst suf) n.Ac 0) (gP (pst suf) n.Ac 1) (gP (pst suf) n.Ac 2)=(((([sIf]++gP (pst suf) n.Ac 0)++[Al3])++gP (pst suf) n.Ac 1)++[Afv])++gP (pst suf) n.Ac 2:=by
    generalize gP (pst suf) n.Ac 0=p0
    generalize gP (pst suf) n.Ac 1=p1
    generalize gP (pst suf) n.Ac 2=p2
    unfold Cv
    rw[hkind]
    simp
   rw[e0,Q3 _ n2,Wv,Wv,Arp n1,Wv,Wv,Arp n0]
   simp[sp,sIf,Al3,Afv]
  rw[hwd]
  simp only[Option.bind_some]
  rw[hsl]
  simp only[Option.bind_some]
  rw[Hc (by simp only[List.length_append,List.length_cons,List.length_nil];omega)]
  simp only[Option.bind_some]
  rw[Hc (by simp only[List.length_append,List.length_cons,List.length_nil];omega)]
  simp only[Option.bind_some]
  rw[hwi]
  exact hfin
end Go.Av.G
end
