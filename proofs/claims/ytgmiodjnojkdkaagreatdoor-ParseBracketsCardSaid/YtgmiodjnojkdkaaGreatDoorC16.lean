import Derived.Laws.RangeAny
import Derived.Test.YtgmiodjnojkdkaaGreatDoorC15
set_option linter.all false
section
namespace Go.Av
open Go
theorem wrap64{x:Int}(h1: -9223372036854775808≤x)(h2:x<9223372036854775808):IntKind.wrap .i64 x=x:=by
 have hb:IntKind.bits .i64=64:=rfl
 have hs:IntKind.signed .i64=true:=rfl
 unfold IntKind.wrap
 simp only[hb,hs,Bool.true_and,decide_eq_true_eq]
 split<;>omega
theorem Gm{α:Type}{l:List α}{i:Nat}(h:i<l.length):rdO l (i:Int)=some l[i]:=by
 unfold rdO
 rw[if_pos (by omega)]
 simp[List.getElem?_eq_getElem h]
theorem Bgm{O:Type}{f:Int→Option (Int⊕O)}{n:Nat}{q:Nat→Bool}{o:Nat→O}{e:O}(hn:n<4611686018427387904)(hin: ∀i:Nat,i<n→f i=some (if q i=true then .inr (o i) else .inl (IntKind.wrap .i64 ((i:Int)+1))))
  (hout: ∀i:Nat,n≤i→f i=some (.inr e))(s:Nat):Bf f s=some (match (List.range' s (n-s)).find? q with|some i=>o i|none=>e):=by
 generalize hm:n-s=m
 induction m generalizing s with
 |zero=>rw[A7 (hout s (by omega))];rfl
 |succ m ih=>
  have:=hin s (by omega)
  rw[List.range'_succ,List.find?_cons]
  cases hq:q s with
  |true=>
   rw[hq,if_pos rfl] at this
   rw[A7 this]
  |false=>
   rw[hq,if_neg (by simp),wrap64 (by omega) (by omega)] at this
   rw[Cf this]
   exact ih (s+1) (by omega)
theorem Bb0{O:Type}{l:List Nat}{q:Nat→Bool}{o e:O}:(match l.find? q with|some i=>o|none=>e)=if l.any q=true then o else e:=by
 induction l with
 |nil=>rfl
 |cons x l ih=>
  rw[List.find?_cons,List.any_cons]
  cases q x with
  |true=>rfl
  |false=>simpa using ih
theorem Atn{O:Type}{f:Int→Option (Int⊕O)}{n:Nat}{q:Nat→Bool}{o e:O}(hn:n<4611686018427387904)(hin: ∀i:Nat,i<n→f i=some (if q i=true then .inr o else .inl (IntKind.wrap .i64 ((i:Int)+1))))
  (hout: ∀i:Nat,n≤i→f i=some (.inr e))(s:Nat):Bf f s=some (if (List.range' s (n-s)).any q=true then o else e):=by
 rw[Bgm hn hin hout s,Bb0]
theorem A82{α:Type}(l:List α)(p:α→Bool):(List.range' 0 l.length).any (fun i=>(l[i]?).any p)=l.any p:=by
 rw[Bool.eq_iff_iff,List.any_eq_true,List.any_eq_true]
 constructor
 ·rintro⟨i,hi,h⟩
  have hl:i<l.length:=by simpa using hi
  rw[List.getElem?_eq_getElem hl] at h
  exact⟨l[i],List.getElem_mem hl,h⟩
 ·rintro⟨x,hx,h⟩
  obtain⟨i,hi,rfl⟩:=List.getElem_of_mem hx
  exact⟨i,by simpa using hi,by simpa [List.getElem?_eq_getElem hi] using h⟩
theorem Ato{α O:Type}{f:Int→Option (Int⊕O)}{l:List α}(p:α→Bool){o e:O}(hn:l.length<4611686018427387904)(hin: ∀(i:Nat) (h:i<l.length),f i=some (if p l[i]=true then .inr o else .inl (IntKind.wrap .i64 ((i:Int)+1))))
  (hout: ∀i:Nat,l.length≤i→f i=some (.inr e)):Bf f 0=some (if l.any p=true then o else e):=by
 have:=Atn (q:=fun i=>(l[i]?).any p) hn (fun i hi=>by rw[hin i hi,List.getElem?_eq_getElem hi];rfl) hout 0
 rw[←A82]
 exact this
def Adn{α:Type}(l:List α)(p:α→Bool):Option Nat:=(List.range' 0 l.length).find? (fun i=>(l[i]?).any p)
theorem Y2{α:Type}{l:List α}{p:α→Bool}{i:Nat}(h:Adn l p=some i): ∃hi:i<l.length,p l[i]=true∧ ∀j (hj:j<i),p (l[j]'(by omega))=false:=by
 unfold Adn at h
 have hm:=List.mem_of_find?_eq_some h
 have hi:i<l.length:=by simpa using hm
 have hp:=List.find?_some h
 rw[List.getElem?_eq_getElem hi] at hp
 refine⟨hi,hp,fun j hj=>?_⟩
 obtain⟨_,as',bs,he,hall⟩:=List.find?_eq_some_iff_append.1 h
 have hlen:as'.length=i:=by
  have h1:(List.range' 0 l.length)[as'.length]? =some i:=by rw[he];simp
  rw[List.getElem?_range' (by
   have:=congrArg List.length he
   simp at this
   omega)] at h1
  simpa using h1
 have hmem:j∈as':=by
  have h2:(List.range' 0 l.length)[j]? =some j:=by rw[List.getElem?_range' (by omega)];simp
  rw[he,List.getElem?_append_left (by omega)] at h2
  exact List.mem_of_getElem? h2
 have:=hall j hmem
 rw[List.getElem?_eq_getElem (by omega)] at this
 simpa using this
theorem Y1{α:Type}{l:List α}{p:α→Bool}(h:Adn l p=none): ∀x∈l,p x=false:=by
 intro x hx
 obtain⟨i,hi,rfl⟩:=List.getElem_of_mem hx
 have:=List.find?_eq_none.1 h i (by simpa using hi)
 rw[List.getElem?_eq_getElem hi] at this
 simpa using this
theorem Aho{α O:Type}{f:Int→Option (Int⊕O)}{l:List α}(p:α→Bool){o:Nat→O}{e:O}(hn:l.length<4611686018427387904)(hin: ∀(i:Nat) (h:i<l.length),f i=some (if p l[i]=true then .inr (o i) else .inl (IntKind.wrap .i64 ((i:Int)+1))))
  (hout: ∀i:Nat,l.length≤i→f i=some (.inr e)):Bf f 0=some (match Adn l p with|some i=>o i|none=>e):=
 Bgm (q:=fun i=>(l[i]?).any p) hn (fun i hi=>by rw[hin i hi,List.getElem?_eq_getElem hi];rfl) hout 0
theorem Amj{α S O:Type}{f:Int×S→Option ((Int×S)⊕O)}{l:List α}(step:S→α→S)(out:S→O){s0:S}(hn:l.length<4611686018427387904)
  (hin: ∀(i:Nat) (h:i<l.length),f ((i:Int),(l.take i).foldl step s0)=some (.inl (IntKind.wrap .i64 ((i:Int)+1),step ((l.take i).foldl step s0) l[i])))
  (hout:f ((l.length:Int),l.foldl step s0)=some (.inr (out (l.foldl step s0)))):Bf f (0,s0)=some (out (l.foldl step s0)):=by
 have key: ∀k,k≤l.length→Bf f (0,s0)=Bf f ((k:Int),(l.take k).foldl step s0):=by
  intro k
  induction k with
  |zero=>intro _;rfl
  |succ k ih=>
   intro hk
   rw[ih (by omega),Cf (hin k (by omega)),wrap64 (by omega) (by omega),List.take_succ_eq_append_getElem (by omega),List.foldl_append]
   rfl
 rw[key l.length (Nat.le_refl _),List.take_length]
 exact A7 hout
def Bet{α:Type}(key:α→Int)(l:List α):Prop:= ∀i (h:i+1<l.length),key l[i]<key l[i+1]
theorem Bet.lt{α:Type}{key:α→Int}{l:List α}(h:Bet key l): ∀{j i:Nat} (hj:j<l.length) (hij:i<j),key (l[i]'(by omega))<key l[j]:=by
 intro j
 induction j with
 |zero=>intro i _ hij;omega
 |succ j ih=>
  intro i hj hij
  have h1:=h j hj
  by_cases he:i=j
  ·subst he;exact h1
  ·have:=ih (i:=i) (by omega) (by omega)
   omega
theorem Bet.inj{α:Type}{key:α→Int}{l:List α}(h:Bet key l){i j:Nat}(hi:i<l.length)(hj:j<l.length)(he:key l[i]=key l[j]):i=j:=by
 by_cases h1:i<j
 ·have:=h.lt hj h1;omega
 ·by_cases h2:j<i
  ·have:=h.lt hi h2;omega
  ·omega
end Go.Av
end
section
set_option maxRecDepth 4000
set_option maxHeartbeats 4000000
namespace Go.Av.G
open Go Go.Av Go.Proofs
theorem Cs{α β:Type}{a:Option α}{x:α}{f:α→Option β}{o:Option β}(h:a=some x)(h2:f x=o):a.bind f=o:=by subst h;exact h2
theorem Bd{α:Type}(g:Bool)(a d:α):gdO g (some a) d=some (bif g then a else d):=by cases g<;>rfl
def Ak(q:UInt8→Bool)(s:List UInt8):Nat:=(s.takeWhile q).length
theorem K6(q:UInt8→Bool):Ak q []=0:=rfl
theorem B9(q:UInt8→Bool)(b:UInt8)(t:List UInt8):Ak q (b::t)=if q b=true then Ak q t+1 else 0:=by
 unfold Ak
 rw[List.takeWhile_cons]
 split<;>simp
theorem C8(q:UInt8→Bool): ∀s:List UInt8,Ak q s≤s.length
 |[]=>by simp[K6]
 |b::t=>by
  have:=C8 q t
  rw[B9,List.length_cons]
  split<;>omega
theorem K7(q:UInt8→Bool): ∀(s:List UInt8) (m:Nat),Ak q (s.take m)=min (Ak q s) m
 |[],m=>by simp[K6]
 |b::t,0=>by simp[K6]
 |b::t,m+1=>by
  rw[List.take_succ_cons,B9,B9,K7 q t m]
  split<;>omega
theorem Mm{α:Type}{l:List α}{n:Nat}(h:n≤l.length):slO l (n:Int) (l.length:Int)=some (l.drop n):=by
 unfold slO
 rw[if_pos ⟨by omega,by omega,by omega⟩]
 simp
theorem Abc{α:Type}{l:List α}{n:Nat}(h:n≤l.length):slO l 0 (n:Int)=some (l.take n):=by
 unfold slO
 rw[if_pos ⟨by omega,by omega,by omega⟩]
 simp
theorem A8l{α:Type}{l:List α}{a b:Nat}(h1:a≤b)(h2:b≤l.length):slO l (a:Int) (b:Int)=some ((l.take b).drop a):=by
 unfold slO
 rw[if_pos ⟨by omega,by omega,by omega⟩]
 simp
theorem Bcr{p:Nat→Bool}{q:UInt8→Bool}(h1: ∀x,128≤x→p x=true)(h2: ∀b:UInt8,b.toNat<128→p b.toNat= !q b)(h3: ∀b:UInt8,128≤b.toNat→q b=false)(s:List UInt8):Lib.idxFunc p true ⟨s.toArray⟩=if Ak q s=s.length then -1 else(Ak q s:Int):=by
 have hsz:(ByteArray.mk s.toArray).size=s.length:=by simp[ByteArray.size]
 have key: ∀f pos,s.length-pos≤f→pos≤s.length→Lib.idxFuncFrom p true ⟨s.toArray⟩ f pos=if Ak q (s.drop pos)=s.length-pos then -1 else((pos+Ak q (s.drop pos):Nat):Int):=by
  intro f
  induction f with
  |zero=>
   intro pos h hp
   have:pos=s.length:=by omega
   subst this
   simp[Lib.idxFuncFrom,K6]
  |succ f ih=>
   intro pos h hp
   simp only[Lib.idxFuncFrom]
   by_cases hpos:pos<s.length
   ·rw[if_pos (by rw[hsz];exact hpos)]
    have hget:(ByteArray.mk s.toArray)[pos]'(by rw[hsz];exact hpos)=s[pos]:=rfl
    rw[List.drop_eq_getElem_cons hpos,B9]
    have hle:=C8 q (s.drop (pos+1))
    rw[List.length_drop] at hle
    by_cases ha:(s[pos]).toNat<128
    ·have hd:=Go.decode_ascii (ByteArray.mk s.toArray) pos (by rw[hsz];exact hpos) (by rw[hget];exact ha)
     rw[hd,hget]
     simp only
     rw[h2 _ ha]
     cases hq:q s[pos] with
     |true=>
      simp only[Bool.not_true,Bool.false_eq_true,if_false,if_true]
      rw[ih (pos+1) (by omega) (by omega)]
      by_cases he:Ak q (s.drop (pos+1))=s.length-(pos+1)
      ·rw[if_pos he,if_pos (by omega)]
      ·rw[if_neg he,if_neg (by omega)]
       omega
     |false=>
      simp only[Bool.not_false,if_true,Bool.false_eq_true,if_false]
      rw[if_neg (by omega)]
      simp
    ·have hd:=Go.decode_high (ByteArray.mk s.toArray) pos (by rw[hsz];exact hpos) (by rw[hget];omega)
     rw[if_pos (h1 _ hd.1),h3 _ (by omega)]
     simp only[Bool.false_eq_true,if_false]
     rw[if_neg (by omega)]
     simp
   ·have:pos=s.length:=by omega
    subst this
    rw[if_neg (by rw[hsz];omega)]
    simp[K6]
 unfold Lib.idxFunc
 rw[key _ 0 (by rw[hsz];omega) (by omega)]
 simp
def Adq(b:UInt8):Bool:=decide (97≤b.toNat∧b.toNat≤122)
def Bj(b:UInt8):Bool:=decide (48≤b.toNat∧b.toNat≤57)
def Aey(b:UInt8):Bool:=decide ((97≤b.toNat∧b.toNat≤122)∨(48≤b.toNat∧b.toNat≤57)∨b.toNat=95)
def prB(b:UInt8):Bool:=decide (32≤b.toNat∧b.toNat≤126)
theorem Lk(n:Int):Gi n=some (decide (97≤n∧n≤122)):=by simp[Gi]
theorem Oo(n:Int):F6 n=some (decide (48≤n∧n≤57)):=by simp[F6]
theorem Azz(n:Int):Na n=some (decide ((97≤n∧n≤122)∨(48≤n∧n≤57)∨n=95)):=by
 simp only[Na,Lk,Oo,Option.bind_some,Bd,Option.some.injEq]
 by_cases h1:97≤n∧n≤122
 ·simp[h1]
 ·by_cases h2:48≤n∧n≤57
  ·simp[h1,h2]
  ·by_cases h3:n=95
   ·simp[h3]
   ·simp[h1,h2,h3]
theorem A2d(n:Int):Nb n=some (decide (32≤n∧n≤126)):=by simp[Nb]
theorem Bi7{n:Int}(h1:0≤n)(h2:n<256):IntKind.wrap .u8 n=n:=by
 have hb:IntKind.bits .u8=8:=rfl
 have hs:IntKind.signed .u8=false:=rfl
 unfold IntKind.wrap
 simp only[hb,hs,Bool.false_and]
 simp
 omega
theorem A55{f:Int→Option Bool}{g:Int→Bool}{q:UInt8→Bool}(hf: ∀n:Int,f n=some (bif decide (n>127) then true else !g (IntKind.wrap .u8 n)))(hg: ∀b:UInt8,g (b.toNat:Int)=q b)(hq: ∀b:UInt8,128≤b.toNat→q b=false)(s:List UInt8):strings_IndexFunc f s=some (if Ak q s=s.length then -1 else(Ak q s:Int)):=by
 rw[Aap (fun x=>bif decide ((x:Int)>127) then true else !g (IntKind.wrap .u8 (x:Int))) (fun x=>hf x),Bcr (q:=q) ?_ ?_ hq]
 ·intro x hx
  have:decide ((x:Int)>127)=true:=decide_eq_true (by omega)
  simp only[this,cond_true]
 ·intro b hb
  have:decide ((b.toNat:Int)>127)=false:=decide_eq_false (by omega)
  simp only[this,cond_false,Bi7 (show 0≤(b.toNat:Int) by omega) (show(b.toNat:Int)<256 by omega),hg]
theorem Bhz(s:List UInt8):Ak2 s=some (Ak Aey s:Int):=by
 unfold Ak2
 rw[A55 (g:=fun n=>decide ((97≤n∧n≤122)∨(48≤n∧n≤57)∨n=95)) (q:=Aey)]
 ·simp only[Option.bind_some]
  by_cases h:Ak Aey s=s.length
  ·rw[if_pos h];simp[h]
  ·rw[if_neg h];simp;omega
 ·intro n
  simp only[Oa,Azz,Option.bind_some,Bd]
  cases decide (n>127)<;>simp
 ·intro b
  unfold Aey
  rw[Bool.eq_iff_iff]
  simp
  omega
 ·intro b hb
  unfold Aey
  simp
  omega
theorem A8f(s:List UInt8):Ob s=some (Ak Bj s:Int):=by
 unfold Ob
 rw[A55 (g:=fun n=>decide (48≤n∧n≤57)) (q:=Bj)]
 ·simp only[Option.bind_some]
  by_cases h:Ak Bj s=s.length
  ·rw[if_pos h];simp[h]
  ·rw[if_neg h];simp;omega
 ·intro n
  simp only[Hg,Oo,Option.bind_some,Bd]
  cases decide (n>127)<;>simp
 ·intro b
  unfold Bj
  rw[Bool.eq_iff_iff]
  simp
  omega
 ·intro b hb
  unfold Bj
  simp
  omega
theorem Bfw(s:List UInt8):Aa3 s=some (Ak prB s:Int):=by
 unfold Aa3
 rw[A55 (g:=fun n=>decide (32≤n∧n≤126)) (q:=prB)]
 ·simp only[Option.bind_some]
  by_cases h:Ak prB s=s.length
  ·rw[if_pos h];simp[h]
  ·rw[if_neg h];simp;omega
 ·intro n
  simp only[Hh,A2d,Option.bind_some,Bd]
  cases decide (n>127)<;>simp
 ·intro b
  unfold prB
  rw[Bool.eq_iff_iff]
  simp
  omega
 ·intro b hb
  unfold prB
  simp
  omega
end Go.Av.G
end
section
set_option maxRecDepth 4000
set_option maxHeartbeats 4000000
namespace Go.Av.G
open Go Go.Av Go.Proofs
def D9(s:List UInt8):Nat:=match s with
 |b::c::t=>if b=46 then Ak Bj (c::t) else 0
 |_=>0
def Pv(s:List UInt8):Nat×Nat:=if 32<Ak Aey s then(0,3) else(Ak Aey s,0)
def Adw(s:List UInt8):Nat×Nat:=
 if 15<Ak Bj s∨9<D9 (s.drop (Ak Bj s))∨1<Ak Bj s∧s.head?=some 48 then(0,3)
 else if 0<D9 (s.drop (Ak Bj s)) then(Ak Bj s+1+D9 (s.drop (Ak Bj s)),0) else(Ak Bj s,0)
def D1(b:UInt8):Bool:=b !=34
def Aes(s:List UInt8):Nat×Nat:=
 if Ak D1 (s.drop 1)=(s.drop 1).length then(0,14)
 else if 32<Ak D1 (s.drop 1)∨Ak prB ((s.drop 1).take (Ak D1 (s.drop 1)))<Ak D1 (s.drop 1) then(0,3)
 else(Ak D1 (s.drop 1)+2,0)
def Xy:List UInt8:=[123,125,40,41,91,93,59,58,44,37,61,60,62,43,45,42,47]
def Acc(s:List UInt8):Nat×Nat:=
 if s.take 2=[60,61]∨s.take 2=[62,61]∨s.take 2=[46,46] then(2,0)
 else match s with
 |b::_=>if b∈Xy then(1,0) else(0,14)
 |[]=>(0,14)
def A4(s:List UInt8):Nat×Nat×Nat:=match s with
 |b::_=>if Adq b=true then(0,Pv s) else if Bj b=true then(1,Adw s) else if b=34 then(2,Aes s) else(3,Acc s)
 |[]=>(0,0,14)
def prI(x:Nat×Nat):Int×Int:=((x.1:Int),(x.2:Int))
theorem Bgd(s:List UInt8):Ze s=some (prI (Pv s)):=by
 unfold Ze Pv prI
 rw[Bhz]
 simp only[Option.bind_some,decide_eq_true_eq]
 by_cases h:32<Ak Aey s
 ·rw[if_pos (by omega),if_pos h];rfl
 ·rw[if_neg (by omega),if_neg h];rfl
theorem En{b:UInt8}{t:List UInt8}:byO (b::t) 0=some (b.toNat:Int):=by simp[byO]
theorem Agy{b:UInt8}{n:Nat}(hn:n<256):b.toNat=n↔b=UInt8.ofNat n:=by
 constructor
 ·intro h
  apply UInt8.toNat_inj.1
  simp[h]
  omega
 ·rintro rfl
  simp
  omega
theorem Bfi(s:List UInt8):((some (decide ((s.length:Int)>1))).bind fun c4=>
 (gdO c4 (byO s 0) 0).bind fun x5=>
 ((if (c4&&(x5==46))=true then
   (slO s 1 (s.length:Int)).bind fun x7=>
   (Ob x7).bind fun x8=>
   some x8
 else
  some 0):Option Int))=some (D9 s:Int):=by
 match s with
 |[]=>rfl
 |[b]=>rfl
 |b::c::t=>
  have h1:decide ((((b::c::t).length:Nat):Int)>1)=true:=by simp;omega
  have h2:=Mm (l:=b::c::t) (n:=1) (by simp)
  have e1:((1:Nat):Int)=1:=rfl
  rw[e1] at h2
  simp only[Option.bind_some,h1,gdO,En,Bool.true_and,h2,A8f,List.drop_succ_cons,List.drop_zero]
  unfold D9
  by_cases hb:b=46
  ·subst hb;rfl
  ·have:((b.toNat:Int)==46)=false:=by
    have:=mt (Agy (b:=b) (n:=46) (by omega)).1 hb
    simp
    omega
   rw[this]
   simp[hb]
theorem Apk{q:UInt8→Bool}{b:UInt8}{t:List UInt8}(h:q b=true):1≤Ak q (b::t):=by
 rw[B9,if_pos h];omega
theorem A0l(s:List UInt8):D9 s+1≤s.length∨D9 s=0:=by
 unfold D9
 split
 ·rename_i b c t
  have:=C8 Bj (c::t)
  split
  ·left;simpa using this
  ·right;rfl
 ·right;rfl
theorem number_eq{b:UInt8}{t:List UInt8}(hl:(b::t).length<4611686018427387904):Ot (b::t)=some (prI (Adw (b::t))):=by
 generalize hs:b::t=s at hl
 have hd:=C8 Bj s
 have hm:=A0l (s.drop (Ak Bj s))
 rw[List.length_drop] at hm
 have h0:byO s 0=some (b.toNat:Int):=by rw[←hs];exact En
 have hh:s.head?=some b:=by rw[←hs];rfl
 unfold Ot Adw prI
 rw[A8f]
 simp only[Option.bind_some,Mm hd]
 have hmore:=Bfi (s.drop (Ak Bj s))
 simp only[Option.bind_some] at hmore
 cases hg:gdO (decide (((s.drop (Ak Bj s)).length:Int)>1)) (byO (s.drop (Ak Bj s)) 0) 0 with
 |none=>rw[hg] at hmore;cases hmore
 |some x5=>
  rw[hg] at hmore
  simp only[Option.bind_some] at hmore⊢
  refine Cs hmore ?_
  have h48:((b.toNat:Int)==48)=decide (b=48):=by
   rw[Bool.eq_iff_iff]
   have:=Agy (b:=b) (n:=48) (by omega)
   simp
   constructor
   ·intro h;exact this.1 (by omega)
   ·rintro rfl;rfl
  simp only[h0,Bd,Option.bind_some,hh,Option.some.injEq]
  by_cases c1:15<Ak Bj s
  ·have:decide (((Ak Bj s:Nat):Int)>15)=true:=decide_eq_true (by omega)
   simp only[this,Bool.true_or,if_true]
   rw[if_pos (.inl c1)]
   rfl
  ·have e1:decide (((Ak Bj s:Nat):Int)>15)=false:=decide_eq_false (by omega)
   by_cases c2:9<D9 (s.drop (Ak Bj s))
   ·have:decide (((D9 (s.drop (Ak Bj s)):Nat):Int)>9)=true:=decide_eq_true (by omega)
    simp only[e1,this,Bool.false_or,Bool.true_or,if_true]
    rw[if_pos (.inr (.inl c2))]
    rfl
   ·have e2:decide (((D9 (s.drop (Ak Bj s)):Nat):Int)>9)=false:=decide_eq_false (by omega)
    simp only[e1,e2,Bool.or_self,Bool.not_false,Bool.true_and,Bool.false_or]
    by_cases c3:1<Ak Bj s∧b=48
    ·have e3:decide (((Ak Bj s:Nat):Int)>1)=true:=decide_eq_true (by omega)
     simp only[e3,cond_true,h48,decide_eq_true c3.2,Bool.and_self,if_true]
     rw[if_pos (.inr (.inr c3))]
     rfl
    ·have e3:(decide (((Ak Bj s:Nat):Int)>1)&&((bif decide (((Ak Bj s:Nat):Int)>1) then(b.toNat:Int) else 0)==48))=false:=by
      by_cases q:1<Ak Bj s
      ·have e3:decide (((Ak Bj s:Nat):Int)>1)=true:=decide_eq_true (by omega)
       simp only[e3,cond_true,h48,Bool.true_and]
       exact decide_eq_false (fun hb=>c3 ⟨q,hb⟩)
      ·have e3:decide (((Ak Bj s:Nat):Int)>1)=false:=decide_eq_false (by omega)
       simp only[e3,Bool.false_and]
     have hno: ¬(15<Ak Bj s∨9<D9 (s.drop (Ak Bj s))∨1<Ak Bj s∧b=48):=fun h=>h.elim c1 (fun h=>h.elim c2 c3)
     simp only[e3,Bool.false_eq_true,if_false,if_neg hno]
     by_cases c4:0<D9 (s.drop (Ak Bj s))
     ·have e4:IntKind.wrap .i64 (((Ak Bj s:Nat):Int)+1)=((Ak Bj s+1:Nat):Int):=by rw[wrap64 (by omega) (by omega)];rfl
      have e5:IntKind.wrap .i64 (((Ak Bj s+1:Nat):Int)+((D9 (s.drop (Ak Bj s)):Nat):Int))=((Ak Bj s+1+D9 (s.drop (Ak Bj s)):Nat):Int):=by rw[wrap64 (by omega) (by omega)];omega
      rw[e4,e5,if_pos (decide_eq_true (show((D9 (s.drop (Ak Bj s)):Nat):Int)>0 by omega)),if_pos c4]
      rfl
     ·rw[if_neg (show ¬(decide (((D9 (s.drop (Ak Bj s)):Nat):Int)>0)=true) by simp;omega),if_neg c4]
      rfl
theorem H1(c:UInt8): ∀s:List UInt8,Lib.indexByte s c=if Ak (fun b=>b !=c) s=s.length then -1 else(Ak (fun b=>b !=c) s:Int)
 |[]=>rfl
 |b::t=>by
  have hle:=C8 (fun b=>b !=c) t
  unfold Lib.indexByte
  rw[H1 c t,B9,List.length_cons]
  by_cases h:b=c
  ·subst h;simp
  ·have h1:(b==c)=false:=by simpa using h
   have h2:(b !=c)=true:=by simpa using h
   rw[h1,if_neg (by simp)]
   simp only[h2,if_true]
   by_cases he:Ak (fun b=>b !=c) t=t.length
   ·rw[show(if Ak (fun b=>b !=c) t=t.length then(-1:Int) else(Ak (fun b=>b !=c) t:Int))= -1 from if_pos he,if_pos (show Ak (fun b=>b !=c) t+1=t.length+1 by omega)]
    rfl
   ·rw[show(if Ak (fun b=>b !=c) t=t.length then(-1:Int) else(Ak (fun b=>b !=c) t:Int))=(Ak (fun b=>b !=c) t:Int) from if_neg he,if_neg (show ¬Ak (fun b=>b !=c) t+1=t.length+1 by omega)]
    have:(((Ak (fun b=>b !=c) t:Nat):Int)== -1)=false:=by simp
    rw[this]
    simp
theorem A90{b:UInt8}{t:List UInt8}(hl:(b::t).length<4611686018427387904):Ou (b::t)=some (prI (Aes (b::t))):=by
 have h1:=Mm (l:=b::t) (n:=1) (by simp)
 have e1:((1:Nat):Int)=1:=rfl
 rw[e1] at h1
 have e2:((34:Int).toNat.toUInt8)=34:=by decide
 have hn:=C8 D1 t
 have hidx:Lib.indexByte t 34=if Ak D1 t=t.length then -1 else(Ak D1 t:Int):=H1 34 t
 simp only[List.length_cons] at hl
 unfold Ou Aes prI
 simp only[h1,List.drop_succ_cons,List.drop_zero,Option.bind_some,strings_IndexByte,e2]
 by_cases c1:Ak D1 t=t.length
 ·rw[if_pos c1] at hidx
  simp only[hidx,if_pos c1]
  rfl
 ·rw[if_neg c1] at hidx
  have e3:IntKind.wrap .i64 (1+((Ak D1 t:Nat):Int))=((Ak D1 t+1:Nat):Int):=by rw[wrap64 (by omega) (by omega)];omega
  have e4:IntKind.wrap .i64 (((Ak D1 t:Nat):Int)+2)=((Ak D1 t+2:Nat):Int):=by rw[wrap64 (by omega) (by omega)];rfl
  have h2:=A8l (l:=b::t) (a:=1) (b:=Ak D1 t+1) (by omega) (by simp;omega)
  rw[e1] at h2
  have e6:decide (((Ak D1 t:Nat):Int)<0)=false:=decide_eq_false (by omega)
  simp only[hidx,if_neg c1,e6,Bool.false_eq_true,if_false,e3,h2,List.take_succ_cons,List.drop_succ_cons,List.drop_zero,Bd,Option.bind_some,Bfw,e4]
  by_cases c2:32<Ak D1 t
  ·have:decide (((Ak D1 t:Nat):Int)>32)=true:=decide_eq_true (by omega)
   simp only[this,Bool.true_or,if_true,if_pos (show 32<Ak D1 t∨Ak prB (t.take (Ak D1 t))<Ak D1 t from .inl c2)]
   rfl
  ·have e5:decide (((Ak D1 t:Nat):Int)>32)=false:=decide_eq_false (by omega)
   simp only[e5,Bool.not_false,cond_true,Bool.false_or]
   by_cases c3:Ak prB (t.take (Ak D1 t))<Ak D1 t
   ·have:decide (((Ak prB (t.take (Ak D1 t)):Nat):Int)<((Ak D1 t:Nat):Int))=true:=decide_eq_true (by omega)
    simp only[this,if_true,if_pos (show 32<Ak D1 t∨Ak prB (t.take (Ak D1 t))<Ak D1 t from .inr c3)]
    rfl
   ·have:decide (((Ak prB (t.take (Ak D1 t)):Nat):Int)<((Ak D1 t:Nat):Int))=false:=decide_eq_false (by omega)
    have hno: ¬(32<Ak D1 t∨Ak prB (t.take (Ak D1 t))<Ak D1 t):=fun h=>h.elim c2 c3
    simp only[this,Bool.false_eq_true,if_false,if_neg hno]
    rfl
end Go.Av.G
end
section
set_option maxRecDepth 4000
set_option maxHeartbeats 4000000
namespace Go.Av.G
open Go Go.Av Go.Proofs
theorem contains_nil(sub:List UInt8):Lib.contains [] sub=sub.isEmpty:=by
 unfold Lib.contains Lib.index
 cases sub<;>rfl
theorem contains_cons(b:UInt8)(l sub:List UInt8):Lib.contains (b::l) sub=(sub.isPrefixOf (b::l)||Lib.contains l sub):=by
 unfold Lib.contains
 have h:=Lib.index_ge l sub
 rw[show Lib.index (b::l) sub=if sub.isPrefixOf (b::l) then 0 else if Lib.index l sub== -1 then -1 else Lib.index l sub+1 from by rw[Lib.index]]
 cases hp:sub.isPrefixOf (b::l) with
 |true=>simp
 |false=>
  simp only[Bool.false_eq_true,if_false,Bool.false_or]
  by_cases he:Lib.index l sub= -1
  ·simp[he]
  ·have h1:(Lib.index l sub== -1)=false:=by simpa using he
   rw[h1]
   simp only[Bool.false_eq_true,if_false]
   rw[decide_eq_true (show(0:Int)≤Lib.index l sub+1 by omega),decide_eq_true (show(0:Int)≤Lib.index l sub by omega)]
theorem A8m(c:UInt8): ∀s:List UInt8,Ak (fun b=>b !=c) s=s.length↔c∉s
 |[]=>by simp[K6]
 |b::t=>by
  have ih:=A8m c t
  have hle:=C8 (fun b=>b !=c) t
  rw[B9,List.length_cons,List.mem_cons]
  by_cases h:b=c
  ·subst h;simp
  ·have h2:(b !=c)=true:=by simpa using h
   simp only[h2,if_true]
   constructor
   ·intro he hm
    rcases hm with rfl|hm
    ·exact h rfl
    ·exact ih.1 (by omega) hm
   ·intro hm
    have:=ih.2 (fun q=>hm (.inr q))
    omega
theorem index_one(c:UInt8): ∀s:List UInt8,Lib.index s [c]=Lib.indexByte s c
 |[]=>rfl
 |b::t=>by
  unfold Lib.index Lib.indexByte
  rw[index_one c t]
  have:([c]:List UInt8).isPrefixOf (b::t)=(b==c):=by
   simp[List.isPrefixOf]
   rw[Bool.eq_iff_iff]
   simp
   exact eq_comm
  rw[this]
theorem Bf4{b:UInt8}{t:List UInt8}(hl:(b::t).length<4294967281):Zd (b::t)=some (prI (Acc (b::t))):=by
 have e8:(b.toNat:Int).toNat.toUInt8=b:=by simp
 have hone:decide ((Lib.indexByte [123,125,40,41,91,93,59,58,44,37,61,60,62,43,45,42,47] b)≥0)=decide (b∈Xy):=by
  rw[H1,Bool.eq_iff_iff,decide_eq_true_eq,decide_eq_true_eq]
  have h:=A8m b Xy
  change (if Ak (fun c=>c !=b) Xy=Xy.length then(-1:Int) else(Ak (fun c=>c !=b) Xy:Int))≥0↔b∈Xy
  by_cases he:Ak (fun c=>c !=b) Xy=Xy.length
  ·rw[if_pos he]
   have:=h.1 he
   simp[this]
  ·rw[if_neg he]
   constructor
   ·intro _;exact Classical.byContradiction fun q=>he (h.2 q)
   ·intro _;omega
 have tail:((byO (b::t) 0).bind fun x8=>
  (strings_IndexByte [123,125,40,41,91,93,59,58,44,37,61,60,62,43,45,42,47] x8).bind fun x9=>
  if (decide (x9≥0))=true then
   some ((1:Int),(0:Int))
  else
   some (0,14))=some (prI (if b∈Xy then(1,0) else(0,14))):=by
  simp only[En,Option.bind_some,strings_IndexByte,e8,hone]
  by_cases hm:b∈Xy
  ·simp[hm,prI]
  ·simp[hm,prI]
 unfold Zd Acc
 match t,hl with
 |[],_=>
  have h1:decide ((([b]:List UInt8).length:Int)>1)=false:=by simp
  simp only[h1,Option.bind_some,gdO,Bool.false_and,Bool.false_eq_true,if_false]
  rw[tail]
  simp
 |c::t,hl=>
  have h1:decide (((b::c::t).length:Int)>1)=true:=by simp;omega
  have h2:=Abc (l:=b::c::t) (n:=2) (by simp)
  have e1:((2:Nat):Int)=2:=rfl
  rw[e1] at h2
  have h3:strings_Contains [60,61,32,62,61,32,46,46] [b,c]=some (Lib.contains [60,61,32,62,61,32,46,46] [b,c]):=by
   unfold strings_Contains;rw[if_pos (by simp)]
  have h4:strings_Contains [b,c] [32]=some (Lib.contains [b,c] [32]):=by
   unfold strings_Contains;rw[if_pos (by simp)]
  simp only[h1,Option.bind_some,gdO,h2,List.take_succ_cons,List.take_zero,h3,Bool.true_and]
  have h5:Lib.contains [60,61,32,62,61,32,46,46] [b,c]=(((b==60)&&(c==61))||(((b==61)&&(c==32))||(((b==32)&&(c==62))||(((b==62)&&(c==61))||(((b==61)&&(c==32))||(((b==32)&&(c==46))||((b==46)&&(c==46)))))))):=by
   simp only[contains_cons,contains_nil,List.isPrefixOf,List.isEmpty,Bool.and_true,Bool.or_false,Bool.and_false]
  have h6:Lib.contains [b,c] [32]=((32==b)||(32==c)):=by
   simp only[contains_cons,contains_nil,List.isPrefixOf,List.isEmpty,Bool.and_true,Bool.or_false]
  have hx:(Lib.contains [60,61,32,62,61,32,46,46] [b,c]&& !(Lib.contains [b,c] [32]))=decide ([b,c]=[60,61]∨[b,c]=[62,61]∨[b,c]=[46,46]):=by
   rw[h5,h6,Bool.eq_iff_iff]
   simp only[Bool.and_eq_true,Bool.or_eq_true,beq_iff_eq,Bool.not_eq_true',Bool.or_eq_false_iff,beq_eq_false_iff_ne,decide_eq_true_eq,List.cons.injEq,and_true]
   constructor
   ·rintro⟨h|h|h|h|h|h|h,h7,h8⟩
    ·exact .inl h
    ·exact absurd h.2.symm h8
    ·exact absurd h.1.symm h7
    ·exact .inr (.inl h)
    ·exact absurd h.2.symm h8
    ·exact absurd h.1.symm h7
    ·exact .inr (.inr h)
   ·rintro(⟨rfl,rfl⟩|⟨rfl,rfl⟩|⟨rfl,rfl⟩)
    ·exact⟨.inl ⟨rfl,rfl⟩,by decide,by decide⟩
    ·exact⟨.inr (.inr (.inr (.inl ⟨rfl,rfl⟩))),by decide,by decide⟩
    ·exact⟨.inr (.inr (.inr (.inr (.inr (.inr ⟨rfl,rfl⟩))))),by decide,by decide⟩
  have htk:(b::c::t).take 2=[b,c]:=rfl
  rw[htk] at*
  cases hc:Lib.contains [60,61,32,62,61,32,46,46] [b,c] with
  |false=>
   rw[hc,Bool.false_and] at hx
   have hno: ¬([b,c]=[60,61]∨[b,c]=[62,61]∨[b,c]=[46,46]):=of_decide_eq_false hx.symm
   simp only[gdO,Bool.false_and,Bool.false_eq_true,if_false,Option.bind_some]
   rw[tail]
   simp only[hno,if_false]
  |true=>
   rw[hc,Bool.true_and] at hx
   simp only[gdO,h4,Option.bind_some,Bool.true_and,hx,decide_eq_true_eq]
   by_cases hy:[b,c]=[60,61]∨[b,c]=[62,61]∨[b,c]=[46,46]
   ·simp only[hy,if_true]
    rfl
   ·simp only[hy,if_false]
    simp only[decide_eq_true_eq] at tail
    exact tail
def trI(x:Nat×Nat×Nat):Int×Int×Int:=((x.1:Int),(x.2.1:Int),(x.2.2:Int))
theorem A77{b:UInt8}{t:List UInt8}(hl:(b::t).length<4294967281):Th (b::t)=some (trI (A4 (b::t))):=by
 have c57: ∀n,Ez 127 n=Gi n∧Ez 129 n=F6 n∧Ez 131 n=Ll n∧Ez 133 n=Q2 n:=fun n=>⟨rfl,rfl,rfl,rfl⟩
 have c58: ∀s,E0 128 s=Ze s∧E0 130 s=Ot s∧E0 132 s=Ou s∧E0 134 s=Zd s:=fun s=>⟨rfl,rfl,rfl,rfl⟩
 have hL: ∀x:Int,Adq b=decide (97≤(b.toNat:Int)∧(b.toNat:Int)≤122):=fun _=>by
  unfold Adq;rw[Bool.eq_iff_iff];simp;omega
 have hD: ∀x:Int,Bj b=decide (48≤(b.toNat:Int)∧(b.toNat:Int)≤57):=fun _=>by
  unfold Bj;rw[Bool.eq_iff_iff];simp;omega
 have hQ:((b.toNat:Int)==34)=decide (b=34):=by
  rw[Bool.eq_iff_iff]
  have:=Agy (b:=b) (n:=34) (by omega)
  simp
  constructor
  ·intro h;exact this.1 (by omega)
  ·rintro rfl;rfl
 have r0:rdO ([⟨127,128⟩,⟨129,130⟩,⟨131,132⟩,⟨133,134⟩]:List Bi) 0=some ⟨127,128⟩:=rfl
 have r1:rdO ([⟨127,128⟩,⟨129,130⟩,⟨131,132⟩,⟨133,134⟩]:List Bi) 1=some ⟨129,130⟩:=rfl
 have r2:rdO ([⟨127,128⟩,⟨129,130⟩,⟨131,132⟩,⟨133,134⟩]:List Bi) 2=some ⟨131,132⟩:=rfl
 have r3:rdO ([⟨127,128⟩,⟨129,130⟩,⟨131,132⟩,⟨133,134⟩]:List Bi) 3=some ⟨133,134⟩:=rfl
 have d0:decide ((0:Int)<4)=true:=by decide
 have d1:decide ((1:Int)<4)=true:=by decide
 have d2:decide ((2:Int)<4)=true:=by decide
 have d3:decide ((3:Int)<4)=true:=by decide
 have w0:IntKind.wrap .i64 ((0:Int)+1)=1:=by rw[wrap64 (by omega) (by omega)];rfl
 have w1:IntKind.wrap .i64 ((1:Int)+1)=2:=by rw[wrap64 (by omega) (by omega)];rfl
 have w2:IntKind.wrap .i64 ((2:Int)+1)=3:=by rw[wrap64 (by omega) (by omega)];rfl
 have hn:A4 (b::t)=if Adq b=true then(0,Pv (b::t)) else if Bj b=true then(1,Adw (b::t)) else if b=34 then(2,Aes (b::t)) else(3,Acc (b::t)):=rfl
 unfold Th Ahm
 simp only[Option.bind_some]
 rw[hn]
 cases h1:Adq b with
 |true=>
  have:=hL 0
  rw[h1] at this
  simp only[if_true]
  refine Cs (A7 (o:= .inr (0,(prI (Pv (b::t))).1,(prI (Pv (b::t))).2)) ?_) rfl
  simp only[d0,if_true,r0,En,(c57 _).1,Lk,←this,(c58 _).1,Bgd,Option.bind_some]
 |false=>
  have hl1:=hL 0
  rw[h1] at hl1
  simp only[Bool.false_eq_true,if_false]
  cases h2:Bj b with
  |true=>
   have hd1:=hD 0
   rw[h2] at hd1
   simp only[if_true]
   refine Cs (o:=some _) ?_ ?_ (x:= .inr (1,(prI (Adw (b::t))).1,(prI (Adw (b::t))).2))
   ·rw[Cf (s':=(1:Int)),A7]
    ·simp only[d1,if_true,r1,En,(c57 _).2.1,Oo,←hd1,(c58 _).2.1,number_eq (show(b::t).length<4611686018427387904 by omega),Option.bind_some]
    ·simp only[d0,if_true,r0,En,(c57 _).1,Lk,←hl1,Option.bind_some,Bool.false_eq_true,if_false,w0]
   ·rfl
  |false=>
   have hd1:=hD 0
   rw[h2] at hd1
   simp only[Bool.false_eq_true,if_false]
   by_cases h3:b=34
   ·rw[if_pos h3]
    have hq1:=hQ
    rw[decide_eq_true h3] at hq1
    refine Cs (o:=some _) ?_ ?_ (x:= .inr (2,(prI (Aes (b::t))).1,(prI (Aes (b::t))).2))
    ·rw[Cf (s':=(1:Int)),Cf (s':=(2:Int)),A7]
     ·simp only[d2,if_true,r2,En,(c57 _).2.2.1,Ll,hq1,(c58 _).2.2.1,A90 (show(b::t).length<4611686018427387904 by omega),Option.bind_some]
     ·simp only[d1,if_true,r1,En,(c57 _).2.1,Oo,←hd1,Option.bind_some,Bool.false_eq_true,if_false,w1]
     ·simp only[d0,if_true,r0,En,(c57 _).1,Lk,←hl1,Option.bind_some,Bool.false_eq_true,if_false,w0]
    ·rfl
   ·rw[if_neg h3]
    have hq1:=hQ
    rw[decide_eq_false h3] at hq1
    refine Cs (o:=some _) ?_ ?_ (x:= .inr (3,(prI (Acc (b::t))).1,(prI (Acc (b::t))).2))
    ·rw[Cf (s':=(1:Int)),Cf (s':=(2:Int)),Cf (s':=(3:Int)),A7]
     ·simp only[d3,if_true,r3,En,(c57 _).2.2.2,Q2,(c58 _).2.2.2,Bf4 hl,Option.bind_some]
     ·simp only[d2,if_true,r2,En,(c57 _).2.2.1,Ll,hq1,Option.bind_some,Bool.false_eq_true,if_false,w2]
     ·simp only[d1,if_true,r1,En,(c57 _).2.1,Oo,←hd1,Option.bind_some,Bool.false_eq_true,if_false,w1]
     ·simp only[d0,if_true,r0,En,(c57 _).1,Lk,←hl1,Option.bind_some,Bool.false_eq_true,if_false,w0]
    ·rfl
end Go.Av.G
end
section
set_option maxRecDepth 4000
set_option maxHeartbeats 4000000
namespace Go.Av.G
open Go Go.Av Go.Proofs
def Rb(b:UInt8):Bool:=b==32||b==9||b==10
def Az:Bool→List UInt8→Nat
 |_,[]=>0
 |true,b::t=>if b=10 then 1+Az false t else 1+Az true t
 |false,b::t=>if Rb b=true then 1+Az false t else if b=35 then 1+Az true t else 0
theorem Iq: ∀(r:Bool) (s:List UInt8),Az r s≤s.length
 |_,[]=>by simp[Az]
 |true,b::t=>by
  have h1:=Iq false t
  have h2:=Iq true t
  unfold Az
  simp only[List.length_cons]
  split<;>omega
 |false,b::t=>by
  have h1:=Iq false t
  have h2:=Iq true t
  unfold Az
  simp only[List.length_cons]
  split
  ·omega
  ·split<;>omega
theorem K4: ∀(r:Bool) (s:List UInt8) (m:Nat),Az r (s.take m)=min (Az r s) m
 |_,[],m=>by simp[Az]
 |r,b::t,0=>by simp[Az]
 |true,b::t,m+1=>by
  have h1:=K4 false t m
  have h2:=K4 true t m
  rw[List.take_succ_cons]
  unfold Az
  rw[h1,h2]
  split<;>omega
 |false,b::t,m+1=>by
  have h1:=K4 false t m
  have h2:=K4 true t m
  rw[List.take_succ_cons]
  unfold Az
  rw[h1,h2]
  split
  ·omega
  ·split<;>omega
theorem Apg: ∀s:List UInt8,Az false s=(s.length-(Lib.trimLeftS s [32,9,10]).length)+Az false (Lib.trimLeftS s [32,9,10])∧(Lib.trimLeftS s [32,9,10]).length≤s.length∧(∀b t,Lib.trimLeftS s [32,9,10]=b::t→Rb b=false)
 |[]=>by simp[Az,Lib.trimLeftS]
 |b::t=>by
  obtain⟨h1,h2,h3⟩:=Apg t
  have hc:([32,9,10]:List UInt8).contains b=Rb b:=by
   unfold Rb
   simp only[List.contains_cons,List.contains_nil,Bool.or_false]
   cases b==32<;>cases b==9<;>cases b==10<;>rfl
  unfold Lib.trimLeftS at h1 h2 h3⊢
  rw[List.dropWhile_cons,hc]
  cases hb:Rb b with
  |true=>
   simp only[if_true,List.length_cons]
   rw[Az,if_pos hb]
   exact⟨by omega,by omega,h3⟩
  |false=>
   simp only[Bool.false_eq_true,if_false,Nat.sub_self,Nat.zero_add]
   exact⟨trivial,Nat.le_refl _,fun b' t' e=>by cases e;exact hb⟩
theorem Aph: ∀t:List UInt8,Az true t=if Ak (fun b=>b !=10) t=t.length then t.length else Ak (fun b=>b !=10) t+1+Az false (t.drop (Ak (fun b=>b !=10) t+1))
 |[]=>by simp[Az,K6]
 |b::t=>by
  have ih:=Aph t
  have hle:=C8 (fun b=>b !=10) t
  rw[Az,B9,List.length_cons]
  by_cases hb:b=10
  ·subst hb
   simp
  ·have h2:(b !=10)=true:=by simpa using hb
   rw[if_neg hb,ih]
   simp only[h2,if_true,List.drop_succ_cons]
   by_cases he:Ak (fun b=>b !=10) t=t.length
   ·rw[if_pos he,if_pos (by omega)];omega
   ·rw[if_neg he,if_neg (by omega)];omega
theorem Baa{s:List UInt8}(hl:s.length<4294967281): ∀(n:Nat) (rest:List UInt8),rest.length≤n→rest.length≤s.length→
  Bf (fun(qj2:List UInt8)=>match qj2 with
  |rest3=>(
   (Bs rest3 [32,9,10]).bind fun x4=>
   (strings_HasPrefix x4 [35]).bind fun x5=>
   if (!x5)=true then
    some (.inr (IntKind.wrap .i64 ((s.length:Int)-(x4.length:Int))))
   else
    (strings_Cut x4 [10]).bind fun x6=>
    if (!x6.2.2)=true then
     some (.inr (s.length:Int))
    else
     some (.inl x6.2.1):Option ((List UInt8)⊕Int))) rest=some ((s.length-rest.length+Az false rest:Nat):Int):=by
 intro n
 induction n with
 |zero=>
  intro rest hn hs
  match rest,hn with
  |[],_=>
   have h1:Bs [] [32,9,10]=some []:=by unfold Bs;rw[if_pos (by decide)];rfl
   rw[A7 (o:=(s.length:Int))]
   ·simp[Az]
   ·have h2:strings_HasPrefix [] [35]=some false:=rfl
    simp only[h1,h2,Option.bind_some,Bool.not_false,if_true]
    rw[wrap64 (by simp<;>omega) (by simp<;>omega)]
    simp
 |succ n ih=>
  intro rest hn hs
  obtain⟨h1,h2,h3⟩:=Apg rest
  have ht:Bs rest [32,9,10]=some (Lib.trimLeftS rest [32,9,10]):=by unfold Bs;rw[if_pos (by decide)]
  generalize Lib.trimLeftS rest [32,9,10]=d at h1 h2 h3 ht
  have hstop:(∀t,d≠35::t)→strings_HasPrefix d [35]=some false∧Az false d=0:=by
   intro hd
   match d,h3,hd with
   |[],_,_=>exact⟨rfl,rfl⟩
   |b::t,h3,hd=>
    have hb:=h3 b t rfl
    have hne:b≠35:=fun e=>hd t (by rw[e])
    refine⟨?_,?_⟩
    ·unfold strings_HasPrefix Lib.hasPrefix
     have:((35:UInt8)==b)=false:=by simpa using fun e=>hne e.symm
     simp[List.isPrefixOf,this]
    ·rw[Az,if_neg (by simp[hb]),if_neg hne]
  by_cases hd: ∃t,d=35::t
  ·obtain⟨t,rfl⟩:=hd
   have hp:strings_HasPrefix (35::t) [35]=some true:=by unfold strings_HasPrefix Lib.hasPrefix;simp[List.isPrefixOf]
   have hcut:strings_Cut (35::t) [10]=some (Lib.cut (35::t) [10]):=by unfold strings_Cut;rw[if_pos (by omega)]
   have hsk:Az false (35::t)=1+Az true t:=by rw[Az,if_neg (by decide),if_pos rfl]
   have hix:Lib.index (35::t) [10]=if Ak (fun b=>b !=10) t=t.length then -1 else((Ak (fun b=>b !=10) t+1:Nat):Int):=by
    rw[index_one,H1,B9]
    simp only[show((35:UInt8)!=10)=true from rfl,if_true,List.length_cons]
    by_cases he:Ak (fun b=>b !=10) t=t.length
    ·rw[if_pos he,if_pos (by omega)]
    ·rw[if_neg he,if_neg (by omega)]
   have hle:=C8 (fun b=>b !=10) t
   simp only[List.length_cons] at h1 h2
   have htr:=Aph t
   by_cases he:Ak (fun b=>b !=10) t=t.length
   ·rw[if_pos he] at hix htr
    rw[A7 (o:=(s.length:Int))]
    ·congr 1
     omega
    ·have:Lib.cut (35::t) [10]=(35::t,[],false):=by unfold Lib.cut;rw[hix,if_neg (by omega)]
     simp only[ht,hp,hcut,this,Option.bind_some,Bool.not_true,Bool.false_eq_true,if_false,Bool.not_false,if_true]
   ·rw[if_neg he] at hix htr
    have hc:Lib.cut (35::t) [10]=((35::t).take (Ak (fun b=>b !=10) t+1),t.drop (Ak (fun b=>b !=10) t+1),true):=by
     unfold Lib.cut
     rw[hix,if_pos (by omega)]
     simp
    have hlen:(t.drop (Ak (fun b=>b !=10) t+1)).length=t.length-(Ak (fun b=>b !=10) t+1):=List.length_drop ..
    rw[Cf (s':=t.drop (Ak (fun b=>b !=10) t+1)),ih _ (by omega) (by omega)]
    ·congr 1
     omega
    ·simp only[ht,hp,hcut,hc,Option.bind_some,Bool.not_true,Bool.false_eq_true,if_false]
  ·obtain⟨hp,hz⟩:=hstop (fun t e=>hd ⟨t,e⟩)
   rw[A7 (o:=((s.length-d.length:Nat):Int))]
   ·congr 1
    omega
   ·simp only[ht,hp,Option.bind_some,Bool.not_false,if_true]
    rw[wrap64 (by omega) (by omega)]
    congr 2
    omega
theorem A8k{s:List UInt8}(hl:s.length<4294967281):Ti s=some (Az false s:Int):=by
 unfold Ti
 rw[Baa hl s.length s (Nat.le_refl _) (Nat.le_refl _)]
 simp
def plS(s:List UInt8):Int×Int:=((s.count 10:Int)+1,(s.length:Int)-Lib.lastIndexByte ⟨s.toArray⟩ 10)
theorem A4l(s:List UInt8):(Lib.lastIndexByte ⟨s.toArray⟩ 10= -1∧10∉s)∨ ∃i:Nat,i<s.length∧Lib.lastIndexByte ⟨s.toArray⟩ 10=i∧s[i]? =some 10∧ ∀j,i<j→s[j]? ≠some 10:=by
 have hsz:(ByteArray.mk s.toArray).size=s.length:=by simp[ByteArray.size]
 have hat: ∀j,j<s.length→((((ByteArray.mk s.toArray).data[j]!).toNat:Int)=10↔s[j]? =some 10):=by
  intro j hj
  have e:(ByteArray.mk s.toArray).data[j]! =s[j]:=by
   simp[hj]
  rw[e,List.getElem?_eq_getElem hj,Option.some.injEq]
  have:=Agy (b:=s[j]) (n:=10) (by omega)
  constructor
  ·intro h;exact this.1 (by omega)
  ·intro h;rw[h];rfl
 have h:=Lib.lastIdx_spec ⟨s.toArray⟩ 10 s.length
 unfold Lib.lastIndexByte
 rw[hsz]
 rcases h with⟨h1,h2⟩|⟨i,h1,h2,h3,h4⟩
 ·refine .inl ⟨h1,fun hm=>?_⟩
  obtain⟨j,hj,he⟩:=List.getElem_of_mem hm
  exact h2 j hj ((hat j hj).2 (by rw[List.getElem?_eq_getElem hj,he]))
 ·refine .inr ⟨i,h1,h2,(hat i h1).1 h3,fun j hij he=>?_⟩
  have hj:j<s.length:=(List.getElem?_eq_some_iff.1 he).1
  exact h4 j hij hj ((hat j hj).2 he)
theorem A0u{s:List UInt8}(hl:s.length<4611686018427387904):N9 s=some (plS s):=by
 have hr: -1≤Lib.lastIndexByte ⟨s.toArray⟩ 10∧Lib.lastIndexByte ⟨s.toArray⟩ 10<s.length:=by
  rcases A4l s with⟨h,_⟩|⟨i,h1,h2,_⟩<;>omega
 have hc:s.count 10≤s.length:=List.count_le_length
 unfold N9 plS strings_LastIndexByte strings_Count Lib.countByte
 rw[if_pos hl]
 simp only[Option.bind_some]
 rw[wrap64 (by omega) (by omega),wrap64 (by omega) (by omega)]
end Go.Av.G
end
section
set_option maxRecDepth 4000
set_option maxHeartbeats 4000000
namespace Go.Av.G
open Go Go.Av Go.Proofs
theorem Fk: ∀{s:List UInt8} {k n:Nat},A4 s=(k,n,0)→1≤n∧n≤s.length
 |[],k,n,h=>by simp[A4] at h
 |b::t,k,n,h=>by
  have hn:A4 (b::t)=if Adq b=true then(0,Pv (b::t)) else if Bj b=true then(1,Adw (b::t)) else if b=34 then(2,Aes (b::t)) else(3,Acc (b::t)):=rfl
  rw[hn] at h
  by_cases h1:Adq b=true
  ·rw[if_pos h1] at h
   unfold Pv at h
   split at h
   ·simp at h
   ·simp only[Prod.mk.injEq] at h
    have hw:Aey b=true:=by
     have:=of_decide_eq_true h1
     unfold Aey;simp;omega
    have:=Apk (t:=t) hw
    have:=C8 Aey (b::t)
    omega
  ·rw[if_neg h1] at h
   by_cases h2:Bj b=true
   ·rw[if_pos h2] at h
    have hd1:=Apk (t:=t) h2
    have hd2:=C8 Bj (b::t)
    have hm:=A0l ((b::t).drop (Ak Bj (b::t)))
    rw[List.length_drop] at hm
    unfold Adw at h
    split at h
    ·simp at h
    ·split at h
     ·simp only[Prod.mk.injEq] at h
      omega
     ·simp only[Prod.mk.injEq] at h
      omega
   ·rw[if_neg h2] at h
    by_cases h3:b=34
    ·rw[if_pos h3] at h
     have hq:=C8 D1 t
     unfold Aes at h
     simp only[List.drop_succ_cons,List.drop_zero] at h
     split at h
     ·simp at h
     ·split at h
      ·simp at h
      ·simp only[Prod.mk.injEq] at h
       simp only[List.length_cons]
       omega
    ·rw[if_neg h3] at h
     unfold Acc at h
     simp only[List.length_cons]
     by_cases hx:(b::t).take 2=[60,61]∨(b::t).take 2=[62,61]∨(b::t).take 2=[46,46]
     ·simp only[hx,if_true,Prod.mk.injEq] at h
      have:1≤t.length:=by
       match t,hx with
       |[],hx=>simp at hx
       |c::t,_=>simp
      omega
     ·simp only[hx,if_false] at h
      by_cases hm:b∈Xy
      ·simp only[hm,if_true,Prod.mk.injEq] at h;omega
      ·simp[hm] at h
theorem Adv: ∀{s:List UInt8} {k n m:Nat},A4 s=(k,n,0)→n≤m→A4 (s.take m)=(k,n,0)
 |[],k,n,m,h,_=>by simp[A4] at h
 |b::t,k,n,m,h,hm=>by
  have hlen:=Fk h
  obtain⟨m,rfl⟩: ∃m',m=m'+1:=⟨m-1,by omega⟩
  have hn: ∀t,A4 (b::t)=if Adq b=true then(0,Pv (b::t)) else if Bj b=true then(1,Adw (b::t)) else if b=34 then(2,Aes (b::t)) else(3,Acc (b::t)):=fun _=>rfl
  rw[List.take_succ_cons,hn]
  rw[hn] at h
  have htk:b::t.take m=(b::t).take (m+1):=rfl
  by_cases h1:Adq b=true
  ·rw[if_pos h1] at h⊢
   rw[htk]
   unfold Pv at h⊢
   rw[K7]
   split at h
   ·simp at h
   ·rename_i hw
    simp only[Prod.mk.injEq] at h
    have:min (Ak Aey (b::t)) (m+1)=Ak Aey (b::t):=by omega
    rw[this,if_neg hw]
    simp[h.1,h.2]
  ·rw[if_neg h1] at h⊢
   by_cases h2:Bj b=true
   ·rw[if_pos h2] at h⊢
    rw[htk]
    generalize hs:b::t=s at h hlen⊢
    have hhead:(s.take (m+1)).head?=s.head?:=by rw[←hs];rfl
    unfold Adw at h⊢
    rw[K7,hhead]
    split at h
    ·simp at h
    ·rename_i hno
     have hdm:Ak Bj s≤m+1:=by
      split at h<;>(simp only[Prod.mk.injEq] at h;omega)
     have hmin:min (Ak Bj s) (m+1)=Ak Bj s:=by omega
     have hmore:D9 ((s.take (m+1)).drop (Ak Bj s))=D9 (s.drop (Ak Bj s)):=by
      rw[List.drop_take]
      generalize hr:s.drop (Ak Bj s)=r at h
      by_cases hz:0<D9 r
      ·rw[if_pos hz] at h
       simp only[Prod.mk.injEq] at h
       unfold D9 at h hz⊢
       match r,h,hz with
       |[],h,hz=>simp at hz
       |[x],h,hz=>simp at hz
       |x::y::u,h,hz=>
        simp only at h hz
        by_cases hx:x=46
        ·rw[if_pos hx] at h hz
         obtain⟨q,hq⟩: ∃q,m+1-Ak Bj s=q+2:=⟨m+1-Ak Bj s-2,by omega⟩
         rw[hq,List.take_succ_cons,List.take_succ_cons]
         simp only
         rw[if_pos hx,if_pos hx,←List.take_succ_cons,K7]
         omega
        ·rw[if_neg hx] at hz;omega
      ·have h0:D9 r=0:=by omega
       rw[h0]
       unfold D9 at h0⊢
       match r,h0 with
       |[],_=>simp
       |[x],_=>cases m+1-Ak Bj s<;>simp
       |x::y::u,h0=>
        simp only at h0
        match m+1-Ak Bj s with
        |0=>rfl
        |1=>rfl
        |q+2=>
         rw[List.take_succ_cons,List.take_succ_cons]
         simp only
         by_cases hx:x=46
         ·rw[if_pos hx] at h0⊢
          rw[←List.take_succ_cons,K7]
          omega
         ·rw[if_neg hx]
     rw[hmin,hmore,if_neg hno]
     exact h
   ·rw[if_neg h2] at h⊢
    by_cases h3:b=34
    ·rw[if_pos h3] at h⊢
     unfold Aes at h⊢
     simp only[List.drop_succ_cons,List.drop_zero] at h⊢
     have hq:=C8 D1 t
     split at h
     ·simp at h
     ·rename_i hne
      split at h
      ·simp at h
      ·rename_i hno
       simp only[Prod.mk.injEq] at h
       have hmin:min (Ak D1 t) m=Ak D1 t:=by omega
       rw[K7,hmin,List.length_take,List.take_take,hmin,if_neg (by omega),if_neg hno]
       obtain⟨rfl,rfl,_⟩:=h
       rfl
    ·rw[if_neg h3] at h⊢
     rw[htk]
     unfold Acc at h⊢
     rw[List.take_take]
     by_cases hx:(b::t).take 2=[60,61]∨(b::t).take 2=[62,61]∨(b::t).take 2=[46,46]
     ·simp only[hx,if_true,Prod.mk.injEq] at h
      have:min 2 (m+1)=2:=by omega
      rw[this]
      simp only[hx,if_true]
      simp[h.1,h.2]
     ·simp only[hx,if_false] at h
      have hy: ¬((b::t).take (min 2 (m+1))=[60,61]∨(b::t).take (min 2 (m+1))=[62,61]∨(b::t).take (min 2 (m+1))=[46,46]):=by
       by_cases hm2:1≤m
       ·rw[Nat.min_eq_left (by omega)];exact hx
       ·have:min 2 (m+1)=1:=by omega
        rw[this]
        simp
      simp only[hy,if_false,List.take_succ_cons]
      exact h
def Jy:Nat→List UInt8→Nat→Nat→List (Nat×Nat×Nat)⊕(Nat×Nat)
 |0,_,_,_=> .inl []
 |f+1,rest,at_,k=>
  if rest=[] then .inl []
  else if (A4 rest).2.2≠0 then .inr (at_,(A4 rest).2.2)
  else if k=1500 then .inr (at_,6)
  else match Jy f ((rest.drop (A4 rest).2.1).drop (Az false (rest.drop (A4 rest).2.1))) (at_+(A4 rest).2.1+Az false (rest.drop (A4 rest).2.1)) (k+1) with
   | .inl l=> .inl ((at_,(A4 rest).1,(A4 rest).2.1)::l)
   | .inr e=> .inr e
def Ach(text:List UInt8)(x:Nat×Nat×Nat):Ac:=⟨(x.2.1:Int),(plS (text.take x.1)).1,(plS (text.take x.1)).2,(text.drop x.1).take x.2.2⟩
def Abk(text:List UInt8):List (Nat×Nat×Nat)⊕(Nat×Nat):=Jy (text.length+1) (text.drop (Az false text)) (Az false text) 0
theorem Bbh{text:List UInt8}(hl:text.length≤8000): ∀(f at_:Nat) (row:List Ac),at_≤text.length→text.length-at_<f→row.length≤1500→
  Bf (fun(qj3:Int×(List Ac))=>match qj3 with
   |(at_4,row5)=>(
    if (decide (at_4<(text.length:Int)))=true then
     (slO text at_4 (text.length:Int)).bind fun x6=>
     (Th x6).bind fun x7=>
     if (x7.2.2 !=0)=true then
      some (.inr (.inr (([]:List Ac),at_4,x7.2.2)))
     else
      if ((row5.length:Int)==1500)=true then
       some (.inr (.inr (([]:List Ac),at_4,6)))
      else
       (slO text 0 at_4).bind fun x8=>
       (N9 x8).bind fun x9=>
       (slO text at_4 (IntKind.wrap .i64 (at_4+x7.2.1))).bind fun x10=>
       (apO 40 row5 [(⟨x7.1,x9.1,x9.2,x10⟩:Ac)]).bind fun x11=>
       (slO text (IntKind.wrap .i64 (at_4+x7.2.1)) (text.length:Int)).bind fun x12=>
       (Ti x12).bind fun x13=>
       some (.inl (IntKind.wrap .i64 ((IntKind.wrap .i64 (at_4+x7.2.1))+x13),x11))
    else
     some (.inr (.inl row5)):Option ((Int×(List Ac))⊕((List Ac)⊕((List Ac)×Int×Int))))) ((at_:Int),row)
   =some (match Jy f (text.drop at_) at_ row.length with| .inl l=> .inl (row++l.map (Ach text))| .inr e=> .inr ([],(e.1:Int),(e.2:Int))):=by
 intro f
 induction f with
 |zero=>intro at_ row h1 h2;omega
 |succ f ih=>
  intro at_ row h1 h2 h3
  by_cases he:at_=text.length
  ·subst he
   rw[A7 (o:= .inl row)]
   ·simp[Jy]
   ·have:decide (((text.length:Nat):Int)<(text.length:Int))=false:=by simp
    simp only[this,Bool.false_eq_true,if_false]
  ·have hlt:at_<text.length:=by omega
   have hd:decide ((at_:Int)<(text.length:Int))=true:=by simp;omega
   have hrest:text.drop at_≠[]:=by simp;omega
   obtain⟨b,t,hbt⟩: ∃b t,text.drop at_=b::t:=by
    cases hx:text.drop at_ with
    |nil=>exact absurd hx hrest
    |cons b t=>exact⟨b,t,rfl⟩
   have hlr:(b::t).length=text.length-at_:=by rw[←hbt,List.length_drop]
   have hnext:=A77 (b:=b) (t:=t) (by omega)
   rw[←hbt] at hnext
   have hs1:=Mm (l:=text) (n:=at_) h1
   have hs2:=Abc (l:=text) (n:=at_) h1
   rw[Jy,if_neg hrest]
   generalize hnx:A4 (text.drop at_)=nx at hnext
   obtain⟨k,n,e⟩:=nx
   simp only[trI] at hnext
   by_cases hee:e=0
   ·subst hee
    obtain⟨hn1,hn2⟩:=Fk hnx
    rw[List.length_drop] at hn2
    simp only[ne_eq,not_true_eq_false,if_false]
    by_cases hfull:row.length=1500
    ·rw[if_pos hfull,A7 (o:= .inr ([],(at_:Int),6))]
     ·rfl
     ·have:((row.length:Int)==1500)=true:=by simp[hfull]
      simp only[hd,if_true,hs1,hnext,Option.bind_some,Int.natCast_zero,bne_self_eq_false,Bool.false_eq_true,if_false,this]
    ·rw[if_neg hfull]
     have e1:IntKind.wrap .i64 ((at_:Int)+(n:Int))=((at_+n:Nat):Int):=by rw[wrap64 (by omega) (by omega)];omega
     have hs3:=A8l (l:=text) (a:=at_) (b:=at_+n) (by omega) (by omega)
     have hs4:=Mm (l:=text) (n:=at_+n) (by omega)
     have hdd:text.drop (at_+n)=(text.drop at_).drop n:=by rw[List.drop_drop]
     have hsk:=Iq false ((text.drop at_).drop n)
     rw[List.length_drop,List.length_drop] at hsk
     have hskip:=A8k (s:=(text.drop at_).drop n) (by rw[List.length_drop,List.length_drop];omega)
     have e2:IntKind.wrap .i64 (((at_+n:Nat):Int)+(Az false ((text.drop at_).drop n):Int))=((at_+n+Az false ((text.drop at_).drop n):Nat):Int):=by rw[wrap64 (by omega) (by omega)];omega
     have hpl:=A0u (s:=text.take at_) (by simp;omega)
     have hap: ∀x:Ac,apO 40 row [x]=some (row++[x]):=fun x=>by
      unfold apO
      rw[if_pos (by simp;omega)]
     have hmid:(text.take (at_+n)).drop at_=(text.drop at_).take n:=by rw[List.drop_take];congr 1;omega
     have hlen:((row.length:Int)==1500)=false:=by simp;omega
     rw[Cf (s':=(((at_+n+Az false ((text.drop at_).drop n):Nat):Int),row++[Ach text (at_,k,n)])),ih (at_+n+Az false ((text.drop at_).drop n)) (row++[Ach text (at_,k,n)]) (by omega) (by omega) (by simp;omega)]
     ·have hdr:text.drop (at_+n+Az false ((text.drop at_).drop n))=((text.drop at_).drop n).drop (Az false ((text.drop at_).drop n)):=by
       rw[List.drop_drop,List.drop_drop]
      rw[hdr,List.length_append,List.length_singleton]
      cases Jy f (((text.drop at_).drop n).drop (Az false ((text.drop at_).drop n))) (at_+n+Az false ((text.drop at_).drop n)) (row.length+1) with
      |inl l=>simp
      |inr e=>rfl
     ·simp only[hd,if_true,hs1,hnext,Option.bind_some,Int.natCast_zero,bne_self_eq_false,Bool.false_eq_true,if_false,hlen,hs2,hpl,e1,hs3,hmid,hap,hs4,hdd,hskip,e2]
      rfl
   ·have hne:((e:Int)!=0)=true:=by simp;omega
    simp only[ne_eq,hee,not_false_eq_true,if_true]
    rw[A7 (o:= .inr ([],(at_:Int),(e:Int)))]
    simp only[hd,if_true,hs1,hnext,Option.bind_some,hne]
theorem Bg6{text:List UInt8}(hl:text.length≤8000):Vq text=some (match Abk text with| .inl l=>(l.map (Ach text),0,0)| .inr e=>([],(e.1:Int),(e.2:Int))):=by
 have hs:=Iq false text
 unfold Vq Abk
 have h1:decide ((text.length:Int)>8000)=false:=decide_eq_false (by omega)
 simp only[h1,Bool.false_eq_true,if_false,A8k (show text.length<4294967281 by omega),Option.bind_some]
 have:=Bbh hl (text.length+1) (Az false text) [] hs (by omega) (by simp)
 refine Cs this ?_
 simp only[List.length_nil]
 cases Jy (text.length+1) (text.drop (Az false text)) (Az false text) 0 with
 |inl l=>simp
 |inr e=>rfl
theorem Bbg{text:List UInt8}(hl:8000<text.length):Vq text=some ([],0,4):=by
 unfold Vq
 have h1:decide ((text.length:Int)>8000)=true:=decide_eq_true (by omega)
 simp only[h1,if_true]
end Go.Av.G
end
section
set_option maxRecDepth 4000
set_option maxHeartbeats 4000000
namespace Go.Av.G
open Go Go.Av Go.Proofs
theorem Afl: ∀(f:Nat) (rest:List UInt8) (at_ k p e:Nat),Jy f rest at_ k= .inr (p,e)→e≠0∧at_≤p∧p<at_+rest.length
 |0,rest,at_,k,p,e,h=>by simp[Jy] at h
 |f+1,rest,at_,k,p,e,h=>by
  rw[Jy] at h
  by_cases h0:rest=[]
  ·rw[if_pos h0] at h;cases h
  ·rw[if_neg h0] at h
   have hpos:0<rest.length:=List.length_pos_iff.2 h0
   by_cases h1:(A4 rest).2.2=0
   ·rw[if_neg (not_not_intro h1)] at h
    obtain⟨hn1,hn2⟩:=Fk (s:=rest) (k:=(A4 rest).1) (n:=(A4 rest).2.1) (by rw[←h1])
    by_cases h2:k=1500
    ·rw[if_pos h2] at h
     cases h
     exact⟨by omega,by omega,by omega⟩
    ·rw[if_neg h2] at h
     have hsk:=Iq false (rest.drop (A4 rest).2.1)
     have hl1:(rest.drop (A4 rest).2.1).length=rest.length-(A4 rest).2.1:=List.length_drop ..
     have hl2:((rest.drop (A4 rest).2.1).drop (Az false (rest.drop (A4 rest).2.1))).length=(rest.drop (A4 rest).2.1).length-Az false (rest.drop (A4 rest).2.1):=List.length_drop ..
     split at h
     ·cases h
     ·rename_i e' hr
      cases h
      obtain⟨a1,a2,a3⟩:=Afl f _ _ _ _ _ hr
      exact⟨a1,by omega,by omega⟩
   ·rw[if_pos h1] at h
    cases h
    exact⟨h1,Nat.le_refl _,by omega⟩
theorem Amb: ∀(f:Nat) (rest:List UInt8) (at_ k p e:Nat),Jy f rest at_ k= .inr (p,e)→ ∀f',p-at_<f'→ ∃l,Jy f' (rest.take (p-at_)) at_ k= .inl l
 |0,rest,at_,k,p,e,h,f',hf=>by simp[Jy] at h
 |f+1,rest,at_,k,p,e,h,0,hf=>by omega
 |f+1,rest,at_,k,p,e,h,f'+1,hf=>by
  have hb:=Afl _ _ _ _ _ _ h
  rw[Jy] at h
  by_cases h0:rest=[]
  ·rw[if_pos h0] at h;cases h
  ·rw[if_neg h0] at h
   by_cases h1:(A4 rest).2.2=0
   ·rw[if_neg (not_not_intro h1)] at h
    have hnx:A4 rest=((A4 rest).1,(A4 rest).2.1,0):=by rw[←h1]
    by_cases h2:k=1500
    ·rw[if_pos h2] at h
     cases h
     exact⟨[],by simp[Jy]⟩
    ·rw[if_neg h2] at h
     split at h
     ·cases h
     ·rename_i e' hr
      cases h
      obtain⟨a1,a2,a3⟩:=Afl f _ _ _ _ _ hr
      obtain⟨hn1,hn2⟩:=Fk hnx
      have htk:=Adv (m:=p-at_) hnx (by omega)
      have hne:rest.take (p-at_)≠[]:=by
       intro q
       have:=congrArg List.length q
       rw[List.length_take] at this
       simp only[List.length_nil] at this
       omega
      rw[Jy,if_neg hne,htk]
      simp only[ne_eq,not_true_eq_false,if_false,if_neg h2]
      have hdt:(rest.take (p-at_)).drop (A4 rest).2.1=(rest.drop (A4 rest).2.1).take (p-at_-(A4 rest).2.1):=List.drop_take ..
      have hsk:Az false ((rest.take (p-at_)).drop (A4 rest).2.1)=Az false (rest.drop (A4 rest).2.1):=by
       rw[hdt,K4];omega
      obtain⟨l,hl⟩:=Amb f _ _ _ _ _ hr f' (by omega)
      have hdd:((rest.take (p-at_)).drop (A4 rest).2.1).drop (Az false (rest.drop (A4 rest).2.1))=((rest.drop (A4 rest).2.1).drop (Az false (rest.drop (A4 rest).2.1))).take (p-(at_+(A4 rest).2.1+Az false (rest.drop (A4 rest).2.1))):=by
       rw[hdt,List.drop_take]
       congr 1
       omega
      rw[hsk,hdd,hl]
      exact⟨_,rfl⟩
   ·rw[if_pos h1] at h
    cases h
    exact⟨[],by simp[Jy]⟩
theorem Beu{text:List UInt8}{p e:Nat}(h:Abk text= .inr (p,e)):e≠0∧p<text.length∧ ∃l,Abk (text.take p)= .inl l:=by
 unfold Abk at h
 have hs:=Iq false text
 obtain⟨h1,h2,h3⟩:=Afl _ _ _ _ _ _ h
 rw[List.length_drop] at h3
 refine⟨h1,by omega,?_⟩
 have hlen:(text.take p).length=p:=by rw[List.length_take];omega
 obtain⟨l,hl⟩:=Amb _ _ _ _ _ _ h (p+1) (by omega)
 refine⟨l,?_⟩
 unfold Abk
 have hsk:Az false (text.take p)=Az false text:=by rw[K4];omega
 rw[hsk,hlen,List.drop_take]
 exact hl
theorem Bij{α:Type}(l:List α)(a b c:Nat):((l.drop a).drop b).drop c=l.drop (a+b+c):=by
 rw[List.drop_drop,List.drop_drop,Nat.add_assoc]
def Acj(text:List UInt8):Nat→List (Nat×Nat×Nat)→Prop
 |_,[]=>True
 |at_,x::l=>at_≤x.1∧x.1<text.length∧A4 (text.drop x.1)=(x.2.1,x.2.2,0)∧Acj text (x.1+x.2.2) l
theorem Acj.ahead{text:List UInt8}{a b:Nat}(hab:a≤b): ∀{l:List (Nat×Nat×Nat)},Acj text b l→Acj text a l
 |[],_=>trivial
 |x::l,h=>⟨Nat.le_trans hab h.1,h.2⟩
theorem Ama{text:List UInt8}: ∀(f at_ k:Nat) (l:List (Nat×Nat×Nat)),Jy f (text.drop at_) at_ k= .inl l→Acj text at_ l
 |0,at_,k,l,h=>by simp[Jy] at h;subst h;trivial
 |f+1,at_,k,l,h=>by
  rw[Jy] at h
  by_cases h0:text.drop at_=[]
  ·rw[if_pos h0] at h;cases h;trivial
  ·rw[if_neg h0] at h
   have hpos:0<(text.drop at_).length:=List.length_pos_iff.2 h0
   rw[List.length_drop] at hpos
   by_cases h1:(A4 (text.drop at_)).2.2=0
   ·rw[if_neg (not_not_intro h1)] at h
    have hnx:A4 (text.drop at_)=((A4 (text.drop at_)).1,(A4 (text.drop at_)).2.1,0):=by rw[←h1]
    by_cases h2:k=1500
    ·rw[if_pos h2] at h;cases h
    ·rw[if_neg h2] at h
     split at h
     ·rename_i l' hr
      cases h
      have hdr:((text.drop at_).drop (A4 (text.drop at_)).2.1).drop (Az false ((text.drop at_).drop (A4 (text.drop at_)).2.1))=text.drop (at_+(A4 (text.drop at_)).2.1+Az false ((text.drop at_).drop (A4 (text.drop at_)).2.1)):=Bij _ _ _ _
      rw[hdr] at hr
      exact⟨Nat.le_refl _,by omega,hnx,Acj.ahead (Nat.le_add_right _ _) (Ama f _ _ _ hr)⟩
     ·cases h
   ·rw[if_pos h1] at h;cases h
end Go.Av.G
end
section
set_option maxRecDepth 4000
set_option maxHeartbeats 4000000
namespace Go.Av.G
open Go Go.Av Go.Proofs
def okT(t:Ac):Bool:=decide (((A4 t.Ag).1:Int)=t.Ad∧(A4 t.Ag).2.1=t.Ag.length∧(A4 t.Ag).2.2=0)
theorem Amv{t:Ac}(h:okT t=true): ∃k:Nat,t.Ad=(k:Int)∧A4 t.Ag=(k,t.Ag.length,0):=by
 obtain⟨h1,h2,h3⟩:=of_decide_eq_true h
 exact⟨(A4 t.Ag).1,h1.symm,by rw[←h2,←h3]⟩
theorem Ay1{t:Ac}(hl:t.Ag.length<4294967281):Tg t=some (okT t):=by
 unfold Tg okT
 cases ht:t.Ag with
 |nil=>
  have e0:(([]:List UInt8)==[])=true:=rfl
  rw[if_pos e0]
  simp[A4]
 |cons b u=>
  rw[ht] at hl
  have he:((b::u:List UInt8)==[])=false:=rfl
  simp only[he,Bool.false_eq_true,if_false,A77 hl,trI,Option.bind_some,Option.some.injEq]
  rw[Bool.eq_iff_iff]
  simp only[Bool.and_eq_true,beq_iff_eq,decide_eq_true_eq]
  constructor
  ·rintro⟨⟨h1,h2⟩,h3⟩
   exact⟨h2,by omega,by omega⟩
  ·rintro⟨h1,h2,h3⟩
   exact⟨⟨by omega,h1⟩,by omega⟩
def jn(l:List Ac):List UInt8:=Lib.join (l.map (fun t=>t.Ag)) [32]
theorem Al6(t:Ac):jn [t]=t.Ag:=by simp[jn,Lib.join,List.intercalate]
theorem Avg(t u:Ac)(l:List Ac):jn (t::u::l)=t.Ag++32::jn (u::l):=by simp[jn,Lib.join,List.intercalate]
def A20(l:List Ac):Nat:=(l.map fun t=>t.Ag.length).sum
theorem K5{q:UInt8→Bool}{u:List UInt8}(hq: ∀b v,u=b::v→q b=false): ∀s:List UInt8,Ak q (s++u)=Ak q s
 |[]=>by
  match u,hq with
  |[],_=>rfl
  |b::v,hq=>rw[List.nil_append,B9,hq b v rfl];rfl
 |b::t=>by rw[List.cons_append,B9,B9,K5 hq t]
theorem Xk{q:UInt8→Bool}{u:List UInt8}: ∀s:List UInt8,Ak q s<s.length→Ak q (s++u)=Ak q s
 |[],h=>by simp at h
 |b::t,h=>by
  rw[B9,List.length_cons] at h
  rw[List.cons_append,B9,B9]
  split
  ·rename_i hb
   rw[if_pos hb] at h
   rw[Xk t (by omega)]
  ·rfl
theorem Atv{T u:List UInt8}{k:Nat}(h:A4 T=(k,T.length,0)):A4 (T++32::u)=(k,T.length,0):=by
 cases T with
 |nil=>simp[A4] at h
 |cons b t=>
  have hn: ∀t,A4 (b::t)=if Adq b=true then(0,Pv (b::t)) else if Bj b=true then(1,Adw (b::t)) else if b=34 then(2,Aes (b::t)) else(3,Acc (b::t)):=fun _=>rfl
  rw[List.cons_append,hn]
  rw[hn] at h
  have hc:b::(t++32::u)=(b::t)++32::u:=rfl
  by_cases h1:Adq b=true
  ·rw[if_pos h1] at h⊢
   rw[hc]
   unfold Pv at h⊢
   rw[K5 (fun b v e=>by cases e;rfl)]
   exact h
  ·rw[if_neg h1] at h⊢
   by_cases h2:Bj b=true
   ·rw[if_pos h2] at h⊢
    rw[hc]
    have hspan:Ak Bj ((b::t)++32::u)=Ak Bj (b::t):=K5 (fun b v e=>by cases e;rfl) _
    have hle:=C8 Bj (b::t)
    have hdrop:((b::t)++32::u).drop (Ak Bj (b::t))=(b::t).drop (Ak Bj (b::t))++32::u:=by
     rw[List.drop_append,Nat.sub_eq_zero_of_le hle,List.drop_zero]
    have hmore:D9 ((b::t).drop (Ak Bj (b::t))++32::u)=D9 ((b::t).drop (Ak Bj (b::t))):=by
     unfold Adw at h
     split at h
     ·simp at h
     ·split at h
      ·rename_i hz
       unfold D9 at hz⊢
       match (b::t).drop (Ak Bj (b::t)),hz with
       |[],hz=>simp at hz
       |[x],hz=>simp at hz
       |x::y::v,hz=>
        simp only[List.cons_append]
        rw[←List.cons_append,K5 (fun b v e=>by cases e;rfl)]
      ·simp only[Prod.mk.injEq] at h
       have:(b::t).drop (Ak Bj (b::t))=[]:=List.drop_eq_nil_of_le (by omega)
       rw[this]
       cases u<;>rfl
    have hh:((b::t)++32::u).head?=(b::t).head?:=rfl
    unfold Adw at h⊢
    rw[hspan,hdrop,hmore,hh]
    exact h
   ·rw[if_neg h2] at h⊢
    by_cases h3:b=34
    ·rw[if_pos h3] at h⊢
     unfold Aes at h⊢
     simp only[List.drop_succ_cons,List.drop_zero,List.length_cons] at h⊢
     have hq:=C8 D1 t
     split at h
     ·simp at h
     ·rename_i hne
      have hs:Ak D1 (t++32::u)=Ak D1 t:=Xk _ (by omega)
      rw[hs,if_neg (by rw[List.length_append,List.length_cons];omega),List.take_append_of_le_length hq]
      exact h
    ·rw[if_neg h3] at h⊢
     unfold Acc at h⊢
     match t,h with
     |[],h=>
      simp only[List.nil_append]
      have h0: ¬(([b]:List UInt8).take 2=[60,61]∨([b]:List UInt8).take 2=[62,61]∨([b]:List UInt8).take 2=[46,46]):=by simp
      have h4: ¬((b::32::u).take 2=[60,61]∨(b::32::u).take 2=[62,61]∨(b::32::u).take 2=[46,46]):=by
       simp only[List.take_succ_cons,List.take_zero]
       rintro(h|h|h)<;>simp at h
      simp only[h0,if_false] at h
      simp only[h4,if_false]
      exact h
     |c::t,h=>
      have ht:(b::((c::t)++32::u)).take 2=(b::c::t).take 2:=rfl
      simp only[ht]
      by_cases hx:(b::c::t).take 2=[60,61]∨(b::c::t).take 2=[62,61]∨(b::c::t).take 2=[46,46]
      ·simp only[hx,if_true] at h⊢
       exact h
      ·simp only[hx,if_false] at h⊢
       exact h
theorem A4x{s:List UInt8}{k n:Nat}(h:A4 s=(k,n,0)):Az false s=0:=by
 cases s with
 |nil=>rfl
 |cons b t=>
  have hn:A4 (b::t)=if Adq b=true then(0,Pv (b::t)) else if Bj b=true then(1,Adw (b::t)) else if b=34 then(2,Aes (b::t)) else(3,Acc (b::t)):=rfl
  rw[hn] at h
  have hb:Rb b=false∧b≠35:=by
   by_cases h1:Adq b=true
   ·have:=of_decide_eq_true h1
    refine⟨?_,fun e=>by subst e;revert h1;decide⟩
    rw[Bool.eq_false_iff]
    intro hb
    unfold Rb at hb
    simp only[Bool.or_eq_true,beq_iff_eq] at hb
    rcases hb with(rfl|rfl)|rfl<;>revert h1<;>decide
   ·rw[if_neg h1] at h
    by_cases h2:Bj b=true
    ·refine⟨?_,fun e=>by subst e;revert h2;decide⟩
     rw[Bool.eq_false_iff]
     intro hb
     unfold Rb at hb
     simp only[Bool.or_eq_true,beq_iff_eq] at hb
     rcases hb with(rfl|rfl)|rfl<;>revert h2<;>decide
    ·rw[if_neg h2] at h
     by_cases h3:b=34
     ·subst h3;exact⟨by decide,by decide⟩
     ·rw[if_neg h3] at h
      unfold Acc at h
      by_cases hx:(b::t).take 2=[60,61]∨(b::t).take 2=[62,61]∨(b::t).take 2=[46,46]
      ·have hbv:b=60∨b=62∨b=46:=by
        match t,hx with
        |[],hx=>simp at hx
        |c::t,hx=>
         simp only[List.take_succ_cons,List.take_zero,List.cons.injEq] at hx
         rcases hx with h|h|h
         ·exact .inl h.1
         ·exact .inr (.inl h.1)
         ·exact .inr (.inr h.1)
       rcases hbv with rfl|rfl|rfl<;>exact⟨by decide,by decide⟩
      ·simp only[hx,if_false] at h
       by_cases hm:b∈Xy
       ·refine⟨?_,fun e=>by subst e;revert hm;decide⟩
        rw[Bool.eq_false_iff]
        intro hb
        unfold Rb at hb
        simp only[Bool.or_eq_true,beq_iff_eq] at hb
        rcases hb with(rfl|rfl)|rfl<;>revert hm<;>decide
       ·simp[hm] at h
  rw[Az,if_neg (by simp[hb.1]),if_neg hb.2]
theorem Be9{t:Ac}{l:List Ac}(hk:okT t=true):A4 (jn (t::l))=((A4 t.Ag).1,t.Ag.length,0):=by
 obtain⟨k,_,h⟩:=Amv hk
 rw[h]
 cases l with
 |nil=>rw[Al6,h]
 |cons u l=>rw[Avg];exact Atv h
def Aqb(t:Ac):Int×List UInt8:=(t.Ad,t.Ag)
end Go.Av.G
end
section
set_option maxRecDepth 4000
set_option maxHeartbeats 4000000
namespace Go.Av.G
open Go Go.Av Go.Proofs
theorem Bdy{l:List Ac}{t:Ac}(h:t∈l):t.Ag.length≤A20 l:=by
 induction l with
 |nil=>cases h
 |cons u l ih=>
  simp only[A20,List.map_cons,List.sum_cons]
  rcases List.mem_cons.1 h with rfl|h
  ·omega
  ·have:=ih h
   unfold A20 at this
   omega
theorem Acj.toks{text:List UInt8}: ∀{l:List (Nat×Nat×Nat)} {at_:Nat},Acj text at_ l→at_≤text.length→l.length+at_≤text.length∧A20 (l.map (Ach text))+at_≤text.length∧ ∀t∈l.map (Ach text),okT t=true
 |[],at_,_,h=>by simp[A20];omega
 |x::l,at_,hc,h=>by
  obtain⟨c1,c2,c3,c4⟩:=hc
  obtain⟨n1,n2⟩:=Fk c3
  rw[List.length_drop] at n2
  obtain⟨i1,i2,i3⟩:=Acj.toks c4 (by omega)
  have htl:(Ach text x).Ag.length=x.2.2:=by
   show((text.drop x.1).take x.2.2).length=_
   rw[List.length_take,List.length_drop];omega
  refine⟨by simp only[List.length_cons];omega,?_,?_⟩
  ·unfold A20 at i2⊢
   simp only[List.map_cons,List.sum_cons,htl]
   omega
  ·intro t ht
   rw[List.map_cons,List.mem_cons] at ht
   rcases ht with rfl|ht
   ·have h3:=Adv (m:=x.2.2) c3 (Nat.le_refl _)
    unfold okT
    refine decide_eq_true ?_
    rw[htl]
    have hT:(Ach text x).Ag=(text.drop x.1).take x.2.2:=rfl
    rw[hT,h3]
    exact⟨rfl,rfl,rfl⟩
   ·exact i3 t ht
theorem Bbj{text:List UInt8}(hl:text.length≤8000){l:List (Nat×Nat×Nat)}(h:Abk text= .inl l):l.length≤text.length∧A20 (l.map (Ach text))≤text.length∧ ∀t∈l.map (Ach text),okT t=true:=by
 have hch:Acj text 0 l:=by
  unfold Abk at h
  exact(Ama _ _ _ _ h).ahead (Nat.zero_le _)
 have:=hch.toks (Nat.zero_le _)
 exact⟨by omega,by omega,this.2.2⟩
end Go.Av.G
end
section
set_option maxRecDepth 4000
set_option maxHeartbeats 4000000
namespace Go.Av.G
open Go Go.Av Go.Proofs
end Go.Av.G
end
section
set_option maxRecDepth 4000
set_option maxHeartbeats 4000000
namespace Go.Av.G
open Go Go.Av Go.Proofs
end Go.Av.G
end
section
set_option maxRecDepth 4000
set_option maxHeartbeats 4000000
namespace Go.Av.G
open Go Go.Av Go.Proofs
end Go.Av.G
end
section
set_option maxRecDepth 4000
set_option maxHeartbeats 4000000
namespace Go.Av.G
open Go Go.Av Go.Proofs
end Go.Av.G
end
section
set_option maxRecDepth 4000
set_option maxHeartbeats 4000000
namespace Go.Av.G
open Go Go.Av Go.Proofs
def Sz(r:Rs (List Nd))(n:Nat):Prop:= ∀a,r.1=some a→a.length+r.2.length≤n
theorem A71{N:Nat}(hr: ∀ts' k,ts'.length<N→Sz (CL ts' k) ts'.length)(n:Nat): ∀(f:Nat) (out:List Nd) (own:Nat) (ts:List Tk),ts.length≤N→ ∀x j,Br CL n f out own ts=(some x,j)→x.1.length+j.length≤out.length+ts.length
 |f,out,own,[],_,x,j,h=>by
  have:Br CL n f out own []=(some (out,own),[]):=by cases f<;>rfl
  rw[this] at h;cases h;exact Nat.le_refl _
 |0,out,own,t::r,_,x,j,h=>by
  rw[Br] at h;cases h;exact Nat.le_refl _
 |f+1,out,own,t::r,hN,x,j,h=>by
  simp only[List.length_cons] at hN⊢
  by_cases hs:(Bc t).2=0∨(Bc t).2<n∨own<Vw (Bc t).2
  ·rw[Cy hs] at h;cases h;exact Nat.le_refl _
  ·rw[Fa hs] at h
   have hl:=(E7 r ((Bc t).2+1)).length_le
   have hz:=hr r ((Bc t).2+1) (by omega)
   cases hc:CL r ((Bc t).2+1) with
   |mk o i=>
    rw[hc] at h hl hz
    cases o with
    |none=>cases h
    |some b=>
     have h1:=hz b rfl
     simp only at hl h1
     have:=A71 hr n f _ _ i (by omega) x j h
     simp at this
     omega
theorem D0{s:By}{ts:List Tk}(h:isT s ts=true): ∃t r,ts=t::r∧t.Ad≠2∧t.Ag=s:=by
 cases ts with
 |nil=>cases h
 |cons t r=>exact⟨t,r,rfl,of_decide_eq_true h⟩
theorem Bx{α β:Type}{r:Rs α}{k:α→List Tk→Rs β}{b:β}{j:List Tk}(h:bnd r k=(some b,j)): ∃a i,r=(some a,i)∧k a i=(some b,j):=by
 obtain⟨o,i⟩:=r
 cases o with
 |none=>cases h
 |some a=>exact⟨a,i,rfl,h⟩
theorem Dw{β:Type}{s:By}{ts:List Tk}{k:List Tk→Rs β}{b:β}{j:List Tk}(h:Gs s ts k=(some b,j)): ∃t r,ts=t::r∧t.Ad≠2∧t.Ag=s∧k r=(some b,j):=by
 unfold Gs at h
 split at h
 ·obtain⟨t,r,rfl,h1,h2⟩:=D0 (by assumption)
  exact⟨t,r,rfl,h1,h2,h⟩
 ·cases h
theorem Bic: ∀(N:Nat) (ts:List Tk) (n:Nat),ts.length≤N→Sz (CL ts n) ts.length:=by
 intro N
 induction N with
 |zero=>
  intro ts n h
  obtain rfl:ts=[]:=List.eq_nil_of_length_eq_zero (by omega)
  rw[Bav]
  intro a ha;cases ha
 |succ N ih=>
  intro ts n hN
  have hp: ∀a i,Co CL ts=(some a,i)→a.length+i.length≤ts.length:=by
   intro a i h
   cases ts with
   |nil=>cases h
   |cons t r=>
    simp only[List.length_cons] at hN⊢
    unfold Co at h
    simp only at h
    split at h
    ·obtain⟨a1,i1,h1,h2⟩:=Bx h
     obtain⟨t1,r1,rfl,_,_,h3⟩:=Dw h2
     cases h3
     have:=ih r 0 (by omega) _ (by rw[h1])
     rw[h1] at this
     simp at this
     omega
    ·split at h
     ·obtain⟨t1,r1,rfl,_,_,h3⟩:=Dw h
      obtain⟨a1,i1,h1,h2⟩:=Bx h3
      obtain⟨t2,r2,rfl,_,_,h4⟩:=Dw h2
      obtain⟨a2,i2,h5,h6⟩:=Bx h4
      obtain⟨t3,r3,rfl,_,_,h7⟩:=Dw h6
      cases h7
      simp only[List.length_cons] at hN⊢
      have e1:=ih r1 0 (by omega) _ (by rw[h1])
      rw[h1] at e1
      simp at e1
      have e2:=ih r2 0 (by omega) _ (by rw[h5])
      rw[h5] at e2
      simp at e2⊢
      omega
     ·split at h
      ·split at h
       ·obtain⟨t1,r1,rfl,_,_⟩:=D0 (by assumption)
        cases h;simp;omega
       ·cases h;simp;omega
      ·split at h
       ·cases h;simp;omega
       ·cases h
  have hf: ∀x i,Bp CL ts n=(some x,i)→x.1.length+i.length≤ts.length:=by
   intro x i h
   unfold Bp at h
   split at h
   ·obtain⟨t,r,rfl,_,_⟩:=D0 (And.right (by assumption))
    obtain⟨a1,i1,h1,h2⟩:=Bx h
    obtain⟨t1,r1,rfl,_,_,h3⟩:=Dw h2
    obtain⟨a2,i2,h4,h5⟩:=Bx h3
    obtain⟨t2,r2,rfl,_,_,h6⟩:=Dw h5
    obtain⟨a3,i3,h7,h8⟩:=Bx h6
    cases h8
    simp only[List.length_cons,List.tail_cons] at*
    have e1:=ih r 0 (by omega) _ (by rw[h1])
    rw[h1] at e1
    simp at e1
    have e2:=ih r1 0 (by omega) _ (by rw[h4])
    rw[h4] at e2
    simp at e2
    have e3:=ih r2 0 (by omega) _ (by rw[h7])
    rw[h7] at e3
    simp at e3⊢
    omega
   ·split at h
    ·obtain⟨t,r,rfl,_,_⟩:=D0 (And.right (by assumption))
     obtain⟨a1,i1,h1,h2⟩:=Bx h
     cases h2
     simp only[List.length_cons,List.tail_cons] at*
     have e1:=ih r 3 (by omega) _ (by rw[h1])
     rw[h1] at e1
     simp at e1⊢
     omega
    ·split at h
     ·obtain⟨t,r,rfl,_,_⟩:=D0 (by assumption)
      obtain⟨a1,i1,h1,h2⟩:=Bx h
      cases h2
      simp only[List.length_cons,List.tail_cons] at*
      have e1:=ih r 7 (by omega) _ (by rw[h1])
      rw[h1] at e1
      simp at e1⊢
      omega
     ·obtain⟨a1,i1,h1,h2⟩:=Bx h
      cases h2
      exact hp _ _ h1
  rw[Qo]
  intro a ha
  generalize hr:bnd (Bp CL ts n) (fun x i=>bnd (Br CL n i.length x.1 x.2 i) fun y j=>(some y.1,j))=res at ha
  obtain⟨o,j⟩:=res
  cases ha
  obtain⟨x,i,h1,h2⟩:=Bx hr
  obtain⟨y,j',h3,h4⟩:=Bx h2
  cases h4
  have e1:=hf x i h1
  have hlt:=Azr ts n (by rw[h1];simp)
  rw[h1] at hlt
  have e2:=A71 (N:=N) (fun ts' k hk=>ih ts' k (by omega)) n i.length x.1 x.2 i (by simp at hlt;omega) y j h3
  simp only at e1 e2⊢
  omega
theorem Ho{ts i:List Tk}{n:Nat}{a:List Nd}(h:CL ts n=(some a,i)):a.length+i.length≤ts.length:=by
 have:=Bic ts.length ts n (Nat.le_refl _) a (by rw[h])
 rw[h] at this
 exact this
def ps(l ts:List Tk):Int:=((l.length-ts.length:Nat):Int)
def RD(l ts:List Tk)(b:Bool):Ab:=⟨l,ps l ts,b⟩
theorem Bdr{l ts:List Tk}(h:ts <:+ l):l.drop (l.length-ts.length)=ts:=by
 obtain⟨p,rfl⟩:=h
 simp
theorem Ao8{l r:List Tk}{t:Tk}(h:t::r <:+ l):rdO l (ps l (t::r))=some t:=by
 have hd:=Bdr h
 have hle:=h.length_le
 unfold ps
 have hi:l.length-(t::r).length<l.length:=by simp at hle⊢;omega
 rw[Gm hi]
 have:=List.drop_eq_getElem_cons hi
 rw[hd] at this
 exact congrArg some (List.cons.inj this).1.symm
theorem At7{l ts:List Tk}(h:ts <:+ l):decide (ps l ts<(l.length:Int))= !ts.isEmpty:=by
 have hle:=h.length_le
 unfold ps
 cases ts with
 |nil=>simp
 |cons t r=>
  simp only[List.length_cons] at hle⊢
  simp
  omega
theorem Bgu{l ts:List Tk}(h:ts <:+ l):decide (ps l ts≥(l.length:Int))=ts.isEmpty:=by
 have:=At7 h
 cases ts with
 |nil=>
  simp only[List.isEmpty_nil,Bool.not_true,decide_eq_false_iff_not] at this
  simp only[List.isEmpty_nil,decide_eq_true_eq]
  omega
 |cons t r=>
  simp only[List.isEmpty_cons,Bool.not_false,decide_eq_true_eq] at this
  simp only[List.isEmpty_cons,decide_eq_false_iff_not]
  omega
theorem Agi{l r:List Tk}{t:Tk}(h:t::r <:+ l)(hl:l.length≤1000000):IntKind.wrap .i64 (ps l (t::r)+1)=ps l r:=by
 have hle:=h.length_le
 unfold ps
 simp only[List.length_cons] at hle⊢
 rw[wrap64 (by omega) (by omega)]
 omega
theorem A8d{l r:List Tk}{t:Tk}(h:t::r <:+ l)(hl:l.length≤1000000):IntKind.wrap .i64 (ps l r-1)=ps l (t::r):=by
 have hle:=h.length_le
 unfold ps
 simp only[List.length_cons] at hle⊢
 rw[wrap64 (by omega) (by omega)]
 omega
theorem Ip{l r:List Tk}{t:Tk}(h:t::r <:+ l):r <:+ l:=(List.suffix_cons t r).trans h
theorem Bct(k:Int)(x s:By):((k !=2)&&(x==s))=decide (k≠2∧x=s):=by
 by_cases h1:k=2<;>by_cases h2:x=s<;>simp[h1,h2]
theorem Atf{l ts:List Tk}(h:ts <:+ l)(s:By)(b:Bool):Bl s (RD l ts b)=some (!b&&isT s ts):=by
 unfold Bl RD
 simp only[Option.bind_some,At7 h]
 cases b with
 |true=>rfl
 |false=>
  cases ts with
  |nil=>rfl
  |cons t r=>
   rw[Ao8 h]
   simp only[List.isEmpty_cons,Bool.not_false,Bool.and_true,Bool.true_and,Bd,Option.bind_some,cond_true,Option.some.injEq,isT]
   rw[←Bct]
   cases (t.Ad !=2)<;>rfl
theorem Agw{l ts:List Tk}(h:ts <:+ l)(hl:l.length≤1000000)(s:By)(b:Bool):A8 s (RD l ts b)=some (if (!b&&isT s ts)=true then(true,RD l ts.tail b) else(false,RD l ts b)):=by
 unfold A8
 rw[Atf h]
 simp only[Option.bind_some]
 cases hc:(!b&&isT s ts) with
 |false=>simp
 |true=>
  simp only[Bool.and_eq_true] at hc
  obtain⟨t,r,rfl,_,_⟩:=D0 hc.2
  simp only[Bool.not_true,Bool.false_eq_true,if_false,if_true,Option.some.injEq,Prod.mk.injEq,true_and]
  unfold RD
  simp only[Agi h hl,List.tail_cons]
def Jt:List By→List Tk×Bool→List Tk×Bool
 |[],x=>x
 |s::ss,x=>if (!x.2&&isT s x.1)=true then Jt ss (x.1.tail,x.2) else(x.1,true)
theorem Att: ∀(L:List By) (x:List Tk×Bool),(Jt L x).1 <:+ x.1
 |[],x=>List.suffix_refl _
 |s::ss,x=>by
  rw[Jt]
  split
  ·exact(Att ss _).trans Pu
  ·exact List.suffix_refl _
theorem Aft{l ts:List Tk}(h:ts <:+ l)(hl:l.length≤1000000)(L:List By)(hL:L.length≤1000000)(b:Bool):Aj L (RD l ts b)=some (RD l (Jt L (ts,b)).1 (Jt L (ts,b)).2):=by
 unfold Aj
 have key: ∀(t pre:List By) (ts:List Tk) (b:Bool),L=pre++t→ts <:+ l→Bf (fun(qj3:Int×Ab)=>match qj3 with
  |(x4,r5)=>(
   if (decide (x4<(L.length:Int)))=true then
    (rdO L x4).bind fun x6=>
    (A8 x6 r5).bind fun x7=>
    if (!x7.1)=true then
     some (.inr (⟨x7.2.Hz,x7.2.Cl,true⟩:Ab))
    else
     some (.inl (IntKind.wrap .i64 (x4+1),x7.2))
   else
    some (.inr r5):Option ((Int×Ab)⊕Ab))) ((pre.length:Int),RD l ts b)=some (RD l (Jt t (ts,b)).1 (Jt t (ts,b)).2):=by
  intro t
  induction t with
  |nil=>
   intro pre ts b he hs
   refine A7 ?_
   subst he
   simp[Jt]
  |cons s t ih=>
   intro pre ts b he hs
   have hlen:pre.length<L.length:=by subst he;simp
   have hg:L[pre.length]=s:=by subst he;simp
   by_cases hc:(!b&&isT s ts)=true
   ·rw[Cf (s':=((((pre++[s]).length:Nat):Int),RD l ts.tail b)),ih (pre++[s]) ts.tail b (by simp[he]) (Pu.trans hs),Jt,if_pos hc]
    show(if _ then _ else _)=_
    rw[if_pos (by simp;omega),Gm hlen,hg]
    simp only[Option.bind_some]
    rw[Agw hs hl,if_pos hc]
    simp only[Option.bind_some,Bool.not_true,Bool.false_eq_true,if_false,List.length_append,List.length_cons,List.length_nil,Option.some.injEq,Sum.inl.injEq,Prod.mk.injEq,and_true]
    rw[wrap64 (by omega) (by omega)]
    omega
   ·rw[Jt,if_neg hc]
    refine A7 ?_
    show(if _ then _ else _)=_
    rw[if_pos (by simp;omega),Gm hlen,hg]
    simp only[Option.bind_some]
    rw[Agw hs hl,if_neg hc]
    rfl
 exact key L [] ts b rfl h
theorem Zf{s:By}{ss:List By}{ts:List Tk}:Jt (s::ss) (ts,true)=(ts,true):=by simp[Jt]
theorem Afu{s:By}{ts:List Tk}:Jt [s] (ts,false)=if isT s ts=true then(ts.tail,false) else(ts,true):=by simp[Jt]
theorem Atd{L:List By}(hL:L.length≤1000000)(s:By):Cc L s=some (L.contains s):=by
 unfold Cc Ds
 have h:=Aho (f:=fun(qj3:Int)=>match qj3 with
  |x4=>(
   if (decide (x4<(L.length:Int)))=true then
    (rdO L x4).bind fun x5=>
    if (s==x5)=true then
     some (.inr (.inr x4))
    else
     some (.inl (IntKind.wrap .i64 (x4+1)))
   else
    some (.inr (.inl ())):Option (Int⊕(Unit⊕Int)))) (l:=L) (p:=fun x=>s==x) (o:=fun i=> .inr (i:Int)) (e:= .inl ()) (by omega)
  (fun i hi=>by
   show(if _ then _ else _)=_
   rw[if_pos (by simp;omega),Gm hi]
   simp only[Option.bind_some]
   split<;>rfl)
  (fun i hi=>by
   show(if _ then _ else _)=_
   rw[if_neg (by simp;omega)])
 rw[h]
 simp only[Option.bind_some]
 cases hf:Adn L (fun x=>s==x) with
 |none=>
  have:=Y1 hf
  simp only[Option.bind_some,Option.some.injEq]
  have h1:L.contains s=false:=by
   rw[←Bool.not_eq_true,List.contains_iff_mem]
   intro hm
   have:=this s hm
   simp at this
  rw[h1]
  rfl
 |some i=>
  obtain⟨hi,h1,_⟩:=Y2 hf
  simp only[Option.bind_some,Option.some.injEq]
  have h2:L.contains s=true:=by
   rw[List.contains_iff_mem]
   have:=eq_of_beq h1
   rw[this]
   exact List.getElem_mem hi
  rw[h2]
  simp
theorem Bda(s:By)(p:Bool):To s p=some (Aqj s p):=by
 unfold To
 cases p with
 |false=>
  simp only[Bool.false_eq_true,if_false,Option.bind_some]
  rw[Atd (by simp)]
  simp only[Option.bind_some,Aqj,Bool.false_and,Bool.or_false]
  rfl
 |true=>
  simp only[if_true]
  have:apO 16 [[105,102],[116,104,101,110],[101,108,115,101],[97,110,100],[111,114],[110,111,116],[109,105,110],[109,97,120]] [[112,114,111,100,117,99,116],[98,97,115,105,115],[112,101,114,105,111,100],[116,105,101,114,115],[102,101,101],[109,105,110,105,109,117,109],[111,118,101,114,100,114,97,102,116],[110,111,116,105,99,101]]=some (Bhw++Bhx):=rfl
  rw[this]
  simp only[Option.bind_some]
  rw[Atd (by simp[Bhw,Bhx])]
  simp only[Option.bind_some,Aqj,Bool.true_and,List.contains_eq_any_beq,List.any_append]
def Iv(kind:Int)(p:Bool)(x:List Tk×Bool):By×List Tk×Bool:=match x with
 |(ts,true)=>([],ts,true)
 |([],false)=>([],[],true)
 |(t::r,false)=>if t.Ad≠kind∨(kind=0∧Aqj t.Ag p=true) then([],t::r,true) else(t.Ag,r,false)
theorem Bab(kind:Int)(p:Bool)(x:List Tk×Bool):(Iv kind p x).2.1 <:+ x.1:=by
 obtain⟨ts,b⟩:=x
 cases b with
 |true=>cases ts<;>exact List.suffix_refl _
 |false=>
  cases ts with
  |nil=>exact List.suffix_refl _
  |cons t r=>
   unfold Iv
   simp only
   split
   ·exact List.suffix_refl _
   ·exact List.suffix_cons t r
theorem Abe{l ts:List Tk}(h:ts <:+ l)(hl:l.length≤1000000)(kind:Int)(p b:Bool):A3 kind p (RD l ts b)=some ((Iv kind p (ts,b)).1,RD l (Iv kind p (ts,b)).2.1 (Iv kind p (ts,b)).2.2):=by
 unfold A3
 have e1:(RD l ts b).Cl=ps l ts:=rfl
 have e2:(RD l ts b).Hz=l:=rfl
 have e3:(RD l ts b).B3=b:=rfl
 simp only[Option.bind_some,e1,e2,e3,Bgu h]
 cases b with
 |true=>cases ts<;>simp[gdO,Iv,RD]
 |false=>
  cases ts with
  |nil=>simp[gdO,Iv,RD]
  |cons t r=>
   rw[Ao8 h]
   simp only[List.isEmpty_cons,Bool.or_false,Bool.false_or,Bool.not_false,Bd,cond_true,Option.bind_some]
   by_cases h1:t.Ad=kind
   ·have hb:(t.Ad !=kind)=false:=by simp[h1]
    simp only[hb,Bool.not_false,Bool.true_and,Bool.false_or]
    rw[Bda]
    by_cases h2:kind=0
    ·subst h2
     simp only[beq_self_eq_true,Bd,cond_true,Option.bind_some,Bool.true_and]
     cases ho:Aqj t.Ag p with
     |true=>simp[Iv,h1,ho,RD]
     |false=>
      simp only[Bool.false_eq_true,if_false]
      rw[Agi h hl,A8d h hl,Ao8 h]
      simp[Iv,h1,ho,RD]
    ·have hz:(kind==0)=false:=by simp[h2]
     simp only[hz,Bd,cond_false,Option.bind_some,Bool.false_and,Bool.false_eq_true,if_false]
     rw[Agi h hl,A8d h hl,Ao8 h]
     simp[Iv,h1,h2,RD]
   ·have hb:(t.Ad !=kind)=true:=by simp[h1]
    simp only[hb,Bool.not_true,Bool.false_and,Bd,gdO,Option.bind_some,Bool.true_or,if_true]
    simp[Iv,h1,RD]
theorem A88{L:List (List Nd)}(hL:L.length≤1000)(hs:L.flatten.length≤1000000):Db L=some L.flatten:=by
 unfold Db
 have h1:Bf (fun(qj2:Int×Int)=>match qj2 with
  |(size3,x4)=>(
   if (decide (x4<(L.length:Int)))=true then
    (rdO L x4).bind fun x5=>
    ((if (decide ((IntKind.wrap .i64 (size3+(x5.length:Int)))<0))=true then
      none
    else
     some ()):Option Unit).bind fun _=>
    some (.inl (IntKind.wrap .i64 (size3+(x5.length:Int)),IntKind.wrap .i64 (x4+1)))
   else
    some (.inr size3):Option ((Int×Int)⊕Int))) (0,0)=some (L.flatten.length:Int):=by
  have key: ∀(t pre:List (List Nd)),L=pre++t→Bf (fun(qj2:Int×Int)=>match qj2 with
  |(size3,x4)=>(
   if (decide (x4<(L.length:Int)))=true then
    (rdO L x4).bind fun x5=>
    ((if (decide ((IntKind.wrap .i64 (size3+(x5.length:Int)))<0))=true then
      none
    else
     some ()):Option Unit).bind fun _=>
    some (.inl (IntKind.wrap .i64 (size3+(x5.length:Int)),IntKind.wrap .i64 (x4+1)))
   else
    some (.inr size3):Option ((Int×Int)⊕Int))) ((pre.flatten.length:Int),(pre.length:Int))=some (L.flatten.length:Int):=by
   intro t
   induction t with
   |nil=>
    intro pre he
    refine A7 ?_
    subst he
    simp
   |cons x t ih=>
    intro pre he
    have hlen:pre.length<L.length:=by subst he;simp
    have hg:L[pre.length]=x:=by subst he;simp
    have hfl:pre.flatten.length+x.length≤L.flatten.length:=by subst he;simp
    rw[Cf (s':=((((pre++[x]).flatten.length:Nat):Int),(((pre++[x]).length:Nat):Int))),ih (pre++[x]) (by simp[he])]
    show(if _ then _ else _)=_
    rw[if_pos (by simp;omega),Gm hlen,hg]
    simp only[Option.bind_some]
    rw[wrap64 (x:=(pre.flatten.length:Int)+(x.length:Int)) (by omega) (by omega),wrap64 (by omega) (by omega),if_neg (by simp;omega)]
    simp
  exact key L [] rfl
 rw[h1]
 simp only[Option.bind_some]
 have hg:Cq Aa 24 (L.flatten.length:Int)=some []:=by
  unfold Cq Di
  rw[if_pos ⟨by omega,by omega⟩]
  rfl
 rw[hg]
 simp only[Option.bind_some]
 have key: ∀(t pre:List (List Nd)),L=pre++t→Bf (fun(qj9:Int×(List Aa))=>match qj9 with
  |(x10,row11)=>(
   if (decide (x10<(L.length:Int)))=true then
    (rdO L x10).bind fun x12=>
    (apO 24 row11 x12).bind fun x13=>
    some (.inl (IntKind.wrap .i64 (x10+1),x13))
   else
    some (.inr row11):Option ((Int×(List Aa))⊕(List Aa)))) ((pre.length:Int),pre.flatten)=some L.flatten:=by
  intro t
  induction t with
  |nil=>
   intro pre he
   refine A7 ?_
   subst he
   simp
  |cons x t ih=>
   intro pre he
   have hlen:pre.length<L.length:=by subst he;simp
   have hg:L[pre.length]=x:=by subst he;simp
   have hfl:pre.flatten.length+x.length≤L.flatten.length:=by subst he;simp
   rw[Cf (s':=((((pre++[x]).length:Nat):Int),(pre++[x]).flatten)),ih (pre++[x]) (by simp[he])]
   show(if _ then _ else _)=_
   rw[if_pos (by simp;omega),Gm hlen,hg]
   simp only[Option.bind_some]
   unfold apO
   rw[if_pos (by omega)]
   simp only[Option.bind_some]
   rw[wrap64 (by omega) (by omega)]
   simp
 exact Cs (key L [] rfl) rfl
theorem Avu{k:Int}{L:List (List Nd)}(hL:L.length≤1000)(hs:L.flatten.length≤1000000):B7 k L=some (⟨k,[]⟩::L.flatten):=by
 unfold B7
 rw[A88 hL hs]
 simp only[Option.bind_some]
 unfold apO
 rw[if_pos (by simp only[List.length_cons,List.length_nil];omega)]
 rfl
def Ah1:List (By×Ap):=[(sOr,⟨13,1⟩),(U2,⟨12,2⟩),([60],⟨7,4⟩),([60,61],⟨8,4⟩),([61],⟨9,4⟩),([62],⟨10,4⟩),([62,61],⟨11,4⟩),([43],⟨3,5⟩),([45],⟨4,5⟩),([42],⟨5,6⟩),([47],⟨6,6⟩)]
theorem Bdt:Zq=some Ah1:=by decide +kernel
theorem A99(s:By):(((Aqi Ah1 s).getD ⟨0,0⟩).Adi,((Aqi Ah1 s).getD ⟨0,0⟩).Vn)=((Ags s).1,((Ags s).2:Int))∧((Aqi Ah1 s).isSome=decide ((Ags s).2≠0)):=by
 unfold Ags
 by_cases h0:s=sOr
 ·subst h0;exact⟨rfl,rfl⟩
 simp only[if_neg h0]
 by_cases h1:s=U2
 ·subst h1;exact⟨rfl,rfl⟩
 simp only[if_neg h1]
 by_cases h2:s=[60]
 ·subst h2;exact⟨rfl,rfl⟩
 simp only[if_neg h2]
 by_cases h3:s=[60,61]
 ·subst h3;exact⟨rfl,rfl⟩
 simp only[if_neg h3]
 by_cases h4:s=[61]
 ·subst h4;exact⟨rfl,rfl⟩
 simp only[if_neg h4]
 by_cases h5:s=[62]
 ·subst h5;exact⟨rfl,rfl⟩
 simp only[if_neg h5]
 by_cases h6:s=[62,61]
 ·subst h6;exact⟨rfl,rfl⟩
 simp only[if_neg h6]
 by_cases h7:s=[43]
 ·subst h7;exact⟨rfl,rfl⟩
 simp only[if_neg h7]
 by_cases h8:s=[45]
 ·subst h8;exact⟨rfl,rfl⟩
 simp only[if_neg h8]
 by_cases h9:s=[42]
 ·subst h9;exact⟨rfl,rfl⟩
 simp only[if_neg h9]
 by_cases h10:s=[47]
 ·subst h10;exact⟨rfl,rfl⟩
 simp only[if_neg h10]
 have hn:Aqi Ah1 s=none:=by
  unfold Aqi
  rw[List.find?_eq_none.2 (by
   intro x hx
   simp only[Ah1,List.mem_cons,List.not_mem_nil,or_false] at hx
   rcases hx with rfl|rfl|rfl|rfl|rfl|rfl|rfl|rfl|rfl|rfl|rfl<;>simp[*])]
  rfl
 rw[hn]
 exact⟨rfl,rfl⟩
end Go.Av.G
end
section
set_option maxRecDepth 4000
set_option maxHeartbeats 4000000
namespace Go.Av.G
open Go Go.Av Go.Proofs
theorem A8j{t:Tk}(h:t.Ad≠2):Bc t=Ags t.Ag:=by unfold Bc;rw[if_neg h]
def Abl(n:Nat)(ts:List Tk)(b:Bool):Bool:= !b&&match ts with
 |[]=>false
 |t::_=>decide ((Bc t).2=n)
theorem Ade{l ts:List Tk}(h:ts <:+ l){n:Nat}(hn:1≤n)(b:Bool): ∃k,B0 (n:Int) (RD l ts b)=some (k,Abl n ts b)∧(Abl n ts b=true→ ∃t r,ts=t::r∧b=false∧(Bc t).2=n∧k=(Bc t).1):=by
 unfold B0
 have e1:(RD l ts b).Cl=ps l ts:=rfl
 have e2:(RD l ts b).Hz=l:=rfl
 have e3:(RD l ts b).B3=b:=rfl
 simp only[Option.bind_some,e1,e2,e3,Bgu h]
 cases b with
 |true=>exact⟨0,by simp[gdO,Abl],by simp[Abl]⟩
 |false=>
  cases ts with
  |nil=>exact⟨0,by simp[gdO,Abl],by simp[Abl]⟩
  |cons t r=>
   rw[Ao8 h,Bdt]
   simp only[List.isEmpty_cons,Bool.or_false,Bool.false_or,Bool.not_false,Bd,cond_true,Option.bind_some]
   by_cases h2:t.Ad=2
   ·refine⟨0,(by simp[h2,Abl,Bc];omega),fun hb=>?_⟩
    simp[h2,Abl,Bc] at hb
    omega
   ·have hb:(t.Ad==2)=false:=by simp[h2]
    obtain⟨g1,g2⟩:=A99 t.Ag
    have g3:=congrArg Prod.fst g1
    have g4:=congrArg Prod.snd g1
    simp only at g3 g4
    rw[hb,g2]
    simp only[Bool.false_eq_true,if_false,Option.bind_some]
    rw[g3,g4]
    refine⟨(Ags t.Ag).1,?_,fun hb2=>⟨t,r,(by simp),(by simp),?_,?_⟩⟩
    ·simp only[Abl,Option.some.injEq,Prod.mk.injEq,true_and,A8j h2,Bool.not_false]
     rw[Bool.eq_iff_iff]
     simp only[Bool.and_eq_true,decide_eq_true_eq,beq_iff_eq,Bool.true_and]
     constructor
     ·rintro⟨h3,h4⟩;omega
     ·intro h3;omega
    ·simpa [Abl] using hb2
    ·rw[A8j h2]
theorem Alm{l ts:List Tk}(h:ts <:+ l){n:Nat}(hn:1≤n): ∃k,B0 (n:Int) (RD l ts true)=some (k,false):=by
 obtain⟨k,h1,_⟩:=Ade h hn true
 exact⟨k,h1⟩
theorem Aaq{l ts:List Tk}(h:ts <:+ l)(hl:l.length≤1000000){s:By}(hs:isT s ts=true):A8 s (RD l ts false)=some (true,RD l ts.tail false):=by
 rw[Agw h hl];simp[hs]
theorem Xo{l ts:List Tk}(h:ts <:+ l)(hl:l.length≤1000000){s:By}(hs: ¬isT s ts=true):A8 s (RD l ts false)=some (false,RD l ts false):=by
 rw[Agw h hl];simp[hs]
theorem Bd1{l ts:List Tk}(h:ts <:+ l)(hl:l.length≤1000000){s:By}:A8 s (RD l ts true)=some (false,RD l ts true):=by
 rw[Agw h hl];simp
theorem Ei{l ts:List Tk}(h:ts <:+ l)(hl:l.length≤1000000){s:By}(hs:isT s ts=true):Aj [s] (RD l ts false)=some (RD l ts.tail false):=by
 rw[Aft h hl _ (by simp),Afu,if_pos hs]
theorem Ahs{l ts:List Tk}(h:ts <:+ l)(hl:l.length≤1000000){s:By}(hs: ¬isT s ts=true):Aj [s] (RD l ts false)=some (RD l ts true):=by
 rw[Aft h hl _ (by simp),Afu,if_neg hs]
theorem H5{l ts:List Tk}(h:ts <:+ l)(hl:l.length≤1000000){s:By}:Aj [s] (RD l ts true)=some (RD l ts true):=by
 rw[Aft h hl _ (by simp),Zf]
theorem A9l(f:Nat)(n:Int)(l ts:List Tk):parse_reader_level (f+1) n (RD l ts true)=some ([],RD l ts true):=by
 rw[parse_reader_level]
 rfl
theorem Hr{l ts:List Tk}(h:ts <:+ l)(hl:l.length≤1000000)(f:Nat):parse_reader_any (f+2) (RD l ts true)=some ([],RD l ts true):=by
 rw[parse_reader_any,Bd1 h hl]
 simp only[Option.bind_some,Bool.not_false,if_true]
 rw[A9l]
 rfl
def NB(o:List Nd):Prop:= ∀n∈o,n.Ag.length≤1000000
theorem Cw:NB []↔True:=by simp[NB]
theorem B5{n:Nd}{o:List Nd}:NB (n::o)↔n.Ag.length≤1000000∧NB o:=by simp[NB]
theorem Cv{a b:List Nd}:NB (a++b)↔NB a∧NB b:=by
 unfold NB
 constructor
 ·intro h;exact⟨fun n hn=>h n (by simp[hn]),fun n hn=>h n (by simp[hn])⟩
 ·rintro⟨h1,h2⟩ n hn
  rcases List.mem_append.1 hn with h|h
  ·exact h1 n h
  ·exact h2 n h
def PG(F:Ab→Option (List Nd×Ab))(l ts:List Tk)(r:Rs (List Nd)):Prop:=
 ∃o,F (RD l ts false)=some (o,RD l r.2 r.1.isNone)∧(∀a,r.1=some a→o=a)∧o.length≤ts.length+1∧NB o
structure Fit (l:List Tk):Prop where
 len:l.length≤100000
 tx: ∀t∈l,t.Ag.length≤100000
theorem Fit.l6{l:List Tk}(h:Fit l):l.length≤1000000:=by have:=h.len;omega
theorem Fit.le{l ts:List Tk}(h:Fit l)(hs:ts <:+ l):ts.length≤100000:=by have:=h.len;have:=hs.length_le;omega
theorem Acu{k:Int}{a b:List Nd}(h:a.length+b.length≤1000000):B7 k [a,b]=some (⟨k,[]⟩::(a++b)):=by
 rw[Avu (by simp) (by simp;omega)];simp
theorem A78{k:Int}{a:List Nd}(h:a.length≤1000000):B7 k [a]=some (⟨k,[]⟩::a):=by
 rw[Avu (by simp) (by simp;omega)];simp
theorem node3{k:Int}{a b c:List Nd}(h:a.length+b.length+c.length≤1000000):B7 k [a,b,c]=some (⟨k,[]⟩::(a++b++c)):=by
 rw[Avu (by simp) (by simp;omega)];simp
theorem PG.of{F:Ab→Option (List Nd×Ab)}{l ts:List Tk}{r:Rs (List Nd)}(h:PG F l ts r):(∃a i,r=(some a,i)∧F (RD l ts false)=some (a,RD l i false)∧NB a)∨(∃o i,r=(none,i)∧F (RD l ts false)=some (o,RD l i true)∧o.length≤ts.length+1∧NB o):=by
 obtain⟨o,h1,h2,h3,h4⟩:=h
 obtain⟨x,i⟩:=r
 cases x with
 |none=>exact Or.inr ⟨o,i,rfl,h1,h3,h4⟩
 |some a=>
  have:=h2 a rfl
  subst this
  exact Or.inl ⟨o,i,rfl,h1,h4⟩
theorem Yq{F:Ab→Option (List Nd×Ab)}{l ts i:List Tk}{a:List Nd}(h:F (RD l ts false)=some (a,RD l i false))(hz:a.length≤ts.length+1)(hn:NB a):PG F l ts (some a,i):=
 ⟨a,h,fun b hb=>Option.some.inj hb,hz,hn⟩
theorem PG.no{F:Ab→Option (List Nd×Ab)}{l ts i:List Tk}{o:List Nd}(h:F (RD l ts false)=some (o,RD l i true))(hz:o.length≤ts.length+1)(hn:NB o):PG F l ts (none,i):=
 ⟨o,h,(fun b hb=>by cases hb),hz,hn⟩
theorem At5{l ts:List Tk}(hF:Fit l)(h:ts <:+ l){f:Nat}(hf:2≤f)(ih: ∀r,r <:+ l→r.length<ts.length→PG (parse_reader_any f) l r (CL r 0)):PG (parse_reader_primary (f+1)) l ts (Co CL ts):=by
 have hl:=hF.l6
 obtain⟨f,rfl⟩: ∃g,f=g+2:=⟨f-2,by omega⟩
 have hle:=hF.le h
 cases ts with
 |nil=>
  refine PG.no (o:=[⟨1,[]⟩]) ?_ (by simp) (by(try simp only[Cw,B5,Cv,List.length_append,List.length_cons,List.length_nil]);(repeat' apply And.intro)<;>first|assumption|omega|trivial)
  rw[parse_reader_primary,Xo h hl (by simp[isT])]
  simp only[Option.bind_some,Atf h]
  have e0:ps l []<(l.length:Int)↔False:=by have:=At7 h;simpa using this
  have e1:(RD l [] false).Cl=ps l []:=rfl
  have e2:(RD l [] false).Hz=l:=rfl
  simp only[isT,Bool.and_false,Bool.not_false,Bool.false_eq_true,if_false,Bd,Option.bind_some,cond_true,Bool.or_false,Bool.cond_self,e1,e2,e0,decide_false,gdO,Bool.false_and]
  have:=Abe h hl 0 false false
  rw[show(⟨l,ps l [],(RD l [] false).B3⟩:Ab)=RD l [] false from rfl,this]
  rfl
 |cons t r=>
  have hr:=Ip h
  simp only[List.length_cons] at hle
  by_cases hp:isT [40] (t::r)=true
  ·have hspec:Co CL (t::r)=bnd (CL r 0) fun a i=>Gs [41] i fun j=>(some a,j):=by unfold Co;simp only[if_pos hp]
   rw[hspec]
   have hprog:parse_reader_primary (f+2+1) (RD l (t::r) false)=(parse_reader_any (f+2) (RD l r false)).bind fun x3=>(Aj [[41]] x3.2).bind fun x4=>some (x3.1,x4):=by
    rw[parse_reader_primary,Aaq h hl hp]
    rfl
   rcases(ih r hr (by simp)).of with⟨a,i,e1,e2,nb1⟩|⟨o,i,e1,e2,e3,nb3⟩
   ·rw[e1]
    have hz:=Ho e1
    have hi:i <:+ l:=by have:=(E7 r 0).trans hr;rw[e1] at this;exact this
    show PG _ _ _ (Gs [41] i fun j=>(some a,j))
    unfold Gs
    by_cases hc:isT [41] i=true
    ·rw[if_pos hc]
     refine Yq ?_ (by simp;omega) (by(try simp only[Cw,B5,Cv,List.length_append,List.length_cons,List.length_nil]);(repeat' apply And.intro)<;>first|assumption|omega|trivial)
     rw[hprog,e2]
     simp only[Option.bind_some]
     rw[Ei hi hl hc]
     rfl
    ·rw[if_neg hc]
     refine PG.no (o:=a) ?_ (by simp;omega) (by(try simp only[Cw,B5,Cv,List.length_append,List.length_cons,List.length_nil]);(repeat' apply And.intro)<;>first|assumption|omega|trivial)
     rw[hprog,e2]
     simp only[Option.bind_some]
     rw[Ahs hi hl hc]
     rfl
   ·rw[e1]
    have hi:i <:+ l:=by have:=(E7 r 0).trans hr;rw[e1] at this;exact this
    refine PG.no (o:=o) ?_ (by simp;omega) (by(try simp only[Cw,B5,Cv,List.length_append,List.length_cons,List.length_nil]);(repeat' apply And.intro)<;>first|assumption|omega|trivial)
    rw[hprog,e2]
    simp only[Option.bind_some]
    rw[H5 hi hl]
    rfl
  ·by_cases hm:(isT Xh (t::r)||isT Fx (t::r))=true
   ·have hspec:Co CL (t::r)=Gs [40] r fun r2=>bnd (CL r2 0) fun a i=>Gs [44] i fun i2=>bnd (CL i2 0) fun b j=>Gs [41] j fun j2=>
      (some (⟨if t.Ag=Xh then 16 else 17,[]⟩::(a++b)),j2):=by unfold Co;simp only[if_neg hp,if_pos hm]
    rw[hspec]
    generalize hk:(if t.Ag=Xh then(16:Int) else 17)=k
    have hprog:parse_reader_primary (f+2+1) (RD l (t::r) false)=(Aj [[40]] (RD l r false)).bind fun x10=>(parse_reader_any (f+2) x10).bind fun x11=>
      (Aj [[44]] x11.2).bind fun x12=>(parse_reader_any (f+2) x12).bind fun x13=>(Aj [[41]] x13.2).bind fun x14=>(B7 k [x11.1,x13.1]).bind fun x15=>some (x15,x14):=by
     rw[parse_reader_primary,Xo h hl hp]
     simp only[Option.bind_some,Atf h,Bool.not_false,Bool.true_and,Bd,Bool.cond_self]
     have hm2:(isT [109,105,110] (t::r)||bif !isT [109,105,110] (t::r) then isT [109,97,120] (t::r) else default)=true:=by
      have e1:Xh=[109,105,110]:=rfl
      have e2:Fx=[109,97,120]:=rfl
      rw[e1,e2] at hm
      cases hx:isT [109,105,110] (t::r) with
      |true=>rfl
      |false=>rw[hx] at hm;simpa using hm
     rw[if_pos hm2]
     have e3:(⟨(RD l (t::r) false).Hz,(RD l (t::r) false).Cl,(RD l (t::r) false).B3⟩:Ab)=RD l (t::r) false:=rfl
     have e4:IntKind.wrap .i64 ((RD l (t::r) false).Cl+1)=ps l r:=Agi h hl
     rw[e4]
     have e5:(⟨(RD l (t::r) false).Hz,ps l r,(RD l (t::r) false).B3⟩:Ab)=RD l r false:=rfl
     rw[e5]
     have hk2:(if (isT [109,97,120] (t::r))=true then some (17:Int) else some 16)=some k:=by
      rw[←hk]
      by_cases hx:t.Ag=Xh
      ·have:isT [109,97,120] (t::r)=false:=by simp[isT,hx,Xh]
       rw[this,if_pos hx];rfl
      ·have:isT [109,97,120] (t::r)=true:=by
        rcases(Bool.or_eq_true_iff).1 hm with hy|hy
        ·exact absurd (of_decide_eq_true hy).2 hx
        ·exact hy
       rw[this,if_neg hx];rfl
     simp only[Bool.false_eq_true,if_false,hk2,Option.bind_some]
    unfold Gs
    by_cases hc:isT [40] r=true
    ·rw[if_pos hc]
     obtain⟨t1,r1,rfl,_,_⟩:=D0 hc
     simp only[List.tail_cons,List.length_cons] at hle⊢
     have hr1:=Ip hr
     rcases(ih r1 hr1 (by simp;omega)).of with⟨a,i,e1,e2,nb1⟩|⟨o,i,e1,e2,e3,nb3⟩
     ·rw[e1]
      have hz:=Ho e1
      have hi:i <:+ l:=by have:=(E7 r1 0).trans hr1;rw[e1] at this;exact this
      have hil:i.length≤r1.length:=by have:=(E7 r1 0).length_le;rw[e1] at this;exact this
      show PG _ _ _ (if isT [44] i=true then _ else _)
      by_cases hc2:isT [44] i=true
      ·rw[if_pos hc2]
       obtain⟨t2,r2,rfl,_,_⟩:=D0 hc2
       simp only[List.tail_cons,List.length_cons] at hz hil⊢
       have hr2:=Ip hi
       rcases(ih r2 hr2 (by simp;omega)).of with⟨b,j,e4,e5,nb4⟩|⟨o,j,e4,e5,e6,nb6⟩
       ·rw[e4]
        have hz2:=Ho e4
        have hj:j <:+ l:=by have:=(E7 r2 0).trans hr2;rw[e4] at this;exact this
        show PG _ _ _ (if isT [41] j=true then _ else _)
        by_cases hc3:isT [41] j=true
        ·rw[if_pos hc3]
         refine Yq ?_ (by simp;omega) (by(try simp only[Cw,B5,Cv,List.length_append,List.length_cons,List.length_nil]);(repeat' apply And.intro)<;>first|assumption|omega|trivial)
         rw[hprog,Ei hr hl hc]
         simp only[Option.bind_some,List.tail_cons,e2]
         rw[Ei hi hl hc2]
         simp only[Option.bind_some,List.tail_cons,e5]
         rw[Ei hj hl hc3]
         simp only[Option.bind_some,List.tail_cons]
         rw[Acu (by omega)]
         rfl
        ·rw[if_neg hc3]
         refine PG.no (o:=⟨k,[]⟩::(a++b)) ?_ (by simp;omega) (by(try simp only[Cw,B5,Cv,List.length_append,List.length_cons,List.length_nil]);(repeat' apply And.intro)<;>first|assumption|omega|trivial)
         rw[hprog,Ei hr hl hc]
         simp only[Option.bind_some,List.tail_cons,e2]
         rw[Ei hi hl hc2]
         simp only[Option.bind_some,List.tail_cons,e5]
         rw[Ahs hj hl hc3]
         simp only[Option.bind_some,List.tail_cons]
         rw[Acu (by omega)]
         rfl
       ·rw[e4]
        have hj:j <:+ l:=by have:=(E7 r2 0).trans hr2;rw[e4] at this;exact this
        refine PG.no (o:=⟨k,[]⟩::(a++o)) ?_ (by simp;omega) (by(try simp only[Cw,B5,Cv,List.length_append,List.length_cons,List.length_nil]);(repeat' apply And.intro)<;>first|assumption|omega|trivial)
        rw[hprog,Ei hr hl hc]
        simp only[Option.bind_some,List.tail_cons,e2]
        rw[Ei hi hl hc2]
        simp only[Option.bind_some,List.tail_cons,e5]
        rw[H5 hj hl]
        simp only[Option.bind_some,List.tail_cons]
        rw[Acu (by omega)]
        rfl
      ·rw[if_neg hc2]
       refine PG.no (o:=⟨k,[]⟩::(a++[])) ?_ (by simp;omega) (by(try simp only[Cw,B5,Cv,List.length_append,List.length_cons,List.length_nil]);(repeat' apply And.intro)<;>first|assumption|omega|trivial)
       rw[hprog,Ei hr hl hc]
       simp only[Option.bind_some,List.tail_cons,e2]
       rw[Ahs hi hl hc2]
       simp only[Option.bind_some,List.tail_cons]
       rw[Hr hi hl]
       simp only[Option.bind_some]
       rw[H5 hi hl]
       simp only[Option.bind_some]
       rw[Acu (by simp;omega)]
       rfl
     ·rw[e1]
      have hi:i <:+ l:=by have:=(E7 r1 0).trans hr1;rw[e1] at this;exact this
      refine PG.no (o:=⟨k,[]⟩::(o++[])) ?_ (by simp;omega) (by(try simp only[Cw,B5,Cv,List.length_append,List.length_cons,List.length_nil]);(repeat' apply And.intro)<;>first|assumption|omega|trivial)
      rw[hprog,Ei hr hl hc]
      simp only[Option.bind_some,List.tail_cons,e2]
      rw[H5 hi hl]
      simp only[Option.bind_some,List.tail_cons]
      rw[Hr hi hl]
      simp only[Option.bind_some]
      rw[H5 hi hl]
      simp only[Option.bind_some]
      rw[Acu (by simp;omega)]
      rfl
    ·rw[if_neg hc]
     refine PG.no (o:=[⟨k,[]⟩]) ?_ (by simp) (by(try simp only[Cw,B5,Cv,List.length_append,List.length_cons,List.length_nil]);(repeat' apply And.intro)<;>first|assumption|omega|trivial)
     rw[hprog,Ahs hr hl hc]
     simp only[Option.bind_some]
     rw[Hr hr hl]
     simp only[Option.bind_some]
     rw[H5 hr hl]
     simp only[Option.bind_some]
     rw[Hr hr hl]
     simp only[Option.bind_some]
     rw[H5 hr hl]
     simp only[Option.bind_some]
     rw[Acu (by simp)]
     rfl
   ·have hspec:Co CL (t::r)=if t.Ad=1 then(if isT [37] r=true then(some [⟨0,t.Ag++[37]⟩],r.tail) else(some [⟨0,t.Ag⟩],r))
      else if t.Ad=0∧Aqj t.Ag false=false then(some [⟨1,t.Ag⟩],r) else(none,t::r):=by unfold Co;simp only[if_neg hp,if_neg hm]
    rw[hspec]
    have hprog:parse_reader_primary (f+2+1) (RD l (t::r) false)=if (t.Ad==1)=true then
      (A3 1 false (RD l (t::r) false)).bind fun x18=>
      (A8 [37] x18.2).bind fun x19=>
      ((if x19.1=true then
        (Hw x18.1 [37]).bind fun x21=>
        some x21
      else
       some x18.1):Option (List UInt8)).bind fun j20=>
      some ([(⟨0,j20⟩:Aa)],x19.2)
     else
      (A3 0 false (RD l (t::r) false)).bind fun x23=>
      some ([(⟨1,x23.1⟩:Aa)],x23.2):=by
     rw[parse_reader_primary,Xo h hl hp]
     simp only[Option.bind_some,Atf h,Bool.not_false,Bool.true_and,Bd,Bool.cond_self]
     have hm2:(isT [109,105,110] (t::r)||bif !isT [109,105,110] (t::r) then isT [109,97,120] (t::r) else default)=false:=by
      have e1:Xh=[109,105,110]:=rfl
      have e2:Fx=[109,97,120]:=rfl
      rw[e1,e2] at hm
      cases hx:isT [109,105,110] (t::r) with
      |true=>rw[hx] at hm;simp at hm
      |false=>rw[hx] at hm;simpa using hm
     rw[hm2]
     have e4:(decide ((RD l (t::r) false).Cl<((RD l (t::r) false).Hz.length:Int)))=true:=At7 h
     have e5:rdO (RD l (t::r) false).Hz (RD l (t::r) false).Cl=some t:=Ao8 h
     simp only[Bool.false_eq_true,if_false,e4,e5,Bd,cond_true,Option.bind_some,Bool.true_and]
    have htx:t.Ag.length≤100000:=hF.tx t (h.subset (by simp))
    by_cases h1:t.Ad=1
    ·have hb:(t.Ad==1)=true:=by simp[h1]
     have hs:Iv 1 false (t::r,false)=(t.Ag,r,false):=by simp[Iv,h1]
     rw[if_pos h1]
     by_cases hc:isT [37] r=true
     ·rw[if_pos hc]
      refine Yq ?_ (by simp) (by(try simp only[Cw,B5,Cv,List.length_append,List.length_cons,List.length_nil]);(repeat' apply And.intro)<;>first|assumption|omega|trivial)
      rw[hprog,if_pos hb,Abe h hl,hs]
      simp only[Option.bind_some]
      rw[Aaq hr hl hc]
      simp only[Option.bind_some,if_true]
      unfold Hw
      rw[if_pos (by simp;omega)]
      rfl
     ·rw[if_neg hc]
      refine Yq ?_ (by simp) (by(try simp only[Cw,B5,Cv,List.length_append,List.length_cons,List.length_nil]);(repeat' apply And.intro)<;>first|assumption|omega|trivial)
      rw[hprog,if_pos hb,Abe h hl,hs]
      simp only[Option.bind_some]
      rw[Xo hr hl hc]
      rfl
    ·have hb:(t.Ad==1)=false:=by simp[h1]
     rw[if_neg h1]
     by_cases h2:t.Ad=0∧Aqj t.Ag false=false
     ·rw[if_pos h2]
      have hs:Iv 0 false (t::r,false)=(t.Ag,r,false):=by simp[Iv,h2.1,h2.2]
      refine Yq ?_ (by simp) (by(try simp only[Cw,B5,Cv,List.length_append,List.length_cons,List.length_nil]);(repeat' apply And.intro)<;>first|assumption|omega|trivial)
      rw[hprog,hb]
      simp only[Bool.false_eq_true,if_false]
      rw[Abe h hl,hs]
      rfl
     ·rw[if_neg h2]
      have hs:Iv 0 false (t::r,false)=([],t::r,true):=by
       simp only[Iv]
       rw[if_pos]
       by_cases h3:t.Ad=0
       ·right
        cases ho:Aqj t.Ag false with
        |true=>simp
        |false=>exact absurd ⟨h3,ho⟩ h2
       ·exact Or.inl h3
      refine PG.no (o:=[⟨1,[]⟩]) ?_ (by simp) (by(try simp only[Cw,B5,Cv,List.length_append,List.length_cons,List.length_nil]);(repeat' apply And.intro)<;>first|assumption|omega|trivial)
      rw[hprog,hb]
      simp only[Bool.false_eq_true,if_false]
      rw[Abe h hl,hs]
      rfl
end Go.Av.G
end
section
set_option maxRecDepth 4000
set_option maxHeartbeats 4000000
namespace Go.Av.G
open Go Go.Av Go.Proofs
theorem S1{ts l i:List Tk}{n:Nat}{o:Option (List Nd)}(h:ts <:+ l)(e:CL ts n=(o,i)):i <:+ l:=by
 have:=(E7 ts n).trans h;rw[e] at this;exact this
theorem Ait{ts i:List Tk}{n:Nat}{o:Option (List Nd)}(e:CL ts n=(o,i)):i.length≤ts.length:=by
 have:=(E7 ts n).length_le;rw[e] at this;exact this
theorem Apf{l ts:List Tk}(hF:Fit l)(h:ts <:+ l){f:Nat}(hp:PG (parse_reader_primary f) l ts (Co CL ts))
  (ih: ∀r,r <:+ l→r.length<ts.length→PG (parse_reader_level f 7) l r (CL r 7)):PG (parse_reader_level (f+1) 7) l ts (CL ts 7):=by
 have hl:=hF.l6
 have hle:=hF.le h
 rw[Baw]
 by_cases hc:isT [45] ts=true
 ·rw[if_pos hc]
  obtain⟨t,r,rfl,_,_⟩:=D0 hc
  have hr:=Ip h
  have hprog:parse_reader_level (f+1) 7 (RD l (t::r) false)=(parse_reader_level f 7 (RD l r false)).bind fun x8=>(B7 2 [x8.1]).bind fun x9=>some (x9,x8.2):=by
   rw[parse_reader_level]
   have e:(RD l (t::r) false).B3=false:=rfl
   simp only[e,Bool.false_eq_true,if_false]
   rw[if_neg (by simp),if_pos (by simp),Aaq h hl hc]
   rfl
  simp only[List.tail_cons,List.length_cons] at hle⊢
  rcases(ih r hr (by simp)).of with⟨a,i,e1,e2,nb1⟩|⟨o,i,e1,e2,e3,nb3⟩
  ·rw[e1]
   have hz:=Ho e1
   refine Yq ?_ (by simp;omega) (by(try simp only[Cw,B5,Cv,List.length_append,List.length_cons,List.length_nil]);(repeat' apply And.intro)<;>first|assumption|omega|trivial)
   rw[hprog,e2]
   simp only[Option.bind_some]
   rw[A78 (by omega)]
   rfl
  ·rw[e1]
   refine PG.no (o:=⟨2,[]⟩::o) ?_ (by simp;omega) (by(try simp only[Cw,B5,Cv,List.length_append,List.length_cons,List.length_nil]);(repeat' apply And.intro)<;>first|assumption|omega|trivial)
   rw[hprog,e2]
   simp only[Option.bind_some]
   rw[A78 (by omega)]
   rfl
 ·rw[if_neg hc]
  have hprog:parse_reader_level (f+1) 7 (RD l ts false)=parse_reader_primary f (RD l ts false):=by
   rw[parse_reader_level]
   have e:(RD l ts false).B3=false:=rfl
   simp only[e,Bool.false_eq_true,if_false]
   rw[if_neg (by simp),if_pos (by simp),Xo h hl hc]
   simp only[Option.bind_some,Bool.false_eq_true,if_false]
   cases parse_reader_primary f (RD l ts false)<;>rfl
  unfold PG at hp⊢
  rw[hprog]
  exact hp
theorem Aps{l ts:List Tk}(hF:Fit l)(h:ts <:+ l){f:Nat}(hp:PG (parse_reader_level f 4) l ts (CL ts 4))
  (ih: ∀r,r <:+ l→r.length<ts.length→PG (parse_reader_level f 3) l r (CL r 3)):PG (parse_reader_level (f+1) 3) l ts (CL ts 3):=by
 have hl:=hF.l6
 have hle:=hF.le h
 rw[Bax]
 by_cases hc:isT Jq ts=true
 ·rw[if_pos hc]
  obtain⟨t,r,rfl,_,_⟩:=D0 hc
  have hr:=Ip h
  have hprog:parse_reader_level (f+1) 3 (RD l (t::r) false)=(parse_reader_level f 3 (RD l r false)).bind fun x8=>(B7 14 [x8.1]).bind fun x9=>some (x9,x8.2):=by
   rw[parse_reader_level]
   have e:(RD l (t::r) false).B3=false:=rfl
   simp only[e,Bool.false_eq_true,if_false]
   rw[if_pos (by simp),show([110,111,116]:By)=Jq from rfl,Aaq h hl hc]
   rfl
  simp only[List.tail_cons,List.length_cons] at hle⊢
  rcases(ih r hr (by simp)).of with⟨a,i,e1,e2,nb1⟩|⟨o,i,e1,e2,e3,nb3⟩
  ·rw[e1]
   have hz:=Ho e1
   refine Yq ?_ (by simp;omega) (by(try simp only[Cw,B5,Cv,List.length_append,List.length_cons,List.length_nil]);(repeat' apply And.intro)<;>first|assumption|omega|trivial)
   rw[hprog,e2]
   simp only[Option.bind_some]
   rw[A78 (by omega)]
   rfl
  ·rw[e1]
   refine PG.no (o:=⟨14,[]⟩::o) ?_ (by simp;omega) (by(try simp only[Cw,B5,Cv,List.length_append,List.length_cons,List.length_nil]);(repeat' apply And.intro)<;>first|assumption|omega|trivial)
   rw[hprog,e2]
   simp only[Option.bind_some]
   rw[A78 (by omega)]
   rfl
 ·rw[if_neg hc]
  have hprog:parse_reader_level (f+1) 3 (RD l ts false)=parse_reader_level f 4 (RD l ts false):=by
   rw[parse_reader_level]
   have e:(RD l ts false).B3=false:=rfl
   simp only[e,Bool.false_eq_true,if_false]
   rw[if_pos (by simp),show([110,111,116]:By)=Jq from rfl,Xo h hl hc]
   simp only[Option.bind_some,Bool.false_eq_true,if_false]
   cases parse_reader_level f 4 (RD l ts false)<;>rfl
  unfold PG at hp⊢
  rw[hprog]
  exact hp
theorem Ay7{l ts:List Tk}(hF:Fit l)(h:ts <:+ l){f:Nat}(hf:2≤f)(hp:PG (parse_reader_level f 1) l ts (CL ts 1))
  (ih: ∀r,r <:+ l→r.length<ts.length→PG (parse_reader_any f) l r (CL r 0)):PG (parse_reader_any (f+1)) l ts (CL ts 0):=by
 have hl:=hF.l6
 have hle:=hF.le h
 obtain⟨f,rfl⟩: ∃g,f=g+2:=⟨f-2,by omega⟩
 rw[A68]
 by_cases hc:isT sIf ts=true
 ·rw[if_pos hc]
  obtain⟨t,r,rfl,_,_⟩:=D0 hc
  have hr:=Ip h
  have hprog:parse_reader_any (f+2+1) (RD l (t::r) false)=(parse_reader_any (f+2) (RD l r false)).bind fun x4=>
   (Aj [Hl] x4.2).bind fun x5=>
   (parse_reader_any (f+2) x5).bind fun x6=>
   (Aj [Gy] x6.2).bind fun x7=>
   (parse_reader_any (f+2) x7).bind fun x8=>
   (B7 15 [x4.1,x6.1,x8.1]).bind fun x9=>
   some (x9,x8.2):=by
   rw[parse_reader_any,show([105,102]:By)=sIf from rfl,Aaq h hl hc]
   rfl
  simp only[List.tail_cons,List.length_cons] at hle⊢
  rcases(ih r hr (by simp)).of with⟨a,i,e1,e2,nb1⟩|⟨o,i,e1,e2,e3,nb3⟩
  ·rw[e1]
   have hz:=Ho e1
   have hi:=S1 hr e1
   have hil:=Ait e1
   show PG _ _ _ (Gs Hl i fun i2=>bnd (CL i2 0) fun b j=>Gs Gy j fun j2=>bnd (CL j2 0) fun c k=>(some (⟨15,[]⟩::(a++b++c)),k))
   unfold Gs
   by_cases hc2:isT Hl i=true
   ·rw[if_pos hc2]
    obtain⟨t2,r2,rfl,_,_⟩:=D0 hc2
    simp only[List.tail_cons,List.length_cons] at hz hil⊢
    have hr2:=Ip hi
    rcases(ih r2 hr2 (by simp;omega)).of with⟨b,j,e4,e5,nb4⟩|⟨o,j,e4,e5,e6,nb6⟩
    ·rw[e4]
     have hz2:=Ho e4
     have hj:=S1 hr2 e4
     have hjl:=Ait e4
     show PG _ _ _ (if isT Gy j=true then _ else _)
     by_cases hc3:isT Gy j=true
     ·rw[if_pos hc3]
      obtain⟨t3,r3,rfl,_,_⟩:=D0 hc3
      simp only[List.tail_cons,List.length_cons] at hz2 hjl⊢
      have hr3:=Ip hj
      rcases(ih r3 hr3 (by simp;omega)).of with⟨c,k,e7,e8,nb7⟩|⟨o,k,e7,e8,e9,nb9⟩
      ·rw[e7]
       have hz3:=Ho e7
       refine Yq ?_ (by simp;omega) (by(try simp only[Cw,B5,Cv,List.length_append,List.length_cons,List.length_nil]);(repeat' apply And.intro)<;>first|assumption|omega|trivial)
       rw[hprog,e2]
       simp only[Option.bind_some]
       rw[Ei hi hl hc2]
       simp only[Option.bind_some,List.tail_cons,e5]
       rw[Ei hj hl hc3]
       simp only[Option.bind_some,List.tail_cons,e8]
       rw[node3 (by omega)]
       rfl
      ·rw[e7]
       refine PG.no (o:=⟨15,[]⟩::(a++b++o)) ?_ (by simp;omega) (by(try simp only[Cw,B5,Cv,List.length_append,List.length_cons,List.length_nil]);(repeat' apply And.intro)<;>first|assumption|omega|trivial)
       rw[hprog,e2]
       simp only[Option.bind_some]
       rw[Ei hi hl hc2]
       simp only[Option.bind_some,List.tail_cons,e5]
       rw[Ei hj hl hc3]
       simp only[Option.bind_some,List.tail_cons,e8]
       rw[node3 (by omega)]
       rfl
     ·rw[if_neg hc3]
      refine PG.no (o:=⟨15,[]⟩::(a++b++[])) ?_ (by simp;omega) (by(try simp only[Cw,B5,Cv,List.length_append,List.length_cons,List.length_nil]);(repeat' apply And.intro)<;>first|assumption|omega|trivial)
      rw[hprog,e2]
      simp only[Option.bind_some]
      rw[Ei hi hl hc2]
      simp only[Option.bind_some,List.tail_cons,e5]
      rw[Ahs hj hl hc3]
      simp only[Option.bind_some]
      rw[Hr hj hl]
      simp only[Option.bind_some]
      rw[node3 (by simp;omega)]
      rfl
    ·rw[e4]
     have hj:=S1 hr2 e4
     refine PG.no (o:=⟨15,[]⟩::(a++o++[])) ?_ (by simp;omega) (by(try simp only[Cw,B5,Cv,List.length_append,List.length_cons,List.length_nil]);(repeat' apply And.intro)<;>first|assumption|omega|trivial)
     rw[hprog,e2]
     simp only[Option.bind_some]
     rw[Ei hi hl hc2]
     simp only[Option.bind_some,List.tail_cons,e5]
     rw[H5 hj hl]
     simp only[Option.bind_some]
     rw[Hr hj hl]
     simp only[Option.bind_some]
     rw[node3 (by simp;omega)]
     rfl
   ·rw[if_neg hc2]
    refine PG.no (o:=⟨15,[]⟩::(a++[]++[])) ?_ (by simp;omega) (by(try simp only[Cw,B5,Cv,List.length_append,List.length_cons,List.length_nil]);(repeat' apply And.intro)<;>first|assumption|omega|trivial)
    rw[hprog,e2]
    simp only[Option.bind_some]
    rw[Ahs hi hl hc2]
    simp only[Option.bind_some]
    rw[Hr hi hl]
    simp only[Option.bind_some]
    rw[H5 hi hl]
    simp only[Option.bind_some]
    rw[Hr hi hl]
    simp only[Option.bind_some]
    rw[node3 (by simp;omega)]
    rfl
  ·rw[e1]
   have hi:=S1 hr e1
   refine PG.no (o:=⟨15,[]⟩::(o++[]++[])) ?_ (by simp;omega) (by(try simp only[Cw,B5,Cv,List.length_append,List.length_cons,List.length_nil]);(repeat' apply And.intro)<;>first|assumption|omega|trivial)
   rw[hprog,e2]
   simp only[Option.bind_some]
   rw[H5 hi hl]
   simp only[Option.bind_some]
   rw[Hr hi hl]
   simp only[Option.bind_some]
   rw[H5 hi hl]
   simp only[Option.bind_some]
   rw[Hr hi hl]
   simp only[Option.bind_some]
   rw[node3 (by simp;omega)]
   rfl
 ·rw[if_neg hc]
  have hprog:parse_reader_any (f+2+1) (RD l ts false)=parse_reader_level (f+2) 1 (RD l ts false):=by
   rw[parse_reader_any,show([105,102]:By)=sIf from rfl,Xo h hl hc]
   simp only[Option.bind_some,Bool.not_false,if_true]
   cases parse_reader_level (f+2) 1 (RD l ts false)<;>rfl
  unfold PG at hp⊢
  rw[hprog]
  exact hp
theorem Bc3{l:List Tk}(hF:Fit l){f n:Nat}(hn:n=1∨n=2∨n=4∨n=5∨n=6){N T:Nat}(hT:T≤100000)
  (ih: ∀r,r <:+ l→r.length<N→PG (parse_reader_level f ((n+1:Nat):Int)) l r (CL r (n+1))): ∀(k:Nat) (out:List Nd) (i:List Tk),i <:+ l→i.length≤k→i.length≤N→out.length+i.length≤T→NB out→ ∀kk,
   (Abl n i false=true→ ∃t r,i=t::r∧(Bc t).2=n∧kk=(Bc t).1)→
   ∃o,Bf (fun(qj13:(List Aa)×Int×Bool×Ab)=>match qj13 with
      |(out14,kind15,is16,r17)=>(
       if is16=true then
        (parse_reader_level f (IntKind.wrap .i64 ((n:Int)+1)) (⟨r17.Hz,IntKind.wrap .i64 (r17.Cl+1),r17.B3⟩:Ab)).bind fun x18=>
        (B7 kind15 [out14,x18.1]).bind fun x19=>
        if ((n:Int)==4)=true then
         some (.inr (x19,x18.2))
        else
         (B0 (n:Int) x18.2).bind fun x20=>
         some (.inl (x19,x20.1,x20.2,x18.2))
       else
        some (.inr (out14,r17)):Option (((List Aa)×Int×Bool×Ab)⊕((List Aa)×Ab)))) (out,kk,Abl n i false,RD l i false)=some (o,RD l (Xx n k out i).2 (Xx n k out i).1.isNone)∧(∀a,(Xx n k out i).1=some a→o=a)∧o.length≤T+1∧NB o:=by
 have hl:=hF.l6
 have hw:IntKind.wrap .i64 ((n:Int)+1)=((n+1:Nat):Int):=by rw[wrap64 (by omega) (by omega)];rfl
 intro k
 induction k with
 |zero=>
  intro out i hi hk hN hout hnb kk hkk
  obtain rfl:i=[]:=List.eq_nil_of_length_eq_zero (by omega)
  exact⟨out,A7 (by rfl),(fun a ha=>Option.some.inj ha),by omega,hnb⟩
 |succ k ihk=>
  intro out i hi hk hN hout hnb kk hkk
  cases i with
  |nil=>exact⟨out,A7 (by rfl),(fun a ha=>Option.some.inj ha),by omega,hnb⟩
  |cons t r=>
   simp only[List.length_cons] at hk hN hout
   have hr:=Ip hi
   have hrl:=hF.le hr
   rw[Xx]
   by_cases hs:(Bc t).2=n
   ·rw[if_pos hs]
    have hb:Abl n (t::r) false=true:=by simp[Abl,hs]
    obtain⟨t',r',he,h2,h3⟩:=hkk hb
    cases he
    subst h3
    rw[hb]
    have hstep:(⟨(RD l (t::r) false).Hz,IntKind.wrap .i64 ((RD l (t::r) false).Cl+1),(RD l (t::r) false).B3⟩:Ab)=RD l r false:=by
     have e:IntKind.wrap .i64 ((RD l (t::r) false).Cl+1)=ps l r:=Agi hi hl
     rw[e];rfl
    rcases(ih r hr (by omega)).of with⟨b,j,e1,e2,nb1⟩|⟨o,j,e1,e2,e3,nb3⟩
    ·have hz:=Ho e1
     have hj:=S1 hr e1
     have hjl:=Ait e1
     rw[e1]
     show ∃o,_∧(∀a,(if n=4 then _ else _:Rs (List Nd)).1=some a→o=a)∧_
     by_cases h4:n=4
     ·have e4:bnd ((some b,j):Rs (List Nd)) (fun b j=>if n=4 then((some (⟨(Bc t).1,[]⟩::(out++b)),j):Rs (List Nd)) else Xx n k (⟨(Bc t).1,[]⟩::(out++b)) j)=(some (⟨(Bc t).1,[]⟩::(out++b)),j):=by
       show(if n=4 then _ else _)=_
       rw[if_pos h4]
      rw[e4,if_pos h4]
      refine⟨⟨(Bc t).1,[]⟩::(out++b),A7 ?_,(fun a ha=>Option.some.inj ha),(by simp;omega),(by(try simp only[Cw,B5,Cv,List.length_append,List.length_cons,List.length_nil]);(repeat' apply And.intro)<;>first|assumption|omega|trivial)⟩
      show(if true=true then _ else _)=_
      rw[if_pos rfl,hstep,hw,e2]
      simp only[Option.bind_some]
      rw[Acu (by omega)]
      simp only[Option.bind_some]
      rw[if_pos (by simp;omega)]
      rfl
     ·have e4:bnd ((some b,j):Rs (List Nd)) (fun b j=>if n=4 then((some (⟨(Bc t).1,[]⟩::(out++b)),j):Rs (List Nd)) else Xx n k (⟨(Bc t).1,[]⟩::(out++b)) j)=Xx n k (⟨(Bc t).1,[]⟩::(out++b)) j:=by
       show(if n=4 then _ else _)=_
       rw[if_neg h4]
      rw[e4,if_neg h4]
      obtain⟨k2,h5,h6⟩:=Ade hj (n:=n) (by omega) false
      obtain⟨o,h7,h8,h9⟩:=ihk (⟨(Bc t).1,[]⟩::(out++b)) j hj (by omega) (by omega) (by simp;omega) (by(try simp only[Cw,B5,Cv,List.length_append,List.length_cons,List.length_nil]);(repeat' apply And.intro)<;>first|assumption|omega|trivial) k2 (fun hb=>by
       obtain⟨t,r,g1,_,g2,g3⟩:=h6 hb
       exact⟨t,r,g1,g2,g3⟩)
      refine⟨o,?_,h8,h9⟩
      rw[←h7]
      refine Cf ?_
      show(if true=true then _ else _)=_
      rw[if_pos rfl,hstep,hw,e2]
      simp only[Option.bind_some]
      rw[Acu (by omega)]
      simp only[Option.bind_some]
      rw[if_neg (by simp;omega),h5]
      rfl
    ·have hj:=S1 hr e1
     have e4:bnd (CL r (n+1)) (fun b j=>if n=4 then((some (⟨(Bc t).1,[]⟩::(out++b)),j):Rs (List Nd)) else Xx n k (⟨(Bc t).1,[]⟩::(out++b)) j)=(none,j):=by rw[e1];rfl
     rw[e4]
     refine⟨⟨(Bc t).1,[]⟩::(out++o),?_,(fun a ha=>by cases ha),(by simp;omega),(by(try simp only[Cw,B5,Cv,List.length_append,List.length_cons,List.length_nil]);(repeat' apply And.intro)<;>first|assumption|omega|trivial)⟩
     by_cases h4:n=4
     ·refine A7 ?_
      show(if true=true then _ else _)=_
      rw[if_pos rfl,hstep,hw,e2]
      simp only[Option.bind_some]
      rw[Acu (by omega)]
      simp only[Option.bind_some]
      rw[if_pos (by simp;omega)]
      rfl
     ·obtain⟨k2,h5⟩:=Alm hj (n:=n) (by omega)
      refine(Cf (s':=(⟨(Bc t).1,[]⟩::(out++o),k2,false,RD l j true)) ?_).trans (A7 (by rfl))
      show(if true=true then _ else _)=_
      rw[if_pos rfl,hstep,hw,e2]
      simp only[Option.bind_some]
      rw[Acu (by omega)]
      simp only[Option.bind_some]
      rw[if_neg (by simp;omega),h5]
      rfl
   ·rw[if_neg hs]
    have hb:Abl n (t::r) false=false:=by simp[Abl,hs]
    rw[hb]
    exact⟨out,A7 (by rfl),(fun a ha=>Option.some.inj ha),by omega,hnb⟩
theorem mid_step{l ts:List Tk}(hF:Fit l)(h:ts <:+ l){f n:Nat}(hn:n=1∨n=2∨n=4∨n=5∨n=6)(hp:PG (parse_reader_level f ((n+1:Nat):Int)) l ts (CL ts (n+1)))
  (ih: ∀r,r <:+ l→r.length<ts.length→PG (parse_reader_level f ((n+1:Nat):Int)) l r (CL r (n+1))):PG (parse_reader_level (f+1) (n:Int)) l ts (CL ts n):=by
 have hl:=hF.l6
 have hle:=hF.le h
 rw[Bgz hn]
 have hw:IntKind.wrap .i64 ((n:Int)+1)=((n+1:Nat):Int):=by rw[wrap64 (by omega) (by omega)];rfl
 have h3: ¬(((n:Int)==3)=true):=by simp;omega
 have h7: ¬(((n:Int)==7)=true):=by simp;omega
 rcases hp.of with⟨a,i,e1,e2,nb1⟩|⟨o,i,e1,e2,e3,nb3⟩
 ·have hz:=Ho e1
  have hi:=S1 h e1
  have hil:=Ait e1
  rw[e1]
  show PG _ _ _ (Xx n i.length a i)
  obtain⟨k2,h5,h6⟩:=Ade hi (n:=n) (by omega) false
  obtain⟨o,g1,g2,g3⟩:=Bc3 hF hn (N:=ts.length) (T:=ts.length) hle ih i.length a i hi (Nat.le_refl _) hil hz nb1 k2 (fun hb=>by
   obtain⟨t,r,g1,_,g2,g3⟩:=h6 hb
   exact⟨t,r,g1,g2,g3⟩)
  refine⟨o,?_,g2,g3⟩
  rw[parse_reader_level]
  have e:(RD l ts false).B3=false:=rfl
  simp only[e,Bool.false_eq_true,if_false]
  rw[if_neg h3,if_neg h7,hw,e2]
  simp only[Option.bind_some]
  rw[h5]
  simp only[Option.bind_some]
  rw[hw] at g1
  exact Cs g1 rfl
 ·have hi:=S1 h e1
  rw[e1]
  refine PG.no (o:=o) ?_ e3 nb3
  rw[parse_reader_level]
  have e:(RD l ts false).B3=false:=rfl
  simp only[e,Bool.false_eq_true,if_false]
  obtain⟨k2,h5⟩:=Alm hi (n:=n) (by omega)
  rw[if_neg h3,if_neg h7,hw,e2]
  simp only[Option.bind_some]
  rw[h5]
  simp only[Option.bind_some]
  refine Cs (A7 (o:=(o,RD l i true)) ?_) rfl
  rfl
theorem Bdj{l:List Tk}(hF:Fit l): ∀(N:Nat) (ts:List Tk),ts <:+ l→ts.length≤N→
  (∀f,12*ts.length+3≤f→PG (parse_reader_primary f) l ts (Co CL ts))∧
  (∀(n f:Nat),1≤n→n≤7→12*ts.length+11≤f+n→PG (parse_reader_level f (n:Int)) l ts (CL ts n))∧
  (∀f,12*ts.length+12≤f→PG (parse_reader_any f) l ts (CL ts 0)):=by
 intro N
 induction N with
 |zero=>
  intro ts hts hN
  obtain rfl:ts=[]:=List.eq_nil_of_length_eq_zero (by omega)
  have hp: ∀f,12*([]:List Tk).length+3≤f→PG (parse_reader_primary f) l [] (Co CL []):=by
   intro f hf
   obtain⟨g,rfl⟩: ∃g,f=g+1:=⟨f-1,by omega⟩
   exact At5 hF hts (by simp at hf;omega) (fun r _ hr=>absurd hr (by simp))
  have hlv: ∀(d n f:Nat),n+d=7→1≤n→12*([]:List Tk).length+11≤f+n→PG (parse_reader_level f (n:Int)) l [] (CL [] n):=by
   intro d
   induction d with
   |zero=>
    intro n f hd _ hf
    obtain rfl:n=7:=by omega
    obtain⟨g,rfl⟩: ∃g,f=g+1:=⟨f-1,by simp at hf;omega⟩
    exact Apf hF hts (hp g (by simp at hf⊢;omega)) (fun r _ hr=>absurd hr (by simp))
   |succ d ihd=>
    intro n f hd hn hf
    obtain⟨g,rfl⟩: ∃g,f=g+1:=⟨f-1,by simp at hf;omega⟩
    have hnx:=ihd (n+1) g (by omega) (by omega) (by simp at hf⊢;omega)
    by_cases h3:n=3
    ·subst h3
     exact Aps hF hts hnx (fun r _ hr=>absurd hr (by simp))
    ·exact mid_step hF hts (by omega) hnx (fun r _ hr=>absurd hr (by simp))
  refine⟨hp,fun n f h1 h2 hf=>hlv (7-n) n f (by omega) h1 hf,fun f hf=>?_⟩
  obtain⟨g,rfl⟩: ∃g,f=g+1:=⟨f-1,by simp at hf;omega⟩
  exact Ay7 hF hts (by simp at hf;omega) (hlv 6 1 g rfl (by omega) (by simp at hf⊢;omega)) (fun r _ hr=>absurd hr (by simp))
 |succ N ih=>
  intro ts hts hN
  have hp: ∀f,12*ts.length+3≤f→PG (parse_reader_primary f) l ts (Co CL ts):=by
   intro f hf
   obtain⟨g,rfl⟩: ∃g,f=g+1:=⟨f-1,by omega⟩
   exact At5 hF hts (by omega) (fun r h1 hr=>(ih r h1 (by omega)).2.2 g (by omega))
  have hlv: ∀(d n f:Nat),n+d=7→1≤n→12*ts.length+11≤f+n→PG (parse_reader_level f (n:Int)) l ts (CL ts n):=by
   intro d
   induction d with
   |zero=>
    intro n f hd _ hf
    obtain rfl:n=7:=by omega
    obtain⟨g,rfl⟩: ∃g,f=g+1:=⟨f-1,by omega⟩
    exact Apf hF hts (hp g (by omega)) (fun r h1 hr=>(ih r h1 (by omega)).2.1 7 g (by omega) (by omega) (by omega))
   |succ d ihd=>
    intro n f hd hn hf
    obtain⟨g,rfl⟩: ∃g,f=g+1:=⟨f-1,by omega⟩
    have hnx:=ihd (n+1) g (by omega) (by omega) (by omega)
    by_cases h3:n=3
    ·subst h3
     exact Aps hF hts hnx (fun r h1 hr=>(ih r h1 (by omega)).2.1 3 g (by omega) (by omega) (by omega))
    ·exact mid_step hF hts (by omega) hnx (fun r h1 hr=>(ih r h1 (by omega)).2.1 (n+1) g (by omega) (by omega) (by omega))
  refine⟨hp,fun n f h1 h2 hf=>hlv (7-n) n f (by omega) h1 hf,fun f hf=>?_⟩
  obtain⟨g,rfl⟩: ∃g,f=g+1:=⟨f-1,by omega⟩
  exact Ay7 hF hts (by omega) (hlv 6 1 g rfl (by omega) (by omega)) (fun r h1 hr=>(ih r h1 (by omega)).2.2 g (by omega))
theorem Bbk{l ts:List Tk}(hF:Fit l)(h:ts <:+ l)(hl:l.length≤8000):PG (parse_reader_any 100000) l ts (CL ts 0):=
 (Bdj hF ts.length ts h (Nat.le_refl _)).2.2 100000 (by have:=h.length_le;omega)
end Go.Av.G
end
section
set_option maxRecDepth 4000
set_option maxHeartbeats 4000000
namespace Go.Av.G
open Go Go.Av Go.Proofs
end Go.Av.G
end
section
set_option maxRecDepth 4000
set_option maxHeartbeats 4000000
namespace Go.Av.G
open Go Go.Av Go.Proofs
def Iy(k:Int):Option Nat:=if k<0∨17<k then none else if k≤1 then some 0 else if k=2∨k=14 then some 1 else if k=15 then some 3 else some 2
theorem A4g{k:Int}{n:Nat}(h1:Iy k=some n):n≤3:=by
 unfold Iy at h1
 split at h1
 ·cases h1
 ·split at h1
  ·cases h1;omega
  ·split at h1
   ·cases h1;omega
   ·split at h1
    ·cases h1;omega
    ·cases h1;omega
def Bcl(k:Int):Int:=match Iy k with|none=> -1|some n=>(n:Int)
theorem has_eq(k:Int):Od k=some (Bcl k):=by
 unfold Od Bcl Iy
 simp only[Option.bind_some,Bool.or_eq_true,decide_eq_true_eq,beq_iff_eq]
 by_cases h0:k<0∨17<k
 ·rw[if_pos (by omega),if_pos h0]
 ·rw[if_neg (by omega),if_neg h0]
  by_cases h1:k≤1
  ·rw[if_pos h1,if_pos h1];rfl
  ·rw[if_neg h1,if_neg h1]
   by_cases h2:k=2∨k=14
   ·rw[if_pos h2,if_pos h2];rfl
   ·rw[if_neg h2,if_neg h2]
    by_cases h3:k=15
    ·rw[if_pos h3,if_pos h3];rfl
    ·rw[if_neg h3,if_neg h3];rfl
def trimS(s:By):By:=if s.getLast?=some 37 then s.dropLast else s
def Ov(s:By):Bool:=okT ⟨1,0,0,s⟩
def Akz(s:By)(p:Bool):Bool:=okT ⟨0,0,0,s⟩&& !Aqj s p
def Atk(n:Nd):Bool:=if n.Ad=0 then Ov (trimS n.Ag) else if n.Ad=1 then Akz n.Ag false else decide (n.Ag=[])
theorem Atc{s:By}(hl:s.length≤1000000):stringslite_HasSuffix s [37]=some (decide (s.getLast?=some 37)):=by
 unfold stringslite_HasSuffix
 simp only[Option.bind_some]
 rcases List.eq_nil_or_concat s with rfl|⟨u,b,rfl⟩
 ·rfl
 ·have hlen:((u++[b]).length:Int)=(u.length:Int)+1:=by simp
  have hle:u.length≤1000000:=by simp only[List.length_append,List.length_cons,List.length_nil,List.concat_eq_append] at hl;omega
  simp only[List.concat_eq_append] at*
  have hw:IntKind.wrap .i64 (((u++[b]).length:Int)-(([37]:By).length:Int))=(u.length:Int):=by
   rw[wrap64 (by simp only[List.length_append,List.length_cons,List.length_nil];omega) (by simp only[List.length_append,List.length_cons,List.length_nil];omega)];simp
  have hg:decide (((u++[b]).length:Int)≥(([37]:By).length:Int))=true:=by simp only[List.length_append,List.length_cons,List.length_nil,decide_eq_true_eq];omega
  rw[hw,hg,Mm (by simp),List.drop_left]
  simp only[Bd,cond_true,Option.bind_some,Bool.true_and,Option.some.injEq]
  by_cases hb:b=37<;>simp[hb]
theorem Aik{s:By}(hl:s.length≤1000000)(h:s.getLast?=some 37):slO s 0 (IntKind.wrap .i64 ((s.length:Int)-(([37]:By).length:Int)))=some s.dropLast:=by
 rcases List.eq_nil_or_concat s with rfl|⟨u,b,rfl⟩
 ·cases h
 ·simp only[List.concat_eq_append] at*
  have hle:u.length≤1000000:=by simp only[List.length_append,List.length_cons,List.length_nil,List.concat_eq_append] at hl;omega
  have hw:IntKind.wrap .i64 (((u++[b]).length:Int)-(([37]:By).length:Int))=(u.length:Int):=by
   rw[wrap64 (by simp only[List.length_append,List.length_cons,List.length_nil];omega) (by simp only[List.length_append,List.length_cons,List.length_nil];omega)];simp
  rw[hw,Abc (by simp)]
  simp
theorem Bga{s:By}(hl:s.length≤1000000):strings_TrimSuffix s [37]=some (trimS s):=by
 unfold strings_TrimSuffix stringslite_TrimSuffix trimS
 rw[Atc hl]
 simp only[Option.bind_some,decide_eq_true_eq]
 split
 ·rw[Aik hl (by assumption)];rfl
 ·rfl
theorem Bej(s:By):(trimS s).length≤s.length:=by unfold trimS;split<;>simp
theorem Aa9{s:By}(hl:s.length≤1000000):D2 s=some (Ov s):=by
 unfold D2
 rw[Ay1 (t:=⟨1,0,0,s⟩) (by show s.length<_;omega)]
 rfl
theorem A8z{s:By}(hl:s.length≤1000000)(p:Bool):J1 s p=some (Akz s p):=by
 unfold J1 Akz
 rw[Ay1 (t:=⟨0,0,0,s⟩) (by show s.length<_;omega)]
 simp only[Option.bind_some]
 rw[Bda]
 simp only[Bd,Option.bind_some,Option.some.injEq]
 cases okT ⟨0,0,0,s⟩<;>rfl
theorem Bfe{n:Nd}(hl:n.Ag.length≤1000000):V1 n=some (Atk n):=by
 unfold V1 Atk
 simp only[beq_iff_eq]
 by_cases h0:n.Ad=0
 ·rw[if_pos h0,if_pos h0,Bga hl]
  simp only[Option.bind_some]
  rw[Aa9 (Nat.le_trans (Bej _) hl)]
  rfl
 ·rw[if_neg h0,if_neg h0]
  by_cases h1:n.Ad=1
  ·rw[if_pos h1,if_pos h1,A8z hl];rfl
  ·rw[if_neg h1,if_neg h1]
   cases n.Ag<;>rfl
def stk:List Nd→Option (List Nat)
 |[]=>some []
 |n::l=>match stk l with
  |none=>none
  |some st=>match Iy n.Ad with
   |none=>none
   |some k=>if Atk n=true∧k≤st.length then some (((st.take k).foldl max 0+1)::st.drop k) else none
def Py(l:List Nd):Nat:=if 200<l.length then 0 else match stk l with
 |some [d]=>if d≤24 then d else 0
 |_=>0
theorem Bf7{l:List Nd}(h:stk l=some []):l=[]:=by
 cases l with
 |nil=>rfl
 |cons n l=>
  rw[stk] at h
  cases h1:stk l with
  |none=>rw[h1] at h;cases h
  |some s=>
   rw[h1] at h
   simp only at h
   cases h2:Iy n.Ad with
   |none=>rw[h2] at h;cases h
   |some k=>
    rw[h2] at h
    simp only at h
    split at h<;>cases h
def He(w:List Nd→Option (List Nd×Nat)):Nat→List Nd→Nat→Option (List Nd×Nat)
 |0,l,deep=>some (l,deep)
 |k+1,l,deep=>match w l with
  |none=>none
  |some (r,d)=>He w k r (max deep d)
def Eg:Nat→List Nd→Option (List Nd×Nat)
 |0,_=>none
 |_+1,[]=>none
 |f+1,n::l=>match Iy n.Ad with
  |none=>none
  |some k=>if Atk n=true then(He (Eg f) k l 0).map (fun x=>(x.1,x.2+1)) else none
theorem Al8{w:List Nd→Option (List Nd×Nat)}(hw: ∀l r d,w l=some (r,d)→r <:+ l): ∀(k:Nat) (l:List Nd) (m:Nat) (r:List Nd) (d:Nat),He w k l m=some (r,d)→r <:+ l
 |0,l,m,r,d,h=>by cases h;exact List.suffix_refl _
 |k+1,l,m,r,d,h=>by
  rw[He] at h
  cases h1:w l with
  |none=>rw[h1] at h;cases h
  |some x=>
   rw[h1] at h
   exact(Al8 hw k _ _ r d h).trans (hw l x.1 x.2 h1)
theorem Ap0: ∀(f:Nat) (l r:List Nd) (d:Nat),Eg f l=some (r,d)→r <:+ l
 |0,l,r,d,h=>by cases h
 |f+1,[],r,d,h=>by cases h
 |f+1,n::l,r,d,h=>by
  rw[Eg] at h
  cases h1:Iy n.Ad with
  |none=>rw[h1] at h;cases h
  |some k=>
   rw[h1] at h
   simp only at h
   split at h
   ·cases h2:He (Eg f) k l 0 with
    |none=>rw[h2] at h;cases h
    |some x=>
     rw[h2] at h
     cases h
     exact(Al8 (Ap0 f) k l 0 x.1 x.2 h2).trans (List.suffix_cons n l)
   ·cases h
theorem A29(f:Nat)(l r:List Nd)(d:Nat)(h:Eg f l=some (r,d)):1≤d∧r.length<l.length:=by
 match f,l with
 |0,l=>cases h
 |f+1,[]=>cases h
 |f+1,n::l=>
  rw[Eg] at h
  cases h1:Iy n.Ad with
  |none=>rw[h1] at h;cases h
  |some k=>
   rw[h1] at h
   simp only at h
   split at h
   ·cases h2:He (Eg f) k l 0 with
    |none=>rw[h2] at h;cases h
    |some x=>
     rw[h2] at h
     cases h
     have:=(Al8 (Ap0 f) k l 0 x.1 x.2 h2).length_le
     simp
     omega
   ·cases h
theorem A7x{w:List Nd→Option (List Nd×Nat)}{N:Nat}(hw: ∀l d st,l.length≤N→stk l=some (d::st)→ ∃r,w l=some (r,d)∧r.length<l.length∧stk r=some st): ∀(k:Nat) (l:List Nd) (m:Nat) (st:List Nat),l.length≤N→stk l=some st→k≤st.length→ ∃r,He w k l m=some (r,(st.take k).foldl max m)∧stk r=some (st.drop k)
 |0,l,m,st,_,h,_=>⟨l,rfl,h⟩
 |k+1,l,m,[],_,h,hk=>absurd hk (by simp)
 |k+1,l,m,d::st,hN,h,hk=>by
  obtain⟨r,h1,h2,h3⟩:=hw l d st hN h
  obtain⟨r2,h4,h5⟩:=A7x hw k r (max m d) st (by omega) h3 (by simpa using hk)
  refine⟨r2,?_,h5⟩
  rw[He,h1]
  exact h4
theorem A8x: ∀(N f:Nat) (l:List Nd) (d:Nat) (st:List Nat),l.length≤N→l.length<f→stk l=some (d::st)→ ∃r,Eg f l=some (r,d)∧r.length<l.length∧stk r=some st:=by
 intro N
 induction N with
 |zero=>
  intro f l d st hN hf h
  obtain rfl:l=[]:=List.eq_nil_of_length_eq_zero (by omega)
  cases h
 |succ N ih=>
  intro f l d st hN hf h
  cases l with
  |nil=>cases h
  |cons n l=>
   obtain⟨g,rfl⟩: ∃g,f=g+1:=⟨f-1,by omega⟩
   simp only[List.length_cons] at hN hf
   rw[stk] at h
   cases h1:stk l with
   |none=>rw[h1] at h;cases h
   |some s=>
    rw[h1] at h
    simp only at h
    cases h2:Iy n.Ad with
    |none=>rw[h2] at h;cases h
    |some k=>
     rw[h2] at h
     simp only at h
     split at h
     ·rename_i h3
      cases h
      obtain⟨r,h4,h5⟩:=A7x (w:=Eg g) (N:=l.length) (fun l' d' st' hl' hs'=>ih g l' d' st' (by omega) (by omega) hs') k l 0 s (Nat.le_refl _) h1 h3.2
      have h6:Eg (g+1) (n::l)=some (r,(s.take k).foldl max 0+1):=by
       rw[Eg,h2]
       simp only
       rw[if_pos h3.1,h4]
       rfl
      exact⟨r,h6,(A29 _ _ _ _ h6).2,h5⟩
     ·cases h
theorem A7y{w:List Nd→Option (List Nd×Nat)}(hw: ∀l r d st,w l=some (r,d)→stk r=some st→stk l=some (d::st)): ∀(k:Nat) (l:List Nd) (m:Nat) (r:List Nd) (d:Nat) (st:List Nat),He w k l m=some (r,d)→stk r=some st→ ∃ds:List Nat,ds.length=k∧stk l=some (ds++st)∧d=ds.foldl max m
 |0,l,m,r,d,st,h,hs=>by cases h;exact⟨[],rfl,hs,rfl⟩
 |k+1,l,m,r,d,st,h,hs=>by
  rw[He] at h
  cases h1:w l with
  |none=>rw[h1] at h;cases h
  |some x=>
   rw[h1] at h
   obtain⟨ds,h2,h3,h4⟩:=A7y hw k x.1 (max m x.2) r d st h hs
   exact⟨x.2::ds,by simp[h2],hw l x.1 x.2 _ h1 h3,h4⟩
theorem A8y: ∀(f:Nat) (l r:List Nd) (d:Nat) (st:List Nat),Eg f l=some (r,d)→stk r=some st→stk l=some (d::st)
 |0,l,r,d,st,h,hs=>by cases h
 |f+1,[],r,d,st,h,hs=>by cases h
 |f+1,n::l,r,d,st,h,hs=>by
  rw[Eg] at h
  cases h1:Iy n.Ad with
  |none=>rw[h1] at h;cases h
  |some k=>
   rw[h1] at h
   simp only at h
   split at h
   ·rename_i h3
    cases h2:He (Eg f) k l 0 with
    |none=>rw[h2] at h;cases h
    |some x=>
     rw[h2] at h
     cases h
     obtain⟨ds,g1,g2,g3⟩:=A7y (A8y f) k l 0 x.1 x.2 st h2 hs
     rw[stk,g2]
     simp only[h1]
     rw[if_pos ⟨h3,by simp;omega⟩]
     have e1:(ds++st).take k=ds:=by rw[←g1];simp
     have e2:(ds++st).drop k=st:=by rw[←g1];simp
     rw[e1,e2,g3]
   ·cases h
theorem walk_eq: ∀(f:Nat) (l:List Nd),l.length<f→l.length≤100000→(∀n∈l,n.Ag.length≤1000000)→Ha f l=some (match Eg f l with|some x=>(x.1,(x.2:Int))|none=>([],0))
 |0,l,h,_,_=>absurd h (by simp)
 |f+1,[],_,_,_=>by
  rw[Ha]
  rfl
 |f+1,n::l,hf,hl,hx=>by
  simp only[List.length_cons] at hf hl
  have hnx:=hx n (by simp)
  rw[Ha]
  have e0:rdO (n::l) 0=some n:=rfl
  have e1:(((n::l).length:Int)==0)=false:=by simp;omega
  rw[e0]
  simp only[Option.bind_some,e1,Bool.not_false,Bd,cond_true,Bool.false_or]
  rw[has_eq]
  simp only[Bd,cond_true,Option.bind_some]
  rw[Eg]
  have hI:Bcl n.Ad=match Iy n.Ad with|none=> -1|some n=>(n:Int):=rfl
  cases h1:Iy n.Ad with
  |none=>
   rw[h1] at hI
   rw[hI]
   rfl
  |some k=>
   have hk3:k≤3:=A4g h1
   rw[h1] at hI
   simp only at hI⊢
   rw[hI]
   have hneg:decide ((k:Int)<0)=false:=by simp
   rw[hneg]
   simp only[Bool.not_false,cond_true,Bool.false_or]
   rw[Bfe hnx]
   simp only[Bd,cond_true,Option.bind_some]
   by_cases h2:Atk n=true
   ·rw[if_neg (by simp[h2]),if_pos h2]
    have e2:slO (n::l) 1 ((n::l).length:Int)=some l:=by
     have:=Mm (l:=n::l) (n:=1) (by simp)
     simpa using this
    rw[e2]
    simp only[Option.bind_some]
    have key: ∀(d j:Nat) (rest:List Nd) (m:Nat),j+d=k→rest.length≤l.length→m≤100000→(∀n∈rest,n.Ag.length≤1000000)→(∀r d',He (Eg f) d rest m=some (r,d')→d'≤1000000)→Bf (fun(qj11:(List Aa)×Int×Int)=>match qj11 with
    |(rest12,deep13,x14)=>(
     if (decide (x14<(k:Int)))=true then
      (Ha f rest12).bind fun x15=>
      if (x15.2==0)=true then
       some (.inr (.inr (([]:List Aa),0)))
      else
       some (.inl (x15.1,(if x15.2>deep13 then x15.2 else deep13),IntKind.wrap .i64 (x14+1)))
     else
      some (.inr (.inl (rest12,deep13))):Option (((List Aa)×Int×Int)⊕(((List Aa)×Int)⊕((List Aa)×Int))))) (rest,(m:Int),(j:Int))=some (match He (Eg f) d rest m with|some x=> .inl (x.1,(x.2:Int))|none=> .inr ([],0)):=by
     intro d
     induction d with
     |zero=>
      intro j rest m hj _ _ _ _
      refine A7 ?_
      show(if _ then _ else _)=_
      rw[if_neg (by simp;omega)]
      rfl
     |succ d ihd=>
      intro j rest m hj hr hm hxr hb
      have hw:=walk_eq f rest (by omega) (by omega) hxr
      rw[He]
      rw[He] at hb
      cases h3:Eg f rest with
      |none=>
       rw[h3] at hw
       simp only
       refine A7 ?_
       show(if _ then _ else _)=_
       rw[if_pos (by simp;omega),hw]
       rfl
      |some x=>
       rw[h3] at hw hb
       simp only at hw hb⊢
       have hp:=A29 f rest x.1 x.2 h3
       have hs:=Ap0 f rest x.1 x.2 h3
       have hxd:x.2≤100000:=by
        have:=walk_depth f rest x.1 x.2 h3
        omega
       rw[←ihd (j+1) x.1 (max m x.2) (by omega) (by omega) (by omega) (fun n hn=>hxr n (hs.subset hn)) hb]
       refine Cf ?_
       show(if _ then _ else _)=_
       rw[if_pos (by simp;omega),hw]
       simp only[Option.bind_some]
       rw[if_neg (by simp;omega),wrap64 (by omega) (by omega)]
       simp only[Option.some.injEq,Sum.inl.injEq,Prod.mk.injEq,true_and]
       refine⟨?_,rfl⟩
       split<;>omega
    have hb: ∀r d',He (Eg f) k l 0=some (r,d')→d'≤1000000:=by
     intro r d' h
     have:=walk_depth (f+1) (n::l) r (d'+1) (by rw[Eg,h1];simp only;rw[if_pos h2,h];rfl)
     simp at this
     omega
    refine Cs (key k 0 l 0 (by omega) (Nat.le_refl _) (by omega) (fun n hn=>hx n (by simp[hn])) hb) ?_
    cases h3:He (Eg f) k l 0 with
    |none=>rfl
    |some x=>
     have:=hb x.1 x.2 h3
     simp only[Option.map_some]
     rw[wrap64 (by omega) (by omega)]
     rfl
   ·rw[if_pos (by simpa using h2),if_neg h2]
where walk_depth: ∀(f:Nat) (l r:List Nd) (d:Nat),Eg f l=some (r,d)→d+r.length≤l.length
 |0,l,r,d,h=>by cases h
 |f+1,[],r,d,h=>by cases h
 |f+1,n::l,r,d,h=>by
  rw[Eg] at h
  cases h1:Iy n.Ad with
  |none=>rw[h1] at h;cases h
  |some k=>
   rw[h1] at h
   simp only at h
   split at h
   ·cases h2:He (Eg f) k l 0 with
    |none=>rw[h2] at h;cases h
    |some x=>
     rw[h2] at h
     cases h
     have key: ∀(k:Nat) (l:List Nd) (m:Nat) (r:List Nd) (d:Nat),He (Eg f) k l m=some (r,d)→d+r.length≤max (m+r.length) l.length∧r.length≤l.length:=by
      intro k
      induction k with
      |zero=>intro l m r d h;cases h;omega
      |succ k ih=>
       intro l m r d h
       rw[He] at h
       cases h3:Eg f l with
       |none=>rw[h3] at h;cases h
       |some x=>
        rw[h3] at h
        have e1:=walk_depth f l x.1 x.2 h3
        have e2:=ih x.1 (max m x.2) r d h
        omega
     have:=key k l 0 x.1 x.2 h2
     simp
     omega
   ·cases h
theorem Azl{l:List Nd}(hx: ∀n∈l,n.Ag.length≤1000000):Lm l=some (Py l:Int):=by
 unfold Lm Py
 by_cases hl:200<l.length
 ·rw[if_pos (by simp;omega),if_pos hl];rfl
 ·rw[if_neg (by simp;omega),if_neg hl,walk_eq 100000 l (by omega) (by omega) hx]
  simp only[Option.bind_some]
  cases hw:Eg 100000 l with
  |none=>
   simp only
   cases hs:stk l with
   |none=>rfl
   |some st=>
    cases st with
    |nil=>rfl
    |cons d st=>
     obtain⟨r,h1,_⟩:=A8x l.length 100000 l d st (Nat.le_refl _) (by omega) hs
     rw[hw] at h1
     cases h1
  |some x=>
   obtain⟨r,d⟩:=x
   simp only
   cases r with
   |nil=>
    have hs:=A8y _ _ _ _ [] hw rfl
    rw[hs]
    simp only
    by_cases hd:d≤24
    ·rw[if_neg (by simp;omega),if_pos hd]
    ·rw[if_pos (by simp;omega),if_neg hd];rfl
   |cons a r=>
    rw[if_pos (by simp)]
    cases hs:stk l with
    |none=>rfl
    |some st=>
     match st with
     |[]=>rfl
     |[d']=>
      obtain⟨r',h1,_,h3⟩:=A8x l.length 100000 l d' [] (Nat.le_refl _) (by omega) hs
      rw[hw] at h1
      cases h1
      exact absurd (Bf7 h3) (by simp)
     |a::b::st=>rfl
theorem right_eq{l:List Nd}(hx: ∀n∈l,n.Ag.length≤1000000):Dk l=some (decide (0<Py l)):=by
 unfold Dk
 rw[Azl hx]
 simp only[Option.bind_some,Option.some.injEq,decide_eq_decide]
 omega
end Go.Av.G
end
section
set_option maxRecDepth 4000
set_option maxHeartbeats 4000000
namespace Go.Av.G
open Go Go.Av Go.Proofs
theorem Ay0{text:List UInt8}(hl:text.length<4611686018427387904){i:Nat}(hi:i≤text.length):Tf text (i:Int)=some ((plS (text.take i)).1,(plS (text.take i)).2,0):=by
 unfold Tf
 have h1:decide ((i:Int)<0)=false:=decide_eq_false (by omega)
 have h2:decide ((i:Int)>(text.length:Int))=false:=decide_eq_false (by omega)
 simp only[h1,h2,Option.bind_some,Bool.or_self,Bool.false_eq_true,if_false,Abc hi,A0u (s:=text.take i) (by simp;omega)]
end Go.Av.G
end
section
set_option maxRecDepth 4000
set_option maxHeartbeats 4000000
namespace Go.Av.G
open Go Go.Av Go.Proofs
end Go.Av.G
end
section
set_option maxRecDepth 4000
set_option maxHeartbeats 4000000
namespace Go.Av.G
open Go Go.Av Go.Proofs
def LX(s:By):List Tk⊕(Nat×Nat):=if 8000<s.length then .inr (0,4) else match Abk s with
 | .inl l=> .inl (l.map (Ach s))
 | .inr e=> .inr e
theorem Bg0(s:By):Vq s=some (match LX s with| .inl l=>(l,0,0)| .inr e=>([],(e.1:Int),(e.2:Int))):=by
 unfold LX
 by_cases h:8000<s.length
 ·rw[if_pos h,Bbg h];rfl
 ·rw[if_neg h,Bg6 (by omega)]
  cases Abk s<;>rfl
theorem Ald{s:By}{l:List Tk}(h:LX s= .inl l):Fit l∧l.length≤8000∧s.length≤8000∧(∀t∈l,okT t=true)∧A20 l≤s.length:=by
 unfold LX at h
 split at h
 ·cases h
 ·rename_i hs
  have hs:s.length≤8000:=by omega
  cases ha:Abk s with
  |inr e=>rw[ha] at h;cases h
  |inl m=>
   rw[ha] at h
   cases h
   obtain⟨h1,h2,h3⟩:=Bbj hs ha
   refine⟨⟨by simp;omega,fun t ht=>?_⟩,by simp;omega,hs,h3,h2⟩
   have:=Bdy ht
   omega
theorem Aun{s:By}{e:Nat×Nat}(h:LX s= .inr e):e.2≠0∧e.1≤s.length:=by
 unfold LX at h
 split at h
 ·cases h;exact⟨by simp,by simp⟩
 ·cases ha:Abk s with
  |inl m=>rw[ha] at h;cases h
  |inr e'=>
   rw[ha] at h
   cases h
   obtain⟨h1,h2,_⟩:=Beu (p:=e.1) (e:=e.2) ha
   exact⟨h1,by omega⟩
def Cr(s:By):List Nd×Int×Int×Int:=match LX s with
 | .inr e=>([],(plS (s.take e.1)).1,(plS (s.take e.1)).2,(e.2:Int))
 | .inl l=>match CL l 0 with
  |(_,t::_)=>([],t.Vm,t.Afc,14)
  |(none,[])=>([],(plS s).1,(plS s).2,14)
  |(some a,[])=>if Py a=0 then([],1,1,4) else(a,0,0,0)
theorem Bes(l:List Tk):(⟨l,0,false⟩:Ab)=RD l l false:=by
 unfold RD ps
 simp
theorem Azb{s:By}(hs:s.length≤1000000):Lo s=some (match LX s with| .inl l=> .inl (0,0,0,RD l l false)| .inr e=> .inr ((plS (s.take e.1)).1,(plS (s.take e.1)).2,(e.2:Int))):=by
 unfold Lo
 rw[Bg0]
 simp only[Option.bind_some]
 cases h:LX s with
 |inl l=>
  simp only[beq_self_eq_true,if_true]
  rw[Bes]
 |inr e=>
  obtain⟨h1,h2⟩:=Aun h
  simp only
  rw[if_neg (by simp;omega),Ay0 (by omega) h2]
  rfl
theorem A33{s:By}(hs:s.length≤1000000){l ts:List Tk}(h:ts <:+ l)(fits b:Bool):Ep s fits (RD l ts b)=some (match ts with
  |t::_=>(t.Vm,t.Afc,14)
  |[]=>if b=true then((plS s).1,(plS s).2,14) else if fits=false then(1,1,4) else(0,0,0)):=by
 unfold Ep
 have e1:(RD l ts b).Cl=ps l ts:=rfl
 have e2:(RD l ts b).Hz=l:=rfl
 have e3:(RD l ts b).B3=b:=rfl
 rw[e1,e2,e3,At7 h]
 cases ts with
 |cons t r=>
  rw[Ao8 h]
  rfl
 |nil=>
  have:=Ay0 (text:=s) (i:=s.length) (by omega) (Nat.le_refl _)
  rw[List.take_length] at this
  cases b with
  |true=>simp[this]
  |false=>cases fits<;>rfl
theorem Le{s:By}(hs:s.length≤1000000):Bz s=some (Cr s):=by
 unfold Bz Cr
 rw[Azb hs]
 simp only[Option.bind_some]
 cases h:LX s with
 |inr e=>
  obtain⟨h1,_⟩:=Aun h
  simp only
  rw[if_pos (by simp;omega)]
 |inl l=>
  obtain⟨hF,hl,_⟩:=Ald h
  simp only[bne_self_eq_false,Bool.false_eq_true,if_false]
  have hsf:=List.suffix_refl l
  rcases(Bbk hF hsf hl).of with⟨a,i,e1,e2,e3⟩|⟨o,i,e1,e2,e3,e4⟩
  ·have hi:=S1 hsf e1
   rw[e1,e2]
   simp only[Option.bind_some]
   rw[right_eq e3]
   simp only[Option.bind_some]
   rw[A33 hs hi]
   cases i with
   |cons t r=>rfl
   |nil=>
    simp only[Option.bind_some]
    by_cases hd:Py a=0
    ·rw[if_pos hd]
     have:decide (0<Py a)=false:=by simp[hd]
     rw[this];rfl
    ·rw[if_neg hd]
     have:decide (0<Py a)=true:=by simp;omega
     rw[this];rfl
  ·have hi:=S1 hsf e1
   rw[e1,e2]
   simp only[Option.bind_some]
   rw[right_eq e4]
   simp only[Option.bind_some]
   rw[A33 hs hi]
   cases i with
   |cons t r=>rfl
   |nil=>rfl
theorem Auc(x y:Nd):Aa.same x y=decide (x=y):=Aa.same_iff x y
theorem A7a{α:Type} [DecidableEq α]: ∀{a b:List α},a.length=b.length→((List.range' 0 a.length).any fun i=>decide (a[i]? ≠b[i]?))=decide (a≠b)
 |[],[],_=>rfl
 |[],y::b,h=>by simp at h
 |x::a,[],h=>by simp at h
 |x::a,y::b,h=>by
  have ih:=A7a (a:=a) (b:=b) (by simpa using h)
  rw[List.length_cons,List.range'_succ,List.any_cons]
  have hs:(List.range' (0+1) a.length).any (fun i=>decide ((x::a)[i]? ≠(y::b)[i]?))=(List.range' 0 a.length).any fun i=>decide (a[i]? ≠b[i]?):=by
   rw[show(0+1:Nat)=1 from rfl,List.range'_eq_map_range,List.range'_eq_map_range,List.any_map,List.any_map]
   congr 1
   funext i
   simp only[Function.comp_apply,Nat.zero_add]
   rw[Nat.add_comm 1 i]
   simp
  rw[hs,ih]
  by_cases hxy:x=y<;>by_cases hab:a=b<;>simp[hxy,hab]
theorem Au8{α:Type} [DecidableEq α]{a b:List α}{same:α→α→Bool}(hsame: ∀x y,same x y=decide (x=y))(hn:a.length≤1000000)(h:a.length=b.length):Bf (fun(qj3:Int)=>match qj3 with
   |i4=>(
    if (decide (i4<(a.length:Int)))=true then
     (rdO a i4).bind fun x5=>
     (rdO b i4).bind fun x6=>
     if (!(same x5 x6))=true then
      some (.inr (.inr false))
     else
      some (.inl (IntKind.wrap .i64 (i4+1)))
    else
     some (.inr (.inl ())):Option (Int⊕(Unit⊕Bool)))) 0=some (if a=b then .inl () else .inr false):=by
 have:=Atn (n:=a.length) (q:=fun i=>decide (a[i]? ≠b[i]?)) (o:=(.inr false:Unit⊕Bool)) (e:= .inl ()) (f:=fun(qj3:Int)=>match qj3 with
   |i4=>(
    if (decide (i4<(a.length:Int)))=true then
     (rdO a i4).bind fun x5=>
     (rdO b i4).bind fun x6=>
     if (!(same x5 x6))=true then
      some (.inr (.inr false))
     else
      some (.inl (IntKind.wrap .i64 (i4+1)))
    else
     some (.inr (.inl ())):Option (Int⊕(Unit⊕Bool)))) (by omega) (fun i hi=>by
   show(if _ then _ else _)=_
   rw[if_pos (by simp;omega),Gm hi,Gm (by omega)]
   simp only[Option.bind_some]
   rw[hsame,List.getElem?_eq_getElem hi,List.getElem?_eq_getElem (h▸hi)]
   by_cases hx:a[i]=b[i]
   ·simp[hx]
   ·simp[hx]) (fun i hi=>by
   show(if _ then _ else _)=_
   rw[if_neg (by simp;omega)]) 0
 refine this.trans ?_
 rw[Nat.sub_zero,A7a h]
 by_cases hab:a=b<;>simp[hab]
theorem Yp{a b:List Nd}(hn:a.length≤1000000):Bt a b=some (decide (a=b)):=by
 unfold Bt
 by_cases h:a.length=b.length
 ·rw[if_neg (by simp;omega)]
  refine Cs (Au8 Auc hn h) ?_
  by_cases hab:a=b
  ·simp[hab]
  ·simp[hab]
 ·rw[if_pos (by simp;omega)]
  have:a≠b:=fun c=>h (by rw[c])
  simp[this]
theorem Bei{s:By}:(Cr s).1.length≤8000:=by
 unfold Cr
 cases h:LX s with
 |inr e=>simp
 |inl l=>
  obtain⟨hF,hl,_⟩:=Ald h
  simp only
  cases e1:CL l 0 with
  |mk o i=>
   cases i with
   |cons t r=>simp
   |nil=>
    cases o with
    |none=>simp
    |some a=>
     have:=Ho e1
     simp only
     split
     ·simp
     ·simp at this⊢;omega
end Go.Av.G
end
section
set_option maxRecDepth 4000
set_option maxHeartbeats 4000000
namespace Go.Av.G
open Go Go.Av Go.Proofs
abbrev St:=List Tk×Bool
def mT(s:By)(x:St):St:=Jt [s] x
def sm(k:Int)(x:St):By×St:=Iv k true x
theorem C4(s:By)(x:St):(mT s x).1 <:+ x.1:=Att _ _
theorem Xj(k:Int)(x:St):(sm k x).2.1 <:+ x.1:=Bab _ _ _
theorem Bc0{s:By}{ts:List Tk}:mT s (ts,true)=(ts,true):=Zf
theorem Bh3{k:Int}{ts:List Tk}:sm k (ts,true)=([],ts,true):=by cases ts<;>rfl
theorem Eh{s:By}{x:St}(h:(mT s x).2=false):x.2=false∧(mT s x).1.length+1=x.1.length:=by
 obtain⟨ts,b⟩:=x
 cases b with
 |true=>rw[Bc0] at h;cases h
 |false=>
  unfold mT at h⊢
  rw[Afu] at h⊢
  split at h
  ·rename_i hs
   rw[if_pos hs]
   exact⟨rfl,H3 hs⟩
  ·cases h
theorem Abd{k:Int}{x:St}(h:(sm k x).2.2=false):x.2=false∧(sm k x).2.1.length+1=x.1.length:=by
 obtain⟨ts,b⟩:=x
 cases b with
 |true=>rw[Bh3] at h;cases h
 |false=>
  cases ts with
  |nil=>cases h
  |cons t r=>
   unfold sm Iv at h⊢
   simp only at h⊢
   split at h
   ·cases h
   ·rename_i hs
    rw[if_neg hs]
    simp
theorem Bc5(s u:By)(ss:List By)(x:St):Jt (s::u::ss) x=Jt (u::ss) (mT s x):=by
 obtain⟨ts,b⟩:=x
 cases b with
 |true=>rw[Bc0,Zf,Zf]
 |false=>
  unfold mT
  rw[Afu,Jt]
  simp only[Bool.not_false,Bool.true_and]
  split
  ·rfl
  ·rw[Zf]
def RX(l:List Tk)(x:St):Ab:=RD l x.1 x.2
theorem Adu{l:List Tk}(hl:l.length≤1000000){x:St}(h:x.1 <:+ l)(s:By):Aj [s] (RX l x)=some (RX l (mT s x)):=Aft h hl [s] (by simp) x.2
theorem Ak3{l:List Tk}(hl:l.length≤1000000){x:St}(h:x.1 <:+ l)(s u:By):Aj [s,u] (RX l x)=some (RX l (mT u (mT s x))):=by
 have:=Aft h hl [s,u] (by simp) x.2
 rw[Bc5] at this
 exact this
theorem Ah3{l:List Tk}(hl:l.length≤1000000){x:St}(h:x.1 <:+ l)(k:Int):A3 k true (RX l x)=some ((sm k x).1,RX l (sm k x).2):=Abe h hl k true x.2
def G5(s:By)(x:St):By×St:=((sm 1 (mT s x)).1,mT [59] (sm 1 (mT s x)).2)
theorem Vl(s:By)(x:St):(G5 s x).2.1 <:+ x.1:=(C4 _ _).trans ((Xj _ _).trans (C4 _ _))
theorem Qx{s:By}{x:St}(h:(G5 s x).2.2=false):x.2=false:=(Eh (Abd (Eh h).1).1).1
theorem Ae8{l:List Tk}(hl:l.length≤1000000){x:St}(h:x.1 <:+ l)(s:By):B8 s (RX l x)=some ((G5 s x).1,RX l (G5 s x).2):=by
 unfold B8
 rw[Adu hl h]
 simp only[Option.bind_some]
 have h1:=(C4 s x).trans h
 rw[Ah3 hl h1]
 simp only[Option.bind_some]
 rw[Adu hl ((Xj _ _).trans h1)]
 rfl
def Fs(x:St):Am×St:=(⟨(sm 1 x).1,(sm 1 (mT [58] (sm 1 x).2)).1⟩,mT [59] (mT [37] (sm 1 (mT [58] (sm 1 x).2)).2))
theorem All(x:St):(Fs x).2.1 <:+ x.1:=(C4 _ _).trans ((C4 _ _).trans ((Xj _ _).trans ((C4 _ _).trans (Xj _ _))))
theorem As0{x:St}(h:(Fs x).2.2=false):x.2=false∧(Fs x).2.1.length<x.1.length:=by
 have h1:=Eh h
 have h2:=Eh h1.1
 have h3:=Abd h2.1
 have h4:=Eh h3.1
 have h5:=Abd h4.1
 refine⟨h5.1,?_⟩
 have e:(Fs x).2.1.length+1=_:=h1.2
 omega
def El:Nat→St→List Am×St
 |0,x=>([],x)
 |f+1,x=>if x.2=true then([],x) else if isT [125] (Fs x).2.1=true then([(Fs x).1],(Fs x).2) else((Fs x).1::(El f (Fs x).2).1,(El f (Fs x).2).2)
def Bg8(x:St):List Am×St:=El (x.1.length+2) x
theorem As1: ∀(f:Nat) (x:St),(El f x).2.1 <:+ x.1
 |0,x=>List.suffix_refl _
 |f+1,x=>by
  rw[El]
  split
  ·exact List.suffix_refl _
  ·split
   ·exact All x
   ·exact(As1 f _).trans (All x)
theorem A3q: ∀(f:Nat) (x:St),(El f x).2.2=false→x.2=false
 |0,x,h=>h
 |f+1,x,h=>by
  rw[El] at h
  cases hx:x.2 with
  |false=>rfl
  |true=>rw[if_pos hx] at h;exact h.symm.trans hx |>.symm▸rfl
theorem A3r{l:List Tk}(hl:l.length≤100000)(d13 d14 d15 d16:By)(d17:List Nd)(d18 d19 d20:By): ∀(f:Nat) (x:St) (first:Bool) (row:List Am),x.1 <:+ l→(x.2=false→x.1.length+2≤f)→1≤f→(x.2=false→row.length+x.1.length≤100000)→row.length≤100001→
  Bf (fun(qj10:Bool×Ab×(List UInt8)×(List UInt8)×(List UInt8)×(List UInt8)×(List Aa)×(List UInt8)×(List UInt8)×(List UInt8)×(List Am))=>match qj10 with
  |(first11,r12,d13,d14,d15,d16,d17,d18,d19,d20,row21)=>(
   (some (!r12.B3)).bind fun c22=>
   (gdO (c22&& !first11) (Bl [125] r12) (default:Bool)).bind fun x23=>
   if (c22&&(first11||(!x23)))=true then
    (A3 1 true (⟨(bif (c22&& !first11) then r12.Hz else r12.Hz),(bif (c22&& !first11) then r12.Cl else r12.Cl),(bif (c22&& !first11) then r12.B3 else r12.B3)⟩:Ab)).bind fun x24=>
    (Aj [[58]] x24.2).bind fun x25=>
    (A3 1 true x25).bind fun x26=>
    (Aj [[37],[59]] x26.2).bind fun x27=>
    (apO 32 row21 [(⟨x24.1,x26.1⟩:Am)]).bind fun x28=>
    some (.inl (false,x27,d13,d14,d15,d16,d17,d18,d19,d20,x28))
   else
    some (.inr ((⟨(bif (c22&& !first11) then r12.Hz else r12.Hz),(bif (c22&& !first11) then r12.Cl else r12.Cl),(bif (c22&& !first11) then r12.B3 else r12.B3)⟩:Ab),(⟨d13,d14,d15,d16,row21,d17,d18,d19,d20⟩:Af))):Option ((Bool×Ab×(List UInt8)×(List UInt8)×(List UInt8)×(List UInt8)×(List Aa)×(List UInt8)×(List UInt8)×(List UInt8)×(List Am))⊕(Ab×Af)))) (first,RX l x,d13,d14,d15,d16,d17,d18,d19,d20,row)
  =some (if first=false∧isT [125] x.1=true then(RX l x,⟨d13,d14,d15,d16,row,d17,d18,d19,d20⟩) else(RX l (El f x).2,⟨d13,d14,d15,d16,row++(El f x).1,d17,d18,d19,d20⟩)):=by
 have hl6:l.length≤1000000:=by omega
 intro f
 induction f with
 |zero=>intro x first row _ _ h;exact absurd h (by simp)
 |succ f ih=>
  intro x first row hx hf _ hrow hrow2
  have e3:(RX l x).B3=x.2:=rfl
  cases hb:x.2 with
  |true=>
   have hbs:El (f+1) x=([],x):=by rw[El,if_pos hb]
   rw[hbs]
   simp only[List.append_nil,ite_self]
   refine A7 ?_
   simp only[Option.bind_some,e3,hb,Bool.not_true,Bool.false_and,gdO,Bool.false_eq_true,if_false,cond_false]
   rw[show(⟨(RX l x).Hz,(RX l x).Cl,true⟩:Ab)=RX l x by unfold RX;rw[hb];rfl]
  |false=>
   have hf:=hf hb
   have hrow:=hrow hb
   by_cases hc:first=false∧isT [125] x.1=true
   ·rw[if_pos hc]
    refine A7 ?_
    simp only[Option.bind_some,e3,hb,Bool.not_false,Bool.true_and,hc.1]
    rw[show Bl [125] (RX l x)=some (!x.2&&isT [125] x.1) from Atf hx _ _,hb,hc.2]
    simp only[Bool.not_false,Bool.true_and,Bd,cond_true,Option.bind_some,Bool.not_true,Bool.or_self,Bool.false_eq_true,if_false]
    rw[show(⟨(RX l x).Hz,(RX l x).Cl,false⟩:Ab)=RX l x by unfold RX;rw[hb];rfl]
   ·rw[if_neg hc]
    have hy:=All x
    have hbs:El (f+1) x=if isT [125] (Fs x).2.1=true then([(Fs x).1],(Fs x).2) else((Fs x).1::(El f (Fs x).2).1,(El f (Fs x).2).2):=by
     rw[El,if_neg (by simp[hb])]
    have hih:=ih (Fs x).2 false (row++[(Fs x).1]) (hy.trans hx) (fun hg=>by have:=(As0 hg).2;omega) (by omega) (fun hg=>by have:=(As0 hg).2;simp;omega) (by simp;omega)
    have hgoal:(if isT [125] (Fs x).2.1=true then(RX l (Fs x).2,(⟨d13,d14,d15,d16,row++[(Fs x).1],d17,d18,d19,d20⟩:Af)) else(RX l (El f (Fs x).2).2,⟨d13,d14,d15,d16,(row++[(Fs x).1])++(El f (Fs x).2).1,d17,d18,d19,d20⟩))=(RX l (El (f+1) x).2,⟨d13,d14,d15,d16,row++(El (f+1) x).1,d17,d18,d19,d20⟩):=by
     rw[hbs]
     split
     ·rfl
     ·simp
    rw[←hgoal]
    simp only[true_and] at hih
    rw[←hih]
    refine Cf ?_
    have hx23:gdO (!false&& !first) (Bl [125] (RX l x)) (default:Bool)=some (bif !first then isT [125] x.1 else default):=by
     rw[show Bl [125] (RX l x)=some (!x.2&&isT [125] x.1) from Atf hx _ _,hb]
     simp[Bd]
    simp only[Option.bind_some,e3,hb]
    rw[hx23]
    simp only[Option.bind_some,Bool.not_false,Bool.true_and,Bool.cond_self]
    rw[if_pos (by
     cases first with
     |true=>rfl
     |false=>
      have:isT [125] x.1=false:=by rw[←Bool.not_eq_true];exact fun h=>hc ⟨rfl,h⟩
      simp[this])]
    rw[show(⟨(RX l x).Hz,(RX l x).Cl,false⟩:Ab)=RX l x by unfold RX;rw[hb];rfl]
    have s1:=Xj 1 x
    rw[Ah3 hl6 hx]
    simp only[Option.bind_some]
    rw[Adu hl6 (s1.trans hx)]
    simp only[Option.bind_some]
    have s2:=(C4 [58] (sm 1 x).2).trans (s1.trans hx)
    rw[Ah3 hl6 s2]
    simp only[Option.bind_some]
    rw[Ak3 hl6 ((Xj 1 _).trans s2)]
    simp only[Option.bind_some]
    unfold apO
    rw[if_pos (by simp only[List.length_cons,List.length_nil];omega)]
    rfl
def Ajc(x:St):List Nd×St:=if x.2=true then([],x) else match CL x.1 0 with
 |(some a,i)=>(a,i,false)
 |(none,i)=>([],i,true)
theorem Be1(x:St):(Ajc x).2.1 <:+ x.1:=by
 unfold Ajc
 split
 ·exact List.suffix_refl _
 ·have:=E7 x.1 0
  cases h:CL x.1 0 with
  |mk o i=>rw[h] at this;cases o<;>exact this
theorem Bbx{x:St}(h:(Ajc x).2.2=false):x.2=false:=by
 unfold Ajc at h
 cases hx:x.2 with
 |false=>rfl
 |true=>rw[if_pos hx] at h;rw[hx] at h;exact h
theorem Bby{l:List Tk}(hF:Fit l)(hl:l.length≤8000){x:St}(h:x.1 <:+ l): ∃o,parse_reader_any 100000 (RX l x)=some (o,RX l (Ajc x).2)∧((Ajc x).2.2=false→o=(Ajc x).1)∧NB o:=by
 obtain⟨ts,b⟩:=x
 cases b with
 |true=>
  refine⟨[],?_,fun hh=>by simp[Ajc] at hh,fun n hn=>by simp at hn⟩
  exact Hr h hF.l6 99998
 |false=>
  have hfe:Ajc (ts,false)=match CL ts 0 with
   |(some a,i)=>(a,i,false)
   |(none,i)=>([],i,true):=by unfold Ajc;rw[if_neg (by simp)]
  rcases(Bbk hF h hl).of with⟨a,i,e1,e2,e3⟩|⟨o,i,e1,e2,e3,e4⟩
  ·rw[e1] at hfe
   rw[hfe]
   exact⟨a,e2,fun _=>rfl,e3⟩
  ·rw[e1] at hfe
   rw[hfe]
   exact⟨o,e2,(fun hh=>by cases hh),e4⟩
def Agp:By:=[112,114,111,100,117,99,116]
def Aym:By:=[98,97,115,105,115]
def Ak7:By:=[112,101,114,105,111,100]
def Aal:By:=[116,105,101,114,115]
def Bdp:By:=[102,101,101]
def Ago:By:=[109,105,110,105,109,117,109]
def Xi:By:=[111,118,101,114,100,114,97,102,116]
def Ak6:By:=[110,111,116,105,99,101]
def pA(x:St):By×St:=sm 0 (mT Agp x)
def pB(x:St):By×St:=sm 0 (pA x).2
def pC(x:St):By×St:=sm 0 (mT Aym (mT [123] (pB x).2))
def pD(x:St):By×St:=G5 Ak7 (mT [59] (pC x).2)
def pE(x:St):List Am×St:=Bg8 (mT [123] (mT Aal (pD x).2))
def pF(x:St):List Nd×St:=Ajc (mT Bdp (mT [125] (pE x).2))
def pG(x:St):By×St:=G5 Ago (mT [59] (pF x).2)
def pH(x:St):By×St:=G5 Xi (pG x).2
def pI(x:St):By×St:=G5 Ak6 (pH x).2
def pZ(x:St):St:=mT [125] (pI x).2
def Xt(x:St):Af×St:=(⟨(pA x).1,(pB x).1,(pC x).1,(pD x).1,(pE x).1,(pF x).1,(pG x).1,(pH x).1,(pI x).1⟩,pZ x)
theorem Bdb(x:St):(pA x).2.1 <:+ x.1:=(Xj _ _).trans (C4 _ _)
theorem A41(x:St):(pB x).2.1 <:+ x.1:=(Xj _ _).trans (Bdb x)
theorem A42(x:St):(pC x).2.1 <:+ x.1:=(Xj _ _).trans ((C4 _ _).trans ((C4 _ _).trans (A41 x)))
theorem A43(x:St):(pD x).2.1 <:+ x.1:=(Vl _ _).trans ((C4 _ _).trans (A42 x))
theorem A44(x:St):(pE x).2.1 <:+ x.1:=(As1 _ _).trans ((C4 _ _).trans ((C4 _ _).trans (A43 x)))
theorem A45(x:St):(pF x).2.1 <:+ x.1:=(Be1 _).trans ((C4 _ _).trans ((C4 _ _).trans (A44 x)))
theorem Bdc(x:St):(pG x).2.1 <:+ x.1:=(Vl _ _).trans ((C4 _ _).trans (A45 x))
theorem Bdd(x:St):(pH x).2.1 <:+ x.1:=(Vl _ _).trans (Bdc x)
theorem A46(x:St):(pI x).2.1 <:+ x.1:=(Vl _ _).trans (Bdd x)
theorem A2b(x:St):(Xt x).2.1 <:+ x.1:=(C4 _ _).trans (A46 x)
theorem A2a{x:St}(h:(Xt x).2.2=false):(pF x).2.2=false:=(Eh (Qx (Qx (Qx (Eh h).1)))).1
theorem At6{x:St}(h:(Xt x).2.2=false):x.2=false∧(Xt x).2.1.length<x.1.length:=by
 have h1:=(Eh (Eh (Bbx (A2a h))).1).1
 have h2:=A3q _ _ h1
 have h3:=Qx (Eh (Eh h2).1).1
 have h4:=(Eh h3).1
 have h5:=(Eh (Eh (Abd h4).1).1).1
 have h6:=(Abd h5).1
 have h7:=(Abd h6).1
 refine⟨(Eh h7).1,?_⟩
 have e:=Eh h
 have:=(A46 x).length_le
 have e2:(Xt x).2.1.length+1=(pI x).2.1.length:=e.2
 omega
theorem A9y{l:List Tk}(hF:Fit l)(hl:l.length≤8000){x:St}(h:x.1 <:+ l): ∃d,C5 (RX l x)=some (d,RX l (Xt x).2)∧((Xt x).2.2=false→d=(Xt x).1)∧NB d.Ft:=by
 have hl6:=hF.l6
 obtain⟨o,f1,f2,f3⟩:=Bby hF hl (x:=mT Bdp (mT [125] (pE x).2)) ((C4 _ _).trans ((C4 _ _).trans ((A44 x).trans h)))
 refine⟨⟨(pA x).1,(pB x).1,(pC x).1,(pD x).1,(pE x).1,o,(pG x).1,(pH x).1,(pI x).1⟩,?_,fun hh=>?_,f3⟩
 ·unfold C5
  rw[show([112,114,111,100,117,99,116]:By)=Agp from rfl,show([98,97,115,105,115]:By)=Aym from rfl,show([112,101,114,105,111,100]:By)=Ak7 from rfl,show([116,105,101,114,115]:By)=Aal from rfl,show([102,101,101]:By)=Bdp from rfl,show([109,105,110,105,109,117,109]:By)=Ago from rfl,show([111,118,101,114,100,114,97,102,116]:By)=Xi from rfl,show([110,111,116,105,99,101]:By)=Ak6 from rfl]
  rw[Adu hl6 h]
  simp only[Option.bind_some]
  rw[Ah3 hl6 ((C4 _ _).trans h)]
  simp only[Option.bind_some]
  rw[show sm 0 (mT Agp x)=pA x from rfl,Ah3 hl6 ((Bdb x).trans h)]
  simp only[Option.bind_some]
  rw[show sm 0 (pA x).2=pB x from rfl,Ak3 hl6 ((A41 x).trans h)]
  simp only[Option.bind_some]
  rw[Ah3 hl6 ((C4 _ _).trans ((C4 _ _).trans ((A41 x).trans h)))]
  simp only[Option.bind_some]
  rw[show sm 0 (mT Aym (mT [123] (pB x).2))=pC x from rfl,Adu hl6 ((A42 x).trans h)]
  simp only[Option.bind_some]
  rw[Ae8 hl6 ((C4 _ _).trans ((A42 x).trans h))]
  simp only[Option.bind_some]
  rw[show G5 Ak7 (mT [59] (pC x).2)=pD x from rfl,Ak3 hl6 ((A43 x).trans h)]
  simp only[Option.bind_some]
  have hE:(mT [123] (mT Aal (pD x).2)).1 <:+ l:=(C4 _ _).trans ((C4 _ _).trans ((A43 x).trans h))
  have hEl:=hE.length_le
  have hb:=A3r (l:=l) (by omega) (pA x).1 (pB x).1 (pC x).1 (pD x).1 [] [] [] [] ((mT [123] (mT Aal (pD x).2)).1.length+2) (mT [123] (mT Aal (pD x).2)) true [] hE (fun _=>Nat.le_refl _) (by omega) (fun _=>by simp;omega) (by simp)
  refine Cs hb ?_
  rw[if_neg (by simp)]
  rw[show El ((mT [123] (mT Aal (pD x).2)).1.length+2) (mT [123] (mT Aal (pD x).2))=pE x from rfl]
  simp only[List.nil_append]
  rw[Ak3 hl6 ((A44 x).trans h)]
  simp only[Option.bind_some]
  rw[f1]
  simp only[Option.bind_some]
  rw[show Ajc (mT Bdp (mT [125] (pE x).2))=pF x from rfl,Adu hl6 ((A45 x).trans h)]
  simp only[Option.bind_some]
  rw[Ae8 hl6 ((C4 _ _).trans ((A45 x).trans h))]
  simp only[Option.bind_some]
  rw[show G5 Ago (mT [59] (pF x).2)=pG x from rfl,Ae8 hl6 ((Bdc x).trans h)]
  simp only[Option.bind_some]
  rw[show G5 Xi (pG x).2=pH x from rfl,Ae8 hl6 ((Bdd x).trans h)]
  simp only[Option.bind_some]
  rw[show G5 Ak6 (pH x).2=pI x from rfl,Adu hl6 ((A46 x).trans h)]
  rfl
 ·rw[f2 (A2a hh)]
  rfl
end Go.Av.G
end
section
set_option maxRecDepth 4000
set_option maxHeartbeats 4000000
namespace Go.Av.G
open Go Go.Av Go.Proofs
def A38(d:Af):Bool:=decide (d.A2.length≤8)&&decide (0<Py d.Ft)
def Jx:Nat→St→List Af×St
 |0,x=>([],x)
 |f+1,x=>if x.2=false∧x.1≠[] then((Xt x).1::(Jx f (Xt x).2).1,(Jx f (Xt x).2).2) else([],x)
theorem As7: ∀(f:Nat) (x:St),(Jx f x).2.1 <:+ x.1
 |0,x=>List.suffix_refl _
 |f+1,x=>by
  rw[Jx]
  split
  ·exact(As7 f _).trans (A2b x)
  ·exact List.suffix_refl _
theorem A30: ∀(f:Nat) (x:St),(Jx f x).2.2=false→x.2=false
 |0,x,h=>h
 |f+1,x,h=>by
  cases hb:x.2 with
  |false=>rfl
  |true=>
   rw[Jx,if_neg (by simp[hb])] at h
   exact hb▸h
theorem A31{l:List Tk}(hF:Fit l)(hl:l.length≤8000): ∀(f:Nat) (x:St) (fits:Bool) (row:List Af),x.1 <:+ l→(x.2=false→x.1.length<f)→1≤f→(x.2=false→row.length+x.1.length≤100000)→row.length≤100001→
  ∃o ft,Bf (fun(qj5:Bool×Ab×(List Af))=>match qj5 with
    |(fits6,x7,row8)=>(
     (some (!x7.B3)).bind fun c9=>
     if (c9&&(decide (x7.Cl<(x7.Hz.length:Int))))=true then
      (C5 x7).bind fun x10=>
      (some (fits6&&(decide ((x10.1.A2.length:Int)≤8)))).bind fun c11=>
      (gdO c11 (Dk x10.1.Ft) (default:Bool)).bind fun x12=>
      (apO 160 row8 [x10.1]).bind fun x13=>
      some (.inl ((c11&&x12),x10.2,x13))
     else
      some (.inr (row8,fits6,x7)):Option ((Bool×Ab×(List Af))⊕((List Af)×Bool×Ab)))) (fits,RX l x,row)=some (o,ft,RX l (Jx f x).2)∧((Jx f x).2.2=false→o=row++(Jx f x).1∧ft=(fits&&(Jx f x).1.all A38)):=by
 have hl6:=hF.l6
 intro f
 induction f with
 |zero=>intro x fits row _ _ h;exact absurd h (by simp)
 |succ f ih=>
  intro x fits row hx hf _ hrow hrow2
  have e1:(RX l x).B3=x.2:=rfl
  have e2:decide ((RX l x).Cl<((RX l x).Hz.length:Int))= !x.1.isEmpty:=At7 hx
  rw[Jx]
  by_cases hc:x.2=false∧x.1≠[]
  ·rw[if_pos hc]
   have hf:=hf hc.1
   have hrow:=hrow hc.1
   obtain⟨d,p1,p2,p3⟩:=A9y hF hl hx
   have hne:0<x.1.length:=List.length_pos_iff.2 hc.2
   obtain⟨o,ft,g1,g2⟩:=ih (Xt x).2 (fits&&A38 d) (row++[d]) ((A2b x).trans hx) (fun hg=>by have:=(At6 hg).2;omega) (by omega) (fun hg=>by have:=(At6 hg).2;simp;omega) (by simp;omega)
   refine⟨o,ft,?_,fun hg=>?_⟩
   ·rw[←g1]
    refine Cf ?_
    simp only[Option.bind_some,e1,e2,hc.1]
    rw[if_pos (by cases hx1:x.1 with|nil=>exact absurd hx1 hc.2|cons a b=>rfl),p1]
    simp only[Option.bind_some]
    rw[right_eq p3]
    simp only[Bd,Option.bind_some]
    unfold apO
    rw[if_pos (by simp only[List.length_cons,List.length_nil];omega)]
    simp only[Option.bind_some,Option.some.injEq,Sum.inl.injEq,Prod.mk.injEq,and_true]
    unfold A38
    have:decide ((d.A2.length:Int)≤8)=decide (d.A2.length≤8):=by rw[decide_eq_decide];omega
    rw[this]
    cases fits<;>cases decide (d.A2.length≤8)<;>rfl
   ·have hd:=p2 (A30 f _ hg)
    obtain⟨g3,g4⟩:=g2 hg
    refine⟨by rw[g3,hd];simp,?_⟩
    rw[g4,hd,List.all_cons,Bool.and_assoc]
  ·rw[if_neg hc]
   refine⟨row,fits,A7 ?_,fun _=>⟨by simp,by simp⟩⟩
   simp only[Option.bind_some,e1,e2]
   rw[if_neg]
   intro h
   simp only[Bool.and_eq_true,Bool.not_eq_true'] at h
   refine hc ⟨h.1,?_⟩
   intro he
   rw[he] at h
   simp at h
def Ayj(s:By):List Af×Int×Int×Int:=match LX s with
 | .inr e=>([],(plS (s.take e.1)).1,(plS (s.take e.1)).2,(e.2:Int))
 | .inl l=>match Jx (l.length+1) (l,false) with
  |(_,t::_,_)=>([],t.Vm,t.Afc,14)
  |(_,[],true)=>([],(plS s).1,(plS s).2,14)
  |(ds,[],false)=>if ds.all A38=true∧ds.length≤16 then(ds,0,0,0) else([],1,1,4)
theorem Bbi{s:By}(hs:s.length≤1000000):Tm s=some (Ayj s):=by
 unfold Tm Ayj
 rw[Azb hs]
 simp only[Option.bind_some]
 cases h:LX s with
 |inr e=>
  obtain⟨h1,_⟩:=Aun h
  simp only
  rw[if_pos (by simp;omega)]
 |inl l=>
  obtain⟨hF,hl,_⟩:=Ald h
  simp only[bne_self_eq_false,Bool.false_eq_true,if_false]
  have hsf:=List.suffix_refl l
  obtain⟨o,ft,g1,g2⟩:=A31 hF hl (l.length+1) (l,false) true [] hsf (fun _=>by simp) (by omega) (fun _=>by simp;omega) (by simp)
  refine Cs g1 ?_
  have hy:=As7 (l.length+1) (l,false)
  generalize hr:Jx (l.length+1) (l,false)=r at g1 g2 hy
  obtain⟨ds,ts,b⟩:=r
  have hy:ts <:+ l:=hy
  simp only
  rw[show RX l (ts,b)=RD l ts b from rfl,A33 hs hy]
  cases ts with
  |cons t r=>cases b<;>rfl
  |nil=>
   cases b with
   |true=>rfl
   |false=>
    obtain⟨g3,g4⟩:=g2 rfl
    simp only[List.nil_append,Bool.true_and] at g3 g4
    subst g3;subst g4
    simp only[Option.bind_some,Bool.false_eq_true,if_false]
    by_cases hc:List.all o A38=true∧o.length≤16
    ·have e:(List.all o A38&&decide ((o.length:Int)≤16))=true:=by
      rw[hc.1];simp;omega
     rw[if_pos hc,e]
     rfl
    ·have e:(List.all o A38&&decide ((o.length:Int)≤16))=false:=by
      rw[←Bool.not_eq_true]
      intro h
      simp only[Bool.and_eq_true,decide_eq_true_eq] at h
      exact hc ⟨h.1,by omega⟩
     rw[if_neg hc,e]
     rfl
def A2i(a b:Af):Bool:=decide (a.A2=b.A2)&&decide (a.Ft=b.Ft)&&decide (a.F4=b.F4)&&decide (a.Lj=b.Lj)&&decide (a.Dz=b.Dz)&&decide (a.C3=b.C3)&&decide (a.Cn=b.Cn)&&decide (a.Bu=b.Bu)&&decide (a.Cu=b.Cu)
theorem A56(a:Af):A2i a a=true:=by simp[A2i]
theorem A95(x y:Am):Am.same x y=decide (x=y):=Am.same_iff x y
theorem Bg9(a b:By):(a==b)=decide (a=b):=by
 by_cases h:a=b<;>simp[h]
theorem A35{a b:List Am}(hn:a.length≤1000000):Dg a b=some (decide (a=b)):=by
 unfold Dg
 by_cases h:a.length=b.length
 ·rw[if_neg (by simp;omega)]
  refine Cs (Au8 A95 hn h) ?_
  by_cases hab:a=b<;>simp[hab]
 ·rw[if_pos (by simp;omega)]
  have:a≠b:=fun c=>h (by rw[c])
  simp[this]
theorem A36{a b:List Nd}(hn:a.length≤1000000):Dh a b=some (decide (a=b)):=by
 unfold Dh
 by_cases h:a.length=b.length
 ·rw[if_neg (by simp;omega)]
  refine Cs (Au8 Auc hn h) ?_
  by_cases hab:a=b<;>simp[hab]
 ·rw[if_pos (by simp;omega)]
  have:a≠b:=fun c=>h (by rw[c])
  simp[this]
theorem A96{a b:Af}(h1:a.A2.length≤1000000)(h2:a.Ft.length≤1000000):Ox a b=some (A2i a b):=by
 unfold Ox
 rw[A35 h1,A36 h2]
 simp only[Option.bind_some,Bd,Bg9]
 unfold A2i
 cases decide (a.A2=b.A2)<;>rfl
end Go.Av.G
end
section
set_option maxRecDepth 4000
set_option maxHeartbeats 4000000
namespace Go.Av.G
open Go Go.Av Go.Proofs
theorem Cg{L:List (List By)}(hL:L.length≤1000)(hs:L.flatten.length≤1000000):Ah L=some L.flatten:=by
 unfold Ah
 have h1:Bf (fun(qj2:Int×Int)=>match qj2 with
  |(size3,x4)=>(
   if (decide (x4<(L.length:Int)))=true then
    (rdO L x4).bind fun x5=>
    ((if (decide ((IntKind.wrap .i64 (size3+(x5.length:Int)))<0))=true then
      none
    else
     some ()):Option Unit).bind fun _=>
    some (.inl (IntKind.wrap .i64 (size3+(x5.length:Int)),IntKind.wrap .i64 (x4+1)))
   else
    some (.inr size3):Option ((Int×Int)⊕Int))) (0,0)=some (L.flatten.length:Int):=by
  have key: ∀(t pre:List (List By)),L=pre++t→Bf (fun(qj2:Int×Int)=>match qj2 with
  |(size3,x4)=>(
   if (decide (x4<(L.length:Int)))=true then
    (rdO L x4).bind fun x5=>
    ((if (decide ((IntKind.wrap .i64 (size3+(x5.length:Int)))<0))=true then
      none
    else
     some ()):Option Unit).bind fun _=>
    some (.inl (IntKind.wrap .i64 (size3+(x5.length:Int)),IntKind.wrap .i64 (x4+1)))
   else
    some (.inr size3):Option ((Int×Int)⊕Int))) ((pre.flatten.length:Int),(pre.length:Int))=some (L.flatten.length:Int):=by
   intro t
   induction t with
   |nil=>
    intro pre he
    refine A7 ?_
    subst he
    simp
   |cons x t ih=>
    intro pre he
    have hlen:pre.length<L.length:=by subst he;simp
    have hg:L[pre.length]=x:=by subst he;simp
    have hfl:pre.flatten.length+x.length≤L.flatten.length:=by subst he;simp
    rw[Cf (s':=((((pre++[x]).flatten.length:Nat):Int),(((pre++[x]).length:Nat):Int))),ih (pre++[x]) (by simp[he])]
    show(if _ then _ else _)=_
    rw[if_pos (by simp;omega),Gm hlen,hg]
    simp only[Option.bind_some]
    rw[wrap64 (x:=(pre.flatten.length:Int)+(x.length:Int)) (by omega) (by omega),wrap64 (by omega) (by omega),if_neg (by simp;omega)]
    simp
  exact key L [] rfl
 rw[h1]
 simp only[Option.bind_some]
 have hg:Cq (List UInt8) 16 (L.flatten.length:Int)=some []:=by
  unfold Cq Di
  rw[if_pos ⟨by omega,by omega⟩]
  rfl
 rw[hg]
 simp only[Option.bind_some]
 have key: ∀(t pre:List (List By)),L=pre++t→Bf (fun(qj9:Int×(List (List UInt8)))=>match qj9 with
  |(x10,row11)=>(
   if (decide (x10<(L.length:Int)))=true then
    (rdO L x10).bind fun x12=>
    (apO 16 row11 x12).bind fun x13=>
    some (.inl (IntKind.wrap .i64 (x10+1),x13))
   else
    some (.inr row11):Option ((Int×(List (List UInt8)))⊕(List (List UInt8))))) ((pre.length:Int),pre.flatten)=some L.flatten:=by
  intro t
  induction t with
  |nil=>
   intro pre he
   refine A7 ?_
   subst he
   simp
  |cons x t ih=>
   intro pre he
   have hlen:pre.length<L.length:=by subst he;simp
   have hg:L[pre.length]=x:=by subst he;simp
   have hfl:pre.flatten.length+x.length≤L.flatten.length:=by subst he;simp
   rw[Cf (s':=((((pre++[x]).length:Nat):Int),(pre++[x]).flatten)),ih (pre++[x]) (by simp[he])]
   show(if _ then _ else _)=_
   rw[if_pos (by simp;omega),Gm hlen,hg]
   simp only[Option.bind_some]
   unfold apO
   rw[if_pos (by omega)]
   simp only[Option.bind_some]
   rw[wrap64 (by omega) (by omega)]
   simp
 exact Cs (key L [] rfl) rfl
abbrev Pc:=Nat×List By
def atS(p:Pc)(lvl:Nat):List By:=if p.1<lvl then [40]::(p.2++[[41]]) else p.2
def D7(k:Int):Nat×By×Nat×Nat:=
 if k=2 then(7,[45],7,7) else if k=3 then(5,[43],5,6) else if k=4 then(5,[45],5,6) else if k=5 then(6,[42],6,7) else if k=6 then(6,[47],6,7)
 else if k=7 then(4,[60],5,5) else if k=8 then(4,[60,61],5,5) else if k=9 then(4,[61],5,5) else if k=10 then(4,[62],5,5) else if k=11 then(4,[62,61],5,5)
 else if k=12 then(2,U2,2,3) else if k=13 then(1,sOr,1,2) else if k=14 then(3,Jq,3,3) else if k=15 then(0,sIf,0,0) else if k=16 then(8,Xh,0,0)
 else if k=17 then(8,Fx,0,0) else(8,[],0,0)
def A2m(k:Int)(i:Nat):Nat:=if i=0 then(D7 k).2.2.1 else if i=1 then(D7 k).2.2.2 else 0
def Pw(n:Nd)(p0 p1 p2:List By):List By:=
 if n.Ad=0 then(if n.Ag.getLast?=some 37 then [n.Ag.dropLast,[37]] else [n.Ag])
 else if n.Ad=1 then [n.Ag]
 else if n.Ad=2 then [45]::p0
 else if n.Ad=14 then Jq::p0
 else if n.Ad=15 then sIf::(p0++Hl::(p1++Gy::p2))
 else if n.Ad=16∨n.Ad=17 then(if n.Ad=17 then Fx else Xh)::[40]::(p0++[44]::(p1++[[41]]))
 else p0++(D7 n.Ad).2.1::p1
def gP(st:List Pc)(k:Int)(i:Nat):List By:=atS (st.getD i (0,[])) (A2m k i)
def Ahh(k:Int):Nat:=(Iy k).getD 0
def pst:List Nd→List Pc
 |[]=>[]
 |n::l=>((D7 n.Ad).1,Pw n (gP (pst l) n.Ad 0) (gP (pst l) n.Ad 1) (gP (pst l) n.Ad 2))::(pst l).drop (Ahh n.Ad)
theorem kinds{k:Int}(h:Iy k≠none):k=0∨k=1∨k=2∨k=3∨k=4∨k=5∨k=6∨k=7∨k=8∨k=9∨k=10∨k=11∨k=12∨k=13∨k=14∨k=15∨k=16∨k=17:=by
 unfold Iy at h
 split at h
 ·exact absurd rfl h
 ·omega
theorem Agv{n:Nd}{l:List Nd}{s:List Nat}(h:stk (n::l)=some s): ∃st k,stk l=some st∧Iy n.Ad=some k∧Atk n=true∧k≤st.length∧s=((st.take k).foldl max 0+1)::st.drop k:=by
 rw[stk] at h
 cases h1:stk l with
 |none=>rw[h1] at h;cases h
 |some st=>
  rw[h1] at h
  simp only at h
  cases h2:Iy n.Ad with
  |none=>rw[h2] at h;cases h
  |some k=>
   rw[h2] at h
   simp only at h
   split at h
   ·rename_i h3
    cases h
    exact⟨st,k,rfl,rfl,h3.1,h3.2,rfl⟩
   ·cases h
theorem Abb: ∀{l:List Nd} {st:List Nat},stk l=some st→(pst l).length=st.length
 |[],st,h=>by cases h;rfl
 |n::l,s,h=>by
  obtain⟨st,k,h1,h2,h3,h4,rfl⟩:=Agv h
  have:=Abb h1
  rw[pst]
  simp only[List.length_cons,List.length_drop,Ahh,h2,Option.getD_some]
  omega
def tw(st:List Pc):Nat:=(st.map fun p=>p.2.length).sum
theorem Bgb(st:List Pc)(k:Nat):tw (st.take k)+tw (st.drop k)=tw st:=by
 unfold tw
 rw[←List.sum_append,←List.map_append,List.take_append_drop]
theorem A7c(p:Pc)(lvl:Nat):(atS p lvl).length≤p.2.length+2:=by
 unfold atS
 split
 ·simp
 ·omega
theorem Bat(n:Nd)(p0 p1 p2:List By):(Pw n p0 p1 p2).length≤(if Ahh n.Ad=0 then 0 else p0.length)+(if Ahh n.Ad≤1 then 0 else p1.length)+(if Ahh n.Ad≤2 then 0 else p2.length)+4∨Iy n.Ad=none:=by
 by_cases h:Iy n.Ad=none
 ·exact Or.inr h
 ·left
  unfold Pw
  rcases kinds h with e|e|e|e|e|e|e|e|e|e|e|e|e|e|e|e|e|e<;>rw[e]<;>simp[Ahh,Iy]<;>(try split)<;>(try simp)<;>(try omega)
theorem U0: ∀{l:List Nd} {st:List Nat},stk l=some st→tw (pst l)≤10*l.length
 |[],st,h=>by simp[pst,tw]
 |n::l,s,h=>by
  obtain⟨st,k,h1,h2,h3,h4,rfl⟩:=Agv h
  have ih:=U0 h1
  have hlen:=Abb h1
  have hd:=Bgb (pst l) k
  have hk:=A4g h2
  rcases Bat n (gP (pst l) n.Ad 0) (gP (pst l) n.Ad 1) (gP (pst l) n.Ad 2) with hw|hw
  ·rw[pst]
   have hN:Ahh n.Ad=k:=by simp[Ahh,h2]
   rw[hN] at hw⊢
   have hg: ∀i,(gP (pst l) n.Ad i).length≤((pst l).getD i (0,[])).2.length+2:=fun i=>A7c _ _
   have g0:=hg 0;have g1:=hg 1;have g2:=hg 2
   have hsum:(if k=0 then 0 else((pst l).getD 0 (0,[])).2.length)+(if k≤1 then 0 else((pst l).getD 1 (0,[])).2.length)+(if k≤2 then 0 else((pst l).getD 2 (0,[])).2.length)=tw ((pst l).take k):=by
    match hp:pst l,k,hk with
    |[],0,_=>rfl
    |[],k+1,_=>rw[hp] at hlen;simp at hlen;omega
    |a::s,0,_=>rfl
    |a::s,1,_=>simp[tw]
    |[a],2,_=>rw[hp] at hlen;simp at hlen;omega
    |[a],3,_=>rw[hp] at hlen;simp at hlen;omega
    |a::b::s,2,_=>simp[tw]
    |[a,b],3,_=>rw[hp] at hlen;simp at hlen;omega
    |a::b::c::s,3,_=>simp[tw];omega
   have htw:tw (((D7 n.Ad).1,Pw n (gP (pst l) n.Ad 0) (gP (pst l) n.Ad 1) (gP (pst l) n.Ad 2))::(pst l).drop k)=(Pw n (gP (pst l) n.Ad 0) (gP (pst l) n.Ad 1) (gP (pst l) n.Ad 2)).length+tw ((pst l).drop k):=by simp[tw]
   rw[htw]
   simp only[List.length_cons]
   split at hw<;>(try split at hw)<;>(try split at hw)<;>(try split at hsum)<;>(try split at hsum)<;>(try split at hsum)<;>omega
  ·rw[hw] at h2;cases h2
theorem Ayv{st:List Pc}{p:Pc}(h:p∈st):p.2.length≤tw st:=by
 unfold tw
 exact List.single_le_sum_nat (List.mem_map.2 ⟨p,h,rfl⟩)
where
 List.single_le_sum_nat: ∀{l:List Nat} {x:Nat},x∈l→x≤l.sum:=by
  intro l
  induction l with
  |nil=>intro x h;cases h
  |cons a l ih=>
   intro x h
   rw[List.sum_cons]
   rcases List.mem_cons.1 h with rfl|h
   ·omega
   ·have:=ih h;omega
theorem Bhf{s:By}(hl:s.length≤1000000):strings_CutSuffix s [37]=some (if s.getLast?=some 37 then(s.dropLast,true) else(s,false)):=by
 unfold strings_CutSuffix stringslite_CutSuffix
 rw[Atc hl]
 simp only[Option.bind_some]
 by_cases h:s.getLast?=some 37
 ·rw[if_neg (by simp[h]),Aik hl h,if_pos h]
  rfl
 ·rw[if_pos (by simp[h]),if_neg h]
  rfl
def Av0(k:Nat)(p0 p1 p2:List By):List (List By):=[p0,p1,p2].take k
theorem Beo{n:Nd}(hx:n.Ag.length≤1000000){k:Nat}(hk:Iy n.Ad=some k){p0 p1 p2:List By}(hb:p0.length≤100000∧p1.length≤100000∧p2.length≤100000):Q4 n (placeOf n.Ad).2.1 (Av0 k p0 p1 p2)=some (Pw n p0 p1 p2):=by
 have hb0:=hb.1
 have hb1:=hb.2.1
 have hb2:=hb.2.2
 have hne:Iy n.Ad≠none:=by rw[hk];simp
 unfold Q4 Pw
 rcases kinds hne with e|e|e|e|e|e|e|e|e|e|e|e|e|e|e|e|e|e<;>rw[e] at hk⊢ <;>(have hk:=Option.some.inj hk)<;>subst hk
 ·simp only[beq_self_eq_true,if_true]
  rw[Bhf hx]
  simp only[Option.bind_some]
  split<;>simp
 ·rfl
 ·show(apO 16 [[45]] p0).bind _=_
  unfold apO
  rw[if_pos (by simp;omega)]
  rfl
 ·show(Ah [p0,[[43]],p1]).bind _=_
  rw[Cg (by simp) (by simp;omega)]
  simp[D7]
 ·show(Ah [p0,[[45]],p1]).bind _=_
  rw[Cg (by simp) (by simp;omega)]
  simp[D7]
 ·show(Ah [p0,[[42]],p1]).bind _=_
  rw[Cg (by simp) (by simp;omega)]
  simp[D7]
 ·show(Ah [p0,[[47]],p1]).bind _=_
  rw[Cg (by simp) (by simp;omega)]
  simp[D7]
 ·show(Ah [p0,[[60]],p1]).bind _=_
  rw[Cg (by simp) (by simp;omega)]
  simp[D7]
 ·show(Ah [p0,[[60,61]],p1]).bind _=_
  rw[Cg (by simp) (by simp;omega)]
  simp[D7]
 ·show(Ah [p0,[[61]],p1]).bind _=_
  rw[Cg (by simp) (by simp;omega)]
  simp[D7]
 ·show(Ah [p0,[[62]],p1]).bind _=_
  rw[Cg (by simp) (by simp;omega)]
  simp[D7]
 ·show(Ah [p0,[[62,61]],p1]).bind _=_
  rw[Cg (by simp) (by simp;omega)]
  simp[D7]
 ·show(Ah [p0,[[97,110,100]],p1]).bind _=_
  rw[Cg (by simp) (by simp;omega)]
  simp[D7,U2]
 ·show(Ah [p0,[[111,114]],p1]).bind _=_
  rw[Cg (by simp) (by simp;omega)]
  simp[D7,sOr]
 ·show(apO 16 [[110,111,116]] p0).bind _=_
  unfold apO
  rw[if_pos (by simp;omega)]
  rfl
 ·show(Ah [[[105,102]],p0,[[116,104,101,110]],p1,[[101,108,115,101]],p2]).bind _=_
  rw[Cg (by simp) (by simp;omega)]
  simp[sIf,Hl,Gy]
 ·show(Ah [[[109,105,110],[40]],p0,[[44]],p1,[[41]]]).bind _=_
  rw[Cg (by simp) (by simp;omega)]
  simp[Xh]
 ·show(Ah [[[109,97,120],[40]],p0,[[44]],p1,[[41]]]).bind _=_
  rw[Cg (by simp) (by simp;omega)]
  simp[Fx]
theorem Bds{kind:Int}(h:Iy kind≠none): ∃sd:List Int,((if (kind==2)=true then
   some (7,[7])
  else
   if (kind==14)=true then
    some (3,[3])
   else
    if (kind==15)=true then
     some (0,[(placeOf kind).2.2.1,(placeOf kind).2.2.2,0])
    else
     some ((placeOf kind).1,[(placeOf kind).2.2.1,(placeOf kind).2.2.2,0])):Option (Int×(List Int)))=some (((D7 kind).1:Int),sd)∧ ∀i,i<Ahh kind→rdO sd (i:Int)=some (A2m kind i:Int):=by
 rcases kinds h with rfl|rfl|rfl|rfl|rfl|rfl|rfl|rfl|rfl|rfl|rfl|rfl|rfl|rfl|rfl|rfl|rfl|rfl
 ·exact⟨_,rfl,fun i hi=>absurd hi (by simp[Ahh,Iy])⟩
 ·exact⟨_,rfl,fun i hi=>absurd hi (by simp[Ahh,Iy])⟩
 ·refine⟨_,rfl,fun i hi=>?_⟩
  have:i<1:=hi
  obtain rfl:i=0:=by omega
  rfl
 ·refine⟨_,rfl,fun i hi=>?_⟩
  have:i<2:=hi
  rcases(show i=0∨i=1 by omega) with rfl|rfl<;>rfl
 ·refine⟨_,rfl,fun i hi=>?_⟩
  have:i<2:=hi
  rcases(show i=0∨i=1 by omega) with rfl|rfl<;>rfl
 ·refine⟨_,rfl,fun i hi=>?_⟩
  have:i<2:=hi
  rcases(show i=0∨i=1 by omega) with rfl|rfl<;>rfl
 ·refine⟨_,rfl,fun i hi=>?_⟩
  have:i<2:=hi
  rcases(show i=0∨i=1 by omega) with rfl|rfl<;>rfl
 ·refine⟨_,rfl,fun i hi=>?_⟩
  have:i<2:=hi
  rcases(show i=0∨i=1 by omega) with rfl|rfl<;>rfl
 ·refine⟨_,rfl,fun i hi=>?_⟩
  have:i<2:=hi
  rcases(show i=0∨i=1 by omega) with rfl|rfl<;>rfl
 ·refine⟨_,rfl,fun i hi=>?_⟩
  have:i<2:=hi
  rcases(show i=0∨i=1 by omega) with rfl|rfl<;>rfl
 ·refine⟨_,rfl,fun i hi=>?_⟩
  have:i<2:=hi
  rcases(show i=0∨i=1 by omega) with rfl|rfl<;>rfl
 ·refine⟨_,rfl,fun i hi=>?_⟩
  have:i<2:=hi
  rcases(show i=0∨i=1 by omega) with rfl|rfl<;>rfl
 ·refine⟨_,rfl,fun i hi=>?_⟩
  have:i<2:=hi
  rcases(show i=0∨i=1 by omega) with rfl|rfl<;>rfl
 ·refine⟨_,rfl,fun i hi=>?_⟩
  have:i<2:=hi
  rcases(show i=0∨i=1 by omega) with rfl|rfl<;>rfl
 ·refine⟨_,rfl,fun i hi=>?_⟩
  have:i<1:=hi
  obtain rfl:i=0:=by omega
  rfl
 ·refine⟨_,rfl,fun i hi=>?_⟩
  have:i<3:=hi
  rcases(show i=0∨i=1∨i=2 by omega) with rfl|rfl|rfl<;>rfl
 ·refine⟨_,rfl,fun i hi=>?_⟩
  have:i<2:=hi
  rcases(show i=0∨i=1 by omega) with rfl|rfl<;>rfl
 ·refine⟨_,rfl,fun i hi=>?_⟩
  have:i<2:=hi
  rcases(show i=0∨i=1 by omega) with rfl|rfl<;>rfl
theorem A23: ∀(N f:Nat) (l:List Nd) (d:Nat) (st:List Nat) (lvl:Nat),l.length≤N→l.length<f→l.length≤1000→(∀n∈l,n.Ag.length≤1000000)→stk l=some (d::st)→
  ∃rest,E2 f l (lvl:Int)=some (atS ((pst l).getD 0 (0,[])) lvl,rest)∧stk rest=some st∧pst rest=(pst l).drop 1∧rest <:+ l∧rest.length<l.length:=by
 intro N
 induction N with
 |zero=>
  intro f l d st lvl hN hf hl hx hs
  obtain rfl:l=[]:=List.eq_nil_of_length_eq_zero (by omega)
  cases hs
 |succ N ih=>
  intro f l d st lvl hN hf hl hx hs
  cases l with
  |nil=>cases hs
  |cons n l=>
   obtain⟨g,rfl⟩: ∃g,f=g+1:=⟨f-1,by omega⟩
   simp only[List.length_cons] at hN hf hl
   obtain⟨st',k,h1,h2,h3,h4,h5⟩:=Agv hs
   have hst:st=st'.drop k:=(List.cons.inj h5).2
   have hNk:Ahh n.Ad=k:=by simp[Ahh,h2]
   have hk3:=A4g h2
   have hnx:=hx n (by simp)
   have hplen:=Abb h1
   have htw:=U0 h1
   obtain⟨sd,s1,s2⟩:=Bds (kind:=n.Ad) (by rw[h2];simp)
   rw[hNk] at s2
   have hP: ∀i,(gP (pst l) n.Ad i).length≤10*l.length+2:=by
    intro i
    have:=A7c ((pst l).getD i (0,[])) (A2m n.Ad i)
    have h6:((pst l).getD i (0,[])).2.length≤tw (pst l):=by
     rw[List.getD_eq_getElem?_getD]
     cases hg:(pst l)[i]? with
     |none=>simp
     |some p=>exact Ayv (List.mem_of_getElem? hg)
    unfold gP
    omega
   have key: ∀(j:Nat) (rest:List Nd),j≤k→rest <:+ l→stk rest=some (st'.drop j)→pst rest=(pst l).drop j→ ∃rest',rest' <:+ l∧stk rest'=some (st'.drop k)∧pst rest'=(pst l).drop k∧Bf (fun(qj10:(List Aa)×Int×(List (List (List UInt8))))=>match qj10 with
   |(rest11,x12,row13)=>(
    if (decide (x12<(k:Int)))=true then
     (rdO sd x12).bind fun x14=>
     (E2 g rest11 x14).bind fun x15=>
     (apO 24 row13 [x15.1]).bind fun x16=>
     some (.inl (x15.2,IntKind.wrap .i64 (x12+1),x16))
    else
     some (.inr (rest11,row13)):Option (((List Aa)×Int×(List (List (List UInt8))))⊕((List Aa)×(List (List (List UInt8))))))) (rest,(j:Int),Av0 j (gP (pst l) n.Ad 0) (gP (pst l) n.Ad 1) (gP (pst l) n.Ad 2))=some (rest',Av0 k (gP (pst l) n.Ad 0) (gP (pst l) n.Ad 1) (gP (pst l) n.Ad 2)):=by
    intro j
    generalize hd:k-j=dd
    induction dd generalizing j with
    |zero=>
     intro rest hj hr hs1 hs2
     obtain rfl:j=k:=by omega
     refine⟨rest,hr,hs1,hs2,A7 ?_⟩
     show(if _ then _ else _)=_
     rw[if_neg (by simp)]
    |succ dd ihd=>
     intro rest hj hr hs1 hs2
     have hjk:j<k:=by omega
     have hjl:j<st'.length:=by omega
     have hcons:st'.drop j=st'[j]::st'.drop (j+1):=List.drop_eq_getElem_cons hjl
     rw[hcons] at hs1
     have hrl:=hr.length_le
     obtain⟨r2,t1,t2,t3,t4,t5⟩:=ih g rest st'[j] (st'.drop (j+1)) (A2m n.Ad j) (by omega) (by omega) (by omega) (fun m hm=>hx m (by simp[hr.subset hm])) hs1
     obtain⟨rest',q1,q2,q3,q4⟩:=ihd (j+1) (by omega) r2 (by omega) (t4.trans hr) t2 (by rw[t3,hs2,List.drop_drop])
     refine⟨rest',q1,q2,q3,?_⟩
     rw[←q4]
     refine Cf ?_
     show(if _ then _ else _)=_
     rw[if_pos (by simp;omega),s2 j hjk]
     simp only[Option.bind_some]
     rw[t1]
     simp only[Option.bind_some]
     have hat:atS ((pst rest).getD 0 (0,[])) (A2m n.Ad j)=gP (pst l) n.Ad j:=by
      rw[hs2]
      unfold gP
      congr 1
      simp
     rw[hat]
     unfold apO
     rw[if_pos (by simp[Av0];omega)]
     simp only[Option.bind_some]
     rw[wrap64 (by omega) (by omega)]
     simp only[Option.some.injEq,Sum.inl.injEq,Prod.mk.injEq,true_and]
     refine⟨rfl,?_⟩
     rcases(show j=0∨j=1∨j=2 by omega) with rfl|rfl|rfl<;>rfl
   obtain⟨rest',q1,q2,q3,q4⟩:=key 0 l (by omega) (List.suffix_refl l) (by simpa using h1) (by simp)
   refine⟨rest',?_,by rw[hst];exact q2,?_,q1.trans (List.suffix_cons n l),by have:=q1.length_le;simp;omega⟩
   ·rw[E2]
    have e0:rdO (n::l) 0=some n:=rfl
    have e2:slO (n::l) 1 ((n::l).length:Int)=some l:=by
     have:=Mm (l:=n::l) (n:=1) (by simp)
     simpa using this
    rw[e0,e2]
    simp only[Option.bind_some]
    rw[show Zp n.Ad=some (placeOf n.Ad) from rfl]
    simp only[Option.bind_some]
    refine Cs s1 ?_
    simp only
    rw[has_eq]
    have hI:Bcl n.Ad=(k:Int):=by unfold Bcl;rw[h2]
    rw[hI]
    simp only[Option.bind_some]
    refine Cs q4 ?_
    simp only
    rw[Beo hnx h2 ⟨by have:=hP 0;omega,by have:=hP 1;omega,by have:=hP 2;omega⟩]
    simp only[Option.bind_some]
    have hhead:(pst (n::l)).getD 0 (0,[])=((D7 n.Ad).1,Pw n (gP (pst l) n.Ad 0) (gP (pst l) n.Ad 1) (gP (pst l) n.Ad 2)):=rfl
    rw[hhead]
    unfold atS
    have htw2:=U0 hs
    have hwl:(Pw n (gP (pst l) n.Ad 0) (gP (pst l) n.Ad 1) (gP (pst l) n.Ad 2)).length≤20000:=by
     have:=Ayv (st:=pst (n::l)) (p:=((D7 n.Ad).1,Pw n (gP (pst l) n.Ad 0) (gP (pst l) n.Ad 1) (gP (pst l) n.Ad 2))) (by rw[pst];simp)
     simp at this htw2
     omega
    by_cases hb:(D7 n.Ad).1<lvl
    ·rw[if_pos hb,if_pos (by simp;omega),Cg (by simp) (by simp;omega)]
     simp
    ·rw[if_neg hb,if_neg (by simp;omega)]
     rfl
   ·rw[q3]
    rw[pst,hNk]
    simp
def jw(ws:List By):By:=Lib.join ws [32]
theorem Bhl:jw []=[]:=rfl
theorem Bhm(w:By):jw [w]=w:=by simp[jw,Lib.join,List.intercalate]
theorem Bfa(w v:By)(ws:List By):jw (w::v::ws)=w++32::jw (v::ws):=by simp[jw,Lib.join,List.intercalate]
theorem A4j: ∀(ws:List By) (b:Nat),(∀w∈ws,w.length≤b)→(jw ws).length≤ws.length*(b+1)
 |[],b,h=>by simp[Bhl]
 |[w],b,h=>by
  have:=h w (by simp)
  rw[Bhm];simp;omega
 |w::v::ws,b,h=>by
  have h1:=h w (by simp)
  have h2:=A4j (v::ws) b (fun x hx=>h x (by simp[hx]))
  rw[Bfa]
  simp only[List.length_append,List.length_cons] at h2⊢
  rw[Nat.add_mul,Nat.add_mul] at*
  omega
theorem A7w{ws:List By}(h1:ws.length≤1000000)(h2:(jw ws).length≤140737488355328):strings_Join ws [32]=some (jw ws):=by
 unfold strings_Join
 rw[if_pos ⟨by omega,h2⟩]
 rfl
def K8(l:List Nd):List By:=((pst l).getD 0 (0,[])).2
def Ayi(l:List Nd):By×Int:=if Py l=0 then([],1) else(jw (K8 l),0)
theorem Aaz{l:List Nd}(h:Py l≠0):l.length≤200∧ ∃d,stk l=some [d]∧d≤24∧Py l=d:=by
 unfold Py at h⊢
 by_cases hl:200<l.length
 ·rw[if_pos hl] at h;exact absurd rfl h
 ·rw[if_neg hl] at h⊢
  refine⟨by omega,?_⟩
  match hs:stk l with
  |none=>rw[hs] at h;exact absurd rfl h
  |some []=>rw[hs] at h;exact absurd rfl h
  |some [d]=>
   rw[hs] at h
   simp only at h
   split at h
   ·exact⟨d,rfl,by assumption,by simp only;rw[if_pos (by assumption)]⟩
   ·exact absurd rfl h
  |some (a::b::s)=>rw[hs] at h;exact absurd rfl h
theorem Ahx{B:Nat}(hB:10≤B): ∀(l:List Nd) (st:List Nat),stk l=some st→(∀n∈l,n.Ag.length≤B)→ ∀p∈pst l,∀w∈p.2,w.length≤B
 |[],st,h,hx,p,hp=>by simp[pst] at hp
 |n::l,s,h,hx,p,hp=>by
  obtain⟨st,k,h1,h2,h3,h4,rfl⟩:=Agv h
  have ih:=Ahx hB l st h1 (fun m hm=>hx m (by simp[hm]))
  have hn:=hx n (by simp)
  have hg: ∀i,∀w∈gP (pst l) n.Ad i,w.length≤B:=by
   intro i w hw
   have hq: ∀w∈((pst l).getD i (0,[])).2,w.length≤B:=by
    rw[List.getD_eq_getElem?_getD]
    cases hg:(pst l)[i]? with
    |none=>simp
    |some q=>exact ih q (List.mem_of_getElem? hg)
   unfold gP atS at hw
   split at hw
   ·simp only[List.mem_cons,List.mem_append,List.not_mem_nil,or_false] at hw
    rcases hw with rfl|hw|rfl
    ·simp;omega
    ·exact hq w hw
    ·simp;omega
   ·exact hq w hw
  rw[pst,List.mem_cons] at hp
  rcases hp with rfl|hp
  ·have hne:Iy n.Ad≠none:=by rw[h2];simp
   intro w hw
   simp only at hw
   unfold Pw at hw
   have h0:=hg 0 w;have h1:=hg 1 w;have h2:=hg 2 w
   generalize gP (pst l) n.Ad 0=p0 at hw h0
   generalize gP (pst l) n.Ad 1=p1 at hw h1
   generalize gP (pst l) n.Ad 2=p2 at hw h2
   have hdl:n.Ag.dropLast.length≤B:=by simp;omega
   rcases kinds hne with e|e|e|e|e|e|e|e|e|e|e|e|e|e|e|e|e|e<;>rw[e] at hw<;>simp[D7,U2,sOr,Jq,sIf,Hl,Gy,Xh,Fx] at hw<;>(try split at hw)<;>(try simp at hw)<;>(repeat' (refine Or.elim hw (fun hw=>?_) (fun hw=>?_)))<;>first|exact h0 hw|exact h1 hw|exact h2 hw|(rw[hw];simp at hn hdl⊢;omega)
  ·exact ih p (List.mem_of_mem_drop hp)
theorem A19{l:List Nd}(hx: ∀n∈l,n.Ag.length≤1000000):Ln l=some (Ayi l):=by
 unfold Ln Ayi
 rw[right_eq hx]
 simp only[Option.bind_some]
 by_cases hd:Py l=0
 ·rw[if_pos (by simp[hd]),if_pos hd]
 ·rw[if_neg (by simp;omega),if_neg hd]
  obtain⟨hl,d,hs,_⟩:=Aaz hd
  obtain⟨rest,h1,_⟩:=A23 l.length 100000 l d [] 0 (Nat.le_refl _) (by omega) (by omega) hx hs
  rw[show(0:Int)=((0:Nat):Int) from rfl,h1]
  simp only[Option.bind_some]
  have e:atS ((pst l).getD 0 (0,[])) 0=K8 l:=by unfold atS K8;rw[if_neg (by omega)]
  rw[e]
  have htw:=U0 hs
  have hlen:=Abb hs
  have hmem:(pst l).getD 0 (0,[])∈pst l:=by
   match hp:pst l with
   |[]=>rw[hp] at hlen;simp at hlen
   |p::q=>simp
  have hwl:=Ayv hmem
  have hwt:=Ahx (B:=1000000) (by omega) l [d] hs hx _ hmem
  have hjl:=A4j (K8 l) 1000000 hwt
  have hc:(K8 l).length≤2000:=by unfold K8;omega
  have hm:(K8 l).length*(1000000+1)≤2000*(1000000+1):=Nat.mul_le_mul_right _ hc
  rw[A7w (by omega) (by omega)]
  rfl
end Go.Av.G
end
section
set_option maxRecDepth 20000
set_option maxHeartbeats 4000000
namespace Go.Av.G
open Go Go.Av Go.Proofs
def Vf(b:Am):Bool:=Ov b.Hx&&Ov b.Hy
def Rh(d:Af):Bool:=Akz d.F4 true&&Akz d.Lj true&&Akz d.Dz true&&Ov d.C3&&Ov d.Cn&&Ov d.Bu&&Ov d.Cu&&decide (1≤d.A2.length)&&decide (d.A2.length≤8)&&d.A2.all Vf&&decide (0<Py d.Ft)
structure DB (d:Af):Prop where
 name:d.F4.length≤1000000
 cur:d.Lj.length≤1000000
 basis:d.Dz.length≤1000000
 period:d.C3.length≤1000000
 minimum:d.Cn.length≤1000000
 overdraft:d.Bu.length≤1000000
 notice:d.Cu.length≤1000000
 fee:NB d.Ft
 bands:d.A2.length≤1000000
 band: ∀b∈d.A2,b.Hx.length≤1000000∧b.Hy.length≤1000000
theorem A65{L:List By}(hL:L.length≤1000)(hx: ∀w∈L,w.length≤1000000):Bf (fun(qj2:Int)=>match qj2 with
  |x3=>(
   if (decide (x3<(L.length:Int)))=true then
    (rdO L x3).bind fun x4=>
    (J1 x4 true).bind fun x5=>
    if (!x5)=true then
     some (.inr (.inr false))
    else
     some (.inl (IntKind.wrap .i64 (x3+1)))
   else
    some (.inr (.inl ())):Option (Int⊕(Unit⊕Bool)))) 0=some (if L.all (fun w=>Akz w true)=true then .inl () else .inr false):=by
 rw[Ato (l:=L) (fun w=> !Akz w true) (o:=(.inr false:Unit⊕Bool)) (e:= .inl ()) (by omega) (fun i hi=>?_) (fun i hi=>?_)]
 ·have:L.any (fun w=> !Akz w true)= !L.all (fun w=>Akz w true):=by rw[List.not_all_eq_any_not]
  rw[this]
  cases L.all (fun w=>Akz w true)<;>rfl
 ·show(if _ then _ else _)=_
  rw[if_pos (by simp;omega),Gm hi]
  simp only[Option.bind_some]
  rw[A8z (hx _ (List.getElem_mem hi))]
  simp only[Option.bind_some]
  split<;>rfl
 ·show(if _ then _ else _)=_
  rw[if_neg (by simp;omega)]
theorem A9q{L:List By}(hL:L.length≤1000)(hx: ∀w∈L,w.length≤1000000):Bf (fun(qj2:Int)=>match qj2 with
  |x3=>(
   if (decide (x3<(L.length:Int)))=true then
    (rdO L x3).bind fun x4=>
    (D2 x4).bind fun x5=>
    if (!x5)=true then
     some (.inr (.inr false))
    else
     some (.inl (IntKind.wrap .i64 (x3+1)))
   else
    some (.inr (.inl ())):Option (Int⊕(Unit⊕Bool)))) 0=some (if L.all Ov=true then .inl () else .inr false):=by
 rw[Ato (l:=L) (fun w=> !Ov w) (o:=(.inr false:Unit⊕Bool)) (e:= .inl ()) (by omega) (fun i hi=>?_) (fun i hi=>?_)]
 ·have:L.any (fun w=> !Ov w)= !L.all Ov:=by rw[List.not_all_eq_any_not]
  rw[this]
  cases L.all Ov<;>rfl
 ·show(if _ then _ else _)=_
  rw[if_pos (by simp;omega),Gm hi]
  simp only[Option.bind_some]
  rw[Aa9 (hx _ (List.getElem_mem hi))]
  simp only[Option.bind_some]
  split<;>rfl
 ·show(if _ then _ else _)=_
  rw[if_neg (by simp;omega)]
theorem Bcm{l:List Am}(hl:l.length≤1000000)(hx: ∀b∈l,b.Hx.length≤1000000∧b.Hy.length≤1000000):Ca l=some (!l.all Vf):=by
 unfold Ca Dq
 have h:=Aho (l:=l) (p:=fun b=> !Vf b) (o:=fun i=>(.inr (i:Int):Unit⊕Int)) (e:= .inl ()) (f:=fun(qj2:Int)=>match qj2 with
  |x3=>(
   if (decide (x3<(l.length:Int)))=true then
    (rdO l x3).bind fun x4=>
    (Lq x4).bind fun x5=>
    if x5=true then
     some (.inr (.inr x3))
    else
     some (.inl (IntKind.wrap .i64 (x3+1)))
   else
    some (.inr (.inl ())):Option (Int⊕(Unit⊕Int)))) (by omega) (fun i hi=>by
   have hb:=hx l[i] (List.getElem_mem hi)
   have hm:Lq l[i]=some (!Vf l[i]):=by
    unfold Lq Vf
    rw[Aa9 hb.1,Aa9 hb.2]
    simp only[Option.bind_some,Bd]
    cases Ov l[i].Hx<;>rfl
   show(if _ then _ else _)=_
   rw[if_pos (by simp;omega),Gm hi]
   simp only[Option.bind_some]
   rw[hm]
   simp only[Option.bind_some]
   split<;>rfl) (fun i hi=>by
   show(if _ then _ else _)=_
   rw[if_neg (by simp;omega)])
 rw[h]
 simp only[Option.bind_some]
 cases hf:Adn l (fun b=> !Vf b) with
 |none=>
  have:=Y1 hf
  have ha:l.all Vf=true:=List.all_eq_true.2 fun b hb=>by simpa using this b hb
  rw[ha]
  rfl
 |some i=>
  obtain⟨hi,h1,_⟩:=Y2 hf
  have ha:l.all Vf=false:=by
   rw[←Bool.not_eq_true,List.all_eq_true]
   intro h
   have:=h l[i] (List.getElem_mem hi)
   rw[this] at h1
   cases h1
  rw[ha]
  simp
theorem Bhr{d:Af}(h:DB d):Aba d=some (Rh d):=by
 unfold Aba
 refine Cs (A65 (L:=[d.F4,d.Lj,d.Dz]) (by simp) (fun w hw=>?_)) ?_
 ·simp at hw
  rcases hw with rfl|rfl|rfl
  ·exact h.name
  ·exact h.cur
  ·exact h.basis
 ·by_cases c1:[d.F4,d.Lj,d.Dz].all (fun w=>Akz w true)=true
  ·rw[if_pos c1]
   simp only
   refine Cs (A9q (L:=[d.C3,d.Cn,d.Bu,d.Cu]) (by simp) (fun w hw=>?_)) ?_
   ·simp at hw
    rcases hw with rfl|rfl|rfl|rfl
    ·exact h.period
    ·exact h.minimum
    ·exact h.overdraft
    ·exact h.notice
   ·by_cases c2:[d.C3,d.Cn,d.Bu,d.Cu].all Ov=true
    ·rw[if_pos c2]
     simp only[Option.bind_some]
     rw[Bcm h.bands h.band,right_eq h.fee]
     simp only[Bd,Option.bind_some,Option.some.injEq]
     simp only[List.all_cons,List.all_nil,Bool.and_true,Bool.and_eq_true] at c1 c2
     have e1:decide ((d.A2.length:Int)≥1)=decide (1≤d.A2.length):=by rw[decide_eq_decide];omega
     have e2:decide ((d.A2.length:Int)≤8)=decide (d.A2.length≤8):=by rw[decide_eq_decide];omega
     unfold Rh
     rw[c1.1,c1.2.1,c1.2.2,c2.1,c2.2.1,c2.2.2.1,c2.2.2.2,e1,e2]
     cases decide (1≤d.A2.length)<;>cases decide (d.A2.length≤8)<;>cases d.A2.all Vf<;>rfl
    ·rw[if_neg c2]
     simp only[Option.some.injEq]
     symm
     rw[←Bool.not_eq_true]
     intro hm
     unfold Rh at hm
     simp only[Bool.and_eq_true] at hm
     refine c2 ?_
     simp[hm]
  ·rw[if_neg c1]
   simp only[Option.some.injEq]
   symm
   rw[←Bool.not_eq_true]
   intro hm
   unfold Rh at hm
   simp only[Bool.and_eq_true] at hm
   refine c1 ?_
   simp[hm]
theorem Bcn{l:List Af}(hl:l.length≤1000000)(hx: ∀d∈l,DB d):Cb l=some (!l.all Rh):=by
 unfold Cb Dr
 have h:=Aho (l:=l) (p:=fun b=> !Rh b) (o:=fun i=>(.inr (i:Int):Unit⊕Int)) (e:= .inl ()) (f:=fun(qj2:Int)=>match qj2 with
  |x3=>(
   if (decide (x3<(l.length:Int)))=true then
    (rdO l x3).bind fun x4=>
    (Eo x4).bind fun x5=>
    if x5=true then
     some (.inr (.inr x3))
    else
     some (.inl (IntKind.wrap .i64 (x3+1)))
   else
    some (.inr (.inl ())):Option (Int⊕(Unit⊕Int)))) (by omega) (fun i hi=>by
   have hb:=hx l[i] (List.getElem_mem hi)
   have hm:Eo l[i]=some (!Rh l[i]):=by
    unfold Eo
    rw[Bhr hb]
    rfl
   show(if _ then _ else _)=_
   rw[if_pos (by simp;omega),Gm hi]
   simp only[Option.bind_some]
   rw[hm]
   simp only[Option.bind_some]
   split<;>rfl) (fun i hi=>by
   show(if _ then _ else _)=_
   rw[if_neg (by simp;omega)])
 rw[h]
 simp only[Option.bind_some]
 cases hf:Adn l (fun b=> !Rh b) with
 |none=>
  have:=Y1 hf
  have ha:l.all Rh=true:=List.all_eq_true.2 fun b hb=>by simpa using this b hb
  rw[ha]
  rfl
 |some i=>
  obtain⟨hi,h1,_⟩:=Y2 hf
  have ha:l.all Rh=false:=by
   rw[←Bool.not_eq_true,List.all_eq_true]
   intro h
   have:=h l[i] (List.getElem_mem hi)
   rw[this] at h1
   cases h1
  rw[ha]
  simp
def Alk(b:Am):List By:=[b.Hx,[58],b.Hy,[37],[59]]
def Ais(d:Af):List By:=[Agp,d.F4,d.Lj,[123],Aym,d.Dz,[59],Ak7,d.C3,[59],Aal,[123]]
def Bd0(d:Af):List By:=[[59],Ago,d.Cn,[59],Xi,d.Bu,[59],Ak6,d.Cu,[59],[125]]
def Tb(d:Af):List By:=Ais d++(d.A2.flatMap Alk++([125]::Bdp::(K8 d.Ft++Bd0 d)))
def Ahw(l:List Af):By×Int:=if 16<l.length∨l.all Rh=false then([],1) else(jw (l.flatMap Tb),0)
theorem foldl_flat{α β:Type}(f:α→List β): ∀(l:List α) (s:List β),l.foldl (fun s x=>s++f x) s=s++l.flatMap f
 |[],s=>by simp
 |x::l,s=>by rw[List.foldl_cons,foldl_flat f l];simp
theorem Avs{d:Af}(h:Rh d=true):Py d.Ft≠0∧d.A2.length≤8:=by
 unfold Rh at h
 simp only[Bool.and_eq_true,decide_eq_true_eq] at h
 exact⟨by omega,by omega⟩
theorem Ap2{l:List Nd}(h:Py l≠0):(K8 l).length≤2000:=by
 obtain⟨hl,d,hs,_⟩:=Aaz h
 have htw:=U0 hs
 have hlen:=Abb hs
 have hmem:(pst l).getD 0 (0,[])∈pst l:=by
  match hp:pst l with
  |[]=>rw[hp] at hlen;simp at hlen
  |p::q=>simp
 have hwl:=Ayv hmem
 unfold K8
 omega
theorem A3a{B:Nat}(hB:10≤B){l:List Nd}(h:Py l≠0)(hx: ∀n∈l,n.Ag.length≤B): ∀w∈K8 l,w.length≤B:=by
 obtain⟨hl,d,hs,_⟩:=Aaz h
 have hlen:=Abb hs
 have hmem:(pst l).getD 0 (0,[])∈pst l:=by
  match hp:pst l with
  |[]=>rw[hp] at hlen;simp at hlen
  |p::q=>simp
 exact Ahx hB l [d] hs hx _ hmem
theorem Vg: ∀(l:List Am),(l.flatMap Alk).length=5*l.length
 |[]=>rfl
 |b::l=>by
  rw[List.flatMap_cons,List.length_append,Vg l]
  simp[Alk]
  omega
theorem A89{d:Af}(h:Rh d=true):(Tb d).length≤2100:=by
 have h1:=Avs h
 have h2:=Ap2 h1.1
 unfold Tb
 rw[List.length_append,List.length_append,Vg]
 simp[Ais,Bd0]
 omega
theorem A3z{d:Af}(h:Rh d=true)(hd:DB d): ∀w∈Tb d,w.length≤1000000:=by
 intro w hw
 unfold Tb at hw
 have h1:=A3a (B:=1000000) (by omega) (Avs h).1 hd.fee w
 have hc: ∀u:By,u.length≤10→w=u→w.length≤1000000:=fun u hu e=>by rw[e];omega
 simp only[List.mem_append,List.mem_cons,Ais,Bd0,List.not_mem_nil,or_false,List.mem_flatMap] at hw
 rcases hw with(hw|hw|hw|hw|hw|hw|hw|hw|hw|hw|hw|hw)|hw|hw|hw|hw|hw|hw|hw|hw|hw|hw|hw|hw|hw|hw|hw
 ·exact hc _ (by decide) hw
 ·rw[hw];exact hd.name
 ·rw[hw];exact hd.cur
 ·exact hc _ (by decide) hw
 ·exact hc _ (by decide) hw
 ·rw[hw];exact hd.basis
 ·exact hc _ (by decide) hw
 ·exact hc _ (by decide) hw
 ·rw[hw];exact hd.period
 ·exact hc _ (by decide) hw
 ·exact hc _ (by decide) hw
 ·exact hc _ (by decide) hw
 ·obtain⟨b,hb,hw⟩:=hw
  have:=hd.band b hb
  simp only[Alk,List.mem_cons,List.not_mem_nil,or_false] at hw
  rcases hw with hw|hw|hw|hw|hw
  ·rw[hw];exact this.1
  ·exact hc _ (by decide) hw
  ·rw[hw];exact this.2
  ·exact hc _ (by decide) hw
  ·exact hc _ (by decide) hw
 ·exact hc _ (by decide) hw
 ·exact hc _ (by decide) hw
 ·exact h1 hw
 ·exact hc _ (by decide) hw
 ·exact hc _ (by decide) hw
 ·rw[hw];exact hd.minimum
 ·exact hc _ (by decide) hw
 ·exact hc _ (by decide) hw
 ·rw[hw];exact hd.overdraft
 ·exact hc _ (by decide) hw
 ·exact hc _ (by decide) hw
 ·rw[hw];exact hd.notice
 ·exact hc _ (by decide) hw
 ·exact hc _ (by decide) hw
theorem Air{l:List Af}(h:l.all Rh=true):(l.flatMap Tb).length≤l.length*2100:=by
 induction l with
 |nil=>simp
 |cons d l ih=>
  simp only[List.all_cons,Bool.and_eq_true] at h
  have h1:=A89 h.1
  have h2:=ih h.2
  rw[List.flatMap_cons,List.length_append,List.length_cons,Nat.add_mul]
  omega
theorem Ve{α:Type}{n:Nat}{a b:List α}(h:(a.length+b.length)*n≤140737488355328):apO n a b=some (a++b):=by unfold apO;rw[if_pos h]
theorem A18{l:List Af}(hx: ∀d∈l,DB d)(hl:l.length≤1000000):H6 l=some (Ahw l):=by
 unfold H6 Ahw
 rw[Bcn hl hx]
 simp only[Bd,Option.bind_some]
 by_cases hc:16<l.length∨l.all Rh=false
 ·rw[if_pos hc,if_pos]
  by_cases h16:16<l.length
  ·have:decide ((l.length:Int)>16)=true:=by simp;omega
   rw[this];rfl
  ·have:decide ((l.length:Int)>16)=false:=by simp;omega
   have ha:l.all Rh=false:=by rcases hc with h|h;exact absurd h h16;exact h
   rw[this,ha];rfl
 ·have h16:l.length≤16:=by omega
  have ha:l.all Rh=true:=by
   rw[←Bool.not_eq_false];exact fun h=>hc (Or.inr h)
  rw[if_neg hc,if_neg (by
   have:decide ((l.length:Int)>16)=false:=by simp;omega
   rw[this,ha];simp)]
  have hfl:=Air ha
  have hpre: ∀i,((l.take i).flatMap Tb).length≤l.length*2100:=by
   intro i
   have h1:(l.take i).all Rh=true:=List.all_eq_true.2 fun d hd=>List.all_eq_true.1 ha d (List.mem_of_mem_take hd)
   have:=Air h1
   have h2:(l.take i).length*2100≤l.length*2100:=Nat.mul_le_mul_right _ (by simp;omega)
   exact Nat.le_trans this h2
  have hloop:Bf (fun(qj4:Int×(List (List UInt8)))=>match qj4 with
   |(x5,row6)=>(
    if (decide (x5<(l.length:Int)))=true then
     (rdO l x5).bind fun x7=>
     (apO 16 row6 [[112,114,111,100,117,99,116],x7.F4,x7.Lj,[123],[98,97,115,105,115],x7.Dz,[59],[112,101,114,105,111,100],x7.C3,[59],[116,105,101,114,115],[123]]).bind fun x8=>
     ((Bf (fun(qj9:Int×(List (List UInt8)))=>match qj9 with
       |(x10,row11)=>(
        if (decide (x10<(x7.A2.length:Int)))=true then
         (rdO x7.A2 x10).bind fun x12=>
         (apO 16 row11 [x12.Hx,[58],x12.Hy,[37],[59]]).bind fun x13=>
         some (.inl (IntKind.wrap .i64 (x10+1),x13))
        else
         some (.inr row11):Option ((Int×(List (List UInt8)))⊕(List (List UInt8))))) (0,x8)):Option (List (List UInt8))).bind fun j9=>
     (E2 100000 x7.Ft 0).bind fun x15=>
     (apO 16 j9 [[125],[102,101,101]]).bind fun x16=>
     (apO 16 x16 x15.1).bind fun x17=>
     (apO 16 x17 [[59],[109,105,110,105,109,117,109],x7.Cn,[59],[111,118,101,114,100,114,97,102,116],x7.Bu,[59],[110,111,116,105,99,101],x7.Cu,[59],[125]]).bind fun x18=>
     some (.inl (IntKind.wrap .i64 (x5+1),x18))
    else
     some (.inr row6):Option ((Int×(List (List UInt8)))⊕(List (List UInt8))))) (0,([]:List (List UInt8)))=some (l.foldl (fun s d=>s++Tb d) []):=by
   refine Amj (l:=l) (fun s d=>s++Tb d) id (by omega) (fun i hi=>?_) ?_
   ·have hm:Rh l[i]=true:=List.all_eq_true.1 ha _ (List.getElem_mem hi)
    have hd:=hx l[i] (List.getElem_mem hi)
    have hrow:=hpre i
    rw[foldl_flat,List.nil_append]
    generalize (l.take i).flatMap Tb=row at hrow
    show(if _ then _ else _)=_
    rw[if_pos (by simp;omega),Gm hi]
    simp only[Option.bind_some]
    generalize l[i]=d at hm hd
    have hw:=Avs hm
    have hwl:=Ap2 hw.1
    rw[Ve (by simp;omega)]
    simp only[Option.bind_some]
    have hb:Bf (fun(qj9:Int×(List (List UInt8)))=>match qj9 with
      |(x10,row11)=>(
       if (decide (x10<(d.A2.length:Int)))=true then
        (rdO d.A2 x10).bind fun x12=>
        (apO 16 row11 [x12.Hx,[58],x12.Hy,[37],[59]]).bind fun x13=>
        some (.inl (IntKind.wrap .i64 (x10+1),x13))
       else
        some (.inr row11):Option ((Int×(List (List UInt8)))⊕(List (List UInt8))))) (0,row++Ais d)=some (d.A2.foldl (fun s b=>s++Alk b) (row++Ais d)):=by
     refine Amj (l:=d.A2) (fun s b=>s++Alk b) id (by omega) (fun i hi=>?_) ?_
     ·rw[foldl_flat]
      show(if _ then _ else _)=_
      rw[if_pos (by simp;omega),Gm hi]
      simp only[Option.bind_some]
      rw[Ve (by
       have:=Vg (d.A2.take i)
       rw[List.length_append,List.length_append,this]
       simp[Ais]
       omega)]
      rfl
     ·show(if _ then _ else _)=_
      rw[if_neg (by simp)]
      rfl
    refine Cs hb ?_
    rw[foldl_flat]
    have hbl:=Vg d.A2
    have hrl:(row++Ais d++d.A2.flatMap Alk).length≤l.length*2100+100:=by
     rw[List.length_append,List.length_append,hbl]
     simp[Ais]
     omega
    obtain⟨hdl,dd,hs,_⟩:=Aaz hw.1
    obtain⟨rest,t1,_⟩:=A23 d.Ft.length 100000 d.Ft dd [] 0 (Nat.le_refl _) (by omega) (by omega) hd.fee hs
    rw[show(0:Int)=((0:Nat):Int) from rfl,t1]
    simp only[Option.bind_some]
    have e:atS ((pst d.Ft).getD 0 (0,[])) 0=K8 d.Ft:=by unfold atS K8;rw[if_neg (by omega)]
    rw[e,Ve (by simp only[List.length_cons,List.length_nil];omega)]
    simp only[Option.bind_some]
    rw[Ve (by rw[List.length_append];simp only[List.length_cons,List.length_nil];omega)]
    simp only[Option.bind_some]
    rw[Ve (by rw[List.length_append,List.length_append];simp only[List.length_cons,List.length_nil];omega)]
    simp only[Option.bind_some]
    unfold Tb
    simp only[List.append_assoc,List.cons_append,List.nil_append]
    rfl
   ·show(if _ then _ else _)=_
    rw[if_neg (by simp)]
    rfl
  refine Cs hloop ?_
  rw[foldl_flat,List.nil_append]
  have hwt: ∀w∈l.flatMap Tb,w.length≤1000000:=by
   intro w hw
   obtain⟨d,hd,hw⟩:=List.mem_flatMap.1 hw
   exact A3z (List.all_eq_true.1 ha d hd) (hx d hd) w hw
  have hjl:=A4j _ 1000000 hwt
  have hm:(l.flatMap Tb).length*(1000000+1)≤33600*(1000000+1):=Nat.mul_le_mul_right _ (by omega)
  rw[A7w (by omega) (by omega)]
  rfl
def tx1:By:=[97,45,98,32,45,32,99,42,45,50,37]
def nd1:List Nd:=[⟨4,[]⟩,⟨4,[]⟩,⟨1,[97]⟩,⟨1,[98]⟩,⟨5,[]⟩,⟨1,[99]⟩,⟨2,[]⟩,⟨0,[50,37]⟩]
theorem Bip:Cr tx1=(nd1,0,0,0):=by decide +kernel
def tx2:By:=[40,97,32,60,32,49,41,32,61,32,40,110,111,116,32,98,41]
def nd2:List Nd:=[⟨9,[]⟩,⟨7,[]⟩,⟨1,[97]⟩,⟨0,[49]⟩,⟨14,[]⟩,⟨1,[98]⟩]
theorem Biq:Cr tx2=(nd2,0,0,0):=by decide +kernel
def tx3:By:=[97,10,32,60,32,98,32,60,32,99]
theorem Bir:Cr tx3=([],2,6,14):=by decide +kernel
def tx4:By:=[40,97]
theorem Bis:Cr tx4=([],1,3,14):=by decide +kernel
def tx5:By:=[112,114,111,100,117,99,116,32,115,97,118,101,32,101,117,114,32,123,32,98,97,115,105,115,32,97,99,116,51,54,53,32,59,32,112,101,114,105,111,100,32,51,32,59,32,116,105,101,114,115,32,123,32,48,32,58,32,49,46,50,53,32,37,32,59,32,53,48,48,32,58,32,50,32,37,32,59,32,125,32,102,101,101,32,105,102,32,98,97,108,97,110,99,101,32,60,32,49,48,32,116,104,101,110,32,49,32,101,108,115,101,32,48,32,59,32,109,105,110,105,109,117,109,32,53,32,59,32,111,118,101,114,100,114,97,102,116,32,48,32,59,32,110,111,116,105,99,101,32,51,48,32,59,32,125]
def dc5:Af:=⟨[115,97,118,101],[101,117,114],[97,99,116,51,54,53],[51],[⟨[48],[49,46,50,53]⟩,⟨[53,48,48],[50]⟩],[⟨15,[]⟩,⟨7,[]⟩,⟨1,[98,97,108,97,110,99,101]⟩,⟨0,[49,48]⟩,⟨0,[49]⟩,⟨0,[48]⟩],[53],[48],[51,48]⟩
theorem Bit:Ayj tx5=([dc5],0,0,0):=by decide +kernel
theorem Biu:Ayi nd1=([97,32,45,32,98,32,45,32,99,32,42,32,45,32,50,32,37],0):=by decide +kernel
theorem Biv:Ayi nd2=([40,32,97,32,60,32,49,32,41,32,61,32,40,32,110,111,116,32,98,32,41],0):=by decide +kernel
theorem Biw:Ahw [dc5]=(tx5,0):=by decide +kernel
theorem Bgl:Py nd1=4:=by decide +kernel
theorem Bhp:Py [⟨2,[]⟩]=0:=by decide +kernel
theorem nb1:NB nd1:=by unfold NB;decide +kernel
theorem nb2:NB nd2:=by unfold NB;decide +kernel
theorem db5:DB dc5:=⟨by decide,by decide,by decide,by decide,by decide,by decide,by decide,by unfold NB;decide +kernel,by decide,by decide +kernel⟩
theorem Alh:Cm=some true:=by
 unfold Cm
 rw[show Bz [97,45,98,32,45,32,99,42,45,50,37]=some (Cr tx1) from Le (by decide),Bip]
 simp only[Option.bind_some]
 rw[A19 nb1,Biu]
 simp only[Option.bind_some]
 rw[show Bz [40,97,32,60,32,49,41,32,61,32,40,110,111,116,32,98,41]=some (Cr tx2) from Le (by decide),Biq]
 simp only[Option.bind_some]
 rw[A19 nb2,Biv]
 simp only[Option.bind_some]
 rw[show Bz [97,10,32,60,32,98,32,60,32,99]=some (Cr tx3) from Le (by decide),Bir]
 simp only[Option.bind_some]
 rw[show Bz [40,97]=some (Cr tx4) from Le (by decide),Bis]
 simp only[Option.bind_some]
 rw[show ∀s,s=tx5→Tm s=some (Ayj tx5) from fun s h=>by rw[h];exact Bbi (by decide)]
 ·rw[Bit]
  simp only[Option.bind_some]
  rw[A18 (l:=[dc5]) (fun d hd=>by rw[List.mem_singleton.1 hd];exact db5) (by simp),Biw]
  simp only[Option.bind_some]
  rw[Yp (by decide)]
  simp only[Option.bind_some]
  rw[if_neg (by simp)]
  rw[Azl nb1,Bgl,right_eq nb1,Bgl,right_eq (l:=[⟨2,[]⟩]) (by simp),Bhp]
  have e0:rdO [dc5] 0=some dc5:=rfl
  have e1:rdO dc5.A2 1=some ⟨[53,48,48],[50]⟩:=rfl
  have e2:(((4:Nat):Int)==4)=true:=rfl
  have e3:((dc5.A2.length:Int)==2)=true:=rfl
  have e4:(dc5.Cu==[51,48])=true:=rfl
  have e5:decide (0<4)=true:=rfl
  have e6:decide (0<0)=false:=rfl
  rw[show(decide (nd1=[(⟨4,[]⟩:Aa),(⟨4,[]⟩:Aa),(⟨1,[97]⟩:Aa),(⟨1,[98]⟩:Aa),(⟨5,[]⟩:Aa),(⟨1,[99]⟩:Aa),(⟨2,[]⟩:Aa),(⟨0,[50,37]⟩:Aa)]))=true from rfl]
  have hsm:Ox dc5 dc5=some (A2i dc5 dc5):=A96 (by decide) (by decide)
  simp only[tx5,e0,e1,e2,e3,e4,e5,e6,hsm,A56,beq_self_eq_true,Bool.true_and,Bool.and_true,cond_true,Bd,Option.bind_some,Bool.not_false]
 ·rfl
end Go.Av.G
end
section
set_option maxRecDepth 4000
set_option maxHeartbeats 4000000
namespace Go.Av.G
open Go Go.Av Go.Proofs
def Dt:List Ac→List UInt8→Prop
 |[],s=>s=[]
 |t::l,s=>A4 s=((A4 t.Ag).1,t.Ag.length,0)∧s.take t.Ag.length=t.Ag∧Dt l ((s.drop t.Ag.length).drop (Az false (s.drop t.Ag.length)))
theorem Dt.len: ∀{l:List Ac} {s:List UInt8},Dt l s→l.length≤s.length
 |[],s,_=>by simp
 |t::l,s,h=>by
  obtain⟨h1,h2,h3⟩:=h
  obtain⟨n1,n2⟩:=Fk h1
  have:=h3.len
  rw[List.length_drop,List.length_drop] at this
  rw[List.length_cons]
  omega
theorem Dt.skip{l:List Ac}{s:List UInt8}(h:Dt l s):Az false s=0:=by
 cases l with
 |nil=>have:s=[]:=h;subst this;rfl
 |cons t l=>exact A4x h.1
theorem Dt.lex: ∀{l:List Ac} {s:List UInt8},Dt l s→(∀t∈l,okT t=true)→ ∀{T:List UInt8} {f at_ k:Nat},T.drop at_=s→l.length<f→k+l.length≤1500→ ∃M,Jy f s at_ k= .inl M∧(M.map (Ach T)).map Aqb=l.map Aqb∧M.length=l.length
 |[],s,h,_,T,f,at_,k,_,hf,_=>by
  have:s=[]:=h
  subst this
  refine⟨[],?_,rfl,rfl⟩
  cases f with
  |zero=>simp at hf
  |succ f=>rw[Jy,if_pos rfl]
 |t::l,s,h,hk,T,f,at_,k,hT,hf,hk2=>by
  obtain⟨h1,h2,h3⟩:=h
  obtain⟨n1,n2⟩:=Fk h1
  have hne:s≠[]:=fun e=>by rw[e,List.length_nil] at n2;omega
  simp only[List.length_cons] at hf hk2
  cases f with
  |zero=>omega
  |succ f=>
   obtain⟨M,e1,e2,e3⟩:=h3.lex (fun u hu=>hk u (by simp[hu])) (T:=T) (f:=f) (at_:=at_+t.Ag.length+Az false (s.drop t.Ag.length)) (k:=k+1) (by rw[←hT,List.drop_drop,List.drop_drop]) (by omega) (by omega)
   refine⟨(at_,(A4 t.Ag).1,t.Ag.length)::M,?_,?_,by simp[e3]⟩
   ·rw[Jy,if_neg hne,h1]
    simp only[ne_eq,not_true_eq_false,if_false,if_neg (show ¬k=1500 by omega),e1]
   ·obtain⟨kk,hkk,hn⟩:=Amv (hk t (by simp))
    simp only[List.map_cons,e2,List.cons.injEq,and_true]
    unfold Aqb Ach
    rw[hT,h2,hn,hkk]
theorem Ra: ∀{l:List Ac},(∀t∈l,okT t=true)→Dt l (jn l)
 |[],_=>rfl
 |t::l,hk=>by
  have ih:=Ra (l:=l) (fun u hu=>hk u (by simp[hu]))
  refine⟨Be9 (hk t (by simp)),?_,?_⟩
  ·cases l with
   |nil=>rw[Al6,List.take_length]
   |cons u l=>rw[Avg,List.take_left]
  ·cases l with
   |nil=>rw[Al6,List.drop_length];rfl
   |cons u l=>
    rw[Avg,List.drop_left,Az,if_pos (by decide),ih.skip]
    exact ih
end Go.Av.G
end
section
set_option maxRecDepth 20000
set_option maxHeartbeats 4000000
namespace Go.Av.G
open Go Go.Av Go.Proofs
def nt(t:Tk):Tk:=⟨t.Ad,0,0,t.Ag⟩
def Afr{α:Type}(r:Rs α):Rs α:=(r.1,r.2.map nt)
theorem Y4(s:By)(ts:List Tk):isT s (ts.map nt)=isT s ts:=by cases ts<;>rfl
theorem Mr{α β:Type}{r:Rs α}{k k':α→List Tk→Rs β}(h: ∀a i,k' a (i.map nt)=Afr (k a i)):bnd (Afr r) k'=Afr (bnd r k):=by
 obtain⟨o,i⟩:=r
 cases o with
 |none=>rfl
 |some a=>exact h a i
theorem Abi{β:Type}{s:By}{ts:List Tk}{k k':List Tk→Rs β}(h: ∀i,k' (i.map nt)=Afr (k i)):Gs s (ts.map nt) k'=Afr (Gs s ts k):=by
 unfold Gs
 rw[Y4]
 split
 ·rw[←List.map_tail];exact h _
 ·rfl
theorem Bfq{f g:Ae0}(hr: ∀ts n,f (ts.map nt) n=Afr (g ts n))(ts:List Tk):Co f (ts.map nt)=Afr (Co g ts):=by
 cases ts with
 |nil=>rfl
 |cons t r=>
  have e1:=Y4 [40] (t::r)
  have e2:=Y4 Xh (t::r)
  have e3:=Y4 Fx (t::r)
  have e4:=Y4 [37] r
  rw[List.map_cons] at e1 e2 e3
  rw[List.map_cons]
  unfold Co
  simp only
  rw[e1,e2,e3,e4]
  split
  ·rw[hr]
   exact Mr fun a i=>Abi fun j=>rfl
  ·split
   ·refine Abi fun r2=>?_
    rw[hr]
    refine Mr fun a i=>Abi fun i2=>?_
    rw[hr]
    exact Mr fun b j=>Abi fun j2=>rfl
   ·have k1:(nt t).Ad=t.Ad:=rfl
    have k2:(nt t).Ag=t.Ag:=rfl
    rw[k1,k2]
    split
    ·split
     ·rw[←List.map_tail];rfl
     ·rfl
    ·split
     ·rfl
     ·rfl
theorem Bb2{f g:Ae0}(hr: ∀ts n,f (ts.map nt) n=Afr (g ts n))(ts:List Tk)(n:Nat):Bp f (ts.map nt) n=Afr (Bp g ts n):=by
 unfold Bp
 rw[Y4,Y4,Y4]
 split
 ·rw[←List.map_tail,hr]
  refine Mr fun a i=>Abi fun i2=>?_
  rw[hr]
  refine Mr fun b j=>Abi fun j2=>?_
  rw[hr]
  exact Mr fun c k=>rfl
 ·split
  ·rw[←List.map_tail,hr]
   exact Mr fun a i=>rfl
  ·split
   ·rw[←List.map_tail,hr]
    exact Mr fun a i=>rfl
   ·rw[Bfq hr]
    exact Mr fun a i=>rfl
theorem A70{f g:Ae0}(hr: ∀ts n,f (ts.map nt) n=Afr (g ts n))(n:Nat): ∀(k:Nat) (out:List Nd) (own:Nat) (ts:List Tk),Br f n k out own (ts.map nt)=Afr (Br g n k out own ts)
 |k,out,own,[]=>by cases k<;>rfl
 |0,out,own,t::r=>rfl
 |k+1,out,own,t::r=>by
  rw[List.map_cons,Br,Br]
  have e:Bc (nt t)=Bc t:=rfl
  rw[e]
  split
  ·rfl
  ·rw[hr]
   exact Mr fun b j=>A70 hr n k _ _ j
theorem Alr: ∀(f:Nat) (ts:List Tk) (n:Nat),F3 f (ts.map nt) n=Afr (F3 f ts n)
 |0,ts,n=>rfl
 |f+1,ts,n=>by
  unfold F3
  rw[Bb2 (Alr f)]
  refine Mr fun x i=>?_
  rw[List.length_map,A70 (Alr f)]
  exact Mr fun y j=>rfl
theorem Bge(ts:List Tk)(n:Nat):CL (ts.map nt) n=Afr (CL ts n):=by
 unfold CL
 rw[List.length_map,Alr]
theorem Bfj{a b:List Tk}(h:a.map Aqb=b.map Aqb):a.map nt=b.map nt:=by
 have e:nt=(fun k:Int×By=>(⟨k.1,0,0,k.2⟩:Tk))∘Aqb:=rfl
 rw[e,←List.map_map,←List.map_map,h]
theorem Beq{a b:List Tk}(h:a.map Aqb=b.map Aqb){n:Nat}{o:List Nd}(e:CL a n=(some o,[])):CL b n=(some o,[]):=by
 have h1:=Bge a n
 have h2:=Bge b n
 rw[Bfj h,h2,e] at h1
 cases hb:CL b n with
 |mk x i=>
  rw[hb] at h1
  simp only[Afr,Prod.mk.injEq,List.map_nil,List.map_eq_nil_iff] at h1
  rw[h1.1,h1.2]
def OkU(u:List Tk):Prop:=match u with
 |[]=>True
 |t::_=>(Bc t).2=0∧isT [37] u=false
theorem OkU.pct{u:List Tk}(h:OkU u):isT [37] u=false:=by
 cases u with
 |nil=>rfl
 |cons t r=>exact h.2
theorem Fh{β:Type}{s:By}{t:Tk}{r:List Tk}{k:List Tk→Rs β}(h1:t.Ad≠2)(h2:t.Ag=s):Gs s (t::r) k=k r:=by
 unfold Gs
 rw[if_pos (by simp[isT,h1,h2])]
 rfl
theorem C9{α β:Type}{a:α}{i:List Tk}{k:α→List Tk→Rs β}{r:Rs α}(h:r=(some a,i)):bnd r k=k a i:=by rw[h];rfl
theorem A0d{u:List Tk}{n N:Nat}(ih: ∀ts k,ts.length≤N→ ∀a i,CL ts k=(some a,i)→(i=[]→OkU u)→CL (ts++u) k=(some a,i++u)): ∀(f:Nat) (out:List Nd) (own:Nat) (ts:List Tk) (f':Nat),ts.length≤f→(ts++u).length≤f'→ts.length≤N+1→ ∀y i,Br CL n f out own ts=(some y,i)→(i=[]→OkU u)→Br CL n f' out own (ts++u)=(some y,i++u)
 |f,out,own,[],f',_,hf',_,y,i,h,hu=>by
  have e:Br CL n f out own []=(some (out,own),[]):=by cases f<;>rfl
  rw[e] at h
  cases h
  cases u with
  |nil=>cases f'<;>rfl
  |cons t r=>exact Cy (Or.inl (hu rfl).1)
 |0,out,own,t::r,_,hf,_,_,_,_,_,_=>absurd hf (by simp)
 |f+1,out,own,t::r,f',hf,hf',hN,y,i,h,hu=>by
  simp only[List.length_cons] at hf hN
  simp only[List.cons_append,List.length_cons] at hf'⊢
  by_cases hs:(Bc t).2=0∨(Bc t).2<n∨own<Vw (Bc t).2
  ·rw[Cy hs] at h⊢
   cases h
   rfl
  ·rw[Fa hs] at h
   obtain⟨g,rfl⟩: ∃g,f'=g+1:=⟨f'-1,by omega⟩
   rw[Fa hs]
   obtain⟨b,j,h1,h2⟩:=Bx h
   have hjl:=Ait h1
   have hju:j=[]→OkU u:=by
    intro hj
    subst hj
    refine hu ?_
    have e:Br CL n f (⟨(Bc t).1,[]⟩::(out++b)) (Bc t).2 []=(some (⟨(Bc t).1,[]⟩::(out++b),(Bc t).2),[]):=by cases f<;>rfl
    rw[e] at h2
    cases h2
    rfl
   have hc:=ih r ((Bc t).2+1) (by omega) b j h1 hju
   rw[C9 hc]
   exact A0d ih f _ _ j g (by omega) (by simp at hf'⊢;omega) (by omega) y i h2 hu
theorem Bdh{u:List Tk}{ts:List Tk}(ih: ∀r k,r.length<ts.length→ ∀a i,CL r k=(some a,i)→(i=[]→OkU u)→CL (r++u) k=(some a,i++u)): ∀a i,Co CL ts=(some a,i)→(i=[]→OkU u)→Co CL (ts++u)=(some a,i++u):=by
 intro a i h hu
 cases ts with
 |nil=>cases h
 |cons t r=>
  rw[List.cons_append]
  unfold Co at h⊢
  simp only at h⊢
  have e1:isT [40] (t::(r++u))=isT [40] (t::r):=rfl
  have e2:isT Xh (t::(r++u))=isT Xh (t::r):=rfl
  have e3:isT Fx (t::(r++u))=isT Fx (t::r):=rfl
  rw[e1,e2,e3]
  split at h
  ·rename_i hc
   rw[if_pos hc]
   obtain⟨a1,i1,h1,h2⟩:=Bx h
   obtain⟨t1,r1,rfl,k1,k2,h3⟩:=Dw h2
   cases h3
   rw[C9 (ih r 0 (by simp) _ _ h1 (fun hh=>by cases hh))]
   exact Fh k1 k2
  ·rename_i hc
   rw[if_neg hc]
   split at h
   ·rename_i hm
    rw[if_pos hm]
    obtain⟨t1,r1,rfl,k1,k2,h3⟩:=Dw h
    obtain⟨a1,i1,h4,h5⟩:=Bx h3
    obtain⟨t2,r2,rfl,k3,k4,h6⟩:=Dw h5
    obtain⟨a2,i2,h7,h8⟩:=Bx h6
    obtain⟨t3,r3,rfl,k5,k6,h9⟩:=Dw h8
    cases h9
    have l1:=Ait h4
    simp only[List.length_cons] at l1
    rw[List.cons_append,Fh k1 k2,C9 (ih r1 0 (by simp;omega) _ _ h4 (fun hh=>by cases hh)),List.cons_append,Fh k3 k4,C9 (ih r2 0 (by simp;omega) _ _ h7 (fun hh=>by cases hh)),List.cons_append,Fh k5 k6]
   ·rename_i hm
    rw[if_neg hm]
    split at h
    ·rename_i hk
     rw[if_pos hk]
     split at h
     ·rename_i hp
      obtain⟨t1,r1,rfl,k1,k2⟩:=D0 hp
      cases h
      rw[if_pos (show isT [37] (t1::r1++u)=true from hp)]
      rfl
     ·rename_i hp
      cases h
      have: ¬isT [37] (i++u)=true:=by
       cases i with
       |nil=>rw[List.nil_append,(hu rfl).pct];simp
       |cons t1 r1=>exact hp
      rw[if_neg this]
    ·rename_i hk
     rw[if_neg hk]
     split at h
     ·rename_i hw
      cases h
      rw[if_pos hw]
     ·cases h
theorem A9e{u:List Tk}{ts:List Tk}{n:Nat}(ih: ∀r k,r.length<ts.length→ ∀a i,CL r k=(some a,i)→(i=[]→OkU u)→CL (r++u) k=(some a,i++u)): ∀x i,Bp CL ts n=(some x,i)→(i=[]→OkU u)→Bp CL (ts++u) n=(some x,i++u):=by
 intro x i h hu
 have hp:=Bdh ih
 cases ts with
 |nil=>
  unfold Bp at h
  simp[isT,Co,bnd] at h
 |cons t r=>
  rw[List.cons_append] at hp⊢
  unfold Bp at h⊢
  have e1:isT sIf (t::(r++u))=isT sIf (t::r):=rfl
  have e2:isT Jq (t::(r++u))=isT Jq (t::r):=rfl
  have e3:isT [45] (t::(r++u))=isT [45] (t::r):=rfl
  rw[e1,e2,e3]
  split at h
  ·rename_i hc
   rw[if_pos hc]
   obtain⟨a1,i1,h1,h2⟩:=Bx h
   obtain⟨t1,r1,rfl,k1,k2,h3⟩:=Dw h2
   obtain⟨a2,i2,h4,h5⟩:=Bx h3
   obtain⟨t2,r2,rfl,k3,k4,h6⟩:=Dw h5
   obtain⟨a3,i3,h7,h8⟩:=Bx h6
   cases h8
   have l1:=Ait h1
   have l2:=Ait h4
   simp only[List.length_cons,List.tail_cons] at l1 l2 h1⊢
   rw[C9 (ih r 0 (by simp) _ _ h1 (fun hh=>by cases hh)),List.cons_append,Fh k1 k2,C9 (ih r1 0 (by simp;omega) _ _ h4 (fun hh=>by cases hh)),List.cons_append,Fh k3 k4,C9 (ih r2 0 (by simp;omega) _ _ h7 hu)]
  ·rename_i hc
   rw[if_neg hc]
   split at h
   ·rename_i hn
    rw[if_pos hn]
    obtain⟨a1,i1,h1,h2⟩:=Bx h
    cases h2
    simp only[List.tail_cons] at h1⊢
    rw[C9 (ih r 3 (by simp) _ _ h1 hu)]
   ·rename_i hn
    rw[if_neg hn]
    split at h
    ·rename_i hm
     rw[if_pos hm]
     obtain⟨a1,i1,h1,h2⟩:=Bx h
     cases h2
     simp only[List.tail_cons] at h1⊢
     rw[C9 (ih r 7 (by simp) _ _ h1 hu)]
    ·rename_i hm
     rw[if_neg hm]
     obtain⟨a1,i1,h1,h2⟩:=Bx h
     cases h2
     rw[C9 (hp _ _ h1 hu)]
theorem Bgy{u:List Tk}: ∀(N:Nat) (ts:List Tk) (n:Nat),ts.length≤N→ ∀a i,CL ts n=(some a,i)→(i=[]→OkU u)→CL (ts++u) n=(some a,i++u):=by
 intro N
 induction N with
 |zero=>
  intro ts n hN a i h
  obtain rfl:ts=[]:=List.eq_nil_of_length_eq_zero (by omega)
  rw[Bav] at h
  cases h
 |succ N ih=>
  intro ts n hN a i h hu
  rw[Qo] at h⊢
  obtain⟨x,i1,h1,h2⟩:=Bx h
  obtain⟨y,j,h3,h4⟩:=Bx h2
  cases h4
  have hlt:=Azr ts n (by rw[h1];simp)
  rw[h1] at hlt
  simp only at hlt
  have hu1:i1=[]→OkU u:=by
   intro hi
   subst hi
   have e:Br CL n ([]:List Tk).length x.1 x.2 []=(some (x.1,x.2),[]):=rfl
   rw[e] at h3
   cases h3
   exact hu rfl
  rw[C9 (A9e (fun r k hr a i=>ih r k (by omega) a i) x i1 h1 hu1),C9 (A0d ih i1.length x.1 x.2 i1 _ (Nat.le_refl _) (Nat.le_refl _) (by omega) y i h3 hu)]
theorem Yn{S u:List Tk}{n:Nat}{a:List Nd}(h:CL S n=(some a,[]))(hu:OkU u):CL (S++u) n=(some a,u):=
 Bgy S.length S n (Nat.le_refl _) a [] h (fun _=>hu)
end Go.Av.G
end
section
set_option maxRecDepth 20000
set_option maxHeartbeats 4000000
namespace Go.Av.G
open Go Go.Av Go.Proofs
def tk(k:Int)(s:By):Tk:=⟨k,0,0,s⟩
def lp:Tk:=tk 3 [40]
def rp:Tk:=tk 3 [41]
def cm:Tk:=tk 3 [44]
def mi:Tk:=tk 3 [45]
theorem Bgq(u:List Tk):OkU (rp::u):=⟨rfl,rfl⟩
theorem Biy(u:List Tk):OkU (cm::u):=⟨rfl,rfl⟩
theorem Bfl(u:List Tk):OkU (tk 0 Hl::u):=⟨rfl,rfl⟩
theorem Bfk(u:List Tk):OkU (tk 0 Gy::u):=⟨rfl,rfl⟩
theorem Bfo{S u:List Tk}{a:List Nd}(h:CL S 0=(some a,[])):Co CL (lp::(S++rp::u))=(some a,u):=by
 have e:isT [40] (lp::(S++rp::u))=true:=rfl
 unfold Co
 simp only[e,if_true]
 rw[C9 (Yn h (Bgq u)),Fh (s:=[41]) (t:=rp) (by decide) rfl]
theorem Alv{t:Tk}{r:List Tk}{n:Nat}(h1:isT sIf (t::r)=false)(h2:isT Jq (t::r)=false)(h3:isT [45] (t::r)=false):Bp CL (t::r) n=bnd (Co CL (t::r)) fun a i=>(some (a,8),i):=by
 unfold Bp
 rw[if_neg (by simp[h1]),if_neg (by simp[h2]),if_neg (by simp[h3])]
theorem A67{S u:List Tk}{a:List Nd}(h:CL S 0=(some a,[]))(n:Nat):CL (lp::(S++rp::u)) n=bnd (Br CL n u.length a 8 u) fun y j=>(some y.1,j):=by
 rw[Qo,Alv rfl rfl rfl,Bfo h]
 rfl
theorem Afq{n f:Nat}{out:List Nd}{own:Nat}:Br CL n f out own []=(some (out,own),[]):=by cases f<;>rfl
theorem A3d{S:List Tk}{a:List Nd}(h:CL S 0=(some a,[]))(n:Nat):CL (lp::(S++[rp])) n=(some a,[]):=by
 rw[A67 h n,Afq]
 rfl
theorem Bh8{S:List Tk}{a:List Nd}(h:CL S 0=(some a,[])):CL (lp::(lp::(S++[rp])++[rp])) 0=(some a,[]):=A3d (A3d h 0) 0
theorem Bas{S T:List Tk}{a b:List Nd}{g:Tk}(h1:CL S 0=(some a,[]))(h2:CL T 0=(some b,[]))(hg:(Bc g).2≠0):CL (lp::(S++rp::(g::(lp::(T++[rp]))))) 0=(some (⟨(Bc g).1,[]⟩::(a++b)),[]):=by
 have hd:=N2 g
 rw[A67 h1,List.length_cons,Fa (by unfold Vw;split<;>omega),A3d h2]
 show bnd (Br CL 0 _ _ _ []) _=_
 rw[Afq]
 rfl
def i1:Tk:=tk 0 [105,102,49]
theorem Bia:CL [i1] 5=(some [⟨1,[105,102,49]⟩],[]):=by decide +kernel
theorem Bem{S T:List Tk}{a b:List Nd}(h1:CL S 0=(some a,[]))(h2:CL T 0=(some b,[])):
  CL (tk 0 Jq::(lp::(S++rp::(tk 0 U2::(mi::(lp::(T++rp::(tk 3 [60]::[i1])))))))) 0=(some (⟨12,[]⟩::((⟨14,[]⟩::a)++(⟨7,[]⟩::((⟨2,[]⟩::b)++[⟨1,[105,102,49]⟩])))),[]):=by
 have hlt:CL (lp::(T++rp::(tk 3 [60]::[i1]))) 7=(some b,tk 3 [60]::[i1]):=by
  rw[A67 h2,Cy (Or.inr (Or.inl (by decide)))]
  rfl
 have hv:CL (mi::(lp::(T++rp::(tk 3 [60]::[i1])))) 3=(some (⟨7,[]⟩::((⟨2,[]⟩::b)++[⟨1,[105,102,49]⟩])),[]):=by
  rw[Qo,Gg (by decide),if_neg (fun h=>absurd h.2 (by simp[isT,mi,tk,Jq])),if_pos (show isT [45] (mi::(lp::(T++rp::(tk 3 [60]::[i1]))))=true from rfl)]
  rw[C9 (show bnd (CL (mi::(lp::(T++rp::(tk 3 [60]::[i1])))).tail 7) (fun a i=>((some (⟨2,[]⟩::a,7),i):Rs (List Nd×Nat)))=(some (⟨2,[]⟩::b,7),tk 3 [60]::[i1]) by rw[List.tail_cons,hlt];rfl)]
  rw[List.length_cons,Fa (t:=tk 3 [60]) (show ¬((4:Nat)=0∨4<3∨7<5) by decide),show(Bc (tk 3 [60])).2+1=5 from rfl,Bia]
  show bnd (Br CL 3 _ _ _ []) _=_
  rw[Afq]
  rfl
 have hn:CL (lp::(S++rp::(tk 0 U2::(mi::(lp::(T++rp::(tk 3 [60]::[i1]))))))) 3=(some a,tk 0 U2::(mi::(lp::(T++rp::(tk 3 [60]::[i1]))))):=by
  rw[A67 h1,Cy (Or.inr (Or.inl (by decide)))]
  rfl
 have hf:Bp CL (tk 0 Jq::(lp::(S++rp::(tk 0 U2::(mi::(lp::(T++rp::(tk 3 [60]::[i1])))))))) 0=(some (⟨14,[]⟩::a,3),tk 0 U2::(mi::(lp::(T++rp::(tk 3 [60]::[i1]))))):=by
  unfold Bp
  rw[if_neg (fun h=>absurd h.2 (by simp[isT,tk,Jq,sIf])),if_pos ⟨by decide,rfl⟩,List.tail_cons,hn]
  rfl
 rw[Qo,C9 hf,List.length_cons,Fa (t:=tk 0 U2) (show ¬((2:Nat)=0∨2<0∨3<2) by decide),show(Bc (tk 0 U2)).2+1=3 from rfl,hv]
 show bnd (Br CL 0 _ _ _ []) _=_
 rw[Afq]
 rfl
theorem Bhq{S T:List Tk}{a b:List Nd}(h1:CL S 0=(some a,[]))(h2:CL T 0=(some b,[])):CL (tk 0 Fx::(lp::(S++cm::(T++[rp])))) 0=(some (⟨17,[]⟩::(a++b)),[]):=by
 have hp:Co CL (tk 0 Fx::(lp::(S++cm::(T++[rp]))))=(some (⟨17,[]⟩::(a++b)),[]):=by
  have e1:isT [40] (tk 0 Fx::(lp::(S++cm::(T++[rp]))))=false:=by simp[isT,tk,Fx]
  have e2:(isT Xh (tk 0 Fx::(lp::(S++cm::(T++[rp]))))||isT Fx (tk 0 Fx::(lp::(S++cm::(T++[rp])))))=true:=by simp[isT,tk,Fx,Xh]
  unfold Co
  simp only[e1,e2,Bool.false_eq_true,if_false,if_true]
  rw[Fh (s:=[40]) (t:=lp) (by decide) rfl,C9 (Yn h1 (Biy _)),Fh (s:=[44]) (t:=cm) (by decide) rfl,C9 (Yn h2 (Bgq [])),Fh (s:=[41]) (t:=rp) (by decide) rfl]
  rw[if_neg (by decide)]
 rw[Qo,Alv (by simp[isT,tk,Fx,sIf]) (by simp[isT,tk,Fx,Jq]) (by simp[isT,tk,Fx]),hp]
 rfl
theorem Bgc{S T:List Tk}{a b:List Nd}(h1:CL S 0=(some a,[]))(h2:CL T 0=(some b,[])):
  CL (tk 0 sIf::(S++tk 0 Hl::(T++tk 0 Gy::(tk 0 Fx::(lp::(S++cm::(T++[rp]))))))) 0=(some ((⟨15,[]⟩::(a++b))++(⟨17,[]⟩::(a++b))),[]):=by
 rw[A68,if_pos (show isT sIf (tk 0 sIf::(S++tk 0 Hl::(T++tk 0 Gy::(tk 0 Fx::(lp::(S++cm::(T++[rp])))))))=true from rfl),List.tail_cons,C9 (Yn h1 (Bfl _)),Fh (s:=Hl) (t:=tk 0 Hl) (by decide) rfl,C9 (Yn h2 (Bfk _)),Fh (s:=Gy) (t:=tk 0 Gy) (by decide) rfl,C9 (Bhq h1 h2)]
 simp
end Go.Av.G
end
section
set_option maxRecDepth 20000
set_option maxHeartbeats 4000000
namespace Go.Av.G
open Go Go.Av Go.Proofs
def Sp(l:List Tk)(s:By):Prop:=Dt l (s.drop (Az false s))
theorem Sp.of{l:List Tk}{s:By}(h:Dt l s):Sp l s:=by
 unfold Sp
 rw[h.skip]
 exact h
theorem Aiu{T:By}: ∀(f:Nat) (rest:By) (at_ k:Nat) (M:List (Nat×Nat×Nat)),T.drop at_=rest→rest.length<f→Jy f rest at_ k= .inl M→Dt (M.map (Ach T)) rest
 |0,rest,at_,k,M,_,hf,_=>absurd hf (by simp)
 |f+1,rest,at_,k,M,hT,hf,h=>by
  rw[Jy] at h
  split at h
  ·rename_i hr
   cases h
   exact hr
  ·rename_i hr
   split at h
   ·cases h
   ·rename_i he
    split at h
    ·cases h
    ·have he:(A4 rest).2.2=0:=Decidable.byContradiction he
     generalize hx:A4 rest=x at he h
     obtain⟨kk,n,e⟩:=x
     simp only at he
     subst he
     obtain⟨n1,n2⟩:=Fk hx
     split at h
     ·rename_i M' hM
      cases h
      have hlen:((rest.drop n).drop (Az false (rest.drop n))).length<f:=by
       rw[List.length_drop,List.length_drop];omega
      have ih:=Aiu (T:=T) f _ (at_+n+Az false (rest.drop n)) (k+1) M' (by rw[←hT];simp only[List.drop_drop]) hlen hM
      have htx:(Ach T (at_,kk,n)).Ag=rest.take n:=by
       show(T.drop at_).take n=_
       rw[hT]
      have htl:(rest.take n).length=n:=by simp;omega
      have hnt:A4 (rest.take n)=(kk,n,0):=Adv hx (Nat.le_refl _)
      refine⟨?_,?_,?_⟩
      ·rw[htx,htl,hnt,hx]
      ·rw[htx,htl]
      ·rw[htx,htl]
       exact ih
     ·cases h
theorem Bgf{s:By}{l:List Tk}(h:LX s= .inl l):Sp l s:=by
 unfold LX at h
 split at h
 ·cases h
 ·cases ha:Abk s with
  |inr e=>rw[ha] at h;cases h
  |inl M=>
   rw[ha] at h
   cases h
   unfold Abk at ha
   exact Aiu (s.length+1) _ (Az false s) 0 M rfl (by rw[List.length_drop];omega) ha
theorem Dt.full: ∀{l:List Tk} {s:By},Dt l s→ ∀{f at_ k:Nat},l.length<f→k≤1500→1500<k+l.length→ ∃p,Jy f s at_ k= .inr (p,6)
 |[],s,h,f,at_,k,_,h1,h2=>by simp at h2;omega
 |t::l,s,h,f,at_,k,hf,h1,h2=>by
  obtain⟨e1,e2,e3⟩:=h
  obtain⟨n1,n2⟩:=Fk e1
  have hne:s≠[]:=fun e=>by rw[e,List.length_nil] at n2;omega
  simp only[List.length_cons] at hf h2
  obtain⟨g,rfl⟩: ∃g,f=g+1:=⟨f-1,by omega⟩
  rw[Jy,if_neg hne,e1]
  simp only[ne_eq,not_true_eq_false,if_false]
  by_cases hk:k=1500
  ·exact⟨at_,by rw[if_pos hk]⟩
  ·obtain⟨p,hp⟩:=e3.full (f:=g) (at_:=at_+t.Ag.length+Az false (s.drop t.Ag.length)) (k:=k+1) (by omega) (by omega) (by omega)
   exact⟨p,by rw[if_neg hk,hp]⟩
theorem Bif{l:List Tk}{s:By}(h:Sp l s)(hk: ∀t∈l,okT t=true)(hs:s.length≤8000):(∃l',LX s= .inl l'∧l'.map Aqb=l.map Aqb)∨ ∃p,LX s= .inr (p,6):=by
 have hle:l.length≤(s.drop (Az false s)).length:=Dt.len h
 rw[List.length_drop] at hle
 by_cases hl:l.length≤1500
 ·left
  obtain⟨M,e1,e2,e3⟩:=Dt.lex h hk (T:=s) (f:=s.length+1) (at_:=Az false s) (k:=0) rfl (by omega) (by omega)
  refine⟨M.map (Ach s),?_,e2⟩
  unfold LX Abk
  rw[if_neg (by omega),e1]
 ·right
  obtain⟨p,hp⟩:=Dt.full h (f:=s.length+1) (at_:=Az false s) (k:=0) (by omega) (by omega) (by omega)
  refine⟨p,?_⟩
  unfold LX Abk
  rw[if_neg (by omega),hp]
theorem Oe: ∀(r:Bool) (s w:By),(s++10::w).drop (Az r (s++10::w))=if Az r s=s.length then w.drop (Az false w) else s.drop (Az r s)++10::w
 |true,[],w=>by
  have e1:Az true ((10:UInt8)::w)=1+Az false w:=by rw[Az,if_pos rfl]
  rw[List.nil_append,e1,Nat.add_comm,List.drop_succ_cons]
  rfl
 |false,[],w=>by
  have e1:Az false ((10:UInt8)::w)=1+Az false w:=by rw[Az,if_pos (by decide)]
  rw[List.nil_append,e1,Nat.add_comm,List.drop_succ_cons]
  rfl
 |true,b::s,w=>by
  rw[List.cons_append,Az,Az]
  by_cases hb:b=10
  ·have ih:=Oe false s w
   rw[if_pos hb,if_pos hb,Nat.add_comm,List.drop_succ_cons,ih,List.length_cons,Nat.add_comm 1,List.drop_succ_cons]
   simp only[Nat.add_right_cancel_iff]
  ·have ih:=Oe true s w
   rw[if_neg hb,if_neg hb,Nat.add_comm,List.drop_succ_cons,ih,List.length_cons,Nat.add_comm 1,List.drop_succ_cons]
   simp only[Nat.add_right_cancel_iff]
 |false,b::s,w=>by
  rw[List.cons_append,Az,Az]
  by_cases hb:Rb b=true
  ·have ih:=Oe false s w
   rw[if_pos hb,if_pos hb,Nat.add_comm,List.drop_succ_cons,ih,List.length_cons,Nat.add_comm 1,List.drop_succ_cons]
   simp only[Nat.add_right_cancel_iff]
  ·rw[if_neg hb,if_neg hb]
   by_cases h2:b=35
   ·have ih:=Oe true s w
    rw[if_pos h2,if_pos h2,Nat.add_comm,List.drop_succ_cons,ih,List.length_cons,Nat.add_comm 1,List.drop_succ_cons]
    simp only[Nat.add_right_cancel_iff]
   ·rw[if_neg h2,if_neg h2]
    simp
theorem Ben{s w:By}:Ak Aey (s++10::w)=Ak Aey s:=K5 (fun b v h=>by cases h;decide) s
theorem A7i{s w:By}:Ak Bj (s++10::w)=Ak Bj s:=K5 (fun b v h=>by cases h;decide) s
theorem Bc4{s w:By}:D9 (s++10::w)=D9 s:=by
 match s with
 |[]=>cases w<;>rfl
 |[b]=>
  show(if b=46 then Ak Bj (10::w) else 0)=0
  split
  ·rw[B9];rfl
  ·rfl
 |b::c::t=>
  show(if b=46 then Ak Bj (c::t++10::w) else 0)=if b=46 then Ak Bj (c::t) else 0
  rw[A7i]
theorem A4y{s w:By}{k n:Nat}(h:A4 s=(k,n,0)):A4 (s++10::w)=(k,n,0):=by
 cases s with
 |nil=>cases h
 |cons b t=>
  rw[List.cons_append]
  unfold A4 at h⊢
  simp only at h⊢
  by_cases c1:Adq b=true
  ·rw[if_pos c1] at h⊢
   rw[←h]
   unfold Pv
   rw[show b::(t++10::w)=(b::t)++10::w from rfl,Ben]
  ·rw[if_neg c1] at h⊢
   by_cases c2:Bj b=true
   ·rw[if_pos c2] at h⊢
    rw[←h]
    unfold Adw
    rw[show b::(t++10::w)=(b::t)++10::w from rfl,A7i,List.drop_append_of_le_length (C8 _ _),Bc4]
    rfl
   ·rw[if_neg c2] at h⊢
    by_cases c3:b=34
    ·rw[if_pos c3] at h⊢
     have hq:Ak D1 t<t.length:=by
      have:=C8 D1 t
      rcases Nat.lt_or_eq_of_le this with h1|h1
      ·exact h1
      ·exfalso
       unfold Aes at h
       simp only[List.drop_succ_cons,List.drop_zero] at h
       rw[if_pos h1] at h
       simp at h
     rw[←h]
     unfold Aes
     simp only[List.drop_succ_cons,List.drop_zero]
     rw[Xk t hq,List.take_append_of_le_length (Nat.le_of_lt hq)]
     have k1: ¬Ak D1 t=(t++10::w).length:=by simp only[List.length_append,List.length_cons];omega
     have k2: ¬Ak D1 t=t.length:=by omega
     simp only[k1,k2,if_false]
    ·rw[if_neg c3] at h⊢
     rw[←h]
     unfold Acc
     cases t with
     |nil=>
      simp
     |cons c t=>rfl
theorem Hp{u:List Tk}{w:By}(hu:Sp u w): ∀{l:List Tk} {s:By},Sp l s→Sp (l++u) (s++10::w)
 |[],s,h=>by
  have hs:s.drop (Az false s)=[]:=h
  have:Az false s=s.length:=by
   have h1:=Iq false s
   have h2:=congrArg List.length hs
   rw[List.length_drop,List.length_nil] at h2
   omega
  unfold Sp
  rw[Oe,if_pos this]
  exact hu
 |t::l,s,h=>by
  have h:Dt (t::l) (s.drop (Az false s)):=h
  obtain⟨h1,h2,h3⟩:=h
  obtain⟨n1,n2⟩:=Fk h1
  have hne: ¬Az false s=s.length:=by
   intro e
   rw[List.length_drop] at n2
   omega
  unfold Sp
  rw[Oe,if_neg hne]
  generalize s.drop (Az false s)=r at h1 h2 h3 n2
  refine⟨A4y h1,?_,?_⟩
  ·rw[List.take_append_of_le_length n2,h2]
  ·rw[List.drop_append_of_le_length n2]
   exact Hp hu (l:=l) (s:=r.drop t.Ag.length) h3
theorem Sp.blank{l:List Tk}{w:By}(h:Sp l w):Sp l (32::w):=by
 unfold Sp
 rw[Az,if_pos (by decide),Nat.add_comm,List.drop_succ_cons]
 exact h
theorem Sp.front{t:Tk}{l:List Tk}{w:By}(h:Sp l w)(hn:A4 (t.Ag++w)=((A4 t.Ag).1,t.Ag.length,0)):Sp (t::l) (t.Ag++w):=by
 refine Sp.of ⟨hn,List.take_left,?_⟩
 rw[List.drop_left]
 exact h
theorem Aau{t:Tk}{l:List Tk}{w:By}(h:Sp l w)(hk:okT t=true):Sp (t::l) (t.Ag++32::w):=by
 obtain⟨k,_,hn⟩:=Amv hk
 exact h.blank.front (by rw[Atv hn,hn])
theorem Ak8{b:UInt8}(h1:Adq b=false)(h2:Bj b=false)(h3:b≠34)(h4:b∈Xy)(h5:b≠60∧b≠62∧b≠46)(w:By):A4 (b::w)=(3,1,0):=by
 unfold A4
 simp only[h1,h2,Bool.false_eq_true,if_false]
 rw[if_neg h3]
 unfold Acc
 have: ¬((b::w).take 2=[60,61]∨(b::w).take 2=[62,61]∨(b::w).take 2=[46,46]):=by
  rw[List.take_succ_cons]
  rintro(h|h|h)
  ·exact h5.1 (List.cons.inj h).1
  ·exact h5.2.1 (List.cons.inj h).1
  ·exact h5.2.2 (List.cons.inj h).1
 rw[if_neg this]
 show(3,if b∈Xy then(1,0) else(0,14))=((3,1,0):Nat×Nat×Nat)
 rw[if_pos h4]
theorem Sp.lp{l:List Tk}{w:By}(h:Sp l w):Sp (Go.Av.G.lp::l) (40::w):=h.front (t:=Go.Av.G.lp) (Ak8 (by decide) (by decide) (by decide) (by decide) (by decide) w)
theorem Sp.rp{l:List Tk}{w:By}(h:Sp l w):Sp (Go.Av.G.rp::l) (41::w):=h.front (t:=Go.Av.G.rp) (Ak8 (by decide) (by decide) (by decide) (by decide) (by decide) w)
theorem Sp.cm{l:List Tk}{w:By}(h:Sp l w):Sp (Go.Av.G.cm::l) (44::w):=h.front (t:=Go.Av.G.cm) (Ak8 (by decide) (by decide) (by decide) (by decide) (by decide) w)
theorem Sp.mi{l:List Tk}{w:By}(h:Sp l w):Sp (Go.Av.G.mi::l) (45::w):=h.front (t:=Go.Av.G.mi) (Ak8 (by decide) (by decide) (by decide) (by decide) (by decide) w)
theorem Sp.nil:Sp [] []:=rfl
theorem Sp.max{l:List Tk}{w:By}(h:Sp l (40::w)):Sp (tk 0 Fx::l) (Fx++40::w):=h.front (t:=tk 0 Fx) (by
 show A4 (Fx++40::w)=_
 have e:Fx++40::w=109::([97,120]++40::w):=rfl
 rw[e]
 unfold A4
 simp only
 rw[if_pos (by decide)]
 unfold Pv
 rw[show(109::([97,120]++40::w):By)=Fx++40::w from rfl,K5 (fun b v h=>by cases h;decide)]
 rfl)
end Go.Av.G
end
section
set_option maxRecDepth 20000
set_option maxHeartbeats 4000000
namespace Go.Av.G
open Go Go.Av Go.Proofs
theorem Big{l:List Tk}{w:By}(h:Sp l w):Sp l (10::w):=by
 unfold Sp
 rw[Az,if_pos (by decide),Nat.add_comm,List.drop_succ_cons]
 exact h
theorem A8t{s:By}(h:(Cr s).2.2.2=0): ∃S,LX s= .inl S∧CL S 0=(some (Cr s).1,[])∧Py (Cr s).1≠0:=by
 unfold Cr at h⊢
 cases hl:LX s with
 |inr e=>
  rw[hl] at h
  have:=(Aun hl).1
  simp only at h
  omega
 |inl S=>
  rw[hl] at h
  simp only at h⊢
  cases hc:CL S 0 with
  |mk o i=>
   rw[hc] at h
   cases i with
   |cons t r=>simp at h
   |nil=>
    cases o with
    |none=>simp at h
    |some a=>
     simp only at h⊢
     by_cases hd:Py a=0
     ·rw[if_pos hd] at h;simp at h
     ·rw[if_neg hd]
      exact⟨S,rfl,hc,hd⟩
theorem Ak9{X:By}{toks:List Tk}{r:List Nd}(h:Sp toks X)(hk: ∀t∈toks,okT t=true)(hl:X.length≤8000)(hc:CL toks 0=(some r,[])):(Cr X).2.2.2=6∨(Cr X).2.2.2=4∨Cr X=(r,0,0,0):=by
 rcases Bif h hk hl with⟨l',h1,h2⟩|⟨p,h1⟩
 ·have h3:=Beq h2.symm hc
  unfold Cr
  rw[h1]
  simp only[h3]
  by_cases hd:Py r=0
  ·rw[if_pos hd];exact Or.inr (Or.inl rfl)
  ·rw[if_neg hd];exact Or.inr (Or.inr rfl)
 ·left
  unfold Cr
  rw[h1]
  rfl
def Ap1(e:Int)(is:Bool):Bool:=e==0&&is||e==4||e==6
theorem Abj(e:Int)(is:Bool):Ch e is=some (Ap1 e is):=rfl
theorem Ala{X:By}{r:List Nd}(h:(Cr X).2.2.2=6∨(Cr X).2.2.2=4∨Cr X=(r,0,0,0)):Ap1 (Cr X).2.2.2 (decide ((Cr X).1=r))=true:=by
 unfold Ap1
 rcases h with h|h|h
 ·rw[h];simp
 ·rw[h];simp
 ·rw[h];simp
theorem Al5{k:Int}{a b:List Nd}(h:a.length+b.length≤1000000):Bn k a b=some (⟨k,[]⟩::(a++b)):=by
 unfold Bn
 rw[Ve (by simp only[List.length_cons,List.length_nil];omega)]
 simp only[Option.bind_some]
 rw[Ve (by simp only[List.length_append,List.length_cons,List.length_nil];omega)]
 simp only[Option.bind_some]
 rw[Ve (by simp only[List.length_append,List.length_cons,List.length_nil];omega)]
 simp
theorem Bhk{k:Int}{a b:List Nd}(h:a.length+b.length≤1000000):F1 k a b=some (⟨k,[]⟩::(a++b)):=Al5 h
def sgL:List By:=[[43],[45],[42],[47],[60],[60,61],[61],[62],[62,61],[97,110,100],[111,114]]
def kdL:List Int:=[3,4,5,6,7,8,9,10,11,12,13]
theorem Bi2{j:Int}(h0:0≤j)(h1:j<11): ∃(sg:By) (kd:Int) (g:Tk),rdO sgL j=some sg∧rdO kdL j=some kd∧Sp [g] sg∧okT g=true∧(Bc g).1=kd∧(Bc g).2≠0∧sg.length≤3:=by
 have hk: ∀(k:Int) (sg:By),okT (tk k sg)=true→Dt [tk k sg] sg:=fun k sg h=>by
  have:=Ra (l:=[tk k sg]) (fun t ht=>by rw[List.mem_singleton.1 ht];exact h)
  rw[Al6] at this
  exact this
 rcases(show j=0∨j=1∨j=2∨j=3∨j=4∨j=5∨j=6∨j=7∨j=8∨j=9∨j=10 by omega) with rfl|rfl|rfl|rfl|rfl|rfl|rfl|rfl|rfl|rfl|rfl
 ·exact⟨[43],3,tk 3 [43],rfl,rfl,Sp.of (hk _ _ (by decide +kernel)),by decide +kernel,rfl,by decide,by decide⟩
 ·exact⟨[45],4,tk 3 [45],rfl,rfl,Sp.of (hk _ _ (by decide +kernel)),by decide +kernel,rfl,by decide,by decide⟩
 ·exact⟨[42],5,tk 3 [42],rfl,rfl,Sp.of (hk _ _ (by decide +kernel)),by decide +kernel,rfl,by decide,by decide⟩
 ·exact⟨[47],6,tk 3 [47],rfl,rfl,Sp.of (hk _ _ (by decide +kernel)),by decide +kernel,rfl,by decide,by decide⟩
 ·exact⟨[60],7,tk 3 [60],rfl,rfl,Sp.of (hk _ _ (by decide +kernel)),by decide +kernel,rfl,by decide,by decide⟩
 ·exact⟨[60,61],8,tk 3 [60,61],rfl,rfl,Sp.of (hk _ _ (by decide +kernel)),by decide +kernel,rfl,by decide,by decide⟩
 ·exact⟨[61],9,tk 3 [61],rfl,rfl,Sp.of (hk _ _ (by decide +kernel)),by decide +kernel,rfl,by decide,by decide⟩
 ·exact⟨[62],10,tk 3 [62],rfl,rfl,Sp.of (hk _ _ (by decide +kernel)),by decide +kernel,rfl,by decide,by decide⟩
 ·exact⟨[62,61],11,tk 3 [62,61],rfl,rfl,Sp.of (hk _ _ (by decide +kernel)),by decide +kernel,rfl,by decide,by decide⟩
 ·exact⟨[97,110,100],12,tk 0 [97,110,100],rfl,rfl,Sp.of (hk _ _ (by decide +kernel)),by decide +kernel,rfl,by decide,by decide⟩
 ·exact⟨[111,114],13,tk 0 [111,114],rfl,rfl,Sp.of (hk _ _ (by decide +kernel)),by decide +kernel,rfl,by decide,by decide⟩
theorem okc:okT lp=true∧okT rp=true∧okT cm=true∧okT mi=true∧okT (tk 0 Jq)=true∧okT (tk 0 U2)=true∧okT (tk 3 [60])=true∧okT i1=true∧okT (tk 0 sIf)=true∧okT (tk 0 Hl)=true∧okT (tk 0 Gy)=true∧okT (tk 0 Fx)=true:=by decide +kernel
theorem Bi5:Sp [i1] [105,102,49]:=by
 have:=Ra (l:=[i1]) (fun t ht=>by rw[List.mem_singleton.1 ht];exact okc.2.2.2.2.2.2.2.1)
 rw[Al6] at this
 exact Sp.of this
theorem four{s t:By}{S T:List Tk}(hs:LX s= .inl S)(ht:LX t= .inl T){a b:List Nd}(ha:CL S 0=(some a,[]))(hb:CL T 0=(some b,[]))(ls:s.length≤1000)(lt:t.length≤1000){sg:By}{g:Tk}(hg:Sp [g] sg)(hgk:okT g=true)(hgs:(Bc g).2≠0)(hgl:sg.length≤3):
  Ap1 (Cr ([40,40,10]++s++[10,41,41])).2.2.2 (decide ((Cr ([40,40,10]++s++[10,41,41])).1=a))=true∧
  Ap1 (Cr ([40]++s++[10,41]++sg++[10,40]++t++[10,41])).2.2.2 (decide ((Cr ([40]++s++[10,41]++sg++[10,40]++t++[10,41])).1=⟨(Bc g).1,[]⟩::(a++b)))=true∧
  Ap1 (Cr ([110,111,116,32,40]++s++[10,41,32,97,110,100,32,45,40]++t++[10,41,32,60,32,105,102,49])).2.2.2 (decide ((Cr ([110,111,116,32,40]++s++[10,41,32,97,110,100,32,45,40]++t++[10,41,32,60,32,105,102,49])).1=⟨12,[]⟩::((⟨14,[]⟩::(a++[]))++(⟨7,[]⟩::((⟨2,[]⟩::(b++[]))++[⟨1,[105,102,49]⟩])))))=true∧
  Ap1 (Cr ([105,102,32]++s++[10,116,104,101,110,32]++t++[10,101,108,115,101,32,109,97,120,40]++s++[10,44]++t++[10,41])).2.2.2 (decide ((Cr ([105,102,32]++s++[10,116,104,101,110,32]++t++[10,101,108,115,101,32,109,97,120,40]++s++[10,44]++t++[10,41])).1=(⟨15,[]⟩::(a++b))++(⟨17,[]⟩::(a++b))))=true:=by
 obtain⟨c1,c2,c3,c4,c5,c6,c7,c8,c9,c10,c11,c12⟩:=okc
 have okS:=(Ald hs).2.2.2.1
 have okTT:=(Ald ht).2.2.2.1
 have spS:=Bgf hs
 have spT:=Bgf ht
 refine⟨Ala ?_,Ala ?_,Ala ?_,Ala ?_⟩
 ·have h:=(Sp.lp (Sp.lp (Big (Hp (Sp.rp (Sp.rp Sp.nil)) spS))))
  have e:[40,40,10]++s++[10,41,41]=40::40::10::(s++10::[41,41]):=by simp
  rw[e]
  refine Ak9 (toks:=lp::(lp::(S++[rp])++[rp])) (by simpa using h) (fun x hx=>?_) (by simp only[List.length_append,List.length_cons,List.length_nil];omega) (Bh8 ha)
  simp only[List.mem_cons,List.mem_append,List.not_mem_nil,or_false] at hx
  rcases hx with rfl|(rfl|hx|rfl)|rfl
  ·exact c1
  ·exact c1
  ·exact okS x hx
  ·exact c2
  ·exact c2
 ·have h:=Sp.lp (Hp (Sp.rp (Hp (Sp.lp (Hp (Sp.rp Sp.nil) spT)) hg)) spS)
  have e:[40]++s++[10,41]++sg++[10,40]++t++[10,41]=40::(s++10::41::(sg++10::40::(t++10::[41]))):=by simp
  rw[e]
  refine Ak9 (toks:=lp::(S++rp::(g::(lp::(T++[rp]))))) (by simpa using h) (fun x hx=>?_) (by simp only[List.length_append,List.length_cons,List.length_nil];omega) (Bas ha hb hgs)
  simp only[List.mem_cons,List.mem_append,List.not_mem_nil,or_false] at hx
  rcases hx with rfl|hx|rfl|rfl|rfl|hx|rfl
  ·exact c1
  ·exact okS x hx
  ·exact c2
  ·exact hgk
  ·exact c1
  ·exact okTT x hx
  ·exact c2
 ·have h:=Aau (t:=tk 0 Jq) (Sp.lp (Hp (Sp.rp (Sp.blank (Aau (t:=tk 0 U2) (Sp.mi (Sp.lp (Hp (Sp.rp (Sp.blank (Aau (t:=tk 3 [60]) Bi5 c7))) spT))) c6))) spS)) c5
  have e:[110,111,116,32,40]++s++[10,41,32,97,110,100,32,45,40]++t++[10,41,32,60,32,105,102,49]=Jq++32::40::(s++10::41::32::(U2++32::45::40::(t++10::41::32::([60]++32::[105,102,49])))):=by simp[Jq,U2]
  rw[e]
  refine Ak9 (toks:=tk 0 Jq::(lp::(S++rp::(tk 0 U2::(mi::(lp::(T++rp::(tk 3 [60]::[i1])))))))) (by simpa [tk] using h) (fun x hx=>?_) (by simp only[List.length_append,List.length_cons,List.length_nil,Jq,U2];omega) (by rw[Bem ha hb];simp)
  simp only[List.mem_cons,List.mem_append,List.not_mem_nil,or_false] at hx
  rcases hx with rfl|rfl|hx|rfl|rfl|rfl|rfl|hx|rfl|rfl|rfl
  ·exact c5
  ·exact c1
  ·exact okS x hx
  ·exact c2
  ·exact c6
  ·exact c4
  ·exact c1
  ·exact okTT x hx
  ·exact c2
  ·exact c7
  ·exact c8
 ·have h:=Aau (t:=tk 0 sIf) (Hp (Aau (t:=tk 0 Hl) (Hp (Aau (t:=tk 0 Gy) (Sp.max (Sp.lp (Hp (Sp.cm (Hp (Sp.rp Sp.nil) spT)) spS))) c11) spT) c10) spS) c9
  have e:[105,102,32]++s++[10,116,104,101,110,32]++t++[10,101,108,115,101,32,109,97,120,40]++s++[10,44]++t++[10,41]=sIf++32::(s++10::(Hl++32::(t++10::(Gy++32::(Fx++40::(s++10::44::(t++10::[41]))))))):=by simp[sIf,Hl,Gy,Fx]
  rw[e]
  refine Ak9 (toks:=tk 0 sIf::(S++tk 0 Hl::(T++tk 0 Gy::(tk 0 Fx::(lp::(S++cm::(T++[rp]))))))) (by simpa [tk] using h) (fun x hx=>?_) (by simp only[List.length_append,List.length_cons,List.length_nil,sIf,Hl,Gy,Fx];omega) (Bgc ha hb)
  simp only[List.mem_cons,List.mem_append,List.not_mem_nil,or_false] at hx
  rcases hx with rfl|hx|rfl|hx|rfl|rfl|rfl|hx|rfl|hx|rfl
  ·exact c9
  ·exact okS x hx
  ·exact c10
  ·exact okTT x hx
  ·exact c11
  ·exact c12
  ·exact c1
  ·exact okS x hx
  ·exact c3
  ·exact okTT x hx
  ·exact c2
theorem Ta{β:Type}{a b:By}{F:By→Option β}(h:a.length+b.length≤9223372036854775807):(Hw a b).bind F=F (a++b):=by rw[show Hw a b=some (a++b) by unfold Hw;rw[if_pos h]];rfl
theorem Au6{s t:By}{k:Int}(hk:0≤k∧k≤255):Cj s t k=some true:=by
 unfold Cj
 by_cases hlen:s.length≤1000∧t.length≤1000
 ·obtain⟨ls,lt⟩:=hlen
  simp only[Option.bind_some]
  rw[if_neg (by simp;omega),Le (by omega),Le (by omega)]
  simp only[Option.bind_some]
  by_cases he:(Cr s).2.2.2=0∧(Cr t).2.2.2=0
  ·rw[if_neg (by simp[he.1,he.2])]
   obtain⟨S,s1,s2,s3⟩:=A8t he.1
   obtain⟨T,t1,t2,t3⟩:=A8t he.2
   have la:=(Aaz s3).1
   have lb:=(Aaz t3).1
   have hw:IntKind.wrap .i64 k=k:=wrap64 (by omega) (by omega)
   have hr:Bfs .i64 k ([[43],[45],[42],[47],[60],[60,61],[61],[62],[62,61],[97,110,100],[111,114]].length:Int)=some (k.tmod 11):=rfl
   have hj0:0≤k.tmod 11:=Int.tmod_nonneg 11 hk.1
   have hj1:k.tmod 11<11:=Int.tmod_lt_of_pos k (by decide)
   obtain⟨sg,kd,g,g1,g2,g3,g4,g5,g6,g7⟩:=Bi2 hj0 hj1
   obtain⟨f1,f2,f3,f4⟩:=four s1 t1 s2 t2 ls lt g3 g4 g6 g7
   have tl: ∀X:By,(Cr X).1.length≤1000000:=fun X=>by have:=Bei (s:=X);omega
   rw[hw,hr]
   simp only[Option.bind_some]
   rw[Ta (by simp only[List.length_append,List.length_cons,List.length_nil];omega),Ta (by simp only[List.length_append,List.length_cons,List.length_nil];omega),Le (by simp only[List.length_append,List.length_cons,List.length_nil];omega)]
   simp only[Option.bind_some]
   rw[Yp (tl _)]
   simp only[Option.bind_some]
   rw[Ta (by simp only[List.length_append,List.length_cons,List.length_nil];omega),Ta (by simp only[List.length_append,List.length_cons,List.length_nil];omega)]
   rw[show rdO [[43],[45],[42],[47],[60],[60,61],[61],[62],[62,61],[97,110,100],[111,114]] (k.tmod 11)=some sg from g1,show rdO [3,4,5,6,7,8,9,10,11,12,13] (k.tmod 11)=some kd from g2]
   simp only[Option.bind_some]
   rw[Ta (by simp only[List.length_append,List.length_cons,List.length_nil];omega),Ta (by simp only[List.length_append,List.length_cons,List.length_nil];omega),Ta (by simp only[List.length_append,List.length_cons,List.length_nil];omega),Ta (by simp only[List.length_append,List.length_cons,List.length_nil];omega),Le (by simp only[List.length_append,List.length_cons,List.length_nil];omega)]
   simp only[Option.bind_some]
   rw[Al5 (by omega)]
   simp only[Option.bind_some]
   rw[Yp (tl _)]
   simp only[Option.bind_some]
   rw[Ta (by simp only[List.length_append,List.length_cons,List.length_nil];omega),Ta (by simp only[List.length_append,List.length_cons,List.length_nil];omega),Ta (by simp only[List.length_append,List.length_cons,List.length_nil];omega),Ta (by simp only[List.length_append,List.length_cons,List.length_nil];omega),Le (by simp only[List.length_append,List.length_cons,List.length_nil];omega)]
   simp only[Option.bind_some]
   rw[Al5 (by simp only[List.length_nil];omega),Al5 (by simp only[List.length_nil];omega)]
   simp only[Option.bind_some]
   rw[Al5 (by simp only[List.length_append,List.length_cons,List.length_nil];omega)]
   simp only[Option.bind_some]
   rw[Al5 (by simp only[List.length_append,List.length_cons,List.length_nil];omega)]
   simp only[Option.bind_some]
   rw[Yp (tl _)]
   simp only[Option.bind_some]
   rw[Ta (by simp only[List.length_append,List.length_cons,List.length_nil];omega),Ta (by simp only[List.length_append,List.length_cons,List.length_nil];omega),Ta (by simp only[List.length_append,List.length_cons,List.length_nil];omega),Ta (by simp only[List.length_append,List.length_cons,List.length_nil];omega),
    Ta (by simp only[List.length_append,List.length_cons,List.length_nil];omega),Ta (by simp only[List.length_append,List.length_cons,List.length_nil];omega),Ta (by simp only[List.length_append,List.length_cons,List.length_nil];omega),Ta (by simp only[List.length_append,List.length_cons,List.length_nil];omega),Le (by simp only[List.length_append,List.length_cons,List.length_nil];omega)]
   simp only[Option.bind_some]
   rw[Bhk (by omega),Al5 (by omega)]
   simp only[Option.bind_some]
   rw[Ve (by simp only[List.length_append,List.length_cons,List.length_nil];omega)]
   simp only[Option.bind_some]
   rw[Yp (tl _),Alh]
   simp only[Option.bind_some]
   rw[←g5]
   rw[Abj,f1]
   simp only[Bd,cond_true,Option.bind_some,Bool.true_and]
   rw[Abj,f2]
   simp only[Bd,cond_true,Option.bind_some,Bool.true_and]
   rw[Abj,f3]
   simp only[Bd,cond_true,Option.bind_some,Bool.true_and]
   rw[Abj,f4]
   rfl
  ·rw[if_pos (by
    simp only[Bool.or_eq_true,bne_iff_ne]
    by_cases h1:(Cr s).2.2.2=0
    ·right;exact fun h2=>he ⟨h1,h2⟩
    ·left;exact h1),Alh]
   rfl
 ·simp only[Option.bind_some]
  rw[if_pos (by simp;omega),Alh]
  rfl
theorem Afw(s t:List UInt8)(k:Int)(h1:s.length≤reachBytes)(h2:t.length≤reachBytes)(h3:inR .u8 k):Cj s t k=some true:=
 Au6 ⟨h3.1,h3.2⟩
end Go.Av.G
end
