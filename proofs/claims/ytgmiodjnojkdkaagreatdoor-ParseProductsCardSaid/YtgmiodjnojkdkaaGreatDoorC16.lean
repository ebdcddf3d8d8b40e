import Derived.Laws.RangeAny
import Derived.Test.YtgmiodjnojkdkaaGreatDoorC15
set_option linter.all false
section
namespace Go.Av
open Go
theorem wrap64{x:Int}(h1: -9223372036854775808≤x)(h2:x<9223372036854775808):IntKind.wrap .i64 x=x:=by
 have hb:IntKind.bits .i64=64:=rfl
 have hs:IntKind.signed .i64=true:=rfl
 unfold IntKind.wrap
 simp only[hb,hs,Bool.true_and,decide_eq_true_eq]
 split<;>omega
theorem Fj{α:Type}{l:List α}{i:Nat}(h:i<l.length):rdO l (i:Int)=some l[i]:=by
 unfold rdO
 rw[if_pos (by omega)]
 simp[List.getElem?_eq_getElem h]
theorem Sq{s:List UInt8}{i:Nat}(h:i<s.length):byO s (i:Int)=some ((s[i].toNat:Nat):Int):=by
 unfold byO
 rw[if_pos (by omega)]
 simp[List.getElem?_eq_getElem h]
theorem Bwv{O:Type}{f:Int→Option (Int⊕O)}{n:Nat}{q:Nat→Bool}{o:Nat→O}{e:O}(hn:n<4611686018427387904)(hin: ∀i:Nat,i<n→f i=some (if q i=true then .inr (o i) else .inl (IntKind.wrap .i64 ((i:Int)+1))))
  (hout: ∀i:Nat,n≤i→f i=some (.inr e))(s:Nat):A5 f s=some (match (List.range' s (n-s)).find? q with|some i=>o i|none=>e):=by
 generalize hm:n-s=m
 induction m generalizing s with
 |zero=>rw[Ay (hout s (by omega))];rfl
 |succ m ih=>
  have:=hin s (by omega)
  rw[List.range'_succ,List.find?_cons]
  cases hq:q s with
  |true=>
   rw[hq,if_pos rfl] at this
   rw[Ay this]
  |false=>
   rw[hq,if_neg (by simp),wrap64 (by omega) (by omega)] at this
   rw[Bm this]
   exact ih (s+1) (by omega)
theorem Bse{O:Type}{l:List Nat}{q:Nat→Bool}{o e:O}:(match l.find? q with|some i=>o|none=>e)=if l.any q=true then o else e:=by
 induction l with
 |nil=>rfl
 |cons x l ih=>
  rw[List.find?_cons,List.any_cons]
  cases q x with
  |true=>rfl
  |false=>simpa using ih
theorem A9p{O:Type}{f:Int→Option (Int⊕O)}{n:Nat}{q:Nat→Bool}{o e:O}(hn:n<4611686018427387904)(hin: ∀i:Nat,i<n→f i=some (if q i=true then .inr o else .inl (IntKind.wrap .i64 ((i:Int)+1))))
  (hout: ∀i:Nat,n≤i→f i=some (.inr e))(s:Nat):A5 f s=some (if (List.range' s (n-s)).any q=true then o else e):=by
 rw[Bwv hn hin hout s,Bse]
theorem Bo9{α:Type}(l:List α)(p:α→Bool):(List.range' 0 l.length).any (fun i=>(l[i]?).any p)=l.any p:=by
 rw[Bool.eq_iff_iff,List.any_eq_true,List.any_eq_true]
 constructor
 ·rintro⟨i,hi,h⟩
  have hl:i<l.length:=by simpa using hi
  rw[List.getElem?_eq_getElem hl] at h
  exact⟨l[i],List.getElem_mem hl,h⟩
 ·rintro⟨x,hx,h⟩
  obtain⟨i,hi,rfl⟩:=List.getElem_of_mem hx
  exact⟨i,by simpa using hi,by simpa [List.getElem?_eq_getElem hi] using h⟩
theorem Ze{α O:Type}{f:Int→Option (Int⊕O)}{l:List α}(p:α→Bool){o e:O}(hn:l.length<4611686018427387904)(hin: ∀(i:Nat) (h:i<l.length),f i=some (if p l[i]=true then .inr o else .inl (IntKind.wrap .i64 ((i:Int)+1))))
  (hout: ∀i:Nat,l.length≤i→f i=some (.inr e)):A5 f 0=some (if l.any p=true then o else e):=by
 have:=A9p (q:=fun i=>(l[i]?).any p) hn (fun i hi=>by rw[hin i hi,List.getElem?_eq_getElem hi];rfl) hout 0
 rw[←Bo9]
 exact this
def Ato{α:Type}(l:List α)(p:α→Bool):Option Nat:=(List.range' 0 l.length).find? (fun i=>(l[i]?).any p)
theorem Am1{α:Type}{l:List α}{p:α→Bool}{i:Nat}(h:Ato l p=some i): ∃hi:i<l.length,p l[i]=true∧ ∀j (hj:j<i),p (l[j]'(by omega))=false:=by
 unfold Ato at h
 have hm:=List.mem_of_find?_eq_some h
 have hi:i<l.length:=by simpa using hm
 have hp:=List.find?_some h
 rw[List.getElem?_eq_getElem hi] at hp
 refine⟨hi,hp,fun j hj=>?_⟩
 obtain⟨_,as',bs,he,hall⟩:=List.find?_eq_some_iff_append.1 h
 have hlen:as'.length=i:=by
  have h1:(List.range' 0 l.length)[as'.length]? =some i:=by rw[he];simp
  rw[List.getElem?_range' (by
   have:=congrArg List.length he
   simp at this
   omega)] at h1
  simpa using h1
 have hmem:j∈as':=by
  have h2:(List.range' 0 l.length)[j]? =some j:=by rw[List.getElem?_range' (by omega)];simp
  rw[he,List.getElem?_append_left (by omega)] at h2
  exact List.mem_of_getElem? h2
 have:=hall j hmem
 rw[List.getElem?_eq_getElem (by omega)] at this
 simpa using this
theorem Am0{α:Type}{l:List α}{p:α→Bool}(h:Ato l p=none): ∀x∈l,p x=false:=by
 intro x hx
 obtain⟨i,hi,rfl⟩:=List.getElem_of_mem hx
 have:=List.find?_eq_none.1 h i (by simpa using hi)
 rw[List.getElem?_eq_getElem hi] at this
 simpa using this
theorem Axv{α O:Type}{f:Int→Option (Int⊕O)}{l:List α}(p:α→Bool){o:Nat→O}{e:O}(hn:l.length<4611686018427387904)(hin: ∀(i:Nat) (h:i<l.length),f i=some (if p l[i]=true then .inr (o i) else .inl (IntKind.wrap .i64 ((i:Int)+1))))
  (hout: ∀i:Nat,l.length≤i→f i=some (.inr e)):A5 f 0=some (match Ato l p with|some i=>o i|none=>e):=
 Bwv (q:=fun i=>(l[i]?).any p) hn (fun i hi=>by rw[hin i hi,List.getElem?_eq_getElem hi];rfl) hout 0
theorem A2l{α S O:Type}{f:Int×S→Option ((Int×S)⊕O)}{l:List α}(step:S→α→S)(out:S→O){s0:S}(hn:l.length<4611686018427387904)
  (hin: ∀(i:Nat) (h:i<l.length),f ((i:Int),(l.take i).foldl step s0)=some (.inl (IntKind.wrap .i64 ((i:Int)+1),step ((l.take i).foldl step s0) l[i])))
  (hout:f ((l.length:Int),l.foldl step s0)=some (.inr (out (l.foldl step s0)))):A5 f (0,s0)=some (out (l.foldl step s0)):=by
 have key: ∀k,k≤l.length→A5 f (0,s0)=A5 f ((k:Int),(l.take k).foldl step s0):=by
  intro k
  induction k with
  |zero=>intro _;rfl
  |succ k ih=>
   intro hk
   rw[ih (by omega),Bm (hin k (by omega)),wrap64 (by omega) (by omega),List.take_succ_eq_append_getElem (by omega),List.foldl_append]
   rfl
 rw[key l.length (Nat.le_refl _),List.take_length]
 exact Ay hout
def Bu5{α:Type}(key:α→Int)(l:List α):Prop:= ∀i (h:i+1<l.length),key l[i]<key l[i+1]
theorem Bu5.lt{α:Type}{key:α→Int}{l:List α}(h:Bu5 key l): ∀{j i:Nat} (hj:j<l.length) (hij:i<j),key (l[i]'(by omega))<key l[j]:=by
 intro j
 induction j with
 |zero=>intro i _ hij;omega
 |succ j ih=>
  intro i hj hij
  have h1:=h j hj
  by_cases he:i=j
  ·subst he;exact h1
  ·have:=ih (i:=i) (by omega) (by omega)
   omega
theorem Bu5.inj{α:Type}{key:α→Int}{l:List α}(h:Bu5 key l){i j:Nat}(hi:i<l.length)(hj:j<l.length)(he:key l[i]=key l[j]):i=j:=by
 by_cases h1:i<j
 ·have:=h.lt hj h1;omega
 ·by_cases h2:j<i
  ·have:=h.lt hi h2;omega
  ·omega
end Go.Av
end
section
set_option maxHeartbeats 8000000
set_option maxRecDepth 100000
namespace Go.Av.G
open Go Go.Av Go.Proofs
theorem Bh{α β:Type}{a:Option α}{x:α}{f:α→Option β}{o:Option β}(h:a=some x)(h2:f x=o):a.bind f=o:=by subst h;exact h2
theorem A2{α:Type}(g:Bool)(a d:α):gdO g (some a) d=some (bif g then a else d):=by cases g<;>rfl
def Am(q:UInt8→Bool)(s:List UInt8):Nat:=(s.takeWhile q).length
theorem Ib(q:UInt8→Bool):Am q []=0:=rfl
theorem C4(q:UInt8→Bool)(b:UInt8)(t:List UInt8):Am q (b::t)=if q b=true then Am q t+1 else 0:=by
 unfold Am
 rw[List.takeWhile_cons]
 split<;>simp
theorem D5(q:UInt8→Bool): ∀s:List UInt8,Am q s≤s.length
 |[]=>by simp[Ib]
 |b::t=>by
  have:=D5 q t
  rw[C4,List.length_cons]
  split<;>omega
theorem N2(q:UInt8→Bool): ∀(s:List UInt8) (m:Nat),Am q (s.take m)=min (Am q s) m
 |[],m=>by simp[Ib]
 |b::t,0=>by simp[Ib]
 |b::t,m+1=>by
  rw[List.take_succ_cons,C4,C4,N2 q t m]
  split<;>omega
theorem H4{α:Type}{l:List α}{n:Nat}(h:n≤l.length):slO l (n:Int) (l.length:Int)=some (l.drop n):=by
 unfold slO
 rw[if_pos ⟨by omega,by omega,by omega⟩]
 simp
theorem Jr{α:Type}{l:List α}{n:Nat}(h:n≤l.length):slO l 0 (n:Int)=some (l.take n):=by
 unfold slO
 rw[if_pos ⟨by omega,by omega,by omega⟩]
 simp
theorem Bes{α:Type}{l:List α}{a b:Nat}(h1:a≤b)(h2:b≤l.length):slO l (a:Int) (b:Int)=some ((l.take b).drop a):=by
 unfold slO
 rw[if_pos ⟨by omega,by omega,by omega⟩]
 simp
theorem Bs3{p:Nat→Bool}{q:UInt8→Bool}(h1: ∀x,128≤x→p x=true)(h2: ∀b:UInt8,b.toNat<128→p b.toNat= !q b)(h3: ∀b:UInt8,128≤b.toNat→q b=false)(s:List UInt8):Lib.idxFunc p true ⟨s.toArray⟩=if Am q s=s.length then -1 else(Am q s:Int):=by
 have hsz:(ByteArray.mk s.toArray).size=s.length:=by simp[ByteArray.size]
 have key: ∀f pos,s.length-pos≤f→pos≤s.length→Lib.idxFuncFrom p true ⟨s.toArray⟩ f pos=if Am q (s.drop pos)=s.length-pos then -1 else((pos+Am q (s.drop pos):Nat):Int):=by
  intro f
  induction f with
  |zero=>
   intro pos h hp
   have:pos=s.length:=by omega
   subst this
   simp[Lib.idxFuncFrom,Ib]
  |succ f ih=>
   intro pos h hp
   simp only[Lib.idxFuncFrom]
   by_cases hpos:pos<s.length
   ·rw[if_pos (by rw[hsz];exact hpos)]
    have hget:(ByteArray.mk s.toArray)[pos]'(by rw[hsz];exact hpos)=s[pos]:=rfl
    rw[List.drop_eq_getElem_cons hpos,C4]
    have hle:=D5 q (s.drop (pos+1))
    rw[List.length_drop] at hle
    by_cases ha:(s[pos]).toNat<128
    ·have hd:=Go.decode_ascii (ByteArray.mk s.toArray) pos (by rw[hsz];exact hpos) (by rw[hget];exact ha)
     rw[hd,hget]
     simp only
     rw[h2 _ ha]
     cases hq:q s[pos] with
     |true=>
      simp only[Bool.not_true,Bool.false_eq_true,if_false,if_true]
      rw[ih (pos+1) (by omega) (by omega)]
      by_cases he:Am q (s.drop (pos+1))=s.length-(pos+1)
      ·rw[if_pos he,if_pos (by omega)]
      ·rw[if_neg he,if_neg (by omega)]
       omega
     |false=>
      simp only[Bool.not_false,if_true,Bool.false_eq_true,if_false]
      rw[if_neg (by omega)]
      simp
    ·have hd:=Go.decode_high (ByteArray.mk s.toArray) pos (by rw[hsz];exact hpos) (by rw[hget];omega)
     rw[if_pos (h1 _ hd.1),h3 _ (by omega)]
     simp only[Bool.false_eq_true,if_false]
     rw[if_neg (by omega)]
     simp
   ·have:pos=s.length:=by omega
    subst this
    rw[if_neg (by rw[hsz];omega)]
    simp[Ib]
 unfold Lib.idxFunc
 rw[key _ 0 (by rw[hsz];omega) (by omega)]
 simp
def Atr(b:UInt8):Bool:=decide (97≤b.toNat∧b.toNat≤122)
def digB(b:UInt8):Bool:=decide (48≤b.toNat∧b.toNat≤57)
def Ap7(b:UInt8):Bool:=decide ((97≤b.toNat∧b.toNat≤122)∨(48≤b.toNat∧b.toNat≤57)∨b.toNat=95)
def prB(b:UInt8):Bool:=decide (32≤b.toNat∧b.toNat≤126)
theorem On(n:Int):Ia n=some (decide (97≤n∧n≤122)):=by simp[Ia]
theorem S0(n:Int):Hx n=some (decide (48≤n∧n≤57)):=by simp[Hx]
theorem Bf7(n:Int):Q4 n=some (decide ((97≤n∧n≤122)∨(48≤n∧n≤57)∨n=95)):=by
 simp only[Q4,On,S0,Option.bind_some,A2,Option.some.injEq]
 by_cases h1:97≤n∧n≤122
 ·simp[h1]
 ·by_cases h2:48≤n∧n≤57
  ·simp[h1,h2]
  ·by_cases h3:n=95
   ·simp[h3]
   ·simp[h1,h2,h3]
theorem Bik(n:Int):Q5 n=some (decide (32≤n∧n≤126)):=by simp[Q5]
theorem By7{n:Int}(h1:0≤n)(h2:n<256):IntKind.wrap .u8 n=n:=by
 have hb:IntKind.bits .u8=8:=rfl
 have hs:IntKind.signed .u8=false:=rfl
 unfold IntKind.wrap
 simp only[hb,hs,Bool.false_and]
 simp
 omega
theorem Bmg{f:Int→Option Bool}{g:Int→Bool}{q:UInt8→Bool}(hf: ∀n:Int,f n=some (bif decide (n>127) then true else !g (IntKind.wrap .u8 n)))(hg: ∀b:UInt8,g (b.toNat:Int)=q b)(hq: ∀b:UInt8,128≤b.toNat→q b=false)(s:List UInt8):strings_IndexFunc f s=some (if Am q s=s.length then -1 else(Am q s:Int)):=by
 rw[Ap2 (fun x=>bif decide ((x:Int)>127) then true else !g (IntKind.wrap .u8 (x:Int))) (fun x=>hf x),Bs3 (q:=q) ?_ ?_ hq]
 ·intro x hx
  have:decide ((x:Int)>127)=true:=decide_eq_true (by omega)
  simp only[this,cond_true]
 ·intro b hb
  have:decide ((b.toNat:Int)>127)=false:=decide_eq_false (by omega)
  simp only[this,cond_false,By7 (show 0≤(b.toNat:Int) by omega) (show(b.toNat:Int)<256 by omega),hg]
theorem Bx4(s:List UInt8):A1d s=some (Am Ap7 s:Int):=by
 unfold A1d
 rw[Bmg (g:=fun n=>decide ((97≤n∧n≤122)∨(48≤n∧n≤57)∨n=95)) (q:=Ap7)]
 ·simp only[Option.bind_some]
  by_cases h:Am Ap7 s=s.length
  ·rw[if_pos h];simp[h]
  ·rw[if_neg h];simp;omega
 ·intro n
  simp only[Sg,Bf7,Option.bind_some,A2]
  cases decide (n>127)<;>simp
 ·intro b
  unfold Ap7
  rw[Bool.eq_iff_iff]
  simp
  omega
 ·intro b hb
  unfold Ap7
  simp
  omega
theorem Bon(s:List UInt8):Sh s=some (Am digB s:Int):=by
 unfold Sh
 rw[Bmg (g:=fun n=>decide (48≤n∧n≤57)) (q:=digB)]
 ·simp only[Option.bind_some]
  by_cases h:Am digB s=s.length
  ·rw[if_pos h];simp[h]
  ·rw[if_neg h];simp;omega
 ·intro n
  simp only[Jj,S0,Option.bind_some,A2]
  cases decide (n>127)<;>simp
 ·intro b
  unfold digB
  rw[Bool.eq_iff_iff]
  simp
  omega
 ·intro b hb
  unfold digB
  simp
  omega
theorem Bv8(s:List UInt8):Aqj s=some (Am prB s:Int):=by
 unfold Aqj
 rw[Bmg (g:=fun n=>decide (32≤n∧n≤126)) (q:=prB)]
 ·simp only[Option.bind_some]
  by_cases h:Am prB s=s.length
  ·rw[if_pos h];simp[h]
  ·rw[if_neg h];simp;omega
 ·intro n
  simp only[Jk,Bik,Option.bind_some,A2]
  cases decide (n>127)<;>simp
 ·intro b
  unfold prB
  rw[Bool.eq_iff_iff]
  simp
  omega
 ·intro b hb
  unfold prB
  simp
  omega
def Fm(s:List UInt8):Nat:=match s with
 |b::c::t=>if b=46 then Am digB (c::t) else 0
 |_=>0
def Ado(s:List UInt8):Nat×Nat:=if 32<Am Ap7 s then(0,3) else(Am Ap7 s,0)
def Axz(s:List UInt8):Nat×Nat:=
 if 15<Am digB s∨9<Fm (s.drop (Am digB s))∨1<Am digB s∧s.head?=some 48 then(0,3)
 else if 0<Fm (s.drop (Am digB s)) then(Am digB s+1+Fm (s.drop (Am digB s)),0) else(Am digB s,0)
def Cg(b:UInt8):Bool:=b !=34
def Ax8(s:List UInt8):Nat×Nat:=
 if Am Cg (s.drop 1)=(s.drop 1).length then(0,14)
 else if 32<Am Cg (s.drop 1)∨Am prB ((s.drop 1).take (Am Cg (s.drop 1)))<Am Cg (s.drop 1) then(0,3)
 else(Am Cg (s.drop 1)+2,0)
def K9:List UInt8:=[123,125,40,41,91,93,59,58,44,37,61,60,62,43,45,42,47]
def Ayd(s:List UInt8):Nat×Nat:=
 if s.take 2=[60,61]∨s.take 2=[62,61]∨s.take 2=[46,46] then(2,0)
 else match s with
 |b::_=>if b∈K9 then(1,0) else(0,14)
 |[]=>(0,14)
def Bn(s:List UInt8):Nat×Nat×Nat:=match s with
 |b::_=>if Atr b=true then(0,Ado s) else if digB b=true then(1,Axz s) else if b=34 then(2,Ax8 s) else(3,Ayd s)
 |[]=>(0,0,14)
def prI(x:Nat×Nat):Int×Int:=((x.1:Int),(x.2:Int))
theorem Bwo(s:List UInt8):Anc s=some (prI (Ado s)):=by
 unfold Anc Ado prI
 rw[Bx4]
 simp only[Option.bind_some,decide_eq_true_eq]
 by_cases h:32<Am Ap7 s
 ·rw[if_pos (by omega),if_pos h];rfl
 ·rw[if_neg (by omega),if_neg h];rfl
theorem Dz{b:UInt8}{t:List UInt8}:byO (b::t) 0=some (b.toNat:Int):=by simp[byO]
theorem Ap5{b:UInt8}{n:Nat}(hn:n<256):b.toNat=n↔b=UInt8.ofNat n:=by
 constructor
 ·intro h
  apply UInt8.toNat_inj.1
  simp[h]
  omega
 ·rintro rfl
  simp
  omega
theorem Bvw(s:List UInt8):((some (decide ((s.length:Int)>1))).bind fun c4=>
 (gdO c4 (byO s 0) 0).bind fun x5=>
 ((if (c4&&(x5==46))=true then
   (slO s 1 (s.length:Int)).bind fun x7=>
   (Sh x7).bind fun x8=>
   some x8
 else
  some 0):Option Int))=some (Fm s:Int):=by
 match s with
 |[]=>rfl
 |[b]=>rfl
 |b::c::t=>
  have h1:decide ((((b::c::t).length:Nat):Int)>1)=true:=by simp;omega
  have h2:=H4 (l:=b::c::t) (n:=1) (by simp)
  have e1:((1:Nat):Int)=1:=rfl
  rw[e1] at h2
  simp only[Option.bind_some,h1,gdO,Dz,Bool.true_and,h2,Bon,List.drop_succ_cons,List.drop_zero]
  unfold Fm
  by_cases hb:b=46
  ·subst hb;rfl
  ·have:((b.toNat:Int)==46)=false:=by
    have:=mt (Ap5 (b:=b) (n:=46) (by omega)).1 hb
    simp
    omega
   rw[this]
   simp[hb]
theorem A5o{q:UInt8→Bool}{b:UInt8}{t:List UInt8}(h:q b=true):1≤Am q (b::t):=by
 rw[C4,if_pos h];omega
theorem Avy(s:List UInt8):Fm s+1≤s.length∨Fm s=0:=by
 unfold Fm
 split
 ·rename_i b c t
  have:=D5 digB (c::t)
  split
  ·left;simpa using this
  ·right;rfl
 ·right;rfl
theorem number_eq{b:UInt8}{t:List UInt8}(hl:(b::t).length<4611686018427387904):S2 (b::t)=some (prI (Axz (b::t))):=by
 generalize hs:b::t=s at hl
 have hd:=D5 digB s
 have hm:=Avy (s.drop (Am digB s))
 rw[List.length_drop] at hm
 have h0:byO s 0=some (b.toNat:Int):=by rw[←hs];exact Dz
 have hh:s.head?=some b:=by rw[←hs];rfl
 unfold S2 Axz prI
 rw[Bon]
 simp only[Option.bind_some,H4 hd]
 have hmore:=Bvw (s.drop (Am digB s))
 simp only[Option.bind_some] at hmore
 cases hg:gdO (decide (((s.drop (Am digB s)).length:Int)>1)) (byO (s.drop (Am digB s)) 0) 0 with
 |none=>rw[hg] at hmore;cases hmore
 |some x5=>
  rw[hg] at hmore
  simp only[Option.bind_some] at hmore⊢
  refine Bh hmore ?_
  have h48:((b.toNat:Int)==48)=decide (b=48):=by
   rw[Bool.eq_iff_iff]
   have:=Ap5 (b:=b) (n:=48) (by omega)
   simp
   constructor
   ·intro h;exact this.1 (by omega)
   ·rintro rfl;rfl
  simp only[h0,A2,Option.bind_some,hh,Option.some.injEq]
  by_cases c1:15<Am digB s
  ·have:decide (((Am digB s:Nat):Int)>15)=true:=decide_eq_true (by omega)
   simp only[this,Bool.true_or,if_true]
   rw[if_pos (.inl c1)]
   rfl
  ·have e1:decide (((Am digB s:Nat):Int)>15)=false:=decide_eq_false (by omega)
   by_cases c2:9<Fm (s.drop (Am digB s))
   ·have:decide (((Fm (s.drop (Am digB s)):Nat):Int)>9)=true:=decide_eq_true (by omega)
    simp only[e1,this,Bool.false_or,Bool.true_or,if_true]
    rw[if_pos (.inr (.inl c2))]
    rfl
   ·have e2:decide (((Fm (s.drop (Am digB s)):Nat):Int)>9)=false:=decide_eq_false (by omega)
    simp only[e1,e2,Bool.or_self,Bool.not_false,Bool.true_and,Bool.false_or]
    by_cases c3:1<Am digB s∧b=48
    ·have e3:decide (((Am digB s:Nat):Int)>1)=true:=decide_eq_true (by omega)
     simp only[e3,cond_true,h48,decide_eq_true c3.2,Bool.and_self,if_true]
     rw[if_pos (.inr (.inr c3))]
     rfl
    ·have e3:(decide (((Am digB s:Nat):Int)>1)&&((bif decide (((Am digB s:Nat):Int)>1) then(b.toNat:Int) else 0)==48))=false:=by
      by_cases q:1<Am digB s
      ·have e3:decide (((Am digB s:Nat):Int)>1)=true:=decide_eq_true (by omega)
       simp only[e3,cond_true,h48,Bool.true_and]
       exact decide_eq_false (fun hb=>c3 ⟨q,hb⟩)
      ·have e3:decide (((Am digB s:Nat):Int)>1)=false:=decide_eq_false (by omega)
       simp only[e3,Bool.false_and]
     have hno: ¬(15<Am digB s∨9<Fm (s.drop (Am digB s))∨1<Am digB s∧b=48):=fun h=>h.elim c1 (fun h=>h.elim c2 c3)
     simp only[e3,Bool.false_eq_true,if_false,if_neg hno]
     by_cases c4:0<Fm (s.drop (Am digB s))
     ·have e4:IntKind.wrap .i64 (((Am digB s:Nat):Int)+1)=((Am digB s+1:Nat):Int):=by rw[wrap64 (by omega) (by omega)];rfl
      have e5:IntKind.wrap .i64 (((Am digB s+1:Nat):Int)+((Fm (s.drop (Am digB s)):Nat):Int))=((Am digB s+1+Fm (s.drop (Am digB s)):Nat):Int):=by rw[wrap64 (by omega) (by omega)];omega
      rw[e4,e5,if_pos (decide_eq_true (show((Fm (s.drop (Am digB s)):Nat):Int)>0 by omega)),if_pos c4]
      rfl
     ·rw[if_neg (show ¬(decide (((Fm (s.drop (Am digB s)):Nat):Int)>0)=true) by simp;omega),if_neg c4]
      rfl
theorem J9(c:UInt8): ∀s:List UInt8,Lib.indexByte s c=if Am (fun b=>b !=c) s=s.length then -1 else(Am (fun b=>b !=c) s:Int)
 |[]=>rfl
 |b::t=>by
  have hle:=D5 (fun b=>b !=c) t
  unfold Lib.indexByte
  rw[J9 c t,C4,List.length_cons]
  by_cases h:b=c
  ·subst h;simp
  ·have h1:(b==c)=false:=by simpa using h
   have h2:(b !=c)=true:=by simpa using h
   rw[h1,if_neg (by simp)]
   simp only[h2,if_true]
   by_cases he:Am (fun b=>b !=c) t=t.length
   ·rw[show(if Am (fun b=>b !=c) t=t.length then(-1:Int) else(Am (fun b=>b !=c) t:Int))= -1 from if_pos he,if_pos (show Am (fun b=>b !=c) t+1=t.length+1 by omega)]
    rfl
   ·rw[show(if Am (fun b=>b !=c) t=t.length then(-1:Int) else(Am (fun b=>b !=c) t:Int))=(Am (fun b=>b !=c) t:Int) from if_neg he,if_neg (show ¬Am (fun b=>b !=c) t+1=t.length+1 by omega)]
    have:(((Am (fun b=>b !=c) t:Nat):Int)== -1)=false:=by simp
    rw[this]
    simp
theorem Bqb{b:UInt8}{t:List UInt8}(hl:(b::t).length<4611686018427387904):S3 (b::t)=some (prI (Ax8 (b::t))):=by
 have h1:=H4 (l:=b::t) (n:=1) (by simp)
 have e1:((1:Nat):Int)=1:=rfl
 rw[e1] at h1
 have e2:((34:Int).toNat.toUInt8)=34:=by decide
 have hn:=D5 Cg t
 have hidx:Lib.indexByte t 34=if Am Cg t=t.length then -1 else(Am Cg t:Int):=J9 34 t
 simp only[List.length_cons] at hl
 unfold S3 Ax8 prI
 simp only[h1,List.drop_succ_cons,List.drop_zero,Option.bind_some,strings_IndexByte,e2]
 by_cases c1:Am Cg t=t.length
 ·rw[if_pos c1] at hidx
  simp only[hidx,if_pos c1]
  rfl
 ·rw[if_neg c1] at hidx
  have e3:IntKind.wrap .i64 (1+((Am Cg t:Nat):Int))=((Am Cg t+1:Nat):Int):=by rw[wrap64 (by omega) (by omega)];omega
  have e4:IntKind.wrap .i64 (((Am Cg t:Nat):Int)+2)=((Am Cg t+2:Nat):Int):=by rw[wrap64 (by omega) (by omega)];rfl
  have h2:=Bes (l:=b::t) (a:=1) (b:=Am Cg t+1) (by omega) (by simp;omega)
  rw[e1] at h2
  have e6:decide (((Am Cg t:Nat):Int)<0)=false:=decide_eq_false (by omega)
  simp only[hidx,if_neg c1,e6,Bool.false_eq_true,if_false,e3,h2,List.take_succ_cons,List.drop_succ_cons,List.drop_zero,A2,Option.bind_some,Bv8,e4]
  by_cases c2:32<Am Cg t
  ·have:decide (((Am Cg t:Nat):Int)>32)=true:=decide_eq_true (by omega)
   simp only[this,Bool.true_or,if_true,if_pos (show 32<Am Cg t∨Am prB (t.take (Am Cg t))<Am Cg t from .inl c2)]
   rfl
  ·have e5:decide (((Am Cg t:Nat):Int)>32)=false:=decide_eq_false (by omega)
   simp only[e5,Bool.not_false,cond_true,Bool.false_or]
   by_cases c3:Am prB (t.take (Am Cg t))<Am Cg t
   ·have:decide (((Am prB (t.take (Am Cg t)):Nat):Int)<((Am Cg t:Nat):Int))=true:=decide_eq_true (by omega)
    simp only[this,if_true,if_pos (show 32<Am Cg t∨Am prB (t.take (Am Cg t))<Am Cg t from .inr c3)]
    rfl
   ·have:decide (((Am prB (t.take (Am Cg t)):Nat):Int)<((Am Cg t:Nat):Int))=false:=decide_eq_false (by omega)
    have hno: ¬(32<Am Cg t∨Am prB (t.take (Am Cg t))<Am Cg t):=fun h=>h.elim c2 c3
    simp only[this,Bool.false_eq_true,if_false,if_neg hno]
    rfl
theorem contains_nil(sub:List UInt8):Lib.contains [] sub=sub.isEmpty:=by
 unfold Lib.contains Lib.index
 cases sub<;>rfl
theorem contains_cons(b:UInt8)(l sub:List UInt8):Lib.contains (b::l) sub=(sub.isPrefixOf (b::l)||Lib.contains l sub):=by
 unfold Lib.contains
 have h:=Lib.index_ge l sub
 rw[show Lib.index (b::l) sub=if sub.isPrefixOf (b::l) then 0 else if Lib.index l sub== -1 then -1 else Lib.index l sub+1 from by rw[Lib.index]]
 cases hp:sub.isPrefixOf (b::l) with
 |true=>simp
 |false=>
  simp only[Bool.false_eq_true,if_false,Bool.false_or]
  by_cases he:Lib.index l sub= -1
  ·simp[he]
  ·have h1:(Lib.index l sub== -1)=false:=by simpa using he
   rw[h1]
   simp only[Bool.false_eq_true,if_false]
   rw[decide_eq_true (show(0:Int)≤Lib.index l sub+1 by omega),decide_eq_true (show(0:Int)≤Lib.index l sub by omega)]
theorem Bot(c:UInt8): ∀s:List UInt8,Am (fun b=>b !=c) s=s.length↔c∉s
 |[]=>by simp[Ib]
 |b::t=>by
  have ih:=Bot c t
  have hle:=D5 (fun b=>b !=c) t
  rw[C4,List.length_cons,List.mem_cons]
  by_cases h:b=c
  ·subst h;simp
  ·have h2:(b !=c)=true:=by simpa using h
   simp only[h2,if_true]
   constructor
   ·intro he hm
    rcases hm with rfl|hm
    ·exact h rfl
    ·exact ih.1 (by omega) hm
   ·intro hm
    have:=ih.2 (fun q=>hm (.inr q))
    omega
theorem index_one(c:UInt8): ∀s:List UInt8,Lib.index s [c]=Lib.indexByte s c
 |[]=>rfl
 |b::t=>by
  unfold Lib.index Lib.indexByte
  rw[index_one c t]
  have:([c]:List UInt8).isPrefixOf (b::t)=(b==c):=by
   simp[List.isPrefixOf]
   rw[Bool.eq_iff_iff]
   simp
   exact eq_comm
  rw[this]
theorem Bwg{b:UInt8}{t:List UInt8}(hl:(b::t).length<4294967281):Anb (b::t)=some (prI (Ayd (b::t))):=by
 have e8:(b.toNat:Int).toNat.toUInt8=b:=by simp
 have hone:decide ((Lib.indexByte [123,125,40,41,91,93,59,58,44,37,61,60,62,43,45,42,47] b)≥0)=decide (b∈K9):=by
  rw[J9,Bool.eq_iff_iff,decide_eq_true_eq,decide_eq_true_eq]
  have h:=Bot b K9
  change (if Am (fun c=>c !=b) K9=K9.length then(-1:Int) else(Am (fun c=>c !=b) K9:Int))≥0↔b∈K9
  by_cases he:Am (fun c=>c !=b) K9=K9.length
  ·rw[if_pos he]
   have:=h.1 he
   simp[this]
  ·rw[if_neg he]
   constructor
   ·intro _;exact Classical.byContradiction fun q=>he (h.2 q)
   ·intro _;omega
 have tail:((byO (b::t) 0).bind fun x8=>
  (strings_IndexByte [123,125,40,41,91,93,59,58,44,37,61,60,62,43,45,42,47] x8).bind fun x9=>
  if (decide (x9≥0))=true then
   some ((1:Int),(0:Int))
  else
   some (0,14))=some (prI (if b∈K9 then(1,0) else(0,14))):=by
  simp only[Dz,Option.bind_some,strings_IndexByte,e8,hone]
  by_cases hm:b∈K9
  ·simp[hm,prI]
  ·simp[hm,prI]
 unfold Anb Ayd
 match t,hl with
 |[],_=>
  have h1:decide ((([b]:List UInt8).length:Int)>1)=false:=by simp
  simp only[h1,Option.bind_some,gdO,Bool.false_and,Bool.false_eq_true,if_false]
  rw[tail]
  simp
 |c::t,hl=>
  have h1:decide (((b::c::t).length:Int)>1)=true:=by simp;omega
  have h2:=Jr (l:=b::c::t) (n:=2) (by simp)
  have e1:((2:Nat):Int)=2:=rfl
  rw[e1] at h2
  have h3:strings_Contains [60,61,32,62,61,32,46,46] [b,c]=some (Lib.contains [60,61,32,62,61,32,46,46] [b,c]):=by
   unfold strings_Contains;rw[if_pos (by simp)]
  have h4:strings_Contains [b,c] [32]=some (Lib.contains [b,c] [32]):=by
   unfold strings_Contains;rw[if_pos (by simp)]
  simp only[h1,Option.bind_some,gdO,h2,List.take_succ_cons,List.take_zero,h3,Bool.true_and]
  have h5:Lib.contains [60,61,32,62,61,32,46,46] [b,c]=(((b==60)&&(c==61))||(((b==61)&&(c==32))||(((b==32)&&(c==62))||(((b==62)&&(c==61))||(((b==61)&&(c==32))||(((b==32)&&(c==46))||((b==46)&&(c==46)))))))):=by
   simp only[contains_cons,contains_nil,List.isPrefixOf,List.isEmpty,Bool.and_true,Bool.or_false,Bool.and_false]
  have h6:Lib.contains [b,c] [32]=((32==b)||(32==c)):=by
   simp only[contains_cons,contains_nil,List.isPrefixOf,List.isEmpty,Bool.and_true,Bool.or_false]
  have hx:(Lib.contains [60,61,32,62,61,32,46,46] [b,c]&& !(Lib.contains [b,c] [32]))=decide ([b,c]=[60,61]∨[b,c]=[62,61]∨[b,c]=[46,46]):=by
   rw[h5,h6,Bool.eq_iff_iff]
   simp only[Bool.and_eq_true,Bool.or_eq_true,beq_iff_eq,Bool.not_eq_true',Bool.or_eq_false_iff,beq_eq_false_iff_ne,decide_eq_true_eq,List.cons.injEq,and_true]
   constructor
   ·rintro⟨h|h|h|h|h|h|h,h7,h8⟩
    ·exact .inl h
    ·exact absurd h.2.symm h8
    ·exact absurd h.1.symm h7
    ·exact .inr (.inl h)
    ·exact absurd h.2.symm h8
    ·exact absurd h.1.symm h7
    ·exact .inr (.inr h)
   ·rintro(⟨rfl,rfl⟩|⟨rfl,rfl⟩|⟨rfl,rfl⟩)
    ·exact⟨.inl ⟨rfl,rfl⟩,by decide,by decide⟩
    ·exact⟨.inr (.inr (.inr (.inl ⟨rfl,rfl⟩))),by decide,by decide⟩
    ·exact⟨.inr (.inr (.inr (.inr (.inr (.inr ⟨rfl,rfl⟩))))),by decide,by decide⟩
  have htk:(b::c::t).take 2=[b,c]:=rfl
  rw[htk] at*
  cases hc:Lib.contains [60,61,32,62,61,32,46,46] [b,c] with
  |false=>
   rw[hc,Bool.false_and] at hx
   have hno: ¬([b,c]=[60,61]∨[b,c]=[62,61]∨[b,c]=[46,46]):=of_decide_eq_false hx.symm
   simp only[gdO,Bool.false_and,Bool.false_eq_true,if_false,Option.bind_some]
   rw[tail]
   simp only[hno,if_false]
  |true=>
   rw[hc,Bool.true_and] at hx
   simp only[gdO,h4,Option.bind_some,Bool.true_and,hx,decide_eq_true_eq]
   by_cases hy:[b,c]=[60,61]∨[b,c]=[62,61]∨[b,c]=[46,46]
   ·simp only[hy,if_true]
    rfl
   ·simp only[hy,if_false]
    simp only[decide_eq_true_eq] at tail
    exact tail
def trI(x:Nat×Nat×Nat):Int×Int×Int:=((x.1:Int),(x.2.1:Int),(x.2.2:Int))
theorem Bod{b:UInt8}{t:List UInt8}(hl:(b::t).length<4294967281):Zb (b::t)=some (trI (Bn (b::t))):=by
 have c57: ∀n,Gi 127 n=Ia n∧Gi 129 n=Hx n∧Gi 131 n=Oq n∧Gi 133 n=V7 n:=fun n=>⟨rfl,rfl,rfl,rfl⟩
 have c58: ∀s,Gj 128 s=Anc s∧Gj 130 s=S2 s∧Gj 132 s=S3 s∧Gj 134 s=Anb s:=fun s=>⟨rfl,rfl,rfl,rfl⟩
 have hL: ∀x:Int,Atr b=decide (97≤(b.toNat:Int)∧(b.toNat:Int)≤122):=fun _=>by
  unfold Atr;rw[Bool.eq_iff_iff];simp;omega
 have hD: ∀x:Int,digB b=decide (48≤(b.toNat:Int)∧(b.toNat:Int)≤57):=fun _=>by
  unfold digB;rw[Bool.eq_iff_iff];simp;omega
 have hQ:((b.toNat:Int)==34)=decide (b=34):=by
  rw[Bool.eq_iff_iff]
  have:=Ap5 (b:=b) (n:=34) (by omega)
  simp
  constructor
  ·intro h;exact this.1 (by omega)
  ·rintro rfl;rfl
 have r0:rdO ([⟨127,128⟩,⟨129,130⟩,⟨131,132⟩,⟨133,134⟩]:List Br) 0=some ⟨127,128⟩:=rfl
 have r1:rdO ([⟨127,128⟩,⟨129,130⟩,⟨131,132⟩,⟨133,134⟩]:List Br) 1=some ⟨129,130⟩:=rfl
 have r2:rdO ([⟨127,128⟩,⟨129,130⟩,⟨131,132⟩,⟨133,134⟩]:List Br) 2=some ⟨131,132⟩:=rfl
 have r3:rdO ([⟨127,128⟩,⟨129,130⟩,⟨131,132⟩,⟨133,134⟩]:List Br) 3=some ⟨133,134⟩:=rfl
 have d0:decide ((0:Int)<4)=true:=by decide
 have d1:decide ((1:Int)<4)=true:=by decide
 have d2:decide ((2:Int)<4)=true:=by decide
 have d3:decide ((3:Int)<4)=true:=by decide
 have w0:IntKind.wrap .i64 ((0:Int)+1)=1:=by rw[wrap64 (by omega) (by omega)];rfl
 have w1:IntKind.wrap .i64 ((1:Int)+1)=2:=by rw[wrap64 (by omega) (by omega)];rfl
 have w2:IntKind.wrap .i64 ((2:Int)+1)=3:=by rw[wrap64 (by omega) (by omega)];rfl
 have hn:Bn (b::t)=if Atr b=true then(0,Ado (b::t)) else if digB b=true then(1,Axz (b::t)) else if b=34 then(2,Ax8 (b::t)) else(3,Ayd (b::t)):=rfl
 unfold Zb Axt
 simp only[Option.bind_some]
 rw[hn]
 cases h1:Atr b with
 |true=>
  have:=hL 0
  rw[h1] at this
  simp only[if_true]
  refine Bh (Ay (o:= .inr (0,(prI (Ado (b::t))).1,(prI (Ado (b::t))).2)) ?_) rfl
  simp only[d0,if_true,r0,Dz,(c57 _).1,On,←this,(c58 _).1,Bwo,Option.bind_some]
 |false=>
  have hl1:=hL 0
  rw[h1] at hl1
  simp only[Bool.false_eq_true,if_false]
  cases h2:digB b with
  |true=>
   have hd1:=hD 0
   rw[h2] at hd1
   simp only[if_true]
   refine Bh (o:=some _) ?_ ?_ (x:= .inr (1,(prI (Axz (b::t))).1,(prI (Axz (b::t))).2))
   ·rw[Bm (s':=(1:Int)),Ay]
    ·simp only[d1,if_true,r1,Dz,(c57 _).2.1,S0,←hd1,(c58 _).2.1,number_eq (show(b::t).length<4611686018427387904 by omega),Option.bind_some]
    ·simp only[d0,if_true,r0,Dz,(c57 _).1,On,←hl1,Option.bind_some,Bool.false_eq_true,if_false,w0]
   ·rfl
  |false=>
   have hd1:=hD 0
   rw[h2] at hd1
   simp only[Bool.false_eq_true,if_false]
   by_cases h3:b=34
   ·rw[if_pos h3]
    have hq1:=hQ
    rw[decide_eq_true h3] at hq1
    refine Bh (o:=some _) ?_ ?_ (x:= .inr (2,(prI (Ax8 (b::t))).1,(prI (Ax8 (b::t))).2))
    ·rw[Bm (s':=(1:Int)),Bm (s':=(2:Int)),Ay]
     ·simp only[d2,if_true,r2,Dz,(c57 _).2.2.1,Oq,hq1,(c58 _).2.2.1,Bqb (show(b::t).length<4611686018427387904 by omega),Option.bind_some]
     ·simp only[d1,if_true,r1,Dz,(c57 _).2.1,S0,←hd1,Option.bind_some,Bool.false_eq_true,if_false,w1]
     ·simp only[d0,if_true,r0,Dz,(c57 _).1,On,←hl1,Option.bind_some,Bool.false_eq_true,if_false,w0]
    ·rfl
   ·rw[if_neg h3]
    have hq1:=hQ
    rw[decide_eq_false h3] at hq1
    refine Bh (o:=some _) ?_ ?_ (x:= .inr (3,(prI (Ayd (b::t))).1,(prI (Ayd (b::t))).2))
    ·rw[Bm (s':=(1:Int)),Bm (s':=(2:Int)),Bm (s':=(3:Int)),Ay]
     ·simp only[d3,if_true,r3,Dz,(c57 _).2.2.2,V7,(c58 _).2.2.2,Bwg hl,Option.bind_some]
     ·simp only[d2,if_true,r2,Dz,(c57 _).2.2.1,Oq,hq1,Option.bind_some,Bool.false_eq_true,if_false,w2]
     ·simp only[d1,if_true,r1,Dz,(c57 _).2.1,S0,←hd1,Option.bind_some,Bool.false_eq_true,if_false,w1]
     ·simp only[d0,if_true,r0,Dz,(c57 _).1,On,←hl1,Option.bind_some,Bool.false_eq_true,if_false,w0]
    ·rfl
def Atg(b:UInt8):Bool:=b==32||b==9||b==10
def Bb:Bool→List UInt8→Nat
 |_,[]=>0
 |true,b::t=>if b=10 then 1+Bb false t else 1+Bb true t
 |false,b::t=>if Atg b=true then 1+Bb false t else if b=35 then 1+Bb true t else 0
theorem Iu: ∀(r:Bool) (s:List UInt8),Bb r s≤s.length
 |_,[]=>by simp[Bb]
 |true,b::t=>by
  have h1:=Iu false t
  have h2:=Iu true t
  unfold Bb
  simp only[List.length_cons]
  split<;>omega
 |false,b::t=>by
  have h1:=Iu false t
  have h2:=Iu true t
  unfold Bb
  simp only[List.length_cons]
  split
  ·omega
  ·split<;>omega
theorem N1: ∀(r:Bool) (s:List UInt8) (m:Nat),Bb r (s.take m)=min (Bb r s) m
 |_,[],m=>by simp[Bb]
 |r,b::t,0=>by simp[Bb]
 |true,b::t,m+1=>by
  have h1:=N1 false t m
  have h2:=N1 true t m
  rw[List.take_succ_cons]
  unfold Bb
  rw[h1,h2]
  split<;>omega
 |false,b::t,m+1=>by
  have h1:=N1 false t m
  have h2:=N1 true t m
  rw[List.take_succ_cons]
  unfold Bb
  rw[h1,h2]
  split
  ·omega
  ·split<;>omega
theorem A5k: ∀s:List UInt8,Bb false s=(s.length-(Lib.trimLeftS s [32,9,10]).length)+Bb false (Lib.trimLeftS s [32,9,10])∧(Lib.trimLeftS s [32,9,10]).length≤s.length∧(∀b t,Lib.trimLeftS s [32,9,10]=b::t→Atg b=false)
 |[]=>by simp[Bb,Lib.trimLeftS]
 |b::t=>by
  obtain⟨h1,h2,h3⟩:=A5k t
  have hc:([32,9,10]:List UInt8).contains b=Atg b:=by
   unfold Atg
   simp only[List.contains_cons,List.contains_nil,Bool.or_false]
   cases b==32<;>cases b==9<;>cases b==10<;>rfl
  unfold Lib.trimLeftS at h1 h2 h3⊢
  rw[List.dropWhile_cons,hc]
  cases hb:Atg b with
  |true=>
   simp only[if_true,List.length_cons]
   rw[Bb,if_pos hb]
   exact⟨by omega,by omega,h3⟩
  |false=>
   simp only[Bool.false_eq_true,if_false,Nat.sub_self,Nat.zero_add]
   exact⟨trivial,Nat.le_refl _,fun b' t' e=>by cases e;exact hb⟩
theorem A5l: ∀t:List UInt8,Bb true t=if Am (fun b=>b !=10) t=t.length then t.length else Am (fun b=>b !=10) t+1+Bb false (t.drop (Am (fun b=>b !=10) t+1))
 |[]=>by simp[Bb,Ib]
 |b::t=>by
  have ih:=A5l t
  have hle:=D5 (fun b=>b !=10) t
  rw[Bb,C4,List.length_cons]
  by_cases hb:b=10
  ·subst hb
   simp
  ·have h2:(b !=10)=true:=by simpa using hb
   rw[if_neg hb,ih]
   simp only[h2,if_true,List.drop_succ_cons]
   by_cases he:Am (fun b=>b !=10) t=t.length
   ·rw[if_pos he,if_pos (by omega)];omega
   ·rw[if_neg he,if_neg (by omega)];omega
theorem Bqn{s:List UInt8}(hl:s.length<4294967281): ∀(n:Nat) (rest:List UInt8),rest.length≤n→rest.length≤s.length→
  A5 (fun(qj2:List UInt8)=>match qj2 with
  |rest3=>(
   (B1 rest3 [32,9,10]).bind fun x4=>
   (strings_HasPrefix x4 [35]).bind fun x5=>
   if (!x5)=true then
    some (.inr (IntKind.wrap .i64 ((s.length:Int)-(x4.length:Int))))
   else
    (strings_Cut x4 [10]).bind fun x6=>
    if (!x6.2.2)=true then
     some (.inr (s.length:Int))
    else
     some (.inl x6.2.1):Option ((List UInt8)⊕Int))) rest=some ((s.length-rest.length+Bb false rest:Nat):Int):=by
 intro n
 induction n with
 |zero=>
  intro rest hn hs
  match rest,hn with
  |[],_=>
   have h1:B1 [] [32,9,10]=some []:=by unfold B1;rw[if_pos (by decide)];rfl
   rw[Ay (o:=(s.length:Int))]
   ·simp[Bb]
   ·have h2:strings_HasPrefix [] [35]=some false:=rfl
    simp only[h1,h2,Option.bind_some,Bool.not_false,if_true]
    rw[wrap64 (by simp<;>omega) (by simp<;>omega)]
    simp
 |succ n ih=>
  intro rest hn hs
  obtain⟨h1,h2,h3⟩:=A5k rest
  have ht:B1 rest [32,9,10]=some (Lib.trimLeftS rest [32,9,10]):=by unfold B1;rw[if_pos (by decide)]
  generalize Lib.trimLeftS rest [32,9,10]=d at h1 h2 h3 ht
  have hstop:(∀t,d≠35::t)→strings_HasPrefix d [35]=some false∧Bb false d=0:=by
   intro hd
   match d,h3,hd with
   |[],_,_=>exact⟨rfl,rfl⟩
   |b::t,h3,hd=>
    have hb:=h3 b t rfl
    have hne:b≠35:=fun e=>hd t (by rw[e])
    refine⟨?_,?_⟩
    ·unfold strings_HasPrefix Lib.hasPrefix
     have:((35:UInt8)==b)=false:=by simpa using fun e=>hne e.symm
     simp[List.isPrefixOf,this]
    ·rw[Bb,if_neg (by simp[hb]),if_neg hne]
  by_cases hd: ∃t,d=35::t
  ·obtain⟨t,rfl⟩:=hd
   have hp:strings_HasPrefix (35::t) [35]=some true:=by unfold strings_HasPrefix Lib.hasPrefix;simp[List.isPrefixOf]
   have hcut:strings_Cut (35::t) [10]=some (Lib.cut (35::t) [10]):=by unfold strings_Cut;rw[if_pos (by omega)]
   have hsk:Bb false (35::t)=1+Bb true t:=by rw[Bb,if_neg (by decide),if_pos rfl]
   have hix:Lib.index (35::t) [10]=if Am (fun b=>b !=10) t=t.length then -1 else((Am (fun b=>b !=10) t+1:Nat):Int):=by
    rw[index_one,J9,C4]
    simp only[show((35:UInt8)!=10)=true from rfl,if_true,List.length_cons]
    by_cases he:Am (fun b=>b !=10) t=t.length
    ·rw[if_pos he,if_pos (by omega)]
    ·rw[if_neg he,if_neg (by omega)]
   have hle:=D5 (fun b=>b !=10) t
   simp only[List.length_cons] at h1 h2
   have htr:=A5l t
   by_cases he:Am (fun b=>b !=10) t=t.length
   ·rw[if_pos he] at hix htr
    rw[Ay (o:=(s.length:Int))]
    ·congr 1
     omega
    ·have:Lib.cut (35::t) [10]=(35::t,[],false):=by unfold Lib.cut;rw[hix,if_neg (by omega)]
     simp only[ht,hp,hcut,this,Option.bind_some,Bool.not_true,Bool.false_eq_true,if_false,Bool.not_false,if_true]
   ·rw[if_neg he] at hix htr
    have hc:Lib.cut (35::t) [10]=((35::t).take (Am (fun b=>b !=10) t+1),t.drop (Am (fun b=>b !=10) t+1),true):=by
     unfold Lib.cut
     rw[hix,if_pos (by omega)]
     simp
    have hlen:(t.drop (Am (fun b=>b !=10) t+1)).length=t.length-(Am (fun b=>b !=10) t+1):=List.length_drop ..
    rw[Bm (s':=t.drop (Am (fun b=>b !=10) t+1)),ih _ (by omega) (by omega)]
    ·congr 1
     omega
    ·simp only[ht,hp,hcut,hc,Option.bind_some,Bool.not_true,Bool.false_eq_true,if_false]
  ·obtain⟨hp,hz⟩:=hstop (fun t e=>hd ⟨t,e⟩)
   rw[Ay (o:=((s.length-d.length:Nat):Int))]
   ·congr 1
    omega
   ·simp only[ht,hp,Option.bind_some,Bool.not_false,if_true]
    rw[wrap64 (by omega) (by omega)]
    congr 2
    omega
theorem Bos{s:List UInt8}(hl:s.length<4294967281):Zc s=some (Bb false s:Int):=by
 unfold Zc
 rw[Bqn hl s.length s (Nat.le_refl _) (Nat.le_refl _)]
 simp
def plS(s:List UInt8):Int×Int:=((s.count 10:Int)+1,(s.length:Int)-Lib.lastIndexByte ⟨s.toArray⟩ 10)
theorem L5(s:List UInt8):(Lib.lastIndexByte ⟨s.toArray⟩ 10= -1∧10∉s)∨ ∃i:Nat,i<s.length∧Lib.lastIndexByte ⟨s.toArray⟩ 10=i∧s[i]? =some 10∧ ∀j,i<j→s[j]? ≠some 10:=by
 have hsz:(ByteArray.mk s.toArray).size=s.length:=by simp[ByteArray.size]
 have hat: ∀j,j<s.length→((((ByteArray.mk s.toArray).data[j]!).toNat:Int)=10↔s[j]? =some 10):=by
  intro j hj
  have e:(ByteArray.mk s.toArray).data[j]! =s[j]:=by
   simp[hj]
  rw[e,List.getElem?_eq_getElem hj,Option.some.injEq]
  have:=Ap5 (b:=s[j]) (n:=10) (by omega)
  constructor
  ·intro h;exact this.1 (by omega)
  ·intro h;rw[h];rfl
 have h:=Lib.lastIdx_spec ⟨s.toArray⟩ 10 s.length
 unfold Lib.lastIndexByte
 rw[hsz]
 rcases h with⟨h1,h2⟩|⟨i,h1,h2,h3,h4⟩
 ·refine .inl ⟨h1,fun hm=>?_⟩
  obtain⟨j,hj,he⟩:=List.getElem_of_mem hm
  exact h2 j hj ((hat j hj).2 (by rw[List.getElem?_eq_getElem hj,he]))
 ·refine .inr ⟨i,h1,h2,(hat i h1).1 h3,fun j hij he=>?_⟩
  have hj:j<s.length:=(List.getElem?_eq_some_iff.1 he).1
  exact h4 j hij hj ((hat j hj).2 he)
theorem Bg1{s:List UInt8}(hl:s.length<4611686018427387904):Sf s=some (plS s):=by
 have hr: -1≤Lib.lastIndexByte ⟨s.toArray⟩ 10∧Lib.lastIndexByte ⟨s.toArray⟩ 10<s.length:=by
  rcases L5 s with⟨h,_⟩|⟨i,h1,h2,_⟩<;>omega
 have hc:s.count 10≤s.length:=List.count_le_length
 unfold Sf plS strings_LastIndexByte strings_Count Lib.countByte
 rw[if_pos hl]
 simp only[Option.bind_some]
 rw[wrap64 (by omega) (by omega),wrap64 (by omega) (by omega)]
theorem Sj: ∀{s:List UInt8} {k n:Nat},Bn s=(k,n,0)→1≤n∧n≤s.length
 |[],k,n,h=>by simp[Bn] at h
 |b::t,k,n,h=>by
  have hn:Bn (b::t)=if Atr b=true then(0,Ado (b::t)) else if digB b=true then(1,Axz (b::t)) else if b=34 then(2,Ax8 (b::t)) else(3,Ayd (b::t)):=rfl
  rw[hn] at h
  by_cases h1:Atr b=true
  ·rw[if_pos h1] at h
   unfold Ado at h
   split at h
   ·simp at h
   ·simp only[Prod.mk.injEq] at h
    have hw:Ap7 b=true:=by
     have:=of_decide_eq_true h1
     unfold Ap7;simp;omega
    have:=A5o (t:=t) hw
    have:=D5 Ap7 (b::t)
    omega
  ·rw[if_neg h1] at h
   by_cases h2:digB b=true
   ·rw[if_pos h2] at h
    have hd1:=A5o (t:=t) h2
    have hd2:=D5 digB (b::t)
    have hm:=Avy ((b::t).drop (Am digB (b::t)))
    rw[List.length_drop] at hm
    unfold Axz at h
    split at h
    ·simp at h
    ·split at h
     ·simp only[Prod.mk.injEq] at h
      omega
     ·simp only[Prod.mk.injEq] at h
      omega
   ·rw[if_neg h2] at h
    by_cases h3:b=34
    ·rw[if_pos h3] at h
     have hq:=D5 Cg t
     unfold Ax8 at h
     simp only[List.drop_succ_cons,List.drop_zero] at h
     split at h
     ·simp at h
     ·split at h
      ·simp at h
      ·simp only[Prod.mk.injEq] at h
       simp only[List.length_cons]
       omega
    ·rw[if_neg h3] at h
     unfold Ayd at h
     simp only[List.length_cons]
     by_cases hx:(b::t).take 2=[60,61]∨(b::t).take 2=[62,61]∨(b::t).take 2=[46,46]
     ·simp only[hx,if_true,Prod.mk.injEq] at h
      have:1≤t.length:=by
       match t,hx with
       |[],hx=>simp at hx
       |c::t,_=>simp
      omega
     ·simp only[hx,if_false] at h
      by_cases hm:b∈K9
      ·simp only[hm,if_true,Prod.mk.injEq] at h;omega
      ·simp[hm] at h
theorem A2v: ∀{s:List UInt8} {k n m:Nat},Bn s=(k,n,0)→n≤m→Bn (s.take m)=(k,n,0)
 |[],k,n,m,h,_=>by simp[Bn] at h
 |b::t,k,n,m,h,hm=>by
  have hlen:=Sj h
  obtain⟨m,rfl⟩: ∃m',m=m'+1:=⟨m-1,by omega⟩
  have hn: ∀t,Bn (b::t)=if Atr b=true then(0,Ado (b::t)) else if digB b=true then(1,Axz (b::t)) else if b=34 then(2,Ax8 (b::t)) else(3,Ayd (b::t)):=fun _=>rfl
  rw[List.take_succ_cons,hn]
  rw[hn] at h
  have htk:b::t.take m=(b::t).take (m+1):=rfl
  by_cases h1:Atr b=true
  ·rw[if_pos h1] at h⊢
   rw[htk]
   unfold Ado at h⊢
   rw[N2]
   split at h
   ·simp at h
   ·rename_i hw
    simp only[Prod.mk.injEq] at h
    have:min (Am Ap7 (b::t)) (m+1)=Am Ap7 (b::t):=by omega
    rw[this,if_neg hw]
    simp[h.1,h.2]
  ·rw[if_neg h1] at h⊢
   by_cases h2:digB b=true
   ·rw[if_pos h2] at h⊢
    rw[htk]
    generalize hs:b::t=s at h hlen⊢
    have hhead:(s.take (m+1)).head?=s.head?:=by rw[←hs];rfl
    unfold Axz at h⊢
    rw[N2,hhead]
    split at h
    ·simp at h
    ·rename_i hno
     have hdm:Am digB s≤m+1:=by
      split at h<;>(simp only[Prod.mk.injEq] at h;omega)
     have hmin:min (Am digB s) (m+1)=Am digB s:=by omega
     have hmore:Fm ((s.take (m+1)).drop (Am digB s))=Fm (s.drop (Am digB s)):=by
      rw[List.drop_take]
      generalize hr:s.drop (Am digB s)=r at h
      by_cases hz:0<Fm r
      ·rw[if_pos hz] at h
       simp only[Prod.mk.injEq] at h
       unfold Fm at h hz⊢
       match r,h,hz with
       |[],h,hz=>simp at hz
       |[x],h,hz=>simp at hz
       |x::y::u,h,hz=>
        simp only at h hz
        by_cases hx:x=46
        ·rw[if_pos hx] at h hz
         obtain⟨q,hq⟩: ∃q,m+1-Am digB s=q+2:=⟨m+1-Am digB s-2,by omega⟩
         rw[hq,List.take_succ_cons,List.take_succ_cons]
         simp only
         rw[if_pos hx,if_pos hx,←List.take_succ_cons,N2]
         omega
        ·rw[if_neg hx] at hz;omega
      ·have h0:Fm r=0:=by omega
       rw[h0]
       unfold Fm at h0⊢
       match r,h0 with
       |[],_=>simp
       |[x],_=>cases m+1-Am digB s<;>simp
       |x::y::u,h0=>
        simp only at h0
        match m+1-Am digB s with
        |0=>rfl
        |1=>rfl
        |q+2=>
         rw[List.take_succ_cons,List.take_succ_cons]
         simp only
         by_cases hx:x=46
         ·rw[if_pos hx] at h0⊢
          rw[←List.take_succ_cons,N2]
          omega
         ·rw[if_neg hx]
     rw[hmin,hmore,if_neg hno]
     exact h
   ·rw[if_neg h2] at h⊢
    by_cases h3:b=34
    ·rw[if_pos h3] at h⊢
     unfold Ax8 at h⊢
     simp only[List.drop_succ_cons,List.drop_zero] at h⊢
     have hq:=D5 Cg t
     split at h
     ·simp at h
     ·rename_i hne
      split at h
      ·simp at h
      ·rename_i hno
       simp only[Prod.mk.injEq] at h
       have hmin:min (Am Cg t) m=Am Cg t:=by omega
       rw[N2,hmin,List.length_take,List.take_take,hmin,if_neg (by omega),if_neg hno]
       obtain⟨rfl,rfl,_⟩:=h
       rfl
    ·rw[if_neg h3] at h⊢
     rw[htk]
     unfold Ayd at h⊢
     rw[List.take_take]
     by_cases hx:(b::t).take 2=[60,61]∨(b::t).take 2=[62,61]∨(b::t).take 2=[46,46]
     ·simp only[hx,if_true,Prod.mk.injEq] at h
      have:min 2 (m+1)=2:=by omega
      rw[this]
      simp only[hx,if_true]
      simp[h.1,h.2]
     ·simp only[hx,if_false] at h
      have hy: ¬((b::t).take (min 2 (m+1))=[60,61]∨(b::t).take (min 2 (m+1))=[62,61]∨(b::t).take (min 2 (m+1))=[46,46]):=by
       by_cases hm2:1≤m
       ·rw[Nat.min_eq_left (by omega)];exact hx
       ·have:min 2 (m+1)=1:=by omega
        rw[this]
        simp
      simp only[hy,if_false,List.take_succ_cons]
      exact h
def P9:Nat→List UInt8→Nat→Nat→List (Nat×Nat×Nat)⊕(Nat×Nat)
 |0,_,_,_=> .inl []
 |f+1,rest,at_,k=>
  if rest=[] then .inl []
  else if (Bn rest).2.2≠0 then .inr (at_,(Bn rest).2.2)
  else if k=1500 then .inr (at_,6)
  else match P9 f ((rest.drop (Bn rest).2.1).drop (Bb false (rest.drop (Bn rest).2.1))) (at_+(Bn rest).2.1+Bb false (rest.drop (Bn rest).2.1)) (k+1) with
   | .inl l=> .inl ((at_,(Bn rest).1,(Bn rest).2.1)::l)
   | .inr e=> .inr e
def Au4(text:List UInt8)(x:Nat×Nat×Nat):Ad:=⟨(x.2.1:Int),(plS (text.take x.1)).1,(plS (text.take x.1)).2,(text.drop x.1).take x.2.2⟩
def Atd(text:List UInt8):List (Nat×Nat×Nat)⊕(Nat×Nat):=P9 (text.length+1) (text.drop (Bb false text)) (Bb false text) 0
theorem Brt{text:List UInt8}(hl:text.length≤8000): ∀(f at_:Nat) (row:List Ad),at_≤text.length→text.length-at_<f→row.length≤1500→
  A5 (fun(qj3:Int×(List Ad))=>match qj3 with
   |(at_4,row5)=>(
    if (decide (at_4<(text.length:Int)))=true then
     (slO text at_4 (text.length:Int)).bind fun x6=>
     (Zb x6).bind fun x7=>
     if (x7.2.2 !=0)=true then
      some (.inr (.inr (([]:List Ad),at_4,x7.2.2)))
     else
      if ((row5.length:Int)==1500)=true then
       some (.inr (.inr (([]:List Ad),at_4,6)))
      else
       (slO text 0 at_4).bind fun x8=>
       (Sf x8).bind fun x9=>
       (slO text at_4 (IntKind.wrap .i64 (at_4+x7.2.1))).bind fun x10=>
       (apO 40 row5 [(⟨x7.1,x9.1,x9.2,x10⟩:Ad)]).bind fun x11=>
       (slO text (IntKind.wrap .i64 (at_4+x7.2.1)) (text.length:Int)).bind fun x12=>
       (Zc x12).bind fun x13=>
       some (.inl (IntKind.wrap .i64 ((IntKind.wrap .i64 (at_4+x7.2.1))+x13),x11))
    else
     some (.inr (.inl row5)):Option ((Int×(List Ad))⊕((List Ad)⊕((List Ad)×Int×Int))))) ((at_:Int),row)
   =some (match P9 f (text.drop at_) at_ row.length with| .inl l=> .inl (row++l.map (Au4 text))| .inr e=> .inr ([],(e.1:Int),(e.2:Int))):=by
 intro f
 induction f with
 |zero=>intro at_ row h1 h2;omega
 |succ f ih=>
  intro at_ row h1 h2 h3
  by_cases he:at_=text.length
  ·subst he
   rw[Ay (o:= .inl row)]
   ·simp[P9]
   ·have:decide (((text.length:Nat):Int)<(text.length:Int))=false:=by simp
    simp only[this,Bool.false_eq_true,if_false]
  ·have hlt:at_<text.length:=by omega
   have hd:decide ((at_:Int)<(text.length:Int))=true:=by simp;omega
   have hrest:text.drop at_≠[]:=by simp;omega
   obtain⟨b,t,hbt⟩: ∃b t,text.drop at_=b::t:=by
    cases hx:text.drop at_ with
    |nil=>exact absurd hx hrest
    |cons b t=>exact⟨b,t,rfl⟩
   have hlr:(b::t).length=text.length-at_:=by rw[←hbt,List.length_drop]
   have hnext:=Bod (b:=b) (t:=t) (by omega)
   rw[←hbt] at hnext
   have hs1:=H4 (l:=text) (n:=at_) h1
   have hs2:=Jr (l:=text) (n:=at_) h1
   rw[P9,if_neg hrest]
   generalize hnx:Bn (text.drop at_)=nx at hnext
   obtain⟨k,n,e⟩:=nx
   simp only[trI] at hnext
   by_cases hee:e=0
   ·subst hee
    obtain⟨hn1,hn2⟩:=Sj hnx
    rw[List.length_drop] at hn2
    simp only[ne_eq,not_true_eq_false,if_false]
    by_cases hfull:row.length=1500
    ·rw[if_pos hfull,Ay (o:= .inr ([],(at_:Int),6))]
     ·rfl
     ·have:((row.length:Int)==1500)=true:=by simp[hfull]
      simp only[hd,if_true,hs1,hnext,Option.bind_some,Int.natCast_zero,bne_self_eq_false,Bool.false_eq_true,if_false,this]
    ·rw[if_neg hfull]
     have e1:IntKind.wrap .i64 ((at_:Int)+(n:Int))=((at_+n:Nat):Int):=by rw[wrap64 (by omega) (by omega)];omega
     have hs3:=Bes (l:=text) (a:=at_) (b:=at_+n) (by omega) (by omega)
     have hs4:=H4 (l:=text) (n:=at_+n) (by omega)
     have hdd:text.drop (at_+n)=(text.drop at_).drop n:=by rw[List.drop_drop]
     have hsk:=Iu false ((text.drop at_).drop n)
     rw[List.length_drop,List.length_drop] at hsk
     have hskip:=Bos (s:=(text.drop at_).drop n) (by rw[List.length_drop,List.length_drop];omega)
     have e2:IntKind.wrap .i64 (((at_+n:Nat):Int)+(Bb false ((text.drop at_).drop n):Int))=((at_+n+Bb false ((text.drop at_).drop n):Nat):Int):=by rw[wrap64 (by omega) (by omega)];omega
     have hpl:=Bg1 (s:=text.take at_) (by simp;omega)
     have hap: ∀x:Ad,apO 40 row [x]=some (row++[x]):=fun x=>by
      unfold apO
      rw[if_pos (by simp;omega)]
     have hmid:(text.take (at_+n)).drop at_=(text.drop at_).take n:=by rw[List.drop_take];congr 1;omega
     have hlen:((row.length:Int)==1500)=false:=by simp;omega
     rw[Bm (s':=(((at_+n+Bb false ((text.drop at_).drop n):Nat):Int),row++[Au4 text (at_,k,n)])),ih (at_+n+Bb false ((text.drop at_).drop n)) (row++[Au4 text (at_,k,n)]) (by omega) (by omega) (by simp;omega)]
     ·have hdr:text.drop (at_+n+Bb false ((text.drop at_).drop n))=((text.drop at_).drop n).drop (Bb false ((text.drop at_).drop n)):=by
       rw[List.drop_drop,List.drop_drop]
      rw[hdr,List.length_append,List.length_singleton]
      cases P9 f (((text.drop at_).drop n).drop (Bb false ((text.drop at_).drop n))) (at_+n+Bb false ((text.drop at_).drop n)) (row.length+1) with
      |inl l=>simp
      |inr e=>rfl
     ·simp only[hd,if_true,hs1,hnext,Option.bind_some,Int.natCast_zero,bne_self_eq_false,Bool.false_eq_true,if_false,hlen,hs2,hpl,e1,hs3,hmid,hap,hs4,hdd,hskip,e2]
      rfl
   ·have hne:((e:Int)!=0)=true:=by simp;omega
    simp only[ne_eq,hee,not_false_eq_true,if_true]
    rw[Ay (o:= .inr ([],(at_:Int),(e:Int)))]
    simp only[hd,if_true,hs1,hnext,Option.bind_some,hne]
theorem Bxe{text:List UInt8}(hl:text.length≤8000):Ad9 text=some (match Atd text with| .inl l=>(l.map (Au4 text),0,0)| .inr e=>([],(e.1:Int),(e.2:Int))):=by
 have hs:=Iu false text
 unfold Ad9 Atd
 have h1:decide ((text.length:Int)>8000)=false:=decide_eq_false (by omega)
 simp only[h1,Bool.false_eq_true,if_false,Bos (show text.length<4294967281 by omega),Option.bind_some]
 have:=Brt hl (text.length+1) (Bb false text) [] hs (by omega) (by simp)
 refine Bh this ?_
 simp only[List.length_nil]
 cases P9 (text.length+1) (text.drop (Bb false text)) (Bb false text) 0 with
 |inl l=>simp
 |inr e=>rfl
theorem Brs{text:List UInt8}(hl:8000<text.length):Ad9 text=some ([],0,4):=by
 unfold Ad9
 have h1:decide ((text.length:Int)>8000)=true:=decide_eq_true (by omega)
 simp only[h1,if_true]
theorem Avs: ∀(f:Nat) (rest:List UInt8) (at_ k p e:Nat),P9 f rest at_ k= .inr (p,e)→e≠0∧at_≤p∧p<at_+rest.length
 |0,rest,at_,k,p,e,h=>by simp[P9] at h
 |f+1,rest,at_,k,p,e,h=>by
  rw[P9] at h
  by_cases h0:rest=[]
  ·rw[if_pos h0] at h;cases h
  ·rw[if_neg h0] at h
   have hpos:0<rest.length:=List.length_pos_iff.2 h0
   by_cases h1:(Bn rest).2.2=0
   ·rw[if_neg (not_not_intro h1)] at h
    obtain⟨hn1,hn2⟩:=Sj (s:=rest) (k:=(Bn rest).1) (n:=(Bn rest).2.1) (by rw[←h1])
    by_cases h2:k=1500
    ·rw[if_pos h2] at h
     cases h
     exact⟨by omega,by omega,by omega⟩
    ·rw[if_neg h2] at h
     have hsk:=Iu false (rest.drop (Bn rest).2.1)
     have hl1:(rest.drop (Bn rest).2.1).length=rest.length-(Bn rest).2.1:=List.length_drop ..
     have hl2:((rest.drop (Bn rest).2.1).drop (Bb false (rest.drop (Bn rest).2.1))).length=(rest.drop (Bn rest).2.1).length-Bb false (rest.drop (Bn rest).2.1):=List.length_drop ..
     split at h
     ·cases h
     ·rename_i e' hr
      cases h
      obtain⟨a1,a2,a3⟩:=Avs f _ _ _ _ _ hr
      exact⟨a1,by omega,by omega⟩
   ·rw[if_pos h1] at h
    cases h
    exact⟨h1,Nat.le_refl _,by omega⟩
theorem A2d: ∀(f:Nat) (rest:List UInt8) (at_ k p e:Nat),P9 f rest at_ k= .inr (p,e)→ ∀f',p-at_<f'→ ∃l,P9 f' (rest.take (p-at_)) at_ k= .inl l
 |0,rest,at_,k,p,e,h,f',hf=>by simp[P9] at h
 |f+1,rest,at_,k,p,e,h,0,hf=>by omega
 |f+1,rest,at_,k,p,e,h,f'+1,hf=>by
  have hb:=Avs _ _ _ _ _ _ h
  rw[P9] at h
  by_cases h0:rest=[]
  ·rw[if_pos h0] at h;cases h
  ·rw[if_neg h0] at h
   by_cases h1:(Bn rest).2.2=0
   ·rw[if_neg (not_not_intro h1)] at h
    have hnx:Bn rest=((Bn rest).1,(Bn rest).2.1,0):=by rw[←h1]
    by_cases h2:k=1500
    ·rw[if_pos h2] at h
     cases h
     exact⟨[],by simp[P9]⟩
    ·rw[if_neg h2] at h
     split at h
     ·cases h
     ·rename_i e' hr
      cases h
      obtain⟨a1,a2,a3⟩:=Avs f _ _ _ _ _ hr
      obtain⟨hn1,hn2⟩:=Sj hnx
      have htk:=A2v (m:=p-at_) hnx (by omega)
      have hne:rest.take (p-at_)≠[]:=by
       intro q
       have:=congrArg List.length q
       rw[List.length_take] at this
       simp only[List.length_nil] at this
       omega
      rw[P9,if_neg hne,htk]
      simp only[ne_eq,not_true_eq_false,if_false,if_neg h2]
      have hdt:(rest.take (p-at_)).drop (Bn rest).2.1=(rest.drop (Bn rest).2.1).take (p-at_-(Bn rest).2.1):=List.drop_take ..
      have hsk:Bb false ((rest.take (p-at_)).drop (Bn rest).2.1)=Bb false (rest.drop (Bn rest).2.1):=by
       rw[hdt,N1];omega
      obtain⟨l,hl⟩:=A2d f _ _ _ _ _ hr f' (by omega)
      have hdd:((rest.take (p-at_)).drop (Bn rest).2.1).drop (Bb false (rest.drop (Bn rest).2.1))=((rest.drop (Bn rest).2.1).drop (Bb false (rest.drop (Bn rest).2.1))).take (p-(at_+(Bn rest).2.1+Bb false (rest.drop (Bn rest).2.1))):=by
       rw[hdt,List.drop_take]
       congr 1
       omega
      rw[hsk,hdd,hl]
      exact⟨_,rfl⟩
   ·rw[if_pos h1] at h
    cases h
    exact⟨[],by simp[P9]⟩
theorem Bu6{text:List UInt8}{p e:Nat}(h:Atd text= .inr (p,e)):e≠0∧p<text.length∧ ∃l,Atd (text.take p)= .inl l:=by
 unfold Atd at h
 have hs:=Iu false text
 obtain⟨h1,h2,h3⟩:=Avs _ _ _ _ _ _ h
 rw[List.length_drop] at h3
 refine⟨h1,by omega,?_⟩
 have hlen:(text.take p).length=p:=by rw[List.length_take];omega
 obtain⟨l,hl⟩:=A2d _ _ _ _ _ _ h (p+1) (by omega)
 refine⟨l,?_⟩
 unfold Atd
 have hsk:Bb false (text.take p)=Bb false text:=by rw[N1];omega
 rw[hsk,hlen,List.drop_take]
 exact hl
theorem Byk{α:Type}(l:List α)(a b c:Nat):((l.drop a).drop b).drop c=l.drop (a+b+c):=by
 rw[List.drop_drop,List.drop_drop,Nat.add_assoc]
def Asf(text:List UInt8):Nat→List (Nat×Nat×Nat)→Prop
 |_,[]=>True
 |at_,x::l=>at_≤x.1∧x.1<text.length∧Bn (text.drop x.1)=(x.2.1,x.2.2,0)∧Asf text (x.1+x.2.2) l
theorem Asf.ahead{text:List UInt8}{a b:Nat}(hab:a≤b): ∀{l:List (Nat×Nat×Nat)},Asf text b l→Asf text a l
 |[],_=>trivial
 |x::l,h=>⟨Nat.le_trans hab h.1,h.2⟩
theorem A2c{text:List UInt8}: ∀(f at_ k:Nat) (l:List (Nat×Nat×Nat)),P9 f (text.drop at_) at_ k= .inl l→Asf text at_ l
 |0,at_,k,l,h=>by simp[P9] at h;subst h;trivial
 |f+1,at_,k,l,h=>by
  rw[P9] at h
  by_cases h0:text.drop at_=[]
  ·rw[if_pos h0] at h;cases h;trivial
  ·rw[if_neg h0] at h
   have hpos:0<(text.drop at_).length:=List.length_pos_iff.2 h0
   rw[List.length_drop] at hpos
   by_cases h1:(Bn (text.drop at_)).2.2=0
   ·rw[if_neg (not_not_intro h1)] at h
    have hnx:Bn (text.drop at_)=((Bn (text.drop at_)).1,(Bn (text.drop at_)).2.1,0):=by rw[←h1]
    by_cases h2:k=1500
    ·rw[if_pos h2] at h;cases h
    ·rw[if_neg h2] at h
     split at h
     ·rename_i l' hr
      cases h
      have hdr:((text.drop at_).drop (Bn (text.drop at_)).2.1).drop (Bb false ((text.drop at_).drop (Bn (text.drop at_)).2.1))=text.drop (at_+(Bn (text.drop at_)).2.1+Bb false ((text.drop at_).drop (Bn (text.drop at_)).2.1)):=Byk _ _ _ _
      rw[hdr] at hr
      exact⟨Nat.le_refl _,by omega,hnx,Asf.ahead (Nat.le_add_right _ _) (A2c f _ _ _ hr)⟩
     ·cases h
   ·rw[if_pos h1] at h;cases h
def okT(t:Ad):Bool:=decide (((Bn t.Aj).1:Int)=t.Ag∧(Bn t.Aj).2.1=t.Aj.length∧(Bn t.Aj).2.2=0)
theorem Be7{t:Ad}(hl:t.Aj.length<4294967281):Za t=some (okT t):=by
 unfold Za okT
 cases ht:t.Aj with
 |nil=>
  have e0:(([]:List UInt8)==[])=true:=rfl
  rw[if_pos e0]
  simp[Bn]
 |cons b u=>
  rw[ht] at hl
  have he:((b::u:List UInt8)==[])=false:=rfl
  simp only[he,Bool.false_eq_true,if_false,Bod hl,trI,Option.bind_some,Option.some.injEq]
  rw[Bool.eq_iff_iff]
  simp only[Bool.and_eq_true,beq_iff_eq,decide_eq_true_eq]
  constructor
  ·rintro⟨⟨h1,h2⟩,h3⟩
   exact⟨h2,by omega,by omega⟩
  ·rintro⟨h1,h2,h3⟩
   exact⟨⟨by omega,h1⟩,by omega⟩
def Bjc(l:List Ad):Nat:=(l.map fun t=>t.Aj.length).sum
theorem Buc{l:List Ad}{t:Ad}(h:t∈l):t.Aj.length≤Bjc l:=by
 induction l with
 |nil=>cases h
 |cons u l ih=>
  simp only[Bjc,List.map_cons,List.sum_cons]
  rcases List.mem_cons.1 h with rfl|h
  ·omega
  ·have:=ih h
   unfold Bjc at this
   omega
theorem Asf.toks{text:List UInt8}: ∀{l:List (Nat×Nat×Nat)} {at_:Nat},Asf text at_ l→at_≤text.length→l.length+at_≤text.length∧Bjc (l.map (Au4 text))+at_≤text.length∧ ∀t∈l.map (Au4 text),okT t=true
 |[],at_,_,h=>by simp[Bjc];omega
 |x::l,at_,hc,h=>by
  obtain⟨c1,c2,c3,c4⟩:=hc
  obtain⟨n1,n2⟩:=Sj c3
  rw[List.length_drop] at n2
  obtain⟨i1,i2,i3⟩:=Asf.toks c4 (by omega)
  have htl:(Au4 text x).Aj.length=x.2.2:=by
   show((text.drop x.1).take x.2.2).length=_
   rw[List.length_take,List.length_drop];omega
  refine⟨by simp only[List.length_cons];omega,?_,?_⟩
  ·unfold Bjc at i2⊢
   simp only[List.map_cons,List.sum_cons,htl]
   omega
  ·intro t ht
   rw[List.map_cons,List.mem_cons] at ht
   rcases ht with rfl|ht
   ·have h3:=A2v (m:=x.2.2) c3 (Nat.le_refl _)
    unfold okT
    refine decide_eq_true ?_
    rw[htl]
    have hT:(Au4 text x).Aj=(text.drop x.1).take x.2.2:=rfl
    rw[hT,h3]
    exact⟨rfl,rfl,rfl⟩
   ·exact i3 t ht
theorem Bru{text:List UInt8}(hl:text.length≤8000){l:List (Nat×Nat×Nat)}(h:Atd text= .inl l):l.length≤text.length∧Bjc (l.map (Au4 text))≤text.length∧ ∀t∈l.map (Au4 text),okT t=true:=by
 have hch:Asf text 0 l:=by
  unfold Atd at h
  exact(A2c _ _ _ _ h).ahead (Nat.zero_le _)
 have:=hch.toks (Nat.zero_le _)
 exact⟨by omega,by omega,this.2.2⟩
theorem Aqu{f:Int→Option (Int⊕Int)}{s:List UInt8}{q:UInt8→Bool}(hl:s.length<4611686018427387904)
  (hin: ∀(i:Nat) (h:i<s.length),f i=some (if q s[i]=true then .inl (IntKind.wrap .i64 ((i:Int)+1)) else .inr (i:Int)))
  (hout:f (s.length:Int)=some (.inr (s.length:Int))): ∀(n i:Nat),s.length-i=n→i≤s.length→A5 f (i:Int)=some ((i+Am q (s.drop i):Nat):Int):=by
 intro n
 induction n with
 |zero=>
  intro i h1 h2
  have:i=s.length:=by omega
  subst this
  rw[Ay hout];simp[Ib]
 |succ n ih=>
  intro i h1 h2
  have hi:i<s.length:=by omega
  have h:=hin i hi
  rw[List.drop_eq_getElem_cons hi,C4]
  by_cases hq:q s[i]=true
  ·rw[if_pos hq,wrap64 (by omega) (by omega),show(i:Int)+1=((i+1:Nat):Int) from rfl] at h
   rw[Bm h,if_pos hq,ih (i+1) (by omega) (by omega)]
   congr 2;omega
  ·rw[if_neg hq] at h
   rw[Ay h,if_neg hq];rfl
theorem Byp(b:UInt8):decide ((97:Int)≤(b.toNat:Int)∧(b.toNat:Int)≤122)=Atr b:=decide_eq_decide.2 (by omega)
theorem Bvd(b:UInt8):decide ((48:Int)≤(b.toNat:Int)∧(b.toNat:Int)≤57)=digB b:=decide_eq_decide.2 (by omega)
theorem A5a(n:Int):Dl n=some (decide (97≤n∧n≤122)):=by simp[Dl]
theorem Aqr(n:Int):B2 n=some (decide (48≤n∧n≤57)):=by simp[B2]
theorem N7{b:UInt8}{n:Nat}(hn:n<256):((b.toNat:Int)==(n:Int))=decide (b=UInt8.ofNat n):=by
 rw[Bool.eq_iff_iff,decide_eq_true_eq,beq_iff_eq,←Ap5 (b:=b) hn]
 omega
theorem A49{s:List UInt8}(hl:s.length<4611686018427387904):Cv s=some (Am digB s:Int):=by
 unfold Cv
 refine Bh (Aqu (q:=digB) hl ?_ ?_ s.length 0 (by omega) (by omega)) (by simp)
 ·intro i hi
  have hd:decide ((i:Int)<(s.length:Int))=true:=decide_eq_true (by omega)
  simp only[hd,Option.bind_some,Sq hi,A2,cond_true,Aqr,Bvd,Bool.true_and]
  split<;>rfl
 ·have hd:decide ((s.length:Int)<(s.length:Int))=false:=decide_eq_false (by omega)
  simp only[hd,Option.bind_some,gdO,cond_false,Bool.false_and,Bool.false_eq_true,if_false]
def reT(x:Nat×Nat×Nat):Ae:=if x.2.2=0 then⟨(x.1:Int),(x.2.1:Int),0⟩ else⟨0,0,(x.2.2:Int)⟩
theorem Bt0{s:List UInt8}(hl:s.length<4611686018427387904):Gu s=some (reT (0,Ado s)):=by
 unfold Gu
 refine Bh (Aqu (q:=Ap7) hl ?_ ?_ s.length 0 (by omega) (by omega)) ?_
 ·intro i hi
  have hd:decide ((i:Int)<(s.length:Int))=true:=decide_eq_true (by omega)
  have hw:(Atr s[i]||digB s[i]||((s[i].toNat:Int)==95))=Ap7 s[i]:=by
   have h95:((s[i].toNat:Int)==95)=decide (s[i].toNat=95):=by
    rw[Bool.eq_iff_iff,decide_eq_true_eq,beq_iff_eq];omega
   rw[h95]
   unfold Atr digB Ap7
   rw[Bool.eq_iff_iff]
   simp
   omega
  simp only[hd,Option.bind_some,Sq hi,A2,cond_true,A5a,Byp,Bool.true_and]
  cases h1:Atr s[i] with
  |true=>
   rw[h1] at hw
   simp only[Bool.true_or] at hw
   simp only[gdO,Bool.not_true,cond_false,Option.bind_some,Bool.true_or,if_true,←hw]
  |false=>
   rw[h1] at hw
   simp only[Bool.not_false,cond_true,Aqr,Bvd,A2,Option.bind_some,Bool.false_or]
   cases h2:digB s[i] with
   |true=>
    rw[h2] at hw
    simp only[Bool.false_or,Bool.true_or] at hw
    simp only[gdO,Bool.not_true,cond_false,Option.bind_some,Bool.true_or,if_true,←hw]
   |false=>
    rw[h2] at hw
    simp only[Bool.false_or] at hw
    simp only[Bool.not_false,cond_true,Bool.false_or,hw]
    split<;>rfl
 ·have hd:decide ((s.length:Int)<(s.length:Int))=false:=decide_eq_false (by omega)
  simp only[hd,Option.bind_some,gdO,cond_false,Bool.false_and,Bool.false_eq_true,if_false]
 ·simp only[Nat.zero_add,List.drop_zero,Ado]
  by_cases h:32<Am Ap7 s
  ·rw[if_pos (decide_eq_true (by omega)),if_pos h];rfl
  ·rw[if_neg (by simp;omega),if_neg h];rfl
theorem Btu{α:Type}{s:List UInt8}(hl:s.length<4611686018427387904){d:Nat}(hd:d≤s.length)(F:Int→Option α):
  ((some (decide ((IntKind.wrap .i64 ((d:Int)+1))<(s.length:Int)))).bind fun c3=>
 (gdO c3 (byO s (d:Int)) 0).bind fun x4=>
 (some (c3&&(x4==46))).bind fun c5=>
 (gdO c5 (byO s (IntKind.wrap .i64 ((d:Int)+1))) 0).bind fun x6=>
 (gdO c5 (B2 x6) (default:Bool)).bind fun x7=>
 ((if (c5&&x7)=true then
   (slO s (IntKind.wrap .i64 ((d:Int)+1)) (s.length:Int)).bind fun x9=>
   (Cv x9).bind fun x10=>
   some x10
 else
  some 0):Option Int).bind F)=F (Fm (s.drop d):Int):=by
 have e1:IntKind.wrap .i64 ((d:Int)+1)=((d+1:Nat):Int):=by rw[wrap64 (by omega) (by omega)];rfl
 rw[e1]
 by_cases h1:d+1<s.length
 ·have hc:decide (((d+1:Nat):Int)<(s.length:Int))=true:=decide_eq_true (by omega)
  have hdr:s.drop d=s[d]::s[d+1]::s.drop (d+2):=by
   rw[List.drop_eq_getElem_cons (show d<s.length by omega),List.drop_eq_getElem_cons h1]
  have hdr1:s.drop (d+1)=s[d+1]::s.drop (d+2):=List.drop_eq_getElem_cons h1
  have h46:((s[d].toNat:Int)==46)=decide (s[d]=46):=N7 (n:=46) (by omega)
  have hm:Fm (s.drop d)=if s[d]=46 then Am digB (s[d+1]::s.drop (d+2)) else 0:=by rw[hdr];rfl
  simp only[hc,Option.bind_some,A2,Sq (show d<s.length by omega),cond_true,h46,Bool.true_and]
  rw[hm]
  by_cases h2:s[d]=46
  ·simp only[h2,decide_true,Sq h1,A2,cond_true,Option.bind_some,Aqr,Bvd,Bool.true_and,if_true]
   cases h3:digB s[d+1] with
   |true=>
    have hs:=H4 (l:=s) (n:=d+1) (by omega)
    have hr:=A49 (s:=s.drop (d+1)) (by rw[List.length_drop];omega)
    simp only[if_true,hs,Option.bind_some,hr]
    rw[hdr1]
   |false=>
    simp only[C4,h3,Bool.false_eq_true,if_false]
    rfl
  ·simp only[h2,decide_false,gdO,cond_false,Bool.false_and,Bool.false_eq_true,if_false,Option.bind_some]
   rfl
 ·have hc:decide (((d+1:Nat):Int)<(s.length:Int))=false:=decide_eq_false (by omega)
  have hm:Fm (s.drop d)=0:=by
   have:=Avy (s.drop d)
   rw[List.length_drop] at this
   unfold Fm
   split
   ·rename_i b c t he
    have:=congrArg List.length he
    rw[List.length_drop] at this
    simp at this
    omega
   ·rfl
  rw[hm]
  simp only[hc,gdO,cond_false,Bool.false_and,Bool.false_eq_true,if_false,Option.bind_some]
  rfl
theorem Bmd{b:UInt8}{t:List UInt8}(hl:(b::t).length<4611686018427387904):E5 (b::t)=some (reT (1,Axz (b::t))):=by
 generalize hs:b::t=s at hl
 have hd:=D5 digB s
 have hm:=Avy (s.drop (Am digB s))
 rw[List.length_drop] at hm
 have h0:byO s 0=some (b.toNat:Int):=by rw[←hs];exact Dz
 have hh:s.head?=some b:=by rw[←hs];rfl
 unfold E5
 refine Bh (A49 hl) ?_
 refine(Btu hl hd _).trans ?_
 unfold Axz
 generalize Am digB s=d at hd hm
 generalize Fm (s.drop d)=m at hm
 have h48:((b.toNat:Int)==48)=decide (b=48):=N7 (n:=48) (by omega)
 simp only[h0,A2,Option.bind_some,hh,Option.some.injEq]
 by_cases c1:15<d
 ·have:decide ((d:Int)>15)=true:=decide_eq_true (by omega)
  simp only[this,Bool.true_or,if_true]
  rw[if_pos (.inl c1)]
  rfl
 ·have e1:decide ((d:Int)>15)=false:=decide_eq_false (by omega)
  by_cases c2:9<m
  ·have:decide ((m:Int)>9)=true:=decide_eq_true (by omega)
   simp only[e1,this,Bool.false_or,Bool.true_or,if_true]
   rw[if_pos (.inr (.inl c2))]
   rfl
  ·have e2:decide ((m:Int)>9)=false:=decide_eq_false (by omega)
   simp only[e1,e2,Bool.or_self,Bool.not_false,Bool.true_and,Bool.false_or]
   by_cases c3:1<d∧b=48
   ·have e3:decide ((d:Int)>1)=true:=decide_eq_true (by omega)
    simp only[e3,cond_true,h48,decide_eq_true c3.2,Bool.and_self,if_true]
    rw[if_pos (.inr (.inr c3))]
    rfl
   ·have e3:(decide ((d:Int)>1)&&((bif decide ((d:Int)>1) then(b.toNat:Int) else 0)==48))=false:=by
     by_cases q:1<d
     ·have e3:decide ((d:Int)>1)=true:=decide_eq_true (by omega)
      simp only[e3,cond_true,h48,Bool.true_and]
      exact decide_eq_false (fun hb=>c3 ⟨q,hb⟩)
     ·have e3:decide ((d:Int)>1)=false:=decide_eq_false (by omega)
      simp only[e3,Bool.false_and]
    have hno: ¬(15<d∨9<m∨1<d∧b=48):=fun h=>h.elim c1 (fun h=>h.elim c2 c3)
    simp only[e3,Bool.false_eq_true,if_false,if_neg hno]
    by_cases c4:0<m
    ·have e4:IntKind.wrap .i64 ((d:Int)+1)=((d+1:Nat):Int):=by rw[wrap64 (by omega) (by omega)];rfl
     have e5:IntKind.wrap .i64 (((d+1:Nat):Int)+(m:Int))=((d+1+m:Nat):Int):=by rw[wrap64 (by omega) (by omega)];omega
     rw[e4,e5,if_pos (decide_eq_true (show(m:Int)>0 by omega)),if_pos c4]
     rfl
    ·rw[if_neg (show ¬(decide ((m:Int)>0)=true) by simp;omega),if_neg c4]
     rfl
theorem Brw{O:Type}{f:Int→Option (Int⊕O)}{u:List UInt8}{q:UInt8→Bool}{o e:O}(hl:u.length<4611686018427387904)
  (hin: ∀(i:Nat) (h:i<u.length),f i=some (if q u[i]=true then .inl (IntKind.wrap .i64 ((i:Int)+1)) else .inr o))
  (hout:f (u.length:Int)=some (.inr e)): ∀(n i:Nat),u.length-i=n→i≤u.length→A5 f (i:Int)=some (if Am q (u.drop i)<u.length-i then o else e):=by
 intro n
 induction n with
 |zero=>
  intro i h1 h2
  have:i=u.length:=by omega
  subst this
  rw[Ay hout,if_neg (by omega)]
 |succ n ih=>
  intro i h1 h2
  have hi:i<u.length:=by omega
  have h:=hin i hi
  rw[List.drop_eq_getElem_cons hi,C4]
  by_cases hq:q u[i]=true
  ·rw[if_pos hq,wrap64 (by omega) (by omega),show(i:Int)+1=((i+1:Nat):Int) from rfl] at h
   rw[Bm h,ih (i+1) (by omega) (by omega)]
   simp only[hq,if_true]
   by_cases h3:Am q (u.drop (i+1))<u.length-(i+1)
   ·rw[if_pos h3,if_pos (by omega)]
   ·rw[if_neg h3,if_neg (by omega)]
  ·rw[if_neg hq] at h
   rw[Ay h,if_neg hq,if_pos (by omega)]
theorem Bme{b:UInt8}{t:List UInt8}(hl:(b::t).length<4611686018427387904):E6 (b::t)=some (reT (2,Ax8 (b::t))):=by
 have hn:=D5 Cg t
 have hlt:(b::t).length=t.length+1:=rfl
 unfold E6
 refine Bh (Aqu (q:=Cg) hl ?_ ?_ t.length 1 (by simp) (by simp)) ?_
 ·intro i hi
  have hd:decide ((i:Int)<((b::t).length:Int))=true:=decide_eq_true (by omega)
  have hq:(((b::t)[i].toNat:Int)!=34)=Cg (b::t)[i]:=by
   have:=N7 (b:=(b::t)[i]) (n:=34) (by omega)
   unfold Cg
   rw[show(((b::t)[i].toNat:Int)!=34)= !(((b::t)[i].toNat:Int)==((34:Nat):Int)) from rfl,this]
   rw[Bool.eq_iff_iff]
   simp
  simp only[hd,Option.bind_some,Sq hi,A2,cond_true,Bool.true_and,hq]
  split<;>rfl
 ·have hd:decide (((b::t).length:Int)<((b::t).length:Int))=false:=decide_eq_false (by omega)
  simp only[hd,Option.bind_some,gdO,cond_false,Bool.false_and,Bool.false_eq_true,if_false]
 ·simp only[List.drop_succ_cons,List.drop_zero,Ax8]
  by_cases c1:Am Cg t=t.length
  ·have:(((1+Am Cg t:Nat):Int)==((b::t).length:Int))=true:=by rw[beq_iff_eq,hlt];omega
   rw[if_pos this,if_pos c1]
   rfl
  ·have:(((1+Am Cg t:Nat):Int)==((b::t).length:Int))=false:=by rw[beq_eq_false_iff_ne,hlt];omega
   simp only[this,Bool.false_eq_true,if_false,c1]
   have hu:((b::t).take (1+Am Cg t)).length=1+Am Cg t:=by rw[List.length_take,hlt];omega
   have hu2:((b::t).take (1+Am Cg t)).drop 1=t.take (Am Cg t):=by
    rw[Nat.add_comm 1];rfl
   refine Bh (Brw (u:=(b::t).take (1+Am Cg t)) (q:=prB) (o:=(.inr (⟨0,0,3⟩:Ae):Unit⊕Ae)) (e:= .inl ()) (by rw[hu];omega) ?_ ?_ (Am Cg t) 1 (by rw[hu];omega) (by rw[hu];omega)) ?_
   ·intro i hi
    have hi2:i<(b::t).length:=by rw[hu] at hi;rw[hlt];omega
    have hd:decide ((i:Int)<((1+Am Cg t:Nat):Int))=true:=decide_eq_true (by rw[hu] at hi;omega)
    have hg:((b::t).take (1+Am Cg t))[i]=(b::t)[i]:=by simp
    rw[hg]
    generalize hx:(b::t)[i]=x
    have hb:byO (b::t) (i:Int)=some (x.toNat:Int):=by rw[Sq hi2,hx]
    simp only[hd,if_true,hb,Option.bind_some,A2]
    have hp:(decide ((x.toNat:Int)<32)||decide ((bif !decide ((x.toNat:Int)<32) then(x.toNat:Int) else 0)>126))= !prB x:=by
     by_cases h1:(x.toNat:Int)<32
     ·simp only[h1,decide_true,Bool.true_or]
      unfold prB
      rw[decide_eq_false (by omega)]
      rfl
     ·simp only[h1,decide_false,Bool.false_or,Bool.not_false,cond_true]
      unfold prB
      rw[Bool.eq_iff_iff]
      simp
      omega
    rw[hp]
    cases prB x<;>rfl
   ·rw[hu]
    have hd:decide (((1+Am Cg t:Nat):Int)<((1+Am Cg t:Nat):Int))=false:=decide_eq_false (by omega)
    simp only[hd,Bool.false_eq_true,if_false]
   ·rw[hu,hu2,Nat.add_sub_cancel_left]
    have e1:IntKind.wrap .i64 (((1+Am Cg t:Nat):Int)+1)=((Am Cg t+2:Nat):Int):=by rw[wrap64 (by omega) (by omega)];omega
    by_cases c3:Am prB (t.take (Am Cg t))<Am Cg t
    ·rw[if_pos c3,if_pos (show 32<Am Cg t∨Am prB (t.take (Am Cg t))<Am Cg t from .inr c3)]
     rfl
    ·rw[if_neg c3]
     simp only[e1]
     by_cases c2:32<Am Cg t
     ·rw[if_pos (decide_eq_true (by omega)),if_pos (show 32<Am Cg t∨Am prB (t.take (Am Cg t))<Am Cg t from .inl c2)]
      rfl
     ·rw[if_neg (by simp only[decide_eq_true_eq];omega),if_neg (show ¬(32<Am Cg t∨Am prB (t.take (Am Cg t))<Am Cg t) from fun h=>h.elim c2 c3)]
      rfl
theorem Btx{b:UInt8}{t:List UInt8}(hl:(b::t).length<4611686018427387904):Gt (b::t)=some (reT (3,Ayd (b::t))):=by
 have tail:(((A5 (fun(qj8:Int)=>match qj8 with
   |i9=>(
    if (decide (i9<([123,125,40,41,91,93,59,58,44,37,61,60,62,43,45,42,47].length:Int)))=true then
     (byO [123,125,40,41,91,93,59,58,44,37,61,60,62,43,45,42,47] i9).bind fun x10=>
     (byO (b::t) 0).bind fun x11=>
     if (x10==x11)=true then
      some (.inr (.inr (⟨3,1,0⟩:Ae)))
     else
      some (.inl (IntKind.wrap .i64 (i9+1)))
    else
     some (.inr (.inl ())):Option (Int⊕(Unit⊕Ae)))) 0):Option (Unit⊕Ae)))=some (if b∈K9 then .inr ⟨3,1,0⟩ else .inl ()):=by
  rw[Ze (l:=K9) (fun c=>c==b) (o:= .inr (⟨3,1,0⟩:Ae)) (e:= .inl ()) (by decide)]
  ·have:K9.any (fun c=>c==b)=true↔b∈K9:=by
    simp only[List.any_eq_true,beq_iff_eq]
    exact⟨fun⟨x,h1,h2⟩=>h2▸h1,fun h=>⟨b,h,rfl⟩⟩
   by_cases h:b∈K9
   ·rw[if_pos (this.2 h),if_pos h]
   ·rw[if_neg (mt this.1 h),if_neg h]
  ·intro i hi
   show(if decide ((i:Int)<(K9.length:Int))=true then(byO K9 (i:Int)).bind _ else _)=_
   rw[if_pos (decide_eq_true (by omega)),Sq hi]
   simp only[Option.bind_some,Dz]
   have:((K9[i].toNat:Int)==(b.toNat:Int))=(K9[i]==b):=by
    rw[Bool.eq_iff_iff,beq_iff_eq,beq_iff_eq,←UInt8.toNat_inj];omega
   rw[this]
   split<;>rfl
  ·intro i hi
   show(if decide ((i:Int)<(K9.length:Int))=true then _ else _)=_
   rw[if_neg (by simp only[decide_eq_true_eq];omega)]
 have fin: ∀x:Unit⊕Ae,x=(if b∈K9 then .inr ⟨3,1,0⟩ else .inl ())→(match x with
  | .inr o=>some o
  | .inl _=>some (⟨0,0,14⟩:Ae))=some (reT (3,if b∈K9 then(1,0) else(0,14))):=by
  rintro x rfl
  by_cases h:b∈K9
  ·rw[if_pos h,if_pos h];rfl
  ·rw[if_neg h,if_neg h];rfl
 unfold Gt Ayd
 cases t with
 |nil=>
  have e:decide ((([b]:List UInt8).length:Int)>1)=false:=by simp
  have h1: ¬([b].take 2=([60,61]:List UInt8)∨[b].take 2=[62,61]∨[b].take 2=[46,46]):=by simp
  rw[if_neg h1]
  simp only[e,Option.bind_some,gdO,Bool.false_and,Bool.false_eq_true,if_false]
  exact Bh tail (fin _ rfl)
 |cons c t=>
  have e:decide (((b::c::t).length:Int)>1)=true:=decide_eq_true (by simp;omega)
  have h2:=Jr (l:=b::c::t) (n:=2) (by simp)
  rw[show((2:Nat):Int)=2 from rfl,show(b::c::t).take 2=[b,c] from rfl] at h2
  rw[show(b::c::t).take 2=[b,c] from rfl]
  simp only[e,h2,A2,Option.bind_some,cond_true,Bool.true_and]
  by_cases p1:[b,c]=([60,61]:List UInt8)
  ·have e1:([b,c]==([60,61]:List UInt8))=true:=by rw[beq_iff_eq];exact p1
   simp only[e1,Bool.true_or,if_true]
   rw[if_pos (.inl p1)]
   rfl
  ·have e1:([b,c]==([60,61]:List UInt8))=false:=by rw[beq_eq_false_iff_ne];exact p1
   simp only[e1,Bool.false_or,Bool.not_false,cond_true]
   by_cases p2:[b,c]=([62,61]:List UInt8)
   ·have e2:([b,c]==([62,61]:List UInt8))=true:=by rw[beq_iff_eq];exact p2
    simp only[e2,Bool.true_or,if_true]
    rw[if_pos (.inr (.inl p2))]
    rfl
   ·have e2:([b,c]==([62,61]:List UInt8))=false:=by rw[beq_eq_false_iff_ne];exact p2
    simp only[e2,Bool.false_or,Bool.not_false,cond_true]
    by_cases p3:[b,c]=([46,46]:List UInt8)
    ·have e3:([b,c]==([46,46]:List UInt8))=true:=by rw[beq_iff_eq];exact p3
     simp only[e3,if_true]
     rw[if_pos (.inr (.inr p3))]
     rfl
    ·have e3:([b,c]==([46,46]:List UInt8))=false:=by rw[beq_eq_false_iff_ne];exact p3
     simp only[e3,Bool.false_eq_true,if_false]
     rw[if_neg (fun h=>h.elim p1 (fun h=>h.elim p2 p3))]
     exact Bh tail (fin _ rfl)
theorem Bip{b:UInt8}{t:List UInt8}(hl:(b::t).length<4611686018427387904):Df (b::t)=some (reT (Bn (b::t))):=by
 have hn:Bn (b::t)=if Atr b=true then(0,Ado (b::t)) else if digB b=true then(1,Axz (b::t)) else if b=34 then(2,Ax8 (b::t)) else(3,Ayd (b::t)):=rfl
 unfold Df
 rw[hn]
 have hQ:((b.toNat:Int)==34)=decide (b=34):=N7 (n:=34) (by omega)
 simp only[Dz,Option.bind_some,A5a,Byp,Aqr,Bvd,hQ,Bt0 hl,Bmd hl,Bme hl,Btx hl]
 by_cases h1:Atr b=true
 ·rw[if_pos h1,if_pos h1]
 ·rw[if_neg h1,if_neg h1]
  by_cases h2:digB b=true
  ·rw[if_pos h2,if_pos h2]
  ·rw[if_neg h2,if_neg h2]
   by_cases h3:b=34
   ·rw[if_pos (decide_eq_true h3),if_pos h3]
   ·rw[if_neg (by simp only[decide_eq_true_eq];exact h3),if_neg h3]
theorem A96{t:Ad}(hl:t.Aj.length<4611686018427387904):D0 t=some (okT t):=by
 unfold D0 okT
 cases ht:t.Aj with
 |nil=>
  have e0:(([]:List UInt8)==[])=true:=rfl
  rw[if_pos e0]
  simp[Bn]
 |cons b u=>
  rw[ht] at hl
  have he:((b::u:List UInt8)==[])=false:=rfl
  simp only[he,Bool.false_eq_true,if_false,Bip hl,Option.bind_some,Option.some.injEq]
  generalize Bn (b::u)=x
  obtain⟨k,n,e⟩:=x
  unfold reT
  by_cases h:e=0
  ·subst h
   rw[Bool.eq_iff_iff]
   simp only[if_true,Bool.and_eq_true,beq_iff_eq,decide_eq_true_eq]
   constructor
   ·rintro⟨⟨h1,h2⟩,h3⟩
    exact⟨h2,by omega,trivial⟩
   ·rintro⟨h1,h2,h3⟩
    exact⟨⟨trivial,h1⟩,by omega⟩
  ·rw[Bool.eq_iff_iff]
   simp only[h,if_false,Bool.and_eq_true,beq_iff_eq,decide_eq_true_eq]
   constructor
   ·rintro⟨⟨h1,h2⟩,h3⟩
    omega
   ·rintro⟨h1,h2,h3⟩
    exact h3.elim
def Atw(b:UInt8):Bool:=b !=10
theorem Baf: ∀t:List UInt8,Bb true t=Am Atw t+Bb false (t.drop (Am Atw t))
 |[]=>by simp[Bb,Ib]
 |b::t=>by
  have ih:=Baf t
  rw[Bb,C4]
  by_cases hb:b=10
  ·subst hb
   have:Atw 10=false:=rfl
   rw[if_pos rfl,this]
   simp only[Bool.false_eq_true,if_false,List.drop_zero,Nat.zero_add]
   rfl
  ·have h2:Atw b=true:=by unfold Atw;simpa using hb
   rw[if_neg hb,ih,if_pos h2,List.drop_succ_cons]
   omega
theorem Aso{S O O':Type}{F:S→Option (S⊕O)}{F':S→Option (S⊕O')}{g:O→O'}(h: ∀s,F' s=(F s).map fun r=>match r with| .inl a=> .inl a| .inr o=> .inr (g o)){o:O}: ∀(n:Nat) (s:S),Oo F n s=some o→Oo F' n s=some (g o)
 |0,s,hn=>by cases hn
 |n+1,s,hn=>by
  rw[Oo] at hn⊢
  rw[h s]
  cases hf:F s with
  |none=>rw[hf] at hn;cases hn
  |some r=>
   rw[hf] at hn
   cases r with
   |inl a=>exact Aso h n a hn
   |inr o'=>cases hn;rfl
theorem A6l{S O O':Type}{F:S→Option (S⊕O)}{F':S→Option (S⊕O')}{g:O→O'}(h: ∀s,F' s=(F s).map fun r=>match r with| .inl a=> .inl a| .inr o=> .inr (g o)){s:S}{o:O}(hl:A5 F s=some o):A5 F' s=some (g o):=by
 obtain⟨n,hn⟩:=Si.1 hl
 exact Si.2 ⟨n,Aso h n s hn⟩
theorem Bim{s:List UInt8}(hl:s.length<4611686018427387904): ∀(n i:Nat),s.length-i≤n→i≤s.length→ ∃o:Int⊕Int,
  (A5 (fun(qj2:Int)=>match qj2 with
  |n3=>(
   if (decide (n3<(s.length:Int)))=true then
    (byO s n3).bind fun x4=>
    if (x4==35)=true then
     A5 (fun(qj5:Int)=>match qj5 with
      |n6=>(
       (some (decide (n6<(s.length:Int)))).bind fun c7=>
       (gdO c7 (byO s n6) 0).bind fun x8=>
       if (c7&&(x8 !=10))=true then
        some (.inl (IntKind.wrap .i64 (n6+1)))
       else
        some (.inr (.inl n6)):Option (Int⊕(Int⊕(Int⊕Int))))) n3
    else
     (byO s n3).bind fun x10=>
     (some (x10==32)).bind fun c11=>
     (gdO (!c11) (byO s n3) 0).bind fun x12=>
     (some (c11||(x12==9))).bind fun c13=>
     (gdO (!c13) (byO s n3) 0).bind fun x14=>
     if (c13||(x14==10))=true then
      some (.inl (IntKind.wrap .i64 (n3+1)))
     else
      some (.inr (.inr n3))
   else
    some (.inr (.inl n3)):Option (Int⊕(Int⊕Int)))) (i:Int):Option (Int⊕Int))=some o∧(match o with| .inr o=>some o| .inl n=>some n)=some ((i+Bb false (s.drop i):Nat):Int):=by
 intro n
 induction n with
 |zero=>
  intro i h1 h2
  have:i=s.length:=by omega
  subst this
  refine⟨.inl (s.length:Int),?_,by simp[Bb]⟩
  rw[Ay]
  have hd:decide ((s.length:Int)<(s.length:Int))=false:=decide_eq_false (by omega)
  simp only[hd,Bool.false_eq_true,if_false]
 |succ n ih=>
  intro i h1 h2
  by_cases he:i=s.length
  ·exact ih i (by omega) h2
  have hi:i<s.length:=by omega
  have hd:decide ((i:Int)<(s.length:Int))=true:=decide_eq_true (by omega)
  have hdr:=List.drop_eq_getElem_cons hi
  have hb:=Sq hi
  rw[hdr]
  generalize s[i]=b at hb hdr
  have h35:((b.toNat:Int)==35)=decide (b=35):=N7 (n:=35) (by omega)
  have h32:((b.toNat:Int)==32)=decide (b=32):=N7 (n:=32) (by omega)
  have h9:((b.toNat:Int)==9)=decide (b=9):=N7 (n:=9) (by omega)
  have h10:((b.toNat:Int)==10)=decide (b=10):=N7 (n:=10) (by omega)
  have hw:IntKind.wrap .i64 ((i:Int)+1)=((i+1:Nat):Int):=by rw[wrap64 (by omega) (by omega)];rfl
  by_cases p1:b=35
  ·have hin:=Aqu (s:=s) (q:=Atw) (f:=fun(qj5:Int)=>match qj5 with
      |n6=>(
       (some (decide (n6<(s.length:Int)))).bind fun c7=>
       (gdO c7 (byO s n6) 0).bind fun x8=>
       if (c7&&(x8 !=10))=true then
        some (.inl (IntKind.wrap .i64 (n6+1)))
       else
        some (.inr n6):Option (Int⊕Int))) hl (by
     intro k hk
     have hd:decide ((k:Int)<(s.length:Int))=true:=decide_eq_true (by omega)
     have hq:((s[k].toNat:Int)!=10)=Atw s[k]:=by
      rw[show((s[k].toNat:Int)!=10)= !((s[k].toNat:Int)==((10:Nat):Int)) from rfl,N7 (n:=10) (by omega)]
      unfold Atw
      rw[Bool.eq_iff_iff]
      simp
     simp only[hd,Option.bind_some,Sq hk,A2,cond_true,Bool.true_and,hq]
     split<;>rfl) (by
     have hd:decide ((s.length:Int)<(s.length:Int))=false:=decide_eq_false (by omega)
     simp only[hd,Option.bind_some,gdO,cond_false,Bool.false_and,Bool.false_eq_true,if_false]) (s.length-i) i rfl h2
   have hsp:Am Atw (s.drop i)=Am Atw (s.drop (i+1))+1:=by
    rw[hdr,C4,if_pos (by subst p1;rfl)]
   have hle:=D5 Atw (s.drop i)
   rw[List.length_drop] at hle
   obtain⟨o,e1,e2⟩:=ih (i+Am Atw (s.drop i)) (by omega) (by omega)
   refine⟨o,?_,?_⟩
   ·rw[Bm (s':=((i+Am Atw (s.drop i):Nat):Int))]
    ·exact e1
    ·simp only[hd,if_true,hb,Option.bind_some,h35,p1,decide_true]
     exact A6l (fun n=>(by simp only[Option.bind_some];cases gdO (decide (n<(s.length:Int))) (byO s n) 0 with|none=>rfl|some x=>(simp only[Option.bind_some];split<;>rfl))) hin
   ·rw[e2]
    have:Bb false (b::s.drop (i+1))=1+Bb true (s.drop (i+1)):=by subst p1;rfl
    rw[this,Baf,hsp,List.drop_drop,show i+(Am Atw (s.drop (i+1))+1)=i+1+Am Atw (s.drop (i+1)) by omega]
    congr 2
    omega
  ·have e35:decide (b=35)=false:=decide_eq_false p1
   by_cases p2:Atg b=true
   ·obtain⟨o,e1,e2⟩:=ih (i+1) (by omega) (by omega)
    refine⟨o,?_,?_⟩
    ·rw[Bm (s':=((i+1:Nat):Int))]
     ·exact e1
     ·simp only[hd,if_true,hb,Option.bind_some,h35,e35,Bool.false_eq_true,if_false,A2,h32,h9,h10,hw]
      rw[if_pos]
      unfold Atg at p2
      have q1:(b==32)=decide (b=32):=rfl
      have q2:(b==9)=decide (b=9):=rfl
      have q3:(b==10)=decide (b=10):=rfl
      rw[q1,q2,q3] at p2
      cases c1:decide (b=32) with
      |true=>rfl
      |false=>
       rw[c1] at p2
       simp only[Bool.not_false,cond_true,h9,Bool.false_or] at p2⊢
       cases c2:decide (b=9) with
       |true=>rfl
       |false=>
        rw[c2] at p2
        simpa only[Bool.not_false,cond_true,h10,Bool.false_or] using p2
    ·rw[e2]
     have:Bb false (b::s.drop (i+1))=1+Bb false (s.drop (i+1)):=by rw[Bb,if_pos p2]
     rw[this]
     congr 2
     omega
   ·refine⟨.inr (i:Int),?_,?_⟩
    ·rw[Ay]
     simp only[hd,if_true,hb,Option.bind_some,h35,e35,Bool.false_eq_true,if_false,A2,h32,hw]
     have q1:b≠32:=fun h=>p2 (by subst h;rfl)
     have q2:b≠9:=fun h=>p2 (by subst h;rfl)
     have q3:b≠10:=fun h=>p2 (by subst h;rfl)
     rw[if_neg]
     simp only[decide_eq_false q1,Bool.not_false,cond_true,h9,h10,decide_eq_false q2,decide_eq_false q3,Bool.or_self]
     simp
    ·have:Bb false (b::s.drop (i+1))=0:=by rw[Bb,if_neg p2,if_neg p1]
     rw[this]
     rfl
theorem A97{s:List UInt8}(hl:s.length<4611686018427387904):C6 s=some (Bb false s:Int):=by
 obtain⟨o,h1,h2⟩:=Bim hl s.length 0 (by omega) (by omega)
 unfold C6
 refine Bh h1 ?_
 rw[List.drop_zero,Nat.zero_add] at h2
 rw[←h2]
 cases o<;>rfl
theorem Bvy:plS []=(1,1):=by decide +kernel
theorem Btm(u:List UInt8)(b:UInt8):plS (u++[b])=if b=10 then((plS u).1+1,1) else((plS u).1,(plS u).2+1):=by
 have hlen:(u++[b]).length=u.length+1:=by simp
 have hge: ∀j,j<u.length→(u++[b])[j]? =u[j]? :=fun j hj=>List.getElem?_append_left hj
 have hlast:(u++[b])[u.length]? =some b:=by simp
 have out: ∀j,u.length<j→(u++[b])[j]? =none:=fun j hj=>List.getElem?_eq_none_iff.2 (by omega)
 by_cases hb:b=10
 ·subst hb
  rw[if_pos rfl]
  have hc:(u++[10]).count 10=u.count 10+1:=by simp
  have hi:Lib.lastIndexByte ⟨(u++[10]).toArray⟩ 10=(u.length:Int):=by
   rcases L5 (u++[10]) with⟨_,n1⟩|⟨i,i1,i2,i3,i4⟩
   ·exact absurd (by simp) n1
   ·rw[i2]
    by_cases h:i<u.length
    ·exact absurd hlast (i4 u.length h)
    ·congr 1;omega
  unfold plS
  rw[hc,hi,hlen]
  simp only[Prod.mk.injEq]
  constructor<;>omega
 ·rw[if_neg hb]
  have hc:(u++[b]).count 10=u.count 10:=by
   rw[List.count_append,List.count_singleton]
   simp[hb]
  have hi:Lib.lastIndexByte ⟨(u++[b]).toArray⟩ 10=Lib.lastIndexByte ⟨u.toArray⟩ 10:=by
   rcases L5 u with⟨e1,n1⟩|⟨i,i1,i2,i3,i4⟩
   ·rcases L5 (u++[b]) with⟨e2,n2⟩|⟨j,j1,j2,j3,j4⟩
    ·rw[e1,e2]
    ·exfalso
     have:=List.mem_of_getElem? j3
     rw[List.mem_append,List.mem_singleton] at this
     exact this.elim n1 (fun h=>hb h.symm)
   ·rcases L5 (u++[b]) with⟨e2,n2⟩|⟨j,j1,j2,j3,j4⟩
    ·exfalso
     exact n2 (List.mem_append.2 (.inl (List.mem_of_getElem? i3)))
    ·rw[i2,j2]
     have hj:j<u.length:=by
      by_cases h:j<u.length
      ·exact h
      ·exfalso
       have:j=u.length:=by omega
       subst this
       rw[hlast] at j3
       exact hb (Option.some.inj j3)
     rw[hge j hj] at j3
     by_cases h1:i<j
     ·exact absurd j3 (i4 j h1)
     ·by_cases h2:j<i
      ·have:=j4 i h2
       rw[hge i i1] at this
       exact absurd i3 this
      ·congr 1;omega
  unfold plS
  rw[hc,hi,hlen]
  generalize Lib.lastIndexByte ⟨u.toArray⟩ 10=x
  simp only[Prod.mk.injEq,true_and]
  omega
theorem Bp3(u:List UInt8):1≤(plS u).1∧(plS u).1≤(u.length:Int)+1∧1≤(plS u).2∧(plS u).2≤(u.length:Int)+1:=by
 have hr: -1≤Lib.lastIndexByte ⟨u.toArray⟩ 10∧Lib.lastIndexByte ⟨u.toArray⟩ 10<u.length:=by
  rcases L5 u with⟨h,_⟩|⟨i,h1,h2,_⟩<;>omega
 have hc:u.count 10≤u.length:=List.count_le_length
 have e1:(plS u).1=(u.count 10:Int)+1:=rfl
 have e2:(plS u).2=(u.length:Int)-Lib.lastIndexByte ⟨u.toArray⟩ 10:=rfl
 rw[e1,e2]
 generalize Lib.lastIndexByte ⟨u.toArray⟩ 10=x at hr
 refine⟨by omega,by omega,by omega,by omega⟩
theorem Bil{s:List UInt8}(hl:s.length<4611686018427387904){a:Nat}(ha:a≤s.length): ∀(n i:Nat),a-i=n→i≤a→
  A5 (fun(qj3:Int×Int×Int)=>match qj3 with
  |(line4,col5,i6)=>(
   if (decide (i6<(a:Int)))=true then
    (byO s i6).bind fun x7=>
    ((if (x7==10)=true then
      some (IntKind.wrap .i64 (line4+1),1)
    else
     some (line4,IntKind.wrap .i64 (col5+1))):Option (Int×Int)).bind fun(line9,col10)=>
    some (.inl (line9,col10,IntKind.wrap .i64 (i6+1)))
   else
    some (.inr (line4,col5)):Option ((Int×Int×Int)⊕(Int×Int)))) ((plS (s.take i)).1,(plS (s.take i)).2,(i:Int))=some (plS (s.take a)):=by
 intro n
 induction n with
 |zero=>
  intro i h1 h2
  have:i=a:=by omega
  subst this
  rw[Ay]
  have hd:decide ((i:Int)<(i:Int))=false:=decide_eq_false (by omega)
  simp only[hd,Bool.false_eq_true,if_false]
 |succ n ih=>
  intro i h1 h2
  have hi:i<s.length:=by omega
  have hd:decide ((i:Int)<(a:Int))=true:=decide_eq_true (by omega)
  have hw:IntKind.wrap .i64 ((i:Int)+1)=((i+1:Nat):Int):=by rw[wrap64 (by omega) (by omega)];rfl
  have hr:=Bp3 (s.take i)
  have hlt:(s.take i).length=i:=by rw[List.length_take];omega
  rw[hlt] at hr
  have htk:s.take (i+1)=s.take i++[s[i]]:=by rw[List.take_append_getElem hi]
  have h10:((s[i].toNat:Int)==10)=decide (s[i]=10):=N7 (n:=10) (by omega)
  have e1:IntKind.wrap .i64 ((plS (s.take i)).1+1)=(plS (s.take i)).1+1:=wrap64 (by omega) (by omega)
  have e2:IntKind.wrap .i64 ((plS (s.take i)).2+1)=(plS (s.take i)).2+1:=wrap64 (by omega) (by omega)
  rw[Bm,ih (i+1) (by omega) (by omega)]
  simp only[hd,if_true,Sq hi,Option.bind_some,hw,h10,e1,e2]
  rw[htk,Btm]
  by_cases p:s[i]=10
  ·rw[if_pos (decide_eq_true p),if_pos p]
   rfl
  ·rw[if_neg (by simp only[decide_eq_true_eq];exact p),if_neg p]
   rfl
theorem Ax9{s:List UInt8}(hl:s.length<4611686018427387904){a:Nat}(ha:a≤s.length):Ci s (a:Int)=some (plS (s.take a)):=by
 have:=Bil hl ha a 0 (by omega) (by omega)
 rw[List.take_zero,Bvy] at this
 unfold Ci
 exact Bh this rfl
def Sz(r:Rs (List Nd))(n:Nat):Prop:= ∀a,r.1=some a→a.length+r.2.length≤n
theorem Bn7{N:Nat}(hr: ∀ts' k,ts'.length<N→Sz (CL ts' k) ts'.length)(n:Nat): ∀(f:Nat) (out:List Nd) (own:Nat) (ts:List Tk),ts.length≤N→ ∀x j,C7 CL n f out own ts=(some x,j)→x.1.length+j.length≤out.length+ts.length
 |f,out,own,[],_,x,j,h=>by
  have:C7 CL n f out own []=(some (out,own),[]):=by cases f<;>rfl
  rw[this] at h;cases h;exact Nat.le_refl _
 |0,out,own,t::r,_,x,j,h=>by
  rw[C7] at h;cases h;exact Nat.le_refl _
 |f+1,out,own,t::r,hN,x,j,h=>by
  simp only[List.length_cons] at hN⊢
  by_cases hs:(Bj t).2=0∨(Bj t).2<n∨own<Ul (Bj t).2
  ·rw[E1 hs] at h;cases h;exact Nat.le_refl _
  ·rw[Kd hs] at h
   have hl:=(F4 r ((Bj t).2+1)).length_le
   have hz:=hr r ((Bj t).2+1) (by omega)
   cases hc:CL r ((Bj t).2+1) with
   |mk o i=>
    rw[hc] at h hl hz
    cases o with
    |none=>cases h
    |some b=>
     have h1:=hz b rfl
     simp only at hl h1
     have:=Bn7 hr n f _ _ i (by omega) x j h
     simp at this
     omega
theorem Bt{s:By}{ts:List Tk}(h:isT s ts=true): ∃t r,ts=t::r∧t.Ag≠2∧t.Aj=s:=by
 cases ts with
 |nil=>cases h
 |cons t r=>exact⟨t,r,rfl,of_decide_eq_true h⟩
theorem Cu{α β:Type}{r:Rs α}{k:α→List Tk→Rs β}{b:β}{j:List Tk}(h:bnd r k=(some b,j)): ∃a i,r=(some a,i)∧k a i=(some b,j):=by
 obtain⟨o,i⟩:=r
 cases o with
 |none=>cases h
 |some a=>exact⟨a,i,rfl,h⟩
theorem E2{β:Type}{s:By}{ts:List Tk}{k:List Tk→Rs β}{b:β}{j:List Tk}(h:H7 s ts k=(some b,j)): ∃t r,ts=t::r∧t.Ag≠2∧t.Aj=s∧k r=(some b,j):=by
 unfold H7 at h
 split at h
 ·obtain⟨t,r,rfl,h1,h2⟩:=Bt (by assumption)
  exact⟨t,r,rfl,h1,h2,h⟩
 ·cases h
theorem Byf: ∀(N:Nat) (ts:List Tk) (n:Nat),ts.length≤N→Sz (CL ts n) ts.length:=by
 intro N
 induction N with
 |zero=>
  intro ts n h
  obtain rfl:ts=[]:=List.eq_nil_of_length_eq_zero (by omega)
  rw[Bw7]
  intro a ha;cases ha
 |succ N ih=>
  intro ts n hN
  have hp: ∀a i,Dq CL ts=(some a,i)→a.length+i.length≤ts.length:=by
   intro a i h
   cases ts with
   |nil=>cases h
   |cons t r=>
    simp only[List.length_cons] at hN⊢
    unfold Dq at h
    simp only at h
    split at h
    ·obtain⟨a1,i1,h1,h2⟩:=Cu h
     obtain⟨t1,r1,rfl,_,_,h3⟩:=E2 h2
     cases h3
     have:=ih r 0 (by omega) _ (by rw[h1])
     rw[h1] at this
     simp at this
     omega
    ·split at h
     ·obtain⟨t1,r1,rfl,_,_,h3⟩:=E2 h
      obtain⟨a1,i1,h1,h2⟩:=Cu h3
      obtain⟨t2,r2,rfl,_,_,h4⟩:=E2 h2
      obtain⟨a2,i2,h5,h6⟩:=Cu h4
      obtain⟨t3,r3,rfl,_,_,h7⟩:=E2 h6
      cases h7
      simp only[List.length_cons] at hN⊢
      have e1:=ih r1 0 (by omega) _ (by rw[h1])
      rw[h1] at e1
      simp at e1
      have e2:=ih r2 0 (by omega) _ (by rw[h5])
      rw[h5] at e2
      simp at e2⊢
      omega
     ·split at h
      ·split at h
       ·obtain⟨t1,r1,rfl,_,_⟩:=Bt (by assumption)
        cases h;simp;omega
       ·cases h;simp;omega
      ·split at h
       ·cases h;simp;omega
       ·cases h
  have hf: ∀x i,Ce CL ts n=(some x,i)→x.1.length+i.length≤ts.length:=by
   intro x i h
   unfold Ce at h
   split at h
   ·obtain⟨t,r,rfl,_,_⟩:=Bt (And.right (by assumption))
    obtain⟨a1,i1,h1,h2⟩:=Cu h
    obtain⟨t1,r1,rfl,_,_,h3⟩:=E2 h2
    obtain⟨a2,i2,h4,h5⟩:=Cu h3
    obtain⟨t2,r2,rfl,_,_,h6⟩:=E2 h5
    obtain⟨a3,i3,h7,h8⟩:=Cu h6
    cases h8
    simp only[List.length_cons,List.tail_cons] at*
    have e1:=ih r 0 (by omega) _ (by rw[h1])
    rw[h1] at e1
    simp at e1
    have e2:=ih r1 0 (by omega) _ (by rw[h4])
    rw[h4] at e2
    simp at e2
    have e3:=ih r2 0 (by omega) _ (by rw[h7])
    rw[h7] at e3
    simp at e3⊢
    omega
   ·split at h
    ·obtain⟨t,r,rfl,_,_⟩:=Bt (And.right (by assumption))
     obtain⟨a1,i1,h1,h2⟩:=Cu h
     cases h2
     simp only[List.length_cons,List.tail_cons] at*
     have e1:=ih r 3 (by omega) _ (by rw[h1])
     rw[h1] at e1
     simp at e1⊢
     omega
    ·split at h
     ·obtain⟨t,r,rfl,_,_⟩:=Bt (by assumption)
      obtain⟨a1,i1,h1,h2⟩:=Cu h
      cases h2
      simp only[List.length_cons,List.tail_cons] at*
      have e1:=ih r 7 (by omega) _ (by rw[h1])
      rw[h1] at e1
      simp at e1⊢
      omega
     ·obtain⟨a1,i1,h1,h2⟩:=Cu h
      cases h2
      exact hp _ _ h1
  rw[Ase]
  intro a ha
  generalize hr:bnd (Ce CL ts n) (fun x i=>bnd (C7 CL n i.length x.1 x.2 i) fun y j=>(some y.1,j))=res at ha
  obtain⟨o,j⟩:=res
  cases ha
  obtain⟨x,i,h1,h2⟩:=Cu hr
  obtain⟨y,j',h3,h4⟩:=Cu h2
  cases h4
  have e1:=hf x i h1
  have hlt:=Bfy ts n (by rw[h1];simp)
  rw[h1] at hlt
  have e2:=Bn7 (N:=N) (fun ts' k hk=>ih ts' k (by omega)) n i.length x.1 x.2 i (by simp at hlt;omega) y j h3
  simp only at e1 e2⊢
  omega
theorem Cb{ts i:List Tk}{n:Nat}{a:List Nd}(h:CL ts n=(some a,i)):a.length+i.length≤ts.length:=by
 have:=Byf ts.length ts n (Nat.le_refl _) a (by rw[h])
 rw[h] at this
 exact this
def ps(l ts:List Tk):Int:=((l.length-ts.length:Nat):Int)
def RD(l ts:List Tk)(b:Bool):Ab:=⟨l,ps l ts,b⟩
theorem Bt4{l ts:List Tk}(h:ts <:+ l):l.drop (l.length-ts.length)=ts:=by
 obtain⟨p,rfl⟩:=h
 simp
theorem Wc{l r:List Tk}{t:Tk}(h:t::r <:+ l):rdO l (ps l (t::r))=some t:=by
 have hd:=Bt4 h
 have hle:=h.length_le
 unfold ps
 have hi:l.length-(t::r).length<l.length:=by simp at hle⊢;omega
 rw[Fj hi]
 have:=List.drop_eq_getElem_cons hi
 rw[hd] at this
 exact congrArg some (List.cons.inj this).1.symm
theorem Wb{l ts:List Tk}(h:ts <:+ l):decide (ps l ts<(l.length:Int))= !ts.isEmpty:=by
 have hle:=h.length_le
 unfold ps
 cases ts with
 |nil=>simp
 |cons t r=>
  simp only[List.length_cons] at hle⊢
  simp
  omega
theorem Bok{l ts:List Tk}(h:ts <:+ l):decide (ps l ts≥(l.length:Int))=ts.isEmpty:=by
 have:=Wb h
 cases ts with
 |nil=>
  simp only[List.isEmpty_nil,Bool.not_true,decide_eq_false_iff_not] at this
  simp only[List.isEmpty_nil,decide_eq_true_eq]
  omega
 |cons t r=>
  simp only[List.isEmpty_cons,Bool.not_false,decide_eq_true_eq] at this
  simp only[List.isEmpty_cons,decide_eq_false_iff_not]
  omega
theorem Dw{l r:List Tk}{t:Tk}(h:t::r <:+ l)(hl:l.length≤1000000):IntKind.wrap .i64 (ps l (t::r)+1)=ps l r:=by
 have hle:=h.length_le
 unfold ps
 simp only[List.length_cons] at hle⊢
 rw[wrap64 (by omega) (by omega)]
 omega
theorem Boj{l r:List Tk}{t:Tk}(h:t::r <:+ l)(hl:l.length≤1000000):IntKind.wrap .i64 (ps l r-1)=ps l (t::r):=by
 have hle:=h.length_le
 unfold ps
 simp only[List.length_cons] at hle⊢
 rw[wrap64 (by omega) (by omega)]
 omega
theorem Dc{l r:List Tk}{t:Tk}(h:t::r <:+ l):r <:+ l:=(List.suffix_cons t r).trans h
theorem Bf8(k:Int)(x s:By):((k !=2)&&(x==s))=decide (k≠2∧x=s):=by
 by_cases h1:k=2<;>by_cases h2:x=s<;>simp[h1,h2]
theorem A9i{l ts:List Tk}(h:ts <:+ l)(s:By)(b:Bool):Bw s (RD l ts b)=some (!b&&isT s ts):=by
 unfold Bw RD
 simp only[Option.bind_some,Wb h]
 cases b with
 |true=>rfl
 |false=>
  cases ts with
  |nil=>rfl
  |cons t r=>
   rw[Wc h]
   simp only[List.isEmpty_cons,Bool.not_false,Bool.and_true,Bool.true_and,A2,Option.bind_some,cond_true,Option.some.injEq,isT]
   rw[←Bf8]
   cases (t.Ag !=2)<;>rfl
theorem Aw3{l ts:List Tk}(h:ts <:+ l)(hl:l.length≤1000000)(s:By)(b:Bool):Bf s (RD l ts b)=some (if (!b&&isT s ts)=true then(true,RD l ts.tail b) else(false,RD l ts b)):=by
 unfold Bf
 rw[A9i h]
 simp only[Option.bind_some]
 cases hc:(!b&&isT s ts) with
 |false=>simp
 |true=>
  simp only[Bool.and_eq_true] at hc
  obtain⟨t,r,rfl,_,_⟩:=Bt hc.2
  simp only[Bool.not_true,Bool.false_eq_true,if_false,if_true,Option.some.injEq,Prod.mk.injEq,true_and]
  unfold RD
  simp only[Dw h hl,List.tail_cons]
def L1:List By→List Tk×Bool→List Tk×Bool
 |[],x=>x
 |s::ss,x=>if (!x.2&&isT s x.1)=true then L1 ss (x.1.tail,x.2) else(x.1,true)
theorem A9u: ∀(L:List By) (x:List Tk×Bool),(L1 L x).1 <:+ x.1
 |[],x=>List.suffix_refl _
 |s::ss,x=>by
  rw[L1]
  split
  ·exact(A9u ss _).trans Ui
  ·exact List.suffix_refl _
theorem Avz{l ts:List Tk}(h:ts <:+ l)(hl:l.length≤1000000)(L:List By)(hL:L.length≤1000000)(b:Bool):Aq L (RD l ts b)=some (RD l (L1 L (ts,b)).1 (L1 L (ts,b)).2):=by
 unfold Aq
 have key: ∀(t pre:List By) (ts:List Tk) (b:Bool),L=pre++t→ts <:+ l→A5 (fun(qj3:Int×Ab)=>match qj3 with
  |(x4,r5)=>(
   if (decide (x4<(L.length:Int)))=true then
    (rdO L x4).bind fun x6=>
    (Bf x6 r5).bind fun x7=>
    if (!x7.1)=true then
     some (.inr (⟨x7.2.J7,x7.2.C3,true⟩:Ab))
    else
     some (.inl (IntKind.wrap .i64 (x4+1),x7.2))
   else
    some (.inr r5):Option ((Int×Ab)⊕Ab))) ((pre.length:Int),RD l ts b)=some (RD l (L1 t (ts,b)).1 (L1 t (ts,b)).2):=by
  intro t
  induction t with
  |nil=>
   intro pre ts b he hs
   refine Ay ?_
   subst he
   simp[L1]
  |cons s t ih=>
   intro pre ts b he hs
   have hlen:pre.length<L.length:=by subst he;simp
   have hg:L[pre.length]=s:=by subst he;simp
   by_cases hc:(!b&&isT s ts)=true
   ·rw[Bm (s':=((((pre++[s]).length:Nat):Int),RD l ts.tail b)),ih (pre++[s]) ts.tail b (by simp[he]) (Ui.trans hs),L1,if_pos hc]
    show(if _ then _ else _)=_
    rw[if_pos (by simp;omega),Fj hlen,hg]
    simp only[Option.bind_some]
    rw[Aw3 hs hl,if_pos hc]
    simp only[Option.bind_some,Bool.not_true,Bool.false_eq_true,if_false,List.length_append,List.length_cons,List.length_nil,Option.some.injEq,Sum.inl.injEq,Prod.mk.injEq,and_true]
    rw[wrap64 (by omega) (by omega)]
    omega
   ·rw[L1,if_neg hc]
    refine Ay ?_
    show(if _ then _ else _)=_
    rw[if_pos (by simp;omega),Fj hlen,hg]
    simp only[Option.bind_some]
    rw[Aw3 hs hl,if_neg hc]
    rfl
 exact key L [] ts b rfl h
theorem Ane{s:By}{ss:List By}{ts:List Tk}:L1 (s::ss) (ts,true)=(ts,true):=by simp[L1]
theorem Anf{s:By}{ts:List Tk}:L1 [s] (ts,false)=if isT s ts=true then(ts.tail,false) else(ts,true):=by simp[L1]
theorem A9g{L:List By}(hL:L.length≤1000000)(s:By):Cn L s=some (L.contains s):=by
 unfold Cn Er
 have h:=Axv (f:=fun(qj3:Int)=>match qj3 with
  |x4=>(
   if (decide (x4<(L.length:Int)))=true then
    (rdO L x4).bind fun x5=>
    if (s==x5)=true then
     some (.inr (.inr x4))
    else
     some (.inl (IntKind.wrap .i64 (x4+1)))
   else
    some (.inr (.inl ())):Option (Int⊕(Unit⊕Int)))) (l:=L) (p:=fun x=>s==x) (o:=fun i=> .inr (i:Int)) (e:= .inl ()) (by omega)
  (fun i hi=>by
   show(if _ then _ else _)=_
   rw[if_pos (by simp;omega),Fj hi]
   simp only[Option.bind_some]
   split<;>rfl)
  (fun i hi=>by
   show(if _ then _ else _)=_
   rw[if_neg (by simp;omega)])
 rw[h]
 simp only[Option.bind_some]
 cases hf:Ato L (fun x=>s==x) with
 |none=>
  have:=Am0 hf
  simp only[Option.bind_some,Option.some.injEq]
  have h1:L.contains s=false:=by
   rw[←Bool.not_eq_true,List.contains_iff_mem]
   intro hm
   have:=this s hm
   simp at this
  rw[h1]
  rfl
 |some i=>
  obtain⟨hi,h1,_⟩:=Am1 hf
  simp only[Option.bind_some,Option.some.injEq]
  have h2:L.contains s=true:=by
   rw[List.contains_iff_mem]
   have:=eq_of_beq h1
   rw[this]
   exact List.getElem_mem hi
  rw[h2]
  simp
theorem Btk(s:By)(p:Bool):Zh s p=some (Av1 s p):=by
 unfold Zh
 cases p with
 |false=>
  simp only[Bool.false_eq_true,if_false,Option.bind_some]
  rw[A9g (by simp)]
  simp only[Option.bind_some,Av1,Bool.false_and,Bool.or_false]
  rfl
 |true=>
  simp only[if_true]
  have:apO 16 [[105,102],[116,104,101,110],[101,108,115,101],[97,110,100],[111,114],[110,111,116],[109,105,110],[109,97,120]] [[112,114,111,100,117,99,116],[98,97,115,105,115],[112,101,114,105,111,100],[116,105,101,114,115],[102,101,101],[109,105,110,105,109,117,109],[111,118,101,114,100,114,97,102,116],[110,111,116,105,99,101]]=some (Bx1++Bx2):=rfl
  rw[this]
  simp only[Option.bind_some]
  rw[A9g (by simp[Bx1,Bx2])]
  simp only[Option.bind_some,Av1,Bool.true_and,List.contains_eq_any_beq,List.any_append]
def Js(kind:Int)(p:Bool)(x:List Tk×Bool):By×List Tk×Bool:=match x with
 |(ts,true)=>([],ts,true)
 |([],false)=>([],[],true)
 |(t::r,false)=>if t.Ag≠kind∨(kind=0∧Av1 t.Aj p=true) then([],t::r,true) else(t.Aj,r,false)
theorem Bqo(kind:Int)(p:Bool)(x:List Tk×Bool):(Js kind p x).2.1 <:+ x.1:=by
 obtain⟨ts,b⟩:=x
 cases b with
 |true=>cases ts<;>exact List.suffix_refl _
 |false=>
  cases ts with
  |nil=>exact List.suffix_refl _
  |cons t r=>
   unfold Js
   simp only
   split
   ·exact List.suffix_refl _
   ·exact List.suffix_cons t r
theorem Aqt{l ts:List Tk}(h:ts <:+ l)(hl:l.length≤1000000)(kind:Int)(p b:Bool):Ba kind p (RD l ts b)=some ((Js kind p (ts,b)).1,RD l (Js kind p (ts,b)).2.1 (Js kind p (ts,b)).2.2):=by
 unfold Ba
 have e1:(RD l ts b).C3=ps l ts:=rfl
 have e2:(RD l ts b).J7=l:=rfl
 have e3:(RD l ts b).B9=b:=rfl
 simp only[Option.bind_some,e1,e2,e3,Bok h]
 cases b with
 |true=>cases ts<;>simp[gdO,Js,RD]
 |false=>
  cases ts with
  |nil=>simp[gdO,Js,RD]
  |cons t r=>
   rw[Wc h]
   simp only[List.isEmpty_cons,Bool.or_false,Bool.false_or,Bool.not_false,A2,cond_true,Option.bind_some]
   by_cases h1:t.Ag=kind
   ·have hb:(t.Ag !=kind)=false:=by simp[h1]
    simp only[hb,Bool.not_false,Bool.true_and,Bool.false_or]
    rw[Btk]
    by_cases h2:kind=0
    ·subst h2
     simp only[beq_self_eq_true,A2,cond_true,Option.bind_some,Bool.true_and]
     cases ho:Av1 t.Aj p with
     |true=>simp[Js,h1,ho,RD]
     |false=>
      simp only[Bool.false_eq_true,if_false]
      rw[Dw h hl,Boj h hl,Wc h]
      simp[Js,h1,ho,RD]
    ·have hz:(kind==0)=false:=by simp[h2]
     simp only[hz,A2,cond_false,Option.bind_some,Bool.false_and,Bool.false_eq_true,if_false]
     rw[Dw h hl,Boj h hl,Wc h]
     simp[Js,h1,h2,RD]
   ·have hb:(t.Ag !=kind)=true:=by simp[h1]
    simp only[hb,Bool.not_true,Bool.false_and,A2,gdO,Option.bind_some,Bool.true_or,if_true]
    simp[Js,h1,RD]
theorem Bph{L:List (List Nd)}(hL:L.length≤1000)(hs:L.flatten.length≤1000000):Dx L=some L.flatten:=by
 unfold Dx
 have h1:A5 (fun(qj2:Int×Int)=>match qj2 with
  |(size3,x4)=>(
   if (decide (x4<(L.length:Int)))=true then
    (rdO L x4).bind fun x5=>
    ((if (decide ((IntKind.wrap .i64 (size3+(x5.length:Int)))<0))=true then
      none
    else
     some ()):Option Unit).bind fun _=>
    some (.inl (IntKind.wrap .i64 (size3+(x5.length:Int)),IntKind.wrap .i64 (x4+1)))
   else
    some (.inr size3):Option ((Int×Int)⊕Int))) (0,0)=some (L.flatten.length:Int):=by
  have key: ∀(t pre:List (List Nd)),L=pre++t→A5 (fun(qj2:Int×Int)=>match qj2 with
  |(size3,x4)=>(
   if (decide (x4<(L.length:Int)))=true then
    (rdO L x4).bind fun x5=>
    ((if (decide ((IntKind.wrap .i64 (size3+(x5.length:Int)))<0))=true then
      none
    else
     some ()):Option Unit).bind fun _=>
    some (.inl (IntKind.wrap .i64 (size3+(x5.length:Int)),IntKind.wrap .i64 (x4+1)))
   else
    some (.inr size3):Option ((Int×Int)⊕Int))) ((pre.flatten.length:Int),(pre.length:Int))=some (L.flatten.length:Int):=by
   intro t
   induction t with
   |nil=>
    intro pre he
    refine Ay ?_
    subst he
    simp
   |cons x t ih=>
    intro pre he
    have hlen:pre.length<L.length:=by subst he;simp
    have hg:L[pre.length]=x:=by subst he;simp
    have hfl:pre.flatten.length+x.length≤L.flatten.length:=by subst he;simp
    rw[Bm (s':=((((pre++[x]).flatten.length:Nat):Int),(((pre++[x]).length:Nat):Int))),ih (pre++[x]) (by simp[he])]
    show(if _ then _ else _)=_
    rw[if_pos (by simp;omega),Fj hlen,hg]
    simp only[Option.bind_some]
    rw[wrap64 (x:=(pre.flatten.length:Int)+(x.length:Int)) (by omega) (by omega),wrap64 (by omega) (by omega),if_neg (by simp;omega)]
    simp
  exact key L [] rfl
 rw[h1]
 simp only[Option.bind_some]
 have hg:C9 Aa 24 (L.flatten.length:Int)=some []:=by
  unfold C9 Ec
  rw[if_pos ⟨by omega,by omega⟩]
  rfl
 rw[hg]
 simp only[Option.bind_some]
 have key: ∀(t pre:List (List Nd)),L=pre++t→A5 (fun(qj9:Int×(List Aa))=>match qj9 with
  |(x10,row11)=>(
   if (decide (x10<(L.length:Int)))=true then
    (rdO L x10).bind fun x12=>
    (apO 24 row11 x12).bind fun x13=>
    some (.inl (IntKind.wrap .i64 (x10+1),x13))
   else
    some (.inr row11):Option ((Int×(List Aa))⊕(List Aa)))) ((pre.length:Int),pre.flatten)=some L.flatten:=by
  intro t
  induction t with
  |nil=>
   intro pre he
   refine Ay ?_
   subst he
   simp
  |cons x t ih=>
   intro pre he
   have hlen:pre.length<L.length:=by subst he;simp
   have hg:L[pre.length]=x:=by subst he;simp
   have hfl:pre.flatten.length+x.length≤L.flatten.length:=by subst he;simp
   rw[Bm (s':=((((pre++[x]).length:Nat):Int),(pre++[x]).flatten)),ih (pre++[x]) (by simp[he])]
   show(if _ then _ else _)=_
   rw[if_pos (by simp;omega),Fj hlen,hg]
   simp only[Option.bind_some]
   unfold apO
   rw[if_pos (by omega)]
   simp only[Option.bind_some]
   rw[wrap64 (by omega) (by omega)]
   simp
 exact Bh (key L [] rfl) rfl
theorem Bby{k:Int}{L:List (List Nd)}(hL:L.length≤1000)(hs:L.flatten.length≤1000000):Cj k L=some (⟨k,[]⟩::L.flatten):=by
 unfold Cj
 rw[Bph hL hs]
 simp only[Option.bind_some]
 unfold apO
 rw[if_pos (by simp only[List.length_cons,List.length_nil];omega)]
 rfl
def Aye:List (By×As):=[(sOr,⟨13,1⟩),(Bis,⟨12,2⟩),([60],⟨7,4⟩),([60,61],⟨8,4⟩),([61],⟨9,4⟩),([62],⟨10,4⟩),([62,61],⟨11,4⟩),([43],⟨3,5⟩),([45],⟨4,5⟩),([42],⟨5,6⟩),([47],⟨6,6⟩)]
theorem Bt6:Ans=some Aye:=by decide +kernel
theorem Bqm(s:By):(((A6m Aye s).getD ⟨0,0⟩).Ati,((A6m Aye s).getD ⟨0,0⟩).Ad6)=((Au2 s).1,((Au2 s).2:Int))∧((A6m Aye s).isSome=decide ((Au2 s).2≠0)):=by
 unfold Au2
 by_cases h0:s=sOr
 ·subst h0;exact⟨rfl,rfl⟩
 simp only[if_neg h0]
 by_cases h1:s=Bis
 ·subst h1;exact⟨rfl,rfl⟩
 simp only[if_neg h1]
 by_cases h2:s=[60]
 ·subst h2;exact⟨rfl,rfl⟩
 simp only[if_neg h2]
 by_cases h3:s=[60,61]
 ·subst h3;exact⟨rfl,rfl⟩
 simp only[if_neg h3]
 by_cases h4:s=[61]
 ·subst h4;exact⟨rfl,rfl⟩
 simp only[if_neg h4]
 by_cases h5:s=[62]
 ·subst h5;exact⟨rfl,rfl⟩
 simp only[if_neg h5]
 by_cases h6:s=[62,61]
 ·subst h6;exact⟨rfl,rfl⟩
 simp only[if_neg h6]
 by_cases h7:s=[43]
 ·subst h7;exact⟨rfl,rfl⟩
 simp only[if_neg h7]
 by_cases h8:s=[45]
 ·subst h8;exact⟨rfl,rfl⟩
 simp only[if_neg h8]
 by_cases h9:s=[42]
 ·subst h9;exact⟨rfl,rfl⟩
 simp only[if_neg h9]
 by_cases h10:s=[47]
 ·subst h10;exact⟨rfl,rfl⟩
 simp only[if_neg h10]
 have hn:A6m Aye s=none:=by
  unfold A6m
  rw[List.find?_eq_none.2 (by
   intro x hx
   simp only[Aye,List.mem_cons,List.not_mem_nil,or_false] at hx
   rcases hx with rfl|rfl|rfl|rfl|rfl|rfl|rfl|rfl|rfl|rfl|rfl<;>simp[*])]
  rfl
 rw[hn]
 exact⟨rfl,rfl⟩
theorem Bor{t:Tk}(h:t.Ag≠2):Bj t=Au2 t.Aj:=by unfold Bj;rw[if_neg h]
def Aqy(n:Nat)(ts:List Tk)(b:Bool):Bool:= !b&&match ts with
 |[]=>false
 |t::_=>decide ((Bj t).2=n)
theorem Ate{l ts:List Tk}(h:ts <:+ l){n:Nat}(hn:1≤n)(b:Bool): ∃k,B6 (n:Int) (RD l ts b)=some (k,Aqy n ts b)∧(Aqy n ts b=true→ ∃t r,ts=t::r∧b=false∧(Bj t).2=n∧k=(Bj t).1):=by
 unfold B6
 have e1:(RD l ts b).C3=ps l ts:=rfl
 have e2:(RD l ts b).J7=l:=rfl
 have e3:(RD l ts b).B9=b:=rfl
 simp only[Option.bind_some,e1,e2,e3,Bok h]
 cases b with
 |true=>exact⟨0,by simp[gdO,Aqy],by simp[Aqy]⟩
 |false=>
  cases ts with
  |nil=>exact⟨0,by simp[gdO,Aqy],by simp[Aqy]⟩
  |cons t r=>
   rw[Wc h,Bt6]
   simp only[List.isEmpty_cons,Bool.or_false,Bool.false_or,Bool.not_false,A2,cond_true,Option.bind_some]
   by_cases h2:t.Ag=2
   ·refine⟨0,(by simp[h2,Aqy,Bj];omega),fun hb=>?_⟩
    simp[h2,Aqy,Bj] at hb
    omega
   ·have hb:(t.Ag==2)=false:=by simp[h2]
    obtain⟨g1,g2⟩:=Bqm t.Aj
    have g3:=congrArg Prod.fst g1
    have g4:=congrArg Prod.snd g1
    simp only at g3 g4
    rw[hb,g2]
    simp only[Bool.false_eq_true,if_false,Option.bind_some]
    rw[g3,g4]
    refine⟨(Au2 t.Aj).1,?_,fun hb2=>⟨t,r,(by simp),(by simp),?_,?_⟩⟩
    ·simp only[Aqy,Option.some.injEq,Prod.mk.injEq,true_and,Bor h2,Bool.not_false]
     rw[Bool.eq_iff_iff]
     simp only[Bool.and_eq_true,decide_eq_true_eq,beq_iff_eq,Bool.true_and]
     constructor
     ·rintro⟨h3,h4⟩;omega
     ·intro h3;omega
    ·simpa [Aqy] using hb2
    ·rw[Bor h2]
theorem A1s{l ts:List Tk}(h:ts <:+ l){n:Nat}(hn:1≤n): ∃k,B6 (n:Int) (RD l ts true)=some (k,false):=by
 obtain⟨k,h1,_⟩:=Ate h hn true
 exact⟨k,h1⟩
theorem Ap3{l ts:List Tk}(h:ts <:+ l)(hl:l.length≤1000000){s:By}(hs:isT s ts=true):Bf s (RD l ts false)=some (true,RD l ts.tail false):=by
 rw[Aw3 h hl];simp[hs]
theorem Aiw{l ts:List Tk}(h:ts <:+ l)(hl:l.length≤1000000){s:By}(hs: ¬isT s ts=true):Bf s (RD l ts false)=some (false,RD l ts false):=by
 rw[Aw3 h hl];simp[hs]
theorem Buf{l ts:List Tk}(h:ts <:+ l)(hl:l.length≤1000000){s:By}:Bf s (RD l ts true)=some (false,RD l ts true):=by
 rw[Aw3 h hl];simp
theorem F1{l ts:List Tk}(h:ts <:+ l)(hl:l.length≤1000000){s:By}(hs:isT s ts=true):Aq [s] (RD l ts false)=some (RD l ts.tail false):=by
 rw[Avz h hl _ (by simp),Anf,if_pos hs]
theorem Ax0{l ts:List Tk}(h:ts <:+ l)(hl:l.length≤1000000){s:By}(hs: ¬isT s ts=true):Aq [s] (RD l ts false)=some (RD l ts true):=by
 rw[Avz h hl _ (by simp),Anf,if_neg hs]
theorem Ke{l ts:List Tk}(h:ts <:+ l)(hl:l.length≤1000000){s:By}:Aq [s] (RD l ts true)=some (RD l ts true):=by
 rw[Avz h hl _ (by simp),Ane]
theorem Bpv(f:Nat)(n:Int)(l ts:List Tk):parse_reader_level (f+1) n (RD l ts true)=some ([],RD l ts true):=by
 rw[parse_reader_level]
 rfl
theorem Jw{l ts:List Tk}(h:ts <:+ l)(hl:l.length≤1000000)(f:Nat):parse_reader_any (f+2) (RD l ts true)=some ([],RD l ts true):=by
 rw[parse_reader_any,Buf h hl]
 simp only[Option.bind_some,Bool.not_false,if_true]
 rw[Bpv]
 rfl
def NB(o:List Nd):Prop:= ∀n∈o,n.Aj.length≤1000000
theorem De:NB []↔True:=by simp[NB]
theorem Cc{n:Nd}{o:List Nd}:NB (n::o)↔n.Aj.length≤1000000∧NB o:=by simp[NB]
theorem Dd{a b:List Nd}:NB (a++b)↔NB a∧NB b:=by
 unfold NB
 constructor
 ·intro h;exact⟨fun n hn=>h n (by simp[hn]),fun n hn=>h n (by simp[hn])⟩
 ·rintro⟨h1,h2⟩ n hn
  rcases List.mem_append.1 hn with h|h
  ·exact h1 n h
  ·exact h2 n h
def PG(F:Ab→Option (List Nd×Ab))(l ts:List Tk)(r:Rs (List Nd)):Prop:=
 ∃o,F (RD l ts false)=some (o,RD l r.2 r.1.isNone)∧(∀a,r.1=some a→o=a)∧o.length≤ts.length+1∧NB o
structure Fit (l:List Tk):Prop where
 len:l.length≤100000
 tx: ∀t∈l,t.Aj.length≤100000
theorem Fit.l6{l:List Tk}(h:Fit l):l.length≤1000000:=by have:=h.len;omega
theorem Fit.le{l ts:List Tk}(h:Fit l)(hs:ts <:+ l):ts.length≤100000:=by have:=h.len;have:=hs.length_le;omega
theorem Ass{k:Int}{a b:List Nd}(h:a.length+b.length≤1000000):Cj k [a,b]=some (⟨k,[]⟩::(a++b)):=by
 rw[Bby (by simp) (by simp;omega)];simp
theorem Boe{k:Int}{a:List Nd}(h:a.length≤1000000):Cj k [a]=some (⟨k,[]⟩::a):=by
 rw[Bby (by simp) (by simp;omega)];simp
theorem node3{k:Int}{a b c:List Nd}(h:a.length+b.length+c.length≤1000000):Cj k [a,b,c]=some (⟨k,[]⟩::(a++b++c)):=by
 rw[Bby (by simp) (by simp;omega)];simp
theorem PG.of{F:Ab→Option (List Nd×Ab)}{l ts:List Tk}{r:Rs (List Nd)}(h:PG F l ts r):(∃a i,r=(some a,i)∧F (RD l ts false)=some (a,RD l i false)∧NB a)∨(∃o i,r=(none,i)∧F (RD l ts false)=some (o,RD l i true)∧o.length≤ts.length+1∧NB o):=by
 obtain⟨o,h1,h2,h3,h4⟩:=h
 obtain⟨x,i⟩:=r
 cases x with
 |none=>exact Or.inr ⟨o,i,rfl,h1,h3,h4⟩
 |some a=>
  have:=h2 a rfl
  subst this
  exact Or.inl ⟨o,i,rfl,h1,h4⟩
theorem Amk{F:Ab→Option (List Nd×Ab)}{l ts i:List Tk}{a:List Nd}(h:F (RD l ts false)=some (a,RD l i false))(hz:a.length≤ts.length+1)(hn:NB a):PG F l ts (some a,i):=
 ⟨a,h,fun b hb=>Option.some.inj hb,hz,hn⟩
theorem PG.no{F:Ab→Option (List Nd×Ab)}{l ts i:List Tk}{o:List Nd}(h:F (RD l ts false)=some (o,RD l i true))(hz:o.length≤ts.length+1)(hn:NB o):PG F l ts (none,i):=
 ⟨o,h,(fun b hb=>by cases hb),hz,hn⟩
theorem A95{l ts:List Tk}(hF:Fit l)(h:ts <:+ l){f:Nat}(hf:2≤f)(ih: ∀r,r <:+ l→r.length<ts.length→PG (parse_reader_any f) l r (CL r 0)):PG (parse_reader_primary (f+1)) l ts (Dq CL ts):=by
 have hl:=hF.l6
 obtain⟨f,rfl⟩: ∃g,f=g+2:=⟨f-2,by omega⟩
 have hle:=hF.le h
 cases ts with
 |nil=>
  refine PG.no (o:=[⟨1,[]⟩]) ?_ (by simp) (by(try simp only[De,Cc,Dd,List.length_append,List.length_cons,List.length_nil]);(repeat' apply And.intro)<;>first|assumption|omega|trivial)
  rw[parse_reader_primary,Aiw h hl (by simp[isT])]
  simp only[Option.bind_some,A9i h]
  have e0:ps l []<(l.length:Int)↔False:=by have:=Wb h;simpa using this
  have e1:(RD l [] false).C3=ps l []:=rfl
  have e2:(RD l [] false).J7=l:=rfl
  simp only[isT,Bool.and_false,Bool.not_false,Bool.false_eq_true,if_false,A2,Option.bind_some,cond_true,Bool.or_false,Bool.cond_self,e1,e2,e0,decide_false,gdO,Bool.false_and]
  have:=Aqt h hl 0 false false
  rw[show(⟨l,ps l [],(RD l [] false).B9⟩:Ab)=RD l [] false from rfl,this]
  rfl
 |cons t r=>
  have hr:=Dc h
  simp only[List.length_cons] at hle
  by_cases hp:isT [40] (t::r)=true
  ·have hspec:Dq CL (t::r)=bnd (CL r 0) fun a i=>H7 [41] i fun j=>(some a,j):=by unfold Dq;simp only[if_pos hp]
   rw[hspec]
   have hprog:parse_reader_primary (f+2+1) (RD l (t::r) false)=(parse_reader_any (f+2) (RD l r false)).bind fun x3=>(Aq [[41]] x3.2).bind fun x4=>some (x3.1,x4):=by
    rw[parse_reader_primary,Ap3 h hl hp]
    rfl
   rcases(ih r hr (by simp)).of with⟨a,i,e1,e2,nb1⟩|⟨o,i,e1,e2,e3,nb3⟩
   ·rw[e1]
    have hz:=Cb e1
    have hi:i <:+ l:=by have:=(F4 r 0).trans hr;rw[e1] at this;exact this
    show PG _ _ _ (H7 [41] i fun j=>(some a,j))
    unfold H7
    by_cases hc:isT [41] i=true
    ·rw[if_pos hc]
     refine Amk ?_ (by simp;omega) (by(try simp only[De,Cc,Dd,List.length_append,List.length_cons,List.length_nil]);(repeat' apply And.intro)<;>first|assumption|omega|trivial)
     rw[hprog,e2]
     simp only[Option.bind_some]
     rw[F1 hi hl hc]
     rfl
    ·rw[if_neg hc]
     refine PG.no (o:=a) ?_ (by simp;omega) (by(try simp only[De,Cc,Dd,List.length_append,List.length_cons,List.length_nil]);(repeat' apply And.intro)<;>first|assumption|omega|trivial)
     rw[hprog,e2]
     simp only[Option.bind_some]
     rw[Ax0 hi hl hc]
     rfl
   ·rw[e1]
    have hi:i <:+ l:=by have:=(F4 r 0).trans hr;rw[e1] at this;exact this
    refine PG.no (o:=o) ?_ (by simp;omega) (by(try simp only[De,Cc,Dd,List.length_append,List.length_cons,List.length_nil]);(repeat' apply And.intro)<;>first|assumption|omega|trivial)
    rw[hprog,e2]
    simp only[Option.bind_some]
    rw[Ke hi hl]
    rfl
  ·by_cases hm:(isT Amf (t::r)||isT A05 (t::r))=true
   ·have hspec:Dq CL (t::r)=H7 [40] r fun r2=>bnd (CL r2 0) fun a i=>H7 [44] i fun i2=>bnd (CL i2 0) fun b j=>H7 [41] j fun j2=>
      (some (⟨if t.Aj=Amf then 16 else 17,[]⟩::(a++b)),j2):=by unfold Dq;simp only[if_neg hp,if_pos hm]
    rw[hspec]
    generalize hk:(if t.Aj=Amf then(16:Int) else 17)=k
    have hprog:parse_reader_primary (f+2+1) (RD l (t::r) false)=(Aq [[40]] (RD l r false)).bind fun x10=>(parse_reader_any (f+2) x10).bind fun x11=>
      (Aq [[44]] x11.2).bind fun x12=>(parse_reader_any (f+2) x12).bind fun x13=>(Aq [[41]] x13.2).bind fun x14=>(Cj k [x11.1,x13.1]).bind fun x15=>some (x15,x14):=by
     rw[parse_reader_primary,Aiw h hl hp]
     simp only[Option.bind_some,A9i h,Bool.not_false,Bool.true_and,A2,Bool.cond_self]
     have hm2:(isT [109,105,110] (t::r)||bif !isT [109,105,110] (t::r) then isT [109,97,120] (t::r) else default)=true:=by
      have e1:Amf=[109,105,110]:=rfl
      have e2:A05=[109,97,120]:=rfl
      rw[e1,e2] at hm
      cases hx:isT [109,105,110] (t::r) with
      |true=>rfl
      |false=>rw[hx] at hm;simpa using hm
     rw[if_pos hm2]
     have e3:(⟨(RD l (t::r) false).J7,(RD l (t::r) false).C3,(RD l (t::r) false).B9⟩:Ab)=RD l (t::r) false:=rfl
     have e4:IntKind.wrap .i64 ((RD l (t::r) false).C3+1)=ps l r:=Dw h hl
     rw[e4]
     have e5:(⟨(RD l (t::r) false).J7,ps l r,(RD l (t::r) false).B9⟩:Ab)=RD l r false:=rfl
     rw[e5]
     have hk2:(if (isT [109,97,120] (t::r))=true then some (17:Int) else some 16)=some k:=by
      rw[←hk]
      by_cases hx:t.Aj=Amf
      ·have:isT [109,97,120] (t::r)=false:=by simp[isT,hx,Amf]
       rw[this,if_pos hx];rfl
      ·have:isT [109,97,120] (t::r)=true:=by
        rcases(Bool.or_eq_true_iff).1 hm with hy|hy
        ·exact absurd (of_decide_eq_true hy).2 hx
        ·exact hy
       rw[this,if_neg hx];rfl
     simp only[Bool.false_eq_true,if_false,hk2,Option.bind_some]
    unfold H7
    by_cases hc:isT [40] r=true
    ·rw[if_pos hc]
     obtain⟨t1,r1,rfl,_,_⟩:=Bt hc
     simp only[List.tail_cons,List.length_cons] at hle⊢
     have hr1:=Dc hr
     rcases(ih r1 hr1 (by simp;omega)).of with⟨a,i,e1,e2,nb1⟩|⟨o,i,e1,e2,e3,nb3⟩
     ·rw[e1]
      have hz:=Cb e1
      have hi:i <:+ l:=by have:=(F4 r1 0).trans hr1;rw[e1] at this;exact this
      have hil:i.length≤r1.length:=by have:=(F4 r1 0).length_le;rw[e1] at this;exact this
      show PG _ _ _ (if isT [44] i=true then _ else _)
      by_cases hc2:isT [44] i=true
      ·rw[if_pos hc2]
       obtain⟨t2,r2,rfl,_,_⟩:=Bt hc2
       simp only[List.tail_cons,List.length_cons] at hz hil⊢
       have hr2:=Dc hi
       rcases(ih r2 hr2 (by simp;omega)).of with⟨b,j,e4,e5,nb4⟩|⟨o,j,e4,e5,e6,nb6⟩
       ·rw[e4]
        have hz2:=Cb e4
        have hj:j <:+ l:=by have:=(F4 r2 0).trans hr2;rw[e4] at this;exact this
        show PG _ _ _ (if isT [41] j=true then _ else _)
        by_cases hc3:isT [41] j=true
        ·rw[if_pos hc3]
         refine Amk ?_ (by simp;omega) (by(try simp only[De,Cc,Dd,List.length_append,List.length_cons,List.length_nil]);(repeat' apply And.intro)<;>first|assumption|omega|trivial)
         rw[hprog,F1 hr hl hc]
         simp only[Option.bind_some,List.tail_cons,e2]
         rw[F1 hi hl hc2]
         simp only[Option.bind_some,List.tail_cons,e5]
         rw[F1 hj hl hc3]
         simp only[Option.bind_some,List.tail_cons]
         rw[Ass (by omega)]
         rfl
        ·rw[if_neg hc3]
         refine PG.no (o:=⟨k,[]⟩::(a++b)) ?_ (by simp;omega) (by(try simp only[De,Cc,Dd,List.length_append,List.length_cons,List.length_nil]);(repeat' apply And.intro)<;>first|assumption|omega|trivial)
         rw[hprog,F1 hr hl hc]
         simp only[Option.bind_some,List.tail_cons,e2]
         rw[F1 hi hl hc2]
         simp only[Option.bind_some,List.tail_cons,e5]
         rw[Ax0 hj hl hc3]
         simp only[Option.bind_some,List.tail_cons]
         rw[Ass (by omega)]
         rfl
       ·rw[e4]
        have hj:j <:+ l:=by have:=(F4 r2 0).trans hr2;rw[e4] at this;exact this
        refine PG.no (o:=⟨k,[]⟩::(a++o)) ?_ (by simp;omega) (by(try simp only[De,Cc,Dd,List.length_append,List.length_cons,List.length_nil]);(repeat' apply And.intro)<;>first|assumption|omega|trivial)
        rw[hprog,F1 hr hl hc]
        simp only[Option.bind_some,List.tail_cons,e2]
        rw[F1 hi hl hc2]
        simp only[Option.bind_some,List.tail_cons,e5]
        rw[Ke hj hl]
        simp only[Option.bind_some,List.tail_cons]
        rw[Ass (by omega)]
        rfl
      ·rw[if_neg hc2]
       refine PG.no (o:=⟨k,[]⟩::(a++[])) ?_ (by simp;omega) (by(try simp only[De,Cc,Dd,List.length_append,List.length_cons,List.length_nil]);(repeat' apply And.intro)<;>first|assumption|omega|trivial)
       rw[hprog,F1 hr hl hc]
       simp only[Option.bind_some,List.tail_cons,e2]
       rw[Ax0 hi hl hc2]
       simp only[Option.bind_some,List.tail_cons]
       rw[Jw hi hl]
       simp only[Option.bind_some]
       rw[Ke hi hl]
       simp only[Option.bind_some]
       rw[Ass (by simp;omega)]
       rfl
     ·rw[e1]
      have hi:i <:+ l:=by have:=(F4 r1 0).trans hr1;rw[e1] at this;exact this
      refine PG.no (o:=⟨k,[]⟩::(o++[])) ?_ (by simp;omega) (by(try simp only[De,Cc,Dd,List.length_append,List.length_cons,List.length_nil]);(repeat' apply And.intro)<;>first|assumption|omega|trivial)
      rw[hprog,F1 hr hl hc]
      simp only[Option.bind_some,List.tail_cons,e2]
      rw[Ke hi hl]
      simp only[Option.bind_some,List.tail_cons]
      rw[Jw hi hl]
      simp only[Option.bind_some]
      rw[Ke hi hl]
      simp only[Option.bind_some]
      rw[Ass (by simp;omega)]
      rfl
    ·rw[if_neg hc]
     refine PG.no (o:=[⟨k,[]⟩]) ?_ (by simp) (by(try simp only[De,Cc,Dd,List.length_append,List.length_cons,List.length_nil]);(repeat' apply And.intro)<;>first|assumption|omega|trivial)
     rw[hprog,Ax0 hr hl hc]
     simp only[Option.bind_some]
     rw[Jw hr hl]
     simp only[Option.bind_some]
     rw[Ke hr hl]
     simp only[Option.bind_some]
     rw[Jw hr hl]
     simp only[Option.bind_some]
     rw[Ke hr hl]
     simp only[Option.bind_some]
     rw[Ass (by simp)]
     rfl
   ·have hspec:Dq CL (t::r)=if t.Ag=1 then(if isT [37] r=true then(some [⟨0,t.Aj++[37]⟩],r.tail) else(some [⟨0,t.Aj⟩],r))
      else if t.Ag=0∧Av1 t.Aj false=false then(some [⟨1,t.Aj⟩],r) else(none,t::r):=by unfold Dq;simp only[if_neg hp,if_neg hm]
    rw[hspec]
    have hprog:parse_reader_primary (f+2+1) (RD l (t::r) false)=if (t.Ag==1)=true then
      (Ba 1 false (RD l (t::r) false)).bind fun x18=>
      (Bf [37] x18.2).bind fun x19=>
      ((if x19.1=true then
        (Bkd x18.1 [37]).bind fun x21=>
        some x21
      else
       some x18.1):Option (List UInt8)).bind fun j20=>
      some ([(⟨0,j20⟩:Aa)],x19.2)
     else
      (Ba 0 false (RD l (t::r) false)).bind fun x23=>
      some ([(⟨1,x23.1⟩:Aa)],x23.2):=by
     rw[parse_reader_primary,Aiw h hl hp]
     simp only[Option.bind_some,A9i h,Bool.not_false,Bool.true_and,A2,Bool.cond_self]
     have hm2:(isT [109,105,110] (t::r)||bif !isT [109,105,110] (t::r) then isT [109,97,120] (t::r) else default)=false:=by
      have e1:Amf=[109,105,110]:=rfl
      have e2:A05=[109,97,120]:=rfl
      rw[e1,e2] at hm
      cases hx:isT [109,105,110] (t::r) with
      |true=>rw[hx] at hm;simp at hm
      |false=>rw[hx] at hm;simpa using hm
     rw[hm2]
     have e4:(decide ((RD l (t::r) false).C3<((RD l (t::r) false).J7.length:Int)))=true:=Wb h
     have e5:rdO (RD l (t::r) false).J7 (RD l (t::r) false).C3=some t:=Wc h
     simp only[Bool.false_eq_true,if_false,e4,e5,A2,cond_true,Option.bind_some,Bool.true_and]
    have htx:t.Aj.length≤100000:=hF.tx t (h.subset (by simp))
    by_cases h1:t.Ag=1
    ·have hb:(t.Ag==1)=true:=by simp[h1]
     have hs:Js 1 false (t::r,false)=(t.Aj,r,false):=by simp[Js,h1]
     rw[if_pos h1]
     by_cases hc:isT [37] r=true
     ·rw[if_pos hc]
      refine Amk ?_ (by simp) (by(try simp only[De,Cc,Dd,List.length_append,List.length_cons,List.length_nil]);(repeat' apply And.intro)<;>first|assumption|omega|trivial)
      rw[hprog,if_pos hb,Aqt h hl,hs]
      simp only[Option.bind_some]
      rw[Ap3 hr hl hc]
      simp only[Option.bind_some,if_true]
      unfold Bkd
      rw[if_pos (by simp;omega)]
      rfl
     ·rw[if_neg hc]
      refine Amk ?_ (by simp) (by(try simp only[De,Cc,Dd,List.length_append,List.length_cons,List.length_nil]);(repeat' apply And.intro)<;>first|assumption|omega|trivial)
      rw[hprog,if_pos hb,Aqt h hl,hs]
      simp only[Option.bind_some]
      rw[Aiw hr hl hc]
      rfl
    ·have hb:(t.Ag==1)=false:=by simp[h1]
     rw[if_neg h1]
     by_cases h2:t.Ag=0∧Av1 t.Aj false=false
     ·rw[if_pos h2]
      have hs:Js 0 false (t::r,false)=(t.Aj,r,false):=by simp[Js,h2.1,h2.2]
      refine Amk ?_ (by simp) (by(try simp only[De,Cc,Dd,List.length_append,List.length_cons,List.length_nil]);(repeat' apply And.intro)<;>first|assumption|omega|trivial)
      rw[hprog,hb]
      simp only[Bool.false_eq_true,if_false]
      rw[Aqt h hl,hs]
      rfl
     ·rw[if_neg h2]
      have hs:Js 0 false (t::r,false)=([],t::r,true):=by
       simp only[Js]
       rw[if_pos]
       by_cases h3:t.Ag=0
       ·right
        cases ho:Av1 t.Aj false with
        |true=>simp
        |false=>exact absurd ⟨h3,ho⟩ h2
       ·exact Or.inl h3
      refine PG.no (o:=[⟨1,[]⟩]) ?_ (by simp) (by(try simp only[De,Cc,Dd,List.length_append,List.length_cons,List.length_nil]);(repeat' apply And.intro)<;>first|assumption|omega|trivial)
      rw[hprog,hb]
      simp only[Bool.false_eq_true,if_false]
      rw[Aqt h hl,hs]
      rfl
theorem Il{ts l i:List Tk}{n:Nat}{o:Option (List Nd)}(h:ts <:+ l)(e:CL ts n=(o,i)):i <:+ l:=by
 have:=(F4 ts n).trans h;rw[e] at this;exact this
theorem Avr{ts i:List Tk}{n:Nat}{o:Option (List Nd)}(e:CL ts n=(o,i)):i.length≤ts.length:=by
 have:=(F4 ts n).length_le;rw[e] at this;exact this
theorem A5j{l ts:List Tk}(hF:Fit l)(h:ts <:+ l){f:Nat}(hp:PG (parse_reader_primary f) l ts (Dq CL ts))
  (ih: ∀r,r <:+ l→r.length<ts.length→PG (parse_reader_level f 7) l r (CL r 7)):PG (parse_reader_level (f+1) 7) l ts (CL ts 7):=by
 have hl:=hF.l6
 have hle:=hF.le h
 rw[Bq7]
 by_cases hc:isT [45] ts=true
 ·rw[if_pos hc]
  obtain⟨t,r,rfl,_,_⟩:=Bt hc
  have hr:=Dc h
  have hprog:parse_reader_level (f+1) 7 (RD l (t::r) false)=(parse_reader_level f 7 (RD l r false)).bind fun x8=>(Cj 2 [x8.1]).bind fun x9=>some (x9,x8.2):=by
   rw[parse_reader_level]
   have e:(RD l (t::r) false).B9=false:=rfl
   simp only[e,Bool.false_eq_true,if_false]
   rw[if_neg (by simp),if_pos (by simp),Ap3 h hl hc]
   rfl
  simp only[List.tail_cons,List.length_cons] at hle⊢
  rcases(ih r hr (by simp)).of with⟨a,i,e1,e2,nb1⟩|⟨o,i,e1,e2,e3,nb3⟩
  ·rw[e1]
   have hz:=Cb e1
   refine Amk ?_ (by simp;omega) (by(try simp only[De,Cc,Dd,List.length_append,List.length_cons,List.length_nil]);(repeat' apply And.intro)<;>first|assumption|omega|trivial)
   rw[hprog,e2]
   simp only[Option.bind_some]
   rw[Boe (by omega)]
   rfl
  ·rw[e1]
   refine PG.no (o:=⟨2,[]⟩::o) ?_ (by simp;omega) (by(try simp only[De,Cc,Dd,List.length_append,List.length_cons,List.length_nil]);(repeat' apply And.intro)<;>first|assumption|omega|trivial)
   rw[hprog,e2]
   simp only[Option.bind_some]
   rw[Boe (by omega)]
   rfl
 ·rw[if_neg hc]
  have hprog:parse_reader_level (f+1) 7 (RD l ts false)=parse_reader_primary f (RD l ts false):=by
   rw[parse_reader_level]
   have e:(RD l ts false).B9=false:=rfl
   simp only[e,Bool.false_eq_true,if_false]
   rw[if_neg (by simp),if_pos (by simp),Aiw h hl hc]
   simp only[Option.bind_some,Bool.false_eq_true,if_false]
   cases parse_reader_primary f (RD l ts false)<;>rfl
  unfold PG at hp⊢
  rw[hprog]
  exact hp
theorem A5w{l ts:List Tk}(hF:Fit l)(h:ts <:+ l){f:Nat}(hp:PG (parse_reader_level f 4) l ts (CL ts 4))
  (ih: ∀r,r <:+ l→r.length<ts.length→PG (parse_reader_level f 3) l r (CL r 3)):PG (parse_reader_level (f+1) 3) l ts (CL ts 3):=by
 have hl:=hF.l6
 have hle:=hF.le h
 rw[Bq8]
 by_cases hc:isT Apy ts=true
 ·rw[if_pos hc]
  obtain⟨t,r,rfl,_,_⟩:=Bt hc
  have hr:=Dc h
  have hprog:parse_reader_level (f+1) 3 (RD l (t::r) false)=(parse_reader_level f 3 (RD l r false)).bind fun x8=>(Cj 14 [x8.1]).bind fun x9=>some (x9,x8.2):=by
   rw[parse_reader_level]
   have e:(RD l (t::r) false).B9=false:=rfl
   simp only[e,Bool.false_eq_true,if_false]
   rw[if_pos (by simp),show([110,111,116]:By)=Apy from rfl,Ap3 h hl hc]
   rfl
  simp only[List.tail_cons,List.length_cons] at hle⊢
  rcases(ih r hr (by simp)).of with⟨a,i,e1,e2,nb1⟩|⟨o,i,e1,e2,e3,nb3⟩
  ·rw[e1]
   have hz:=Cb e1
   refine Amk ?_ (by simp;omega) (by(try simp only[De,Cc,Dd,List.length_append,List.length_cons,List.length_nil]);(repeat' apply And.intro)<;>first|assumption|omega|trivial)
   rw[hprog,e2]
   simp only[Option.bind_some]
   rw[Boe (by omega)]
   rfl
  ·rw[e1]
   refine PG.no (o:=⟨14,[]⟩::o) ?_ (by simp;omega) (by(try simp only[De,Cc,Dd,List.length_append,List.length_cons,List.length_nil]);(repeat' apply And.intro)<;>first|assumption|omega|trivial)
   rw[hprog,e2]
   simp only[Option.bind_some]
   rw[Boe (by omega)]
   rfl
 ·rw[if_neg hc]
  have hprog:parse_reader_level (f+1) 3 (RD l ts false)=parse_reader_level f 4 (RD l ts false):=by
   rw[parse_reader_level]
   have e:(RD l ts false).B9=false:=rfl
   simp only[e,Bool.false_eq_true,if_false]
   rw[if_pos (by simp),show([110,111,116]:By)=Apy from rfl,Aiw h hl hc]
   simp only[Option.bind_some,Bool.false_eq_true,if_false]
   cases parse_reader_level f 4 (RD l ts false)<;>rfl
  unfold PG at hp⊢
  rw[hprog]
  exact hp
theorem Bfe{l ts:List Tk}(hF:Fit l)(h:ts <:+ l){f:Nat}(hf:2≤f)(hp:PG (parse_reader_level f 1) l ts (CL ts 1))
  (ih: ∀r,r <:+ l→r.length<ts.length→PG (parse_reader_any f) l r (CL r 0)):PG (parse_reader_any (f+1)) l ts (CL ts 0):=by
 have hl:=hF.l6
 have hle:=hF.le h
 obtain⟨f,rfl⟩: ∃g,f=g+2:=⟨f-2,by omega⟩
 rw[Bu1]
 by_cases hc:isT sIf ts=true
 ·rw[if_pos hc]
  obtain⟨t,r,rfl,_,_⟩:=Bt hc
  have hr:=Dc h
  have hprog:parse_reader_any (f+2+1) (RD l (t::r) false)=(parse_reader_any (f+2) (RD l r false)).bind fun x4=>
   (Aq [As5] x4.2).bind fun x5=>
   (parse_reader_any (f+2) x5).bind fun x6=>
   (Aq [Apx] x6.2).bind fun x7=>
   (parse_reader_any (f+2) x7).bind fun x8=>
   (Cj 15 [x4.1,x6.1,x8.1]).bind fun x9=>
   some (x9,x8.2):=by
   rw[parse_reader_any,show([105,102]:By)=sIf from rfl,Ap3 h hl hc]
   rfl
  simp only[List.tail_cons,List.length_cons] at hle⊢
  rcases(ih r hr (by simp)).of with⟨a,i,e1,e2,nb1⟩|⟨o,i,e1,e2,e3,nb3⟩
  ·rw[e1]
   have hz:=Cb e1
   have hi:=Il hr e1
   have hil:=Avr e1
   show PG _ _ _ (H7 As5 i fun i2=>bnd (CL i2 0) fun b j=>H7 Apx j fun j2=>bnd (CL j2 0) fun c k=>(some (⟨15,[]⟩::(a++b++c)),k))
   unfold H7
   by_cases hc2:isT As5 i=true
   ·rw[if_pos hc2]
    obtain⟨t2,r2,rfl,_,_⟩:=Bt hc2
    simp only[List.tail_cons,List.length_cons] at hz hil⊢
    have hr2:=Dc hi
    rcases(ih r2 hr2 (by simp;omega)).of with⟨b,j,e4,e5,nb4⟩|⟨o,j,e4,e5,e6,nb6⟩
    ·rw[e4]
     have hz2:=Cb e4
     have hj:=Il hr2 e4
     have hjl:=Avr e4
     show PG _ _ _ (if isT Apx j=true then _ else _)
     by_cases hc3:isT Apx j=true
     ·rw[if_pos hc3]
      obtain⟨t3,r3,rfl,_,_⟩:=Bt hc3
      simp only[List.tail_cons,List.length_cons] at hz2 hjl⊢
      have hr3:=Dc hj
      rcases(ih r3 hr3 (by simp;omega)).of with⟨c,k,e7,e8,nb7⟩|⟨o,k,e7,e8,e9,nb9⟩
      ·rw[e7]
       have hz3:=Cb e7
       refine Amk ?_ (by simp;omega) (by(try simp only[De,Cc,Dd,List.length_append,List.length_cons,List.length_nil]);(repeat' apply And.intro)<;>first|assumption|omega|trivial)
       rw[hprog,e2]
       simp only[Option.bind_some]
       rw[F1 hi hl hc2]
       simp only[Option.bind_some,List.tail_cons,e5]
       rw[F1 hj hl hc3]
       simp only[Option.bind_some,List.tail_cons,e8]
       rw[node3 (by omega)]
       rfl
      ·rw[e7]
       refine PG.no (o:=⟨15,[]⟩::(a++b++o)) ?_ (by simp;omega) (by(try simp only[De,Cc,Dd,List.length_append,List.length_cons,List.length_nil]);(repeat' apply And.intro)<;>first|assumption|omega|trivial)
       rw[hprog,e2]
       simp only[Option.bind_some]
       rw[F1 hi hl hc2]
       simp only[Option.bind_some,List.tail_cons,e5]
       rw[F1 hj hl hc3]
       simp only[Option.bind_some,List.tail_cons,e8]
       rw[node3 (by omega)]
       rfl
     ·rw[if_neg hc3]
      refine PG.no (o:=⟨15,[]⟩::(a++b++[])) ?_ (by simp;omega) (by(try simp only[De,Cc,Dd,List.length_append,List.length_cons,List.length_nil]);(repeat' apply And.intro)<;>first|assumption|omega|trivial)
      rw[hprog,e2]
      simp only[Option.bind_some]
      rw[F1 hi hl hc2]
      simp only[Option.bind_some,List.tail_cons,e5]
      rw[Ax0 hj hl hc3]
      simp only[Option.bind_some]
      rw[Jw hj hl]
      simp only[Option.bind_some]
      rw[node3 (by simp;omega)]
      rfl
    ·rw[e4]
     have hj:=Il hr2 e4
     refine PG.no (o:=⟨15,[]⟩::(a++o++[])) ?_ (by simp;omega) (by(try simp only[De,Cc,Dd,List.length_append,List.length_cons,List.length_nil]);(repeat' apply And.intro)<;>first|assumption|omega|trivial)
     rw[hprog,e2]
     simp only[Option.bind_some]
     rw[F1 hi hl hc2]
     simp only[Option.bind_some,List.tail_cons,e5]
     rw[Ke hj hl]
     simp only[Option.bind_some]
     rw[Jw hj hl]
     simp only[Option.bind_some]
     rw[node3 (by simp;omega)]
     rfl
   ·rw[if_neg hc2]
    refine PG.no (o:=⟨15,[]⟩::(a++[]++[])) ?_ (by simp;omega) (by(try simp only[De,Cc,Dd,List.length_append,List.length_cons,List.length_nil]);(repeat' apply And.intro)<;>first|assumption|omega|trivial)
    rw[hprog,e2]
    simp only[Option.bind_some]
    rw[Ax0 hi hl hc2]
    simp only[Option.bind_some]
    rw[Jw hi hl]
    simp only[Option.bind_some]
    rw[Ke hi hl]
    simp only[Option.bind_some]
    rw[Jw hi hl]
    simp only[Option.bind_some]
    rw[node3 (by simp;omega)]
    rfl
  ·rw[e1]
   have hi:=Il hr e1
   refine PG.no (o:=⟨15,[]⟩::(o++[]++[])) ?_ (by simp;omega) (by(try simp only[De,Cc,Dd,List.length_append,List.length_cons,List.length_nil]);(repeat' apply And.intro)<;>first|assumption|omega|trivial)
   rw[hprog,e2]
   simp only[Option.bind_some]
   rw[Ke hi hl]
   simp only[Option.bind_some]
   rw[Jw hi hl]
   simp only[Option.bind_some]
   rw[Ke hi hl]
   simp only[Option.bind_some]
   rw[Jw hi hl]
   simp only[Option.bind_some]
   rw[node3 (by simp;omega)]
   rfl
 ·rw[if_neg hc]
  have hprog:parse_reader_any (f+2+1) (RD l ts false)=parse_reader_level (f+2) 1 (RD l ts false):=by
   rw[parse_reader_any,show([105,102]:By)=sIf from rfl,Aiw h hl hc]
   simp only[Option.bind_some,Bool.not_false,if_true]
   cases parse_reader_level (f+2) 1 (RD l ts false)<;>rfl
  unfold PG at hp⊢
  rw[hprog]
  exact hp
theorem Bte{l:List Tk}(hF:Fit l){f n:Nat}(hn:n=1∨n=2∨n=4∨n=5∨n=6){N T:Nat}(hT:T≤100000)
  (ih: ∀r,r <:+ l→r.length<N→PG (parse_reader_level f ((n+1:Nat):Int)) l r (CL r (n+1))): ∀(k:Nat) (out:List Nd) (i:List Tk),i <:+ l→i.length≤k→i.length≤N→out.length+i.length≤T→NB out→ ∀kk,
   (Aqy n i false=true→ ∃t r,i=t::r∧(Bj t).2=n∧kk=(Bj t).1)→
   ∃o,A5 (fun(qj13:(List Aa)×Int×Bool×Ab)=>match qj13 with
      |(out14,kind15,is16,r17)=>(
       if is16=true then
        (parse_reader_level f (IntKind.wrap .i64 ((n:Int)+1)) (⟨r17.J7,IntKind.wrap .i64 (r17.C3+1),r17.B9⟩:Ab)).bind fun x18=>
        (Cj kind15 [out14,x18.1]).bind fun x19=>
        if ((n:Int)==4)=true then
         some (.inr (x19,x18.2))
        else
         (B6 (n:Int) x18.2).bind fun x20=>
         some (.inl (x19,x20.1,x20.2,x18.2))
       else
        some (.inr (out14,r17)):Option (((List Aa)×Int×Bool×Ab)⊕((List Aa)×Ab)))) (out,kk,Aqy n i false,RD l i false)=some (o,RD l (Aja n k out i).2 (Aja n k out i).1.isNone)∧(∀a,(Aja n k out i).1=some a→o=a)∧o.length≤T+1∧NB o:=by
 have hl:=hF.l6
 have hw:IntKind.wrap .i64 ((n:Int)+1)=((n+1:Nat):Int):=by rw[wrap64 (by omega) (by omega)];rfl
 intro k
 induction k with
 |zero=>
  intro out i hi hk hN hout hnb kk hkk
  obtain rfl:i=[]:=List.eq_nil_of_length_eq_zero (by omega)
  exact⟨out,Ay (by rfl),(fun a ha=>Option.some.inj ha),by omega,hnb⟩
 |succ k ihk=>
  intro out i hi hk hN hout hnb kk hkk
  cases i with
  |nil=>exact⟨out,Ay (by rfl),(fun a ha=>Option.some.inj ha),by omega,hnb⟩
  |cons t r=>
   simp only[List.length_cons] at hk hN hout
   have hr:=Dc hi
   have hrl:=hF.le hr
   rw[Aja]
   by_cases hs:(Bj t).2=n
   ·rw[if_pos hs]
    have hb:Aqy n (t::r) false=true:=by simp[Aqy,hs]
    obtain⟨t',r',he,h2,h3⟩:=hkk hb
    cases he
    subst h3
    rw[hb]
    have hstep:(⟨(RD l (t::r) false).J7,IntKind.wrap .i64 ((RD l (t::r) false).C3+1),(RD l (t::r) false).B9⟩:Ab)=RD l r false:=by
     have e:IntKind.wrap .i64 ((RD l (t::r) false).C3+1)=ps l r:=Dw hi hl
     rw[e];rfl
    rcases(ih r hr (by omega)).of with⟨b,j,e1,e2,nb1⟩|⟨o,j,e1,e2,e3,nb3⟩
    ·have hz:=Cb e1
     have hj:=Il hr e1
     have hjl:=Avr e1
     rw[e1]
     show ∃o,_∧(∀a,(if n=4 then _ else _:Rs (List Nd)).1=some a→o=a)∧_
     by_cases h4:n=4
     ·have e4:bnd ((some b,j):Rs (List Nd)) (fun b j=>if n=4 then((some (⟨(Bj t).1,[]⟩::(out++b)),j):Rs (List Nd)) else Aja n k (⟨(Bj t).1,[]⟩::(out++b)) j)=(some (⟨(Bj t).1,[]⟩::(out++b)),j):=by
       show(if n=4 then _ else _)=_
       rw[if_pos h4]
      rw[e4,if_pos h4]
      refine⟨⟨(Bj t).1,[]⟩::(out++b),Ay ?_,(fun a ha=>Option.some.inj ha),(by simp;omega),(by(try simp only[De,Cc,Dd,List.length_append,List.length_cons,List.length_nil]);(repeat' apply And.intro)<;>first|assumption|omega|trivial)⟩
      show(if true=true then _ else _)=_
      rw[if_pos rfl,hstep,hw,e2]
      simp only[Option.bind_some]
      rw[Ass (by omega)]
      simp only[Option.bind_some]
      rw[if_pos (by simp;omega)]
      rfl
     ·have e4:bnd ((some b,j):Rs (List Nd)) (fun b j=>if n=4 then((some (⟨(Bj t).1,[]⟩::(out++b)),j):Rs (List Nd)) else Aja n k (⟨(Bj t).1,[]⟩::(out++b)) j)=Aja n k (⟨(Bj t).1,[]⟩::(out++b)) j:=by
       show(if n=4 then _ else _)=_
       rw[if_neg h4]
      rw[e4,if_neg h4]
      obtain⟨k2,h5,h6⟩:=Ate hj (n:=n) (by omega) false
      obtain⟨o,h7,h8,h9⟩:=ihk (⟨(Bj t).1,[]⟩::(out++b)) j hj (by omega) (by omega) (by simp;omega) (by(try simp only[De,Cc,Dd,List.length_append,List.length_cons,List.length_nil]);(repeat' apply And.intro)<;>first|assumption|omega|trivial) k2 (fun hb=>by
       obtain⟨t,r,g1,_,g2,g3⟩:=h6 hb
       exact⟨t,r,g1,g2,g3⟩)
      refine⟨o,?_,h8,h9⟩
      rw[←h7]
      refine Bm ?_
      show(if true=true then _ else _)=_
      rw[if_pos rfl,hstep,hw,e2]
      simp only[Option.bind_some]
      rw[Ass (by omega)]
      simp only[Option.bind_some]
      rw[if_neg (by simp;omega),h5]
      rfl
    ·have hj:=Il hr e1
     have e4:bnd (CL r (n+1)) (fun b j=>if n=4 then((some (⟨(Bj t).1,[]⟩::(out++b)),j):Rs (List Nd)) else Aja n k (⟨(Bj t).1,[]⟩::(out++b)) j)=(none,j):=by rw[e1];rfl
     rw[e4]
     refine⟨⟨(Bj t).1,[]⟩::(out++o),?_,(fun a ha=>by cases ha),(by simp;omega),(by(try simp only[De,Cc,Dd,List.length_append,List.length_cons,List.length_nil]);(repeat' apply And.intro)<;>first|assumption|omega|trivial)⟩
     by_cases h4:n=4
     ·refine Ay ?_
      show(if true=true then _ else _)=_
      rw[if_pos rfl,hstep,hw,e2]
      simp only[Option.bind_some]
      rw[Ass (by omega)]
      simp only[Option.bind_some]
      rw[if_pos (by simp;omega)]
      rfl
     ·obtain⟨k2,h5⟩:=A1s hj (n:=n) (by omega)
      refine(Bm (s':=(⟨(Bj t).1,[]⟩::(out++o),k2,false,RD l j true)) ?_).trans (Ay (by rfl))
      show(if true=true then _ else _)=_
      rw[if_pos rfl,hstep,hw,e2]
      simp only[Option.bind_some]
      rw[Ass (by omega)]
      simp only[Option.bind_some]
      rw[if_neg (by simp;omega),h5]
      rfl
   ·rw[if_neg hs]
    have hb:Aqy n (t::r) false=false:=by simp[Aqy,hs]
    rw[hb]
    exact⟨out,Ay (by rfl),(fun a ha=>Option.some.inj ha),by omega,hnb⟩
theorem mid_step{l ts:List Tk}(hF:Fit l)(h:ts <:+ l){f n:Nat}(hn:n=1∨n=2∨n=4∨n=5∨n=6)(hp:PG (parse_reader_level f ((n+1:Nat):Int)) l ts (CL ts (n+1)))
  (ih: ∀r,r <:+ l→r.length<ts.length→PG (parse_reader_level f ((n+1:Nat):Int)) l r (CL r (n+1))):PG (parse_reader_level (f+1) (n:Int)) l ts (CL ts n):=by
 have hl:=hF.l6
 have hle:=hF.le h
 rw[Bw6 hn]
 have hw:IntKind.wrap .i64 ((n:Int)+1)=((n+1:Nat):Int):=by rw[wrap64 (by omega) (by omega)];rfl
 have h3: ¬(((n:Int)==3)=true):=by simp;omega
 have h7: ¬(((n:Int)==7)=true):=by simp;omega
 rcases hp.of with⟨a,i,e1,e2,nb1⟩|⟨o,i,e1,e2,e3,nb3⟩
 ·have hz:=Cb e1
  have hi:=Il h e1
  have hil:=Avr e1
  rw[e1]
  show PG _ _ _ (Aja n i.length a i)
  obtain⟨k2,h5,h6⟩:=Ate hi (n:=n) (by omega) false
  obtain⟨o,g1,g2,g3⟩:=Bte hF hn (N:=ts.length) (T:=ts.length) hle ih i.length a i hi (Nat.le_refl _) hil hz nb1 k2 (fun hb=>by
   obtain⟨t,r,g1,_,g2,g3⟩:=h6 hb
   exact⟨t,r,g1,g2,g3⟩)
  refine⟨o,?_,g2,g3⟩
  rw[parse_reader_level]
  have e:(RD l ts false).B9=false:=rfl
  simp only[e,Bool.false_eq_true,if_false]
  rw[if_neg h3,if_neg h7,hw,e2]
  simp only[Option.bind_some]
  rw[h5]
  simp only[Option.bind_some]
  rw[hw] at g1
  exact Bh g1 rfl
 ·have hi:=Il h e1
  rw[e1]
  refine PG.no (o:=o) ?_ e3 nb3
  rw[parse_reader_level]
  have e:(RD l ts false).B9=false:=rfl
  simp only[e,Bool.false_eq_true,if_false]
  obtain⟨k2,h5⟩:=A1s hi (n:=n) (by omega)
  rw[if_neg h3,if_neg h7,hw,e2]
  simp only[Option.bind_some]
  rw[h5]
  simp only[Option.bind_some]
  refine Bh (Ay (o:=(o,RD l i true)) ?_) rfl
  rfl
theorem Btr{l:List Tk}(hF:Fit l): ∀(N:Nat) (ts:List Tk),ts <:+ l→ts.length≤N→
  (∀f,12*ts.length+3≤f→PG (parse_reader_primary f) l ts (Dq CL ts))∧
  (∀(n f:Nat),1≤n→n≤7→12*ts.length+11≤f+n→PG (parse_reader_level f (n:Int)) l ts (CL ts n))∧
  (∀f,12*ts.length+12≤f→PG (parse_reader_any f) l ts (CL ts 0)):=by
 intro N
 induction N with
 |zero=>
  intro ts hts hN
  obtain rfl:ts=[]:=List.eq_nil_of_length_eq_zero (by omega)
  have hp: ∀f,12*([]:List Tk).length+3≤f→PG (parse_reader_primary f) l [] (Dq CL []):=by
   intro f hf
   obtain⟨g,rfl⟩: ∃g,f=g+1:=⟨f-1,by omega⟩
   exact A95 hF hts (by simp at hf;omega) (fun r _ hr=>absurd hr (by simp))
  have hlv: ∀(d n f:Nat),n+d=7→1≤n→12*([]:List Tk).length+11≤f+n→PG (parse_reader_level f (n:Int)) l [] (CL [] n):=by
   intro d
   induction d with
   |zero=>
    intro n f hd _ hf
    obtain rfl:n=7:=by omega
    obtain⟨g,rfl⟩: ∃g,f=g+1:=⟨f-1,by simp at hf;omega⟩
    exact A5j hF hts (hp g (by simp at hf⊢;omega)) (fun r _ hr=>absurd hr (by simp))
   |succ d ihd=>
    intro n f hd hn hf
    obtain⟨g,rfl⟩: ∃g,f=g+1:=⟨f-1,by simp at hf;omega⟩
    have hnx:=ihd (n+1) g (by omega) (by omega) (by simp at hf⊢;omega)
    by_cases h3:n=3
    ·subst h3
     exact A5w hF hts hnx (fun r _ hr=>absurd hr (by simp))
    ·exact mid_step hF hts (by omega) hnx (fun r _ hr=>absurd hr (by simp))
  refine⟨hp,fun n f h1 h2 hf=>hlv (7-n) n f (by omega) h1 hf,fun f hf=>?_⟩
  obtain⟨g,rfl⟩: ∃g,f=g+1:=⟨f-1,by simp at hf;omega⟩
  exact Bfe hF hts (by simp at hf;omega) (hlv 6 1 g rfl (by omega) (by simp at hf⊢;omega)) (fun r _ hr=>absurd hr (by simp))
 |succ N ih=>
  intro ts hts hN
  have hp: ∀f,12*ts.length+3≤f→PG (parse_reader_primary f) l ts (Dq CL ts):=by
   intro f hf
   obtain⟨g,rfl⟩: ∃g,f=g+1:=⟨f-1,by omega⟩
   exact A95 hF hts (by omega) (fun r h1 hr=>(ih r h1 (by omega)).2.2 g (by omega))
  have hlv: ∀(d n f:Nat),n+d=7→1≤n→12*ts.length+11≤f+n→PG (parse_reader_level f (n:Int)) l ts (CL ts n):=by
   intro d
   induction d with
   |zero=>
    intro n f hd _ hf
    obtain rfl:n=7:=by omega
    obtain⟨g,rfl⟩: ∃g,f=g+1:=⟨f-1,by omega⟩
    exact A5j hF hts (hp g (by omega)) (fun r h1 hr=>(ih r h1 (by omega)).2.1 7 g (by omega) (by omega) (by omega))
   |succ d ihd=>
    intro n f hd hn hf
    obtain⟨g,rfl⟩: ∃g,f=g+1:=⟨f-1,by omega⟩
    have hnx:=ihd (n+1) g (by omega) (by omega) (by omega)
    by_cases h3:n=3
    ·subst h3
     exact A5w hF hts hnx (fun r h1 hr=>(ih r h1 (by omega)).2.1 3 g (by omega) (by omega) (by omega))
    ·exact mid_step hF hts (by omega) hnx (fun r h1 hr=>(ih r h1 (by omega)).2.1 (n+1) g (by omega) (by omega) (by omega))
  refine⟨hp,fun n f h1 h2 hf=>hlv (7-n) n f (by omega) h1 hf,fun f hf=>?_⟩
  obtain⟨g,rfl⟩: ∃g,f=g+1:=⟨f-1,by omega⟩
  exact Bfe hF hts (by omega) (hlv 6 1 g rfl (by omega) (by omega)) (fun r h1 hr=>(ih r h1 (by omega)).2.2 g (by omega))
theorem Bj3{l ts:List Tk}(hF:Fit l)(h:ts <:+ l)(hl:l.length≤8000):PG (parse_reader_any 100000) l ts (CL ts 0):=
 (Btr hF ts.length ts h (Nat.le_refl _)).2.2 100000 (by have:=h.length_le;omega)
theorem I7{l ts:List Tk}(h:ts <:+ l)(s:By):A4 l (ps l ts) s=some (isT s ts):=by
 unfold A4
 simp only[Option.bind_some,Wb h]
 cases ts with
 |nil=>rfl
 |cons t r=>
  rw[Wc h]
  simp only[List.isEmpty_cons,Bool.not_false,Bool.and_true,Bool.true_and,A2,Option.bind_some,cond_true,Option.some.injEq,isT]
  rw[←Bf8]
  cases (t.Ag !=2)<;>rfl
theorem Bwp{L:List By}(hL:L.length≤1000000)(s:By):F6 L s=some (L.contains s):=by
 unfold F6
 refine Bh (Ze (l:=L) (fun x=>x==s) (o:=Sum.inr true) (e:=Sum.inl ()) (by omega) (fun i hi=>?_) (fun i hi=>?_)) ?_
 ·show(if _ then _ else _)=_
  rw[if_pos (by simp;omega),Fj hi]
  simp only[Option.bind_some]
  split<;>rfl
 ·show(if _ then _ else _)=_
  rw[if_neg (by simp;omega)]
 ·have:L.contains s=L.any (fun x=>x==s):=by
   rw[List.contains_eq_any_beq]
   congr 1
   funext x
   exact Bool.beq_comm
  rw[this]
  cases hx:L.any (fun x=>x==s)<;>rfl
theorem Bjr(s:By)(p:Bool):Ds s p=some (Av1 s p):=by
 unfold Ds
 rw[Bwp (by simp),Bwp (by simp)]
 simp only[Option.bind_some]
 rfl
theorem Beq(t:Tk):Ek t=some ((Bj t).1,((Bj t).2:Int)):=by
 unfold Ek Bj Au2
 simp only[beq_iff_eq]
 by_cases h:t.Ag=2
 ·simp only[if_pos h];rfl
 ·simp only[if_neg h]
  have e1:sOr=[111,114]:=rfl
  have e2:Bis=[97,110,100]:=rfl
  rw[e1,e2]
  by_cases h0:t.Aj=[111,114]
  ·simp only[if_pos h0];rfl
  simp only[if_neg h0]
  by_cases h1:t.Aj=[97,110,100]
  ·simp only[if_pos h1];rfl
  simp only[if_neg h1]
  by_cases h2:t.Aj=[60]
  ·simp only[if_pos h2];rfl
  simp only[if_neg h2]
  by_cases h3:t.Aj=[60,61]
  ·simp only[if_pos h3];rfl
  simp only[if_neg h3]
  by_cases h4:t.Aj=[61]
  ·simp only[if_pos h4];rfl
  simp only[if_neg h4]
  by_cases h5:t.Aj=[62]
  ·simp only[if_pos h5];rfl
  simp only[if_neg h5]
  by_cases h6:t.Aj=[62,61]
  ·simp only[if_pos h6];rfl
  simp only[if_neg h6]
  by_cases h7:t.Aj=[43]
  ·simp only[if_pos h7];rfl
  simp only[if_neg h7]
  by_cases h8:t.Aj=[45]
  ·simp only[if_pos h8];rfl
  simp only[if_neg h8]
  by_cases h9:t.Aj=[42]
  ·simp only[if_pos h9];rfl
  simp only[if_neg h9]
  by_cases h10:t.Aj=[47]
  ·simp only[if_pos h10];rfl
  simp only[if_neg h10]
  rfl
theorem Aqh{k:Int}{a b c:List Nd}(h:a.length+b.length+c.length≤1000000):Bs k a b c=some (⟨k,[]⟩::(a++b++c)):=by
 unfold Bs apO
 rw[if_pos (by simp only[List.length_cons,List.length_nil];omega)]
 simp only[Option.bind_some]
 rw[if_pos (by simp only[List.length_cons,List.length_nil,List.length_append];omega)]
 simp only[Option.bind_some]
 rw[if_pos (by simp only[List.length_cons,List.length_nil,List.length_append];omega)]
 simp
def Amt(l:List Tk)(r:Rs (List Nd)):List Nd×Int×Bool:=match r with
 |(some a,i)=>(a,ps l i,true)
 |(none,i)=>([],ps l i,false)
def Bbb(l:List Tk)(r:Rs (List Nd×Nat)):List Nd×Int×Int:=match r with
 |(some x,i)=>(x.1,ps l i,(x.2:Int))
 |(none,i)=>([],ps l i,-1)
theorem Bw2{l ts:List Tk}(hF:Fit l)(h:ts <:+ l){f:Nat}(ih: ∀r,r <:+ l→r.length<ts.length→cashbookref15_climb f l (ps l r) 0=some (Amt l (CL r 0))):
  cashbookref15_primary (f+1) l (ps l ts)=some (Bbb l (bnd (Dq CL ts) fun a i=>(some (a,8),i))):=by
 have hl:=hF.l6
 have hle:=hF.le h
 rw[cashbookref15_primary,Bok h]
 cases ts with
 |nil=>rfl
 |cons t r=>
  have hr:=Dc h
  simp only[List.length_cons] at hle
  simp only[List.isEmpty_cons,Bool.false_eq_true,if_false]
  rw[Wc h,I7 h]
  simp only[Option.bind_some]
  by_cases hp:isT [40] (t::r)=true
  ·have hspec:Dq CL (t::r)=bnd (CL r 0) fun a i=>H7 [41] i fun j=>(some a,j):=by unfold Dq;simp only[if_pos hp]
   rw[hspec,if_pos hp,Dw h hl,ih r hr (by simp)]
   simp only[Option.bind_some]
   cases e1:CL r 0 with
   |mk o i=>
    have hi:=Il hr e1
    cases o with
    |none=>rfl
    |some a=>
     simp only[Amt,Bool.not_true,Bool.not_false]
     rw[I7 hi]
     simp only[A2,cond_true,Option.bind_some,Bool.false_or,bnd,H7]
     by_cases hc:isT [41] i=true
     ·obtain⟨t2,r2,rfl,_,_⟩:=Bt hc
      simp only[hc,Bool.not_true,Bool.false_eq_true,if_false,if_true,List.tail_cons,Dw hi hl]
      rfl
     ·simp only[Bool.not_eq_true] at hc
      simp only[hc,Bool.not_false,if_true,Bool.false_eq_true,if_false]
      rfl
  ·rw[if_neg hp,I7 h]
   simp only[Option.bind_some]
   rw[I7 h]
   have e1:Amf=[109,105,110]:=rfl
   have e2:A05=[109,97,120]:=rfl
   have hm2:(isT [109,105,110] (t::r)||bif !isT [109,105,110] (t::r) then isT [109,97,120] (t::r) else default)=(isT Amf (t::r)||isT A05 (t::r)):=by
    rw[e1,e2]
    cases hx:isT [109,105,110] (t::r) with
    |true=>rfl
    |false=>rfl
   simp only[A2,Option.bind_some,hm2]
   by_cases hm:(isT Amf (t::r)||isT A05 (t::r))=true
   ·have hspec:Dq CL (t::r)=H7 [40] r fun r2=>bnd (CL r2 0) fun a i=>H7 [44] i fun i2=>bnd (CL i2 0) fun b j=>H7 [41] j fun j2=>
      (some (⟨if t.Aj=Amf then 16 else 17,[]⟩::(a++b)),j2):=by unfold Dq;simp only[if_neg hp,if_pos hm]
    rw[hspec,if_pos hm,Dw h hl,I7 hr]
    simp only[Option.bind_some,H7]
    by_cases hc:isT [40] r=true
    ·obtain⟨t1,r1,rfl,_,_⟩:=Bt hc
     have hr1:=Dc hr
     have hw2:IntKind.wrap .i64 (ps l (t::t1::r1)+2)=ps l r1:=by
      have hlen:=h.length_le
      unfold ps
      simp only[List.length_cons] at hlen⊢
      rw[wrap64 (by omega) (by omega)]
      omega
     simp only[hc,Bool.not_true,Bool.false_eq_true,if_false,if_true,List.tail_cons,hw2]
     rw[ih r1 hr1 (by simp;omega)]
     simp only[Option.bind_some]
     cases e3:CL r1 0 with
     |mk o i=>
      have hi:=Il hr1 e3
      cases o with
      |none=>rfl
      |some a=>
       have hz:=Cb e3
       have hil:=Avr e3
       simp only[List.length_cons] at hle
       simp only[Amt,Bool.not_true,Bool.not_false]
       rw[I7 hi]
       simp only[A2,cond_true,Option.bind_some,Bool.false_or,bnd]
       by_cases hc2:isT [44] i=true
       ·obtain⟨t2,r2,rfl,_,_⟩:=Bt hc2
        have hr2:=Dc hi
        simp only[List.length_cons] at hz hil
        simp only[hc2,Bool.not_true,Bool.false_eq_true,if_false,if_true,List.tail_cons,Dw hi hl]
        rw[ih r2 hr2 (by simp;omega)]
        simp only[Option.bind_some]
        cases e4:CL r2 0 with
        |mk o j=>
         have hj:=Il hr2 e4
         cases o with
         |none=>rfl
         |some b=>
          have hz2:=Cb e4
          have hjl:=Avr e4
          simp only[Amt,Bool.not_true,Bool.not_false]
          rw[I7 hj]
          simp only[A2,cond_true,Option.bind_some,Bool.false_or]
          by_cases hc3:isT [41] j=true
          ·obtain⟨t3,r3,rfl,_,_⟩:=Bt hc3
           simp only[hc3,Bool.not_true,Bool.false_eq_true,if_false,if_true,List.tail_cons,Dw hj hl,beq_iff_eq]
           rw[Aqh (by simp;omega),Aqh (by simp;omega)]
           rw[e1]
           by_cases hx:t.Aj=[109,105,110]
           ·rw[if_pos hx,if_pos hx]
            simp[Bbb]
           ·rw[if_neg hx,if_neg hx]
            simp[Bbb]
          ·simp only[Bool.not_eq_true] at hc3
           simp only[hc3,Bool.not_false,if_true,Bool.false_eq_true,if_false]
           rfl
       ·simp only[Bool.not_eq_true] at hc2
        simp only[hc2,Bool.not_false,if_true,Bool.false_eq_true,if_false]
        rfl
    ·simp only[Bool.not_eq_true] at hc
     simp only[hc,Bool.not_false,if_true,Bool.false_eq_true,if_false]
     rfl
   ·have hspec:Dq CL (t::r)=if t.Ag=1 then(if isT [37] r=true then(some [⟨0,t.Aj++[37]⟩],r.tail) else(some [⟨0,t.Aj⟩],r))
      else if t.Ag=0∧Av1 t.Aj false=false then(some [⟨1,t.Aj⟩],r) else(none,t::r):=by unfold Dq;simp only[if_neg hp,if_neg hm]
    rw[hspec,if_neg hm,Dw h hl,I7 hr,Bjr]
    simp only[A2,Option.bind_some]
    have htx:t.Aj.length≤100000:=hF.tx t (h.subset (by simp))
    by_cases h1:t.Ag=1
    ·simp only[h1,beq_self_eq_true,cond_true,Bool.true_and,if_true,Bool.true_or]
     by_cases hc:isT [37] r=true
     ·obtain⟨t1,r1,rfl,_,_⟩:=Bt hc
      have hw2:IntKind.wrap .i64 (ps l (t::t1::r1)+2)=ps l r1:=by
       have hlen:=h.length_le
       unfold ps
       simp only[List.length_cons] at hlen⊢
       rw[wrap64 (by omega) (by omega)]
       omega
      rw[if_pos hc,if_pos hc,hw2]
      unfold Bkd
      rw[if_pos (by simp;omega)]
      rfl
     ·rw[if_neg hc,if_neg hc]
      rfl
    ·have hb:(t.Ag==1)=false:=by simp[h1]
     simp only[hb,h1,cond_false,Bool.false_and,Bool.false_or,Bool.false_eq_true,if_false]
     by_cases h2:t.Ag=0∧Av1 t.Aj false=false
     ·rw[if_pos h2,if_pos (by simp[h2.1,h2.2])]
      rw[h2.1]
      rfl
     ·rw[if_neg h2,if_neg (by
       intro hx
       simp only[Bool.and_eq_true,beq_iff_eq,Bool.not_eq_true'] at hx
       exact h2 hx)]
      rfl
theorem Btt{l ts:List Tk}(hF:Fit l)(h:ts <:+ l){f n:Nat}(hn:n≤7)(hp:cashbookref15_primary f l (ps l ts)=some (Bbb l (bnd (Dq CL ts) fun a i=>(some (a,8),i))))
  (ih: ∀r (k:Nat),k≤7→r <:+ l→r.length<ts.length→cashbookref15_climb f l (ps l r) (k:Int)=some (Amt l (CL r k))):
  cashbookref15_first (f+1) l (ps l ts) (n:Int)=some (Bbb l (Ce CL ts n)):=by
 have hl:=hF.l6
 have hle:=hF.le h
 rw[cashbookref15_first,I7 h,I7 h,I7 h]
 simp only[Option.bind_some,A2]
 have hb1:(((n:Int)==0)&&bif ((n:Int)==0) then isT [105,102] ts else default)=decide (n=0∧isT sIf ts=true):=by
  have e:sIf=[105,102]:=rfl
  rw[e]
  by_cases h0:n=0
  ·subst h0;simp
  ·have:((n:Int)==0)=false:=by simp;omega
   rw[this];simp[h0]
 have hb2:(decide ((n:Int)≤3)&&bif decide ((n:Int)≤3) then isT [110,111,116] ts else default)=decide (n≤3∧isT Apy ts=true):=by
  have e:Apy=[110,111,116]:=rfl
  rw[e]
  by_cases h0:n≤3
  ·have:decide ((n:Int)≤3)=true:=by simp;omega
   rw[this];simp[h0]
  ·have:decide ((n:Int)≤3)=false:=by simp;omega
   rw[this];simp[h0]
 rw[hb1,hb2]
 simp only[decide_eq_true_eq]
 unfold Ce
 by_cases c1:n=0∧isT sIf ts=true
 ·rw[if_pos c1,if_pos c1]
  obtain⟨t,r,rfl,_,_⟩:=Bt c1.2
  have hr:=Dc h
  simp only[List.length_cons,List.tail_cons] at hle⊢
  rw[Dw h hl,show(0:Int)=((0:Nat):Int) from rfl,ih r 0 (by omega) hr (by simp)]
  simp only[Option.bind_some]
  cases e1:CL r 0 with
  |mk o i=>
   have hi:=Il hr e1
   cases o with
   |none=>rfl
   |some a=>
    have hz:=Cb e1
    have hil:=Avr e1
    simp only[Amt,Bool.not_true,Bool.not_false]
    rw[I7 hi]
    simp only[A2,cond_true,Option.bind_some,Bool.false_or,bnd,H7]
    by_cases hc2:isT As5 i=true
    ·obtain⟨t2,r2,rfl,_,_⟩:=Bt hc2
     have hr2:=Dc hi
     simp only[List.length_cons] at hz hil
     have hc2':isT [116,104,101,110] (t2::r2)=true:=hc2
     simp only[hc2,hc2',Bool.not_true,Bool.false_eq_true,if_false,if_true,List.tail_cons,Dw hi hl]
     rw[ih r2 0 (by omega) hr2 (by simp;omega)]
     simp only[Option.bind_some]
     cases e4:CL r2 0 with
     |mk o j=>
      have hj:=Il hr2 e4
      cases o with
      |none=>rfl
      |some b=>
       have hz2:=Cb e4
       have hjl:=Avr e4
       simp only[Amt,Bool.not_true,Bool.not_false]
       rw[I7 hj]
       simp only[A2,cond_true,Option.bind_some,Bool.false_or]
       by_cases hc3:isT Apx j=true
       ·obtain⟨t3,r3,rfl,_,_⟩:=Bt hc3
        have hr3:=Dc hj
        simp only[List.length_cons] at hz2 hjl
        have hc3':isT [101,108,115,101] (t3::r3)=true:=hc3
        simp only[hc3,hc3',Bool.not_true,Bool.false_eq_true,if_false,if_true,List.tail_cons,Dw hj hl]
        rw[ih r3 0 (by omega) hr3 (by simp;omega)]
        simp only[Option.bind_some]
        cases e5:CL r3 0 with
        |mk o k=>
         cases o with
         |none=>rfl
         |some c=>
          have hz3:=Cb e5
          simp only[Amt,Bool.not_true,Bool.false_eq_true,if_false]
          rw[Aqh (by omega)]
          rfl
       ·have hc3':isT [101,108,115,101] j=false:=by rw[←Bool.not_eq_true];exact hc3
        simp only[hc3,hc3',Bool.not_false,if_true,Bool.false_eq_true,if_false]
        rfl
    ·have hc2':isT [116,104,101,110] i=false:=by rw[←Bool.not_eq_true];exact hc2
     simp only[hc2,hc2',Bool.not_false,if_true,Bool.false_eq_true,if_false]
     rfl
 ·rw[if_neg c1,if_neg c1]
  by_cases c2:n≤3∧isT Apy ts=true
  ·rw[if_pos c2,if_pos c2]
   obtain⟨t,r,rfl,_,_⟩:=Bt c2.2
   have hr:=Dc h
   simp only[List.length_cons,List.tail_cons] at hle⊢
   rw[Dw h hl,show(3:Int)=((3:Nat):Int) from rfl,ih r 3 (by omega) hr (by simp)]
   simp only[Option.bind_some]
   cases e1:CL r 3 with
   |mk o i=>
    cases o with
    |none=>rfl
    |some a=>
     have hz:=Cb e1
     simp only[Amt,Bool.not_true,Bool.false_eq_true,if_false]
     rw[Aqh (by simp;omega)]
     simp[Bbb,bnd]
  ·rw[if_neg c2,if_neg c2]
   by_cases c3:isT [45] ts=true
   ·rw[if_pos c3,if_pos c3]
    obtain⟨t,r,rfl,_,_⟩:=Bt c3
    have hr:=Dc h
    simp only[List.length_cons,List.tail_cons] at hle⊢
    rw[Dw h hl,show(7:Int)=((7:Nat):Int) from rfl,ih r 7 (by omega) hr (by simp)]
    simp only[Option.bind_some]
    cases e1:CL r 7 with
    |mk o i=>
     cases o with
     |none=>rfl
     |some a=>
      have hz:=Cb e1
      simp only[Amt,Bool.not_true,Bool.false_eq_true,if_false]
      rw[Aqh (by simp;omega)]
      simp[Bbb,bnd]
   ·rw[if_neg c3,if_neg c3,hp]
    rfl
theorem By2{l:List Tk}(hF:Fit l){f n:Nat}(hn:n≤7){N T:Nat}(hT:T≤100000)
  (ih: ∀r (k:Nat),k≤7→r <:+ l→r.length<N→cashbookref15_climb f l (ps l r) (k:Int)=some (Amt l (CL r k))): ∀(k:Nat) (out:List Nd) (own:Nat) (i:List Tk),i <:+ l→i.length≤k→i.length≤N→out.length+i.length≤T→
   ∃o,A5 (fun(qj5:(List Aa)×Int×Int)=>match qj5 with
    |(out6,i7,own8)=>(
     if (decide (i7<(l.length:Int)))=true then
      (rdO l i7).bind fun x9=>
      (Ek x9).bind fun x10=>
      ((if (x10.2==4)=true then
        some 5
      else
       some x10.2):Option Int).bind fun j11=>
      (some (x10.2==0)).bind fun c13=>
      (some (c13||(decide (x10.2<(n:Int))))).bind fun c14=>
      if (c14||(decide (own8<j11)))=true then
       some (.inr (.inr (out6,i7,true)))
      else
       (cashbookref15_climb f l (IntKind.wrap .i64 (i7+1)) (IntKind.wrap .i64 (x10.2+1))).bind fun x15=>
       if (!x15.2.2)=true then
        some (.inr (.inr (([]:List Aa),x15.2.1,false)))
       else
        (Bs x10.1 out6 x15.1 ([]:List Aa)).bind fun x16=>
        some (.inl (x16,x15.2.1,x10.2))
     else
      some (.inr (.inl (out6,i7))):Option (((List Aa)×Int×Int)⊕(((List Aa)×Int)⊕((List Aa)×Int×Bool))))) (out,ps l i,(own:Int))=some o∧(match o with
     | .inr o=>some o
     | .inl (out17,i18)=>some (out17,i18,true))=some (Amt l (bnd (C7 CL n k out own i) fun y j=>(some y.1,j))):=by
 have hl:=hF.l6
 intro k
 induction k with
 |zero=>
  intro out own i hi hk hN hout
  obtain rfl:i=[]:=List.eq_nil_of_length_eq_zero (by omega)
  refine⟨.inl (out,ps l []),Ay ?_,rfl⟩
  show(if decide (ps l []<(l.length:Int))=true then _ else _)=_
  rw[Wb hi]
  rfl
 |succ k ihk=>
  intro out own i hi hk hN hout
  cases i with
  |nil=>
   refine⟨.inl (out,ps l []),Ay ?_,rfl⟩
   show(if decide (ps l []<(l.length:Int))=true then _ else _)=_
   rw[Wb hi]
   rfl
  |cons t r=>
   simp only[List.length_cons] at hk hN hout
   have hr:=Dc hi
   have hrl:=hF.le hr
   have hd:=R8 t
   have hneed:(if (((Bj t).2:Int)==4)=true then some (5:Int) else some ((Bj t).2:Int))=some ((Ul (Bj t).2:Nat):Int):=by
    unfold Ul
    by_cases h4:(Bj t).2=4
    ·rw[h4];rfl
    ·rw[if_neg (by simp;omega),if_neg h4]
   have hcond:(((Bj t).2:Int)==0||decide (((Bj t).2:Int)<(n:Int))||decide ((own:Int)<((Ul (Bj t).2:Nat):Int)))=decide ((Bj t).2=0∨(Bj t).2<n∨own<Ul (Bj t).2):=by
    rw[Bool.eq_iff_iff]
    simp only[Bool.or_eq_true,beq_iff_eq,decide_eq_true_eq]
    omega
   have hstep: ∀(F:List Nd×Int×Bool→Option (((List Aa)×Int×Int)⊕(((List Aa)×Int)⊕((List Aa)×Int×Bool)))),True:=fun _=>trivial
   by_cases hs:(Bj t).2=0∨(Bj t).2<n∨own<Ul (Bj t).2
   ·rw[E1 hs]
    refine⟨.inr (out,ps l (t::r),true),Ay ?_,rfl⟩
    show(if decide (ps l (t::r)<(l.length:Int))=true then _ else _)=_
    rw[Wb hi,Wc hi]
    simp only[List.isEmpty_cons,Bool.not_false,if_true,Option.bind_some]
    rw[Beq]
    simp only[Option.bind_some]
    rw[hneed]
    simp only[Option.bind_some]
    rw[hcond,if_pos (by simpa using hs)]
   ·rw[Kd hs]
    have hw:IntKind.wrap .i64 (((Bj t).2:Int)+1)=(((Bj t).2+1:Nat):Int):=by rw[wrap64 (by omega) (by omega)];rfl
    have hc:=ih r ((Bj t).2+1) (by omega) hr (by omega)
    cases e1:CL r ((Bj t).2+1) with
    |mk o j=>
     rw[e1] at hc
     cases o with
     |none=>
      refine⟨.inr ([],ps l j,false),Ay ?_,rfl⟩
      show(if decide (ps l (t::r)<(l.length:Int))=true then _ else _)=_
      rw[Wb hi,Wc hi]
      simp only[List.isEmpty_cons,Bool.not_false,if_true,Option.bind_some]
      rw[Beq]
      simp only[Option.bind_some]
      rw[hneed]
      simp only[Option.bind_some]
      rw[hcond,if_neg (by simpa using hs),hw,Dw hi hl,hc]
      rfl
     |some b=>
      have hz:=Cb e1
      have hj:=Il hr e1
      have hjl:=Avr e1
      obtain⟨o,g1,g2⟩:=ihk (⟨(Bj t).1,[]⟩::(out++b)) (Bj t).2 j hj (by omega) (by omega) (by simp;omega)
      refine⟨o,?_,g2⟩
      rw[←g1]
      refine Bm ?_
      show(if decide (ps l (t::r)<(l.length:Int))=true then _ else _)=_
      rw[Wb hi,Wc hi]
      simp only[List.isEmpty_cons,Bool.not_false,if_true,Option.bind_some]
      rw[Beq]
      simp only[Option.bind_some]
      rw[hneed]
      simp only[Option.bind_some]
      rw[hcond,if_neg (by simpa using hs),hw,Dw hi hl,hc]
      simp only[Amt,Option.bind_some,Bool.not_true,Bool.false_eq_true,if_false]
      rw[Aqh (by simp;omega)]
      simp
theorem A1x{l ts:List Tk}(hF:Fit l)(h:ts <:+ l){f n:Nat}(hn:n≤7)(hf:cashbookref15_first f l (ps l ts) (n:Int)=some (Bbb l (Ce CL ts n)))(hz: ∀x i,Ce CL ts n=(some x,i)→x.1.length+i.length≤ts.length)
  (ih: ∀r (k:Nat),k≤7→r <:+ l→r.length<ts.length→cashbookref15_climb f l (ps l r) (k:Int)=some (Amt l (CL r k))):
  cashbookref15_climb (f+1) l (ps l ts) (n:Int)=some (Amt l (CL ts n)):=by
 rw[cashbookref15_climb,hf,Ase]
 simp only[Option.bind_some]
 cases e1:Ce CL ts n with
 |mk o i=>
  have hi:i <:+ l:=by have:=(Aqg F4 ts n).trans h;rw[e1] at this;exact this
  have hlt:=Bfy ts n
  rw[e1] at hlt
  cases o with
  |none=>rfl
  |some x=>
   have hz:=hz x i e1
   have hlt:=hlt (by simp)
   simp only at hlt
   have hneg: ¬decide ((Bbb l (some x,i)).2.2<0)=true:=by
    show ¬decide ((x.2:Int)<0)=true
    rw[decide_eq_true_eq]
    omega
   rw[if_neg hneg]
   obtain⟨o,g1,g2⟩:=By2 hF hn (N:=ts.length) (T:=ts.length) (hF.le h) ih i.length x.1 x.2 i hi (Nat.le_refl _) (by omega) hz
   exact Bh g1 g2
theorem Bfz(ts:List Tk)(n:Nat): ∀x i,Ce CL ts n=(some x,i)→x.1.length+i.length≤ts.length:=by
 intro x i h
 unfold Ce at h
 split at h
 ·obtain⟨t,r,rfl,_,_⟩:=Bt (And.right (by assumption))
  obtain⟨a1,i1,h1,h2⟩:=Cu h
  obtain⟨t1,r1,rfl,_,_,h3⟩:=E2 h2
  obtain⟨a2,i2,h4,h5⟩:=Cu h3
  obtain⟨t2,r2,rfl,_,_,h6⟩:=E2 h5
  obtain⟨a3,i3,h7,h8⟩:=Cu h6
  cases h8
  have e1:=Cb h1
  have e2:=Cb h4
  have e3:=Cb h7
  simp at e1 e2 e3⊢
  omega
 ·split at h
  ·obtain⟨t,r,rfl,_,_⟩:=Bt (And.right (by assumption))
   obtain⟨a1,i1,h1,h2⟩:=Cu h
   cases h2
   have e1:=Cb h1
   simp at e1⊢
   omega
  ·split at h
   ·obtain⟨t,r,rfl,_,_⟩:=Bt (by assumption)
    obtain⟨a1,i1,h1,h2⟩:=Cu h
    cases h2
    have e1:=Cb h1
    simp at e1⊢
    omega
   ·obtain⟨a1,i1,h1,h2⟩:=Cu h
    cases h2
    cases ts with
    |nil=>cases h1
    |cons t r=>
     unfold Dq at h1
     simp only at h1
     split at h1
     ·obtain⟨a2,i2,h3,h4⟩:=Cu h1
      obtain⟨t1,r1,rfl,_,_,h5⟩:=E2 h4
      cases h5
      have:=Cb h3
      simp at this⊢
      omega
     ·split at h1
      ·obtain⟨t1,r1,rfl,_,_,h3⟩:=E2 h1
       obtain⟨a1,i1,h4,h5⟩:=Cu h3
       obtain⟨t2,r2,rfl,_,_,h6⟩:=E2 h5
       obtain⟨a2,i2,h7,h8⟩:=Cu h6
       obtain⟨t3,r3,rfl,_,_,h9⟩:=E2 h8
       cases h9
       have e1:=Cb h4
       have e2:=Cb h7
       simp at e1 e2⊢
       omega
      ·split at h1
       ·split at h1
        ·obtain⟨t1,r1,rfl,_,_⟩:=Bt (by assumption)
         cases h1;simp;omega
        ·cases h1;simp;omega
       ·split at h1
        ·cases h1;simp;omega
        ·cases h1
theorem Bpg{l:List Tk}(hF:Fit l): ∀(N:Nat) (ts:List Tk),ts <:+ l→ts.length≤N→ ∀(n f:Nat),n≤7→3*ts.length+3≤f→cashbookref15_climb f l (ps l ts) (n:Int)=some (Amt l (CL ts n)):=by
 intro N
 induction N with
 |zero=>
  intro ts hts hN n f hn hf
  obtain⟨g,rfl⟩: ∃g,f=g+3:=⟨f-3,by omega⟩
  have hemp: ∀r:List Tk,¬r.length<ts.length:=fun r=>by omega
  exact A1x hF hts hn (Btt hF hts hn (Bw2 hF hts (fun r _ hr=>absurd hr (hemp r))) (fun r k _ _ hr=>absurd hr (hemp r))) (Bfz ts n) (fun r k _ _ hr=>absurd hr (hemp r))
 |succ N ih=>
  intro ts hts hN n f hn hf
  obtain⟨g,rfl⟩: ∃g,f=g+3:=⟨f-3,by omega⟩
  exact A1x hF hts hn (Btt hF hts hn (Bw2 hF hts (fun r h1 hr=>ih r h1 (by omega) 0 g (by omega) (by omega))) (fun r k hk h1 hr=>ih r h1 (by omega) k _ hk (by omega))) (Bfz ts n) (fun r k hk h1 hr=>ih r h1 (by omega) k _ hk (by omega))
theorem Brz{l ts:List Tk}(hF:Fit l)(h:ts <:+ l)(hl:l.length≤8000):cashbookref15_climb 100000 l (ps l ts) 0=some (Amt l (CL ts 0)):=
 Bpg hF ts.length ts h (Nat.le_refl _) 0 100000 (by omega) (by have:=h.length_le;omega)
def Ih(k:Int):Option Nat:=if k<0∨17<k then none else if k≤1 then some 0 else if k=2∨k=14 then some 1 else if k=15 then some 3 else some 2
theorem Bbj{k:Int}{n:Nat}(h1:Ih k=some n):n≤3:=by
 unfold Ih at h1
 split at h1
 ·cases h1
 ·split at h1
  ·cases h1;omega
  ·split at h1
   ·cases h1;omega
   ·split at h1
    ·cases h1;omega
    ·cases h1;omega
def Bbh(k:Int):Int:=match Ih k with|none=> -1|some n=>(n:Int)
theorem has_eq(k:Int):L8 k=some (Bbh k):=by
 unfold L8 Bbh Ih
 simp only[Option.bind_some,Bool.or_eq_true,decide_eq_true_eq,beq_iff_eq]
 by_cases h0:k<0∨17<k
 ·rw[if_pos (by omega),if_pos h0]
 ·rw[if_neg (by omega),if_neg h0]
  by_cases h1:k≤1
  ·rw[if_pos h1,if_pos h1];rfl
  ·rw[if_neg h1,if_neg h1]
   by_cases h2:k=2∨k=14
   ·rw[if_pos h2,if_pos h2];rfl
   ·rw[if_neg h2,if_neg h2]
    by_cases h3:k=15
    ·rw[if_pos h3,if_pos h3];rfl
    ·rw[if_neg h3,if_neg h3];rfl
theorem Bom(k:Int):E7 k=some (Bbh k):=by
 rw[←has_eq]
 unfold L8 E7
 simp only[Option.bind_some,Bool.or_eq_true,decide_eq_true_eq,beq_iff_eq]
 have:k<2↔k≤1:=by omega
 simp only[this]
def trimS(s:By):By:=if s.getLast?=some 37 then s.dropLast else s
def Qs(s:By):Bool:=okT ⟨1,0,0,s⟩
def Aw6(s:By)(p:Bool):Bool:=okT ⟨0,0,0,s⟩&& !Av1 s p
def Asr(n:Nd):Bool:=if n.Ag=0 then Qs (trimS n.Aj) else if n.Ag=1 then Aw6 n.Aj false else decide (n.Aj=[])
theorem A9f{s:By}(hl:s.length≤1000000):stringslite_HasSuffix s [37]=some (decide (s.getLast?=some 37)):=by
 unfold stringslite_HasSuffix
 simp only[Option.bind_some]
 rcases List.eq_nil_or_concat s with rfl|⟨u,b,rfl⟩
 ·rfl
 ·have hlen:((u++[b]).length:Int)=(u.length:Int)+1:=by simp
  have hle:u.length≤1000000:=by simp only[List.length_append,List.length_cons,List.length_nil,List.concat_eq_append] at hl;omega
  simp only[List.concat_eq_append] at*
  have hw:IntKind.wrap .i64 (((u++[b]).length:Int)-(([37]:By).length:Int))=(u.length:Int):=by
   rw[wrap64 (by simp only[List.length_append,List.length_cons,List.length_nil];omega) (by simp only[List.length_append,List.length_cons,List.length_nil];omega)];simp
  have hg:decide (((u++[b]).length:Int)≥(([37]:By).length:Int))=true:=by simp only[List.length_append,List.length_cons,List.length_nil,decide_eq_true_eq];omega
  rw[hw,hg,H4 (by simp),List.drop_left]
  simp only[A2,cond_true,Option.bind_some,Bool.true_and,Option.some.injEq]
  by_cases hb:b=37<;>simp[hb]
theorem Ayx{s:By}(hl:s.length≤1000000)(h:s.getLast?=some 37):slO s 0 (IntKind.wrap .i64 ((s.length:Int)-(([37]:By).length:Int)))=some s.dropLast:=by
 rcases List.eq_nil_or_concat s with rfl|⟨u,b,rfl⟩
 ·cases h
 ·simp only[List.concat_eq_append] at*
  have hle:u.length≤1000000:=by simp only[List.length_append,List.length_cons,List.length_nil,List.concat_eq_append] at hl;omega
  have hw:IntKind.wrap .i64 (((u++[b]).length:Int)-(([37]:By).length:Int))=(u.length:Int):=by
   rw[wrap64 (by simp only[List.length_append,List.length_cons,List.length_nil];omega) (by simp only[List.length_append,List.length_cons,List.length_nil];omega)];simp
  rw[hw,Jr (by simp)]
  simp
theorem Bwm{s:By}(hl:s.length≤1000000):strings_TrimSuffix s [37]=some (trimS s):=by
 unfold strings_TrimSuffix stringslite_TrimSuffix trimS
 rw[A9f hl]
 simp only[Option.bind_some,decide_eq_true_eq]
 split
 ·rw[Ayx hl (by assumption)];rfl
 ·rfl
theorem Bji(s:By):(trimS s).length≤s.length:=by unfold trimS;split<;>simp
theorem Aqo{s:By}(hl:s.length≤1000000):Fa s=some (Qs s):=by
 unfold Fa
 rw[Be7 (t:=⟨1,0,0,s⟩) (by show s.length<_;omega)]
 rfl
theorem Bo6{s:By}(hl:s.length≤1000000)(p:Bool):L9 s p=some (Aw6 s p):=by
 unfold L9 Aw6
 rw[Be7 (t:=⟨0,0,0,s⟩) (by show s.length<_;omega)]
 simp only[Option.bind_some]
 rw[Btk]
 simp only[A2,Option.bind_some,Option.some.injEq]
 cases okT ⟨0,0,0,s⟩<;>rfl
theorem Bvs{n:Nd}(hl:n.Aj.length≤1000000):Aei n=some (Asr n):=by
 unfold Aei Asr
 simp only[beq_iff_eq]
 by_cases h0:n.Ag=0
 ·rw[if_pos h0,if_pos h0,Bwm hl]
  simp only[Option.bind_some]
  rw[Aqo (Nat.le_trans (Bji _) hl)]
  rfl
 ·rw[if_neg h0,if_neg h0]
  by_cases h1:n.Ag=1
  ·rw[if_pos h1,if_pos h1,Bo6 hl];rfl
  ·rw[if_neg h1,if_neg h1]
   cases n.Aj<;>rfl
theorem Bv5{s:By}(hl:s.length≤1000000):E9 s=some (Qs s):=by
 unfold E9
 rw[A96 (t:=⟨1,0,0,s⟩) (by show s.length<_;omega)]
 rfl
theorem Bt1{s:By}(hl:s.length≤1000000)(p:Bool):Gw s p=some (Aw6 s p):=by
 unfold Gw Aw6
 rw[A96 (t:=⟨0,0,0,s⟩) (by show s.length<_;omega)]
 simp only[Option.bind_some]
 rw[Bjr]
 rfl
theorem Bps{s:By}(hl:s.length≤1000000)(h:s≠[]):byO s (IntKind.wrap .i64 ((s.length:Int)-1))=(s.getLast?).map fun b=>(b.toNat:Int):=by
 rcases List.eq_nil_or_concat s with rfl|⟨u,b,rfl⟩
 ·exact absurd rfl h
 ·simp only[List.concat_eq_append] at*
  have hle:u.length≤1000000:=by simp only[List.length_append,List.length_cons,List.length_nil,List.concat_eq_append] at hl;omega
  have hw:IntKind.wrap .i64 (((u++[b]).length:Int)-1)=(u.length:Int):=by
   rw[wrap64 (by simp only[List.length_append,List.length_cons,List.length_nil];omega) (by simp only[List.length_append,List.length_cons,List.length_nil];omega)];simp
  rw[hw,Sq (by simp)]
  simp
theorem Bio{n:Nd}(hl:n.Aj.length≤1000000):Ej n=some (Asr n):=by
 unfold Ej Asr
 simp only[beq_iff_eq]
 by_cases h0:n.Ag=0
 ·rw[if_pos h0,if_pos h0]
  simp only[Option.bind_some]
  have key:(gdO (decide ((n.Aj.length:Int)>0)) (byO n.Aj (IntKind.wrap .i64 ((n.Aj.length:Int)-1))) 0).bind (fun x3=>
    ((if (decide ((n.Aj.length:Int)>0)&&(x3==37))=true then
      some (IntKind.wrap .i64 ((n.Aj.length:Int)-1))
    else
     some (n.Aj.length:Int)):Option Int))=some ((trimS n.Aj).length:Int)∧slO n.Aj 0 ((trimS n.Aj).length:Int)=some (trimS n.Aj):=by
   rcases List.eq_nil_or_concat n.Aj with he|⟨u,b,he⟩
   ·rw[he];exact⟨rfl,rfl⟩
   ·rw[List.concat_eq_append] at he
    have hle:u.length≤1000000:=by rw[he] at hl;simp only[List.length_append,List.length_cons,List.length_nil] at hl;omega
    have hne:n.Aj≠[]:=by rw[he];simp
    have hd:decide ((n.Aj.length:Int)>0)=true:=by rw[he];simp only[List.length_append,List.length_cons,List.length_nil,decide_eq_true_eq];omega
    have hw:IntKind.wrap .i64 ((n.Aj.length:Int)-1)=(u.length:Int):=by
     rw[he,wrap64 (by simp only[List.length_append,List.length_cons,List.length_nil];omega) (by simp only[List.length_append,List.length_cons,List.length_nil];omega)];simp
    rw[hd,Bps hl hne,hw]
    unfold trimS
    rw[he]
    simp only[List.getLast?_append,List.getLast?_singleton,Option.some_or,Option.map_some,A2,cond_true,Option.bind_some,Bool.true_and,Option.some.injEq,List.dropLast_concat]
    by_cases hb:b=37
    ·subst hb
     refine⟨rfl,?_⟩
     simp only[if_true]
     rw[Jr (by simp)]
     simp
    ·have hb2:((b.toNat:Int)==37)=false:=by
      rw[beq_eq_false_iff_ne]
      intro hc
      refine hb (UInt8.toNat_inj.1 ?_)
      show b.toNat=37
      omega
     rw[hb2,if_neg hb]
     refine⟨rfl,?_⟩
     rw[Jr (Nat.le_refl _),List.take_length]
  obtain⟨k1,k2⟩:=key
  obtain⟨x3,k3,k4⟩:=Avd k1
  rw[k3]
  simp only[Option.bind_some]
  refine Bh k4 ?_
  refine Bh k2 ?_
  rw[Bv5 (Nat.le_trans (Bji _) hl)]
  rfl
 ·rw[if_neg h0,if_neg h0]
  by_cases h1:n.Ag=1
  ·rw[if_pos h1,if_pos h1,Bt1 hl];rfl
  ·rw[if_neg h1,if_neg h1]
   cases n.Aj<;>rfl
def stk:List Nd→Option (List Nat)
 |[]=>some []
 |n::l=>match stk l with
  |none=>none
  |some st=>match Ih n.Ag with
   |none=>none
   |some k=>if Asr n=true∧k≤st.length then some (((st.take k).foldl max 0+1)::st.drop k) else none
def Su(l:List Nd):Nat:=if 200<l.length then 0 else match stk l with
 |some [d]=>if d≤24 then d else 0
 |_=>0
theorem Bjb: ∀(p:List Nd) {l:List Nd},stk l=none→stk (p++l)=none
 |[],l,h=>h
 |n::p,l,h=>by rw[List.cons_append,stk,Bjb p h]
theorem Bou: ∀{l:List Nd} {st:List Nat},stk l=some st→st.length≤l.length
 |[],st,h=>by cases h;exact Nat.le_refl _
 |n::l,st,h=>by
  rw[stk] at h
  cases h1:stk l with
  |none=>rw[h1] at h;cases h
  |some s=>
   have:=Bou h1
   rw[h1] at h
   simp only at h
   cases h2:Ih n.Ag with
   |none=>rw[h2] at h;cases h
   |some k=>
    rw[h2] at h
    simp only at h
    split at h
    ·cases h;simp;omega
    ·cases h
theorem Bwj{l:List Nd}(h:stk l=some []):l=[]:=by
 cases l with
 |nil=>rfl
 |cons n l=>
  rw[stk] at h
  cases h1:stk l with
  |none=>rw[h1] at h;cases h
  |some s=>
   rw[h1] at h
   simp only at h
   cases h2:Ih n.Ag with
   |none=>rw[h2] at h;cases h
   |some k=>
    rw[h2] at h
    simp only at h
    split at h<;>cases h
theorem Atn: ∀(l:List Nat) (m b:Nat),m≤b→(∀x∈l,x≤b)→l.foldl max m≤b
 |[],m,b,h,_=>h
 |x::l,m,b,h,hx=>Atn l _ b (Nat.max_le.2 ⟨h,hx x (by simp)⟩) (fun y hy=>hx y (by simp[hy]))
theorem Bak: ∀{l:List Nd} {st:List Nat},stk l=some st→ ∀d∈st,d≤l.length
 |[],st,h=>by cases h;simp
 |n::l,st,h=>by
  rw[stk] at h
  cases h1:stk l with
  |none=>rw[h1] at h;cases h
  |some s=>
   have hb:=Bak h1
   rw[h1] at h
   simp only at h
   cases h2:Ih n.Ag with
   |none=>rw[h2] at h;cases h
   |some k=>
    rw[h2] at h
    simp only at h
    split at h
    ·cases h
     intro d hd
     rw[List.mem_cons] at hd
     rcases hd with rfl|hd
     ·have:=Atn (s.take k) 0 l.length (by omega) (fun x hx=>hb x (List.mem_of_mem_take hx))
      simp only[List.length_cons]
      omega
     ·have:=hb d (List.mem_of_mem_drop hd)
      simp only[List.length_cons]
      omega
    ·cases h
def stI(st:List Nat):List Int:=(st.map fun(d:Nat)=>(d:Int)).reverse
theorem Btc{st:List Nat}{k:Nat}(hk:k≤st.length)(hl:st.length≤100000):A5 (fun(qj11:Int×Int)=>match qj11 with
       |(deep12,k13)=>(
        if (decide (k13<(k:Int)))=true then
         (rdO (stI st) (IntKind.wrap .i64 ((IntKind.wrap .i64 (((stI st).length:Int)-1))-k13))).bind fun x14=>
         some (.inl ((if x14>deep12 then x14 else deep12),IntKind.wrap .i64 (k13+1)))
        else
         some (.inr deep12):Option ((Int×Int)⊕Int))) (0,0)=some (((st.take k).foldl max 0:Nat):Int):=by
 have key: ∀(d j:Nat),j+d=k→A5 (fun(qj11:Int×Int)=>match qj11 with
       |(deep12,k13)=>(
        if (decide (k13<(k:Int)))=true then
         (rdO (stI st) (IntKind.wrap .i64 ((IntKind.wrap .i64 (((stI st).length:Int)-1))-k13))).bind fun x14=>
         some (.inl ((if x14>deep12 then x14 else deep12),IntKind.wrap .i64 (k13+1)))
        else
         some (.inr deep12):Option ((Int×Int)⊕Int))) ((((st.take j).foldl max 0:Nat):Int),(j:Int))=some (((st.take k).foldl max 0:Nat):Int):=by
  intro d
  induction d with
  |zero=>
   intro j hj
   obtain rfl:j=k:=by omega
   refine Ay ?_
   show(if _ then _ else _)=_
   rw[if_neg (by simp)]
  |succ d ih=>
   intro j hj
   have hjl:j<st.length:=by omega
   rw[←ih (j+1) (by omega)]
   refine Bm ?_
   show(if _ then _ else _)=_
   have hlen:(stI st).length=st.length:=by simp[stI]
   have hw:IntKind.wrap .i64 ((IntKind.wrap .i64 (((stI st).length:Int)-1))-(j:Int))=((st.length-1-j:Nat):Int):=by
    rw[hlen,wrap64 (x:=(st.length:Int)-1) (by omega) (by omega),wrap64 (by omega) (by omega)]
    omega
   rw[if_pos (by simp;omega),hw,Fj (by rw[hlen];omega)]
   have hg:(stI st)[st.length-1-j]'(by rw[hlen];omega)=(st[j]:Int):=by
    simp only[stI,List.getElem_reverse,List.length_map,List.getElem_map]
    congr 2
    omega
   rw[hg]
   simp only[Option.bind_some]
   rw[List.take_succ_eq_append_getElem hjl,List.foldl_append,wrap64 (by omega) (by omega)]
   simp only[List.foldl_cons,List.foldl_nil,Option.some.injEq,Sum.inl.injEq,Prod.mk.injEq]
   refine⟨?_,rfl⟩
   generalize (st.take j).foldl max 0=m
   split<;>omega
 exact key k 0 (by omega)
theorem Bki{l:List Nd}(hl:l.length≤200)(hx: ∀n∈l,n.Aj.length≤1000000): ∀(pre suf:List Nd),l=pre++suf→ ∀st,stk suf=some st→A5 (fun(qj2:(List Int)×Int)=>match qj2 with
   |(stack3,i4)=>(
    if (decide (i4≥0))=true then
     (rdO l i4).bind fun x5=>
     (E7 x5.Ag).bind fun x6=>
     (rdO l i4).bind fun x7=>
     (Ej x7).bind fun x8=>
     (some (decide (x6<0))).bind fun c9=>
     (some (c9||(!x8))).bind fun c10=>
     if (c10||(decide (x6>(stack3.length:Int))))=true then
      some (.inr (.inr 0))
     else
      ((A5 (fun(qj11:Int×Int)=>match qj11 with
        |(deep12,k13)=>(
         if (decide (k13<x6))=true then
          (rdO stack3 (IntKind.wrap .i64 ((IntKind.wrap .i64 ((stack3.length:Int)-1))-k13))).bind fun x14=>
          some (.inl ((if x14>deep12 then x14 else deep12),IntKind.wrap .i64 (k13+1)))
         else
          some (.inr deep12):Option ((Int×Int)⊕Int))) (0,0)):Option Int).bind fun j11=>
      (slO stack3 0 (IntKind.wrap .i64 ((stack3.length:Int)-x6))).bind fun x16=>
      (apO 8 ([]:List Int) x16).bind fun x17=>
      (apO 8 x17 [IntKind.wrap .i64 (j11+1)]).bind fun x18=>
      some (.inl (x18,IntKind.wrap .i64 (i4-1)))
    else
     some (.inr (.inl stack3)):Option (((List Int)×Int)⊕((List Int)⊕Int)))) (stI st,(pre.length:Int)-1)=some (match stk l with|some s=> .inl (stI s)|none=> .inr 0):=by
 intro pre
 induction hn:pre.length generalizing pre with
 |zero=>
  intro suf he st hst
  obtain rfl:pre=[]:=List.eq_nil_of_length_eq_zero hn
  rw[List.nil_append] at he
  subst he
  rw[hst]
  refine Ay ?_
  rfl
 |succ m ih=>
  intro suf he st hst
  rcases List.eq_nil_or_concat pre with rfl|⟨q,n,rfl⟩
  ·cases hn
  ·rw[List.concat_eq_append] at*
   have hq:q.length=m:=by simp at hn;omega
   have he2:l=q++(n::suf):=by simp[he]
   have hlen:q.length<l.length:=by rw[he2];simp
   have hg:l[q.length]=n:=by simp[he2]
   have hm:((m+1:Nat):Int)-1=(q.length:Int):=by omega
   have hnx:n.Aj.length≤1000000:=hx n (by rw[he2];simp)
   have hstl:=Bou hst
   have hsl:suf.length+q.length+1≤200:=by rw[he2] at hl;simp at hl;omega
   have hstI:(stI st).length=st.length:=by simp[stI]
   rw[hm]
   by_cases hgood: ∃k,Ih n.Ag=some k∧Asr n=true∧k≤st.length
   ·obtain⟨k,h1,h2,h3⟩:=hgood
    have hk3:k≤3:=Bbj h1
    have hst2:stk (n::suf)=some (((st.take k).foldl max 0+1)::st.drop k):=by
     rw[stk,hst]
     simp only[h1]
     rw[if_pos ⟨h2,h3⟩]
    have:=ih q hq (n::suf) he2 _ hst2
    rw[←this]
    refine Bm ?_
    show(if _ then _ else _)=_
    rw[if_pos (by simp),Fj hlen,hg]
    simp only[Option.bind_some]
    rw[Bom,Bio hnx]
    have hI:Bbh n.Ag=(k:Int):=by unfold Bbh;rw[h1]
    simp only[Option.bind_some,hI,h2]
    rw[if_neg (by rw[hstI];simp;omega),Btc h3 (by omega)]
    have hb:(st.take k).foldl max 0≤200:=Atn _ _ _ (by omega) (fun x hx=>by
     have:=Bak hst x (List.mem_of_mem_take hx);omega)
    simp only[Option.bind_some]
    have hw:IntKind.wrap .i64 (((stI st).length:Int)-(k:Int))=((st.length-k:Nat):Int):=by
     rw[hstI,wrap64 (by omega) (by omega)];omega
    rw[hw,Jr (by rw[hstI];omega)]
    simp only[Option.bind_some]
    unfold apO
    rw[if_pos (by simp[hstI];omega)]
    simp only[Option.bind_some]
    rw[if_pos (by simp[hstI];omega)]
    simp only[Option.bind_some]
    rw[wrap64 (by omega) (by omega),wrap64 (by omega) (by omega)]
    simp only[List.nil_append,Option.some.injEq,Sum.inl.injEq,Prod.mk.injEq]
    refine⟨?_,by omega⟩
    simp only[stI,List.map_cons,List.reverse_cons]
    congr 1
    rw[List.take_reverse]
    congr 1
    simp only[List.length_map]
    rw[show st.length-(st.length-k)=k by omega,List.map_drop]
   ·have hnone:stk (n::suf)=none:=by
     rw[stk,hst]
     simp only
     cases h1:Ih n.Ag with
     |none=>rfl
     |some k=>
      simp only
      rw[if_neg]
      rintro⟨h2,h3⟩
      exact hgood ⟨k,h1,h2,h3⟩
    have hln:stk l=none:=by rw[he2];exact Bjb q hnone
    rw[hln]
    refine Ay ?_
    show(if _ then _ else _)=_
    rw[if_pos (by simp),Fj hlen,hg]
    simp only[Option.bind_some]
    rw[Bom,Bio hnx]
    simp only[Option.bind_some]
    rw[if_pos]
    rw[hstI]
    simp only[Bool.or_eq_true,decide_eq_true_eq,Bool.not_eq_true']
    unfold Bbh
    cases h1:Ih n.Ag with
    |none=>left;left;simp
    |some k=>
     simp only
     by_cases h2:Asr n=true
     ·right
      have: ¬k≤st.length:=fun h3=>hgood ⟨k,h1,h2,h3⟩
      omega
     ·left;right
      simpa using h2
theorem Bqf{l:List Nd}(hx: ∀n∈l,n.Aj.length≤1000000):D1 l=some (Su l:Int):=by
 unfold D1 Su
 by_cases hl:200<l.length
 ·rw[if_pos (by simp;omega),if_pos hl];rfl
 ·rw[if_neg (by simp;omega),if_neg hl]
  have h1:=Bki (by omega) hx l [] (by simp) [] rfl
  have hw:IntKind.wrap .i64 ((l.length:Int)-1)=(l.length:Int)-1:=wrap64 (by omega) (by omega)
  rw[hw]
  refine Bh h1 ?_
  cases hs:stk l with
  |none=>rfl
  |some st=>
   simp only
   have hstI:(stI st).length=st.length:=by simp[stI]
   match st with
   |[]=>rfl
   |[d]=>
    have e0:rdO (stI [d]) 0=some (d:Int):=rfl
    have e1:(((stI [d]).length:Int)!=1)=false:=rfl
    simp only[Option.bind_some,e1,e0,Bool.not_false,A2,cond_true,Bool.false_or]
    by_cases hd:d≤24
    ·rw[if_neg (by simp;omega),if_pos hd]
    ·rw[if_pos (by simp;omega),if_neg hd]
     rfl
   |a::b::st=>
    have e1:(((stI (a::b::st)).length:Int)!=1)=true:=by simp[stI];omega
    simp only[Option.bind_some,e1,Bool.not_true,gdO,Bool.true_or,if_true]
    rfl
def Jh(w:List Nd→Option (List Nd×Nat)):Nat→List Nd→Nat→Option (List Nd×Nat)
 |0,l,deep=>some (l,deep)
 |k+1,l,deep=>match w l with
  |none=>none
  |some (r,d)=>Jh w k r (max deep d)
def Fv:Nat→List Nd→Option (List Nd×Nat)
 |0,_=>none
 |_+1,[]=>none
 |f+1,n::l=>match Ih n.Ag with
  |none=>none
  |some k=>if Asr n=true then(Jh (Fv f) k l 0).map (fun x=>(x.1,x.2+1)) else none
theorem A2a{w:List Nd→Option (List Nd×Nat)}(hw: ∀l r d,w l=some (r,d)→r <:+ l): ∀(k:Nat) (l:List Nd) (m:Nat) (r:List Nd) (d:Nat),Jh w k l m=some (r,d)→r <:+ l
 |0,l,m,r,d,h=>by cases h;exact List.suffix_refl _
 |k+1,l,m,r,d,h=>by
  rw[Jh] at h
  cases h1:w l with
  |none=>rw[h1] at h;cases h
  |some x=>
   rw[h1] at h
   exact(A2a hw k _ _ r d h).trans (hw l x.1 x.2 h1)
theorem A54: ∀(f:Nat) (l r:List Nd) (d:Nat),Fv f l=some (r,d)→r <:+ l
 |0,l,r,d,h=>by cases h
 |f+1,[],r,d,h=>by cases h
 |f+1,n::l,r,d,h=>by
  rw[Fv] at h
  cases h1:Ih n.Ag with
  |none=>rw[h1] at h;cases h
  |some k=>
   rw[h1] at h
   simp only at h
   split at h
   ·cases h2:Jh (Fv f) k l 0 with
    |none=>rw[h2] at h;cases h
    |some x=>
     rw[h2] at h
     cases h
     exact(A2a (A54 f) k l 0 x.1 x.2 h2).trans (List.suffix_cons n l)
   ·cases h
theorem Bjm(f:Nat)(l r:List Nd)(d:Nat)(h:Fv f l=some (r,d)):1≤d∧r.length<l.length:=by
 match f,l with
 |0,l=>cases h
 |f+1,[]=>cases h
 |f+1,n::l=>
  rw[Fv] at h
  cases h1:Ih n.Ag with
  |none=>rw[h1] at h;cases h
  |some k=>
   rw[h1] at h
   simp only at h
   split at h
   ·cases h2:Jh (Fv f) k l 0 with
    |none=>rw[h2] at h;cases h
    |some x=>
     rw[h2] at h
     cases h
     have:=(A2a (A54 f) k l 0 x.1 x.2 h2).length_le
     simp
     omega
   ·cases h
theorem Bn4{w:List Nd→Option (List Nd×Nat)}{N:Nat}(hw: ∀l d st,l.length≤N→stk l=some (d::st)→ ∃r,w l=some (r,d)∧r.length<l.length∧stk r=some st): ∀(k:Nat) (l:List Nd) (m:Nat) (st:List Nat),l.length≤N→stk l=some st→k≤st.length→ ∃r,Jh w k l m=some (r,(st.take k).foldl max m)∧stk r=some (st.drop k)
 |0,l,m,st,_,h,_=>⟨l,rfl,h⟩
 |k+1,l,m,[],_,h,hk=>absurd hk (by simp)
 |k+1,l,m,d::st,hN,h,hk=>by
  obtain⟨r,h1,h2,h3⟩:=hw l d st hN h
  obtain⟨r2,h4,h5⟩:=Bn4 hw k r (max m d) st (by omega) h3 (by simpa using hk)
  refine⟨r2,?_,h5⟩
  rw[Jh,h1]
  exact h4
theorem Bo4: ∀(N f:Nat) (l:List Nd) (d:Nat) (st:List Nat),l.length≤N→l.length<f→stk l=some (d::st)→ ∃r,Fv f l=some (r,d)∧r.length<l.length∧stk r=some st:=by
 intro N
 induction N with
 |zero=>
  intro f l d st hN hf h
  obtain rfl:l=[]:=List.eq_nil_of_length_eq_zero (by omega)
  cases h
 |succ N ih=>
  intro f l d st hN hf h
  cases l with
  |nil=>cases h
  |cons n l=>
   obtain⟨g,rfl⟩: ∃g,f=g+1:=⟨f-1,by omega⟩
   simp only[List.length_cons] at hN hf
   rw[stk] at h
   cases h1:stk l with
   |none=>rw[h1] at h;cases h
   |some s=>
    rw[h1] at h
    simp only at h
    cases h2:Ih n.Ag with
    |none=>rw[h2] at h;cases h
    |some k=>
     rw[h2] at h
     simp only at h
     split at h
     ·rename_i h3
      cases h
      obtain⟨r,h4,h5⟩:=Bn4 (w:=Fv g) (N:=l.length) (fun l' d' st' hl' hs'=>ih g l' d' st' (by omega) (by omega) hs') k l 0 s (Nat.le_refl _) h1 h3.2
      have h6:Fv (g+1) (n::l)=some (r,(s.take k).foldl max 0+1):=by
       rw[Fv,h2]
       simp only
       rw[if_pos h3.1,h4]
       rfl
      exact⟨r,h6,(Bjm _ _ _ _ h6).2,h5⟩
     ·cases h
theorem Bn5{w:List Nd→Option (List Nd×Nat)}(hw: ∀l r d st,w l=some (r,d)→stk r=some st→stk l=some (d::st)): ∀(k:Nat) (l:List Nd) (m:Nat) (r:List Nd) (d:Nat) (st:List Nat),Jh w k l m=some (r,d)→stk r=some st→ ∃ds:List Nat,ds.length=k∧stk l=some (ds++st)∧d=ds.foldl max m
 |0,l,m,r,d,st,h,hs=>by cases h;exact⟨[],rfl,hs,rfl⟩
 |k+1,l,m,r,d,st,h,hs=>by
  rw[Jh] at h
  cases h1:w l with
  |none=>rw[h1] at h;cases h
  |some x=>
   rw[h1] at h
   obtain⟨ds,h2,h3,h4⟩:=Bn5 hw k x.1 (max m x.2) r d st h hs
   exact⟨x.2::ds,by simp[h2],hw l x.1 x.2 _ h1 h3,h4⟩
theorem Bo5: ∀(f:Nat) (l r:List Nd) (d:Nat) (st:List Nat),Fv f l=some (r,d)→stk r=some st→stk l=some (d::st)
 |0,l,r,d,st,h,hs=>by cases h
 |f+1,[],r,d,st,h,hs=>by cases h
 |f+1,n::l,r,d,st,h,hs=>by
  rw[Fv] at h
  cases h1:Ih n.Ag with
  |none=>rw[h1] at h;cases h
  |some k=>
   rw[h1] at h
   simp only at h
   split at h
   ·rename_i h3
    cases h2:Jh (Fv f) k l 0 with
    |none=>rw[h2] at h;cases h
    |some x=>
     rw[h2] at h
     cases h
     obtain⟨ds,g1,g2,g3⟩:=Bn5 (Bo5 f) k l 0 x.1 x.2 st h2 hs
     rw[stk,g2]
     simp only[h1]
     rw[if_pos ⟨h3,by simp;omega⟩]
     have e1:(ds++st).take k=ds:=by rw[←g1];simp
     have e2:(ds++st).drop k=st:=by rw[←g1];simp
     rw[e1,e2,g3]
   ·cases h
theorem walk_eq: ∀(f:Nat) (l:List Nd),l.length<f→l.length≤100000→(∀n∈l,n.Aj.length≤1000000)→I6 f l=some (match Fv f l with|some x=>(x.1,(x.2:Int))|none=>([],0))
 |0,l,h,_,_=>absurd h (by simp)
 |f+1,[],_,_,_=>by
  rw[I6]
  rfl
 |f+1,n::l,hf,hl,hx=>by
  simp only[List.length_cons] at hf hl
  have hnx:=hx n (by simp)
  rw[I6]
  have e0:rdO (n::l) 0=some n:=rfl
  have e1:(((n::l).length:Int)==0)=false:=by simp;omega
  rw[e0]
  simp only[Option.bind_some,e1,Bool.not_false,A2,cond_true,Bool.false_or]
  rw[has_eq]
  simp only[A2,cond_true,Option.bind_some]
  rw[Fv]
  have hI:Bbh n.Ag=match Ih n.Ag with|none=> -1|some n=>(n:Int):=rfl
  cases h1:Ih n.Ag with
  |none=>
   rw[h1] at hI
   rw[hI]
   rfl
  |some k=>
   have hk3:k≤3:=Bbj h1
   rw[h1] at hI
   simp only at hI⊢
   rw[hI]
   have hneg:decide ((k:Int)<0)=false:=by simp
   rw[hneg]
   simp only[Bool.not_false,cond_true,Bool.false_or]
   rw[Bvs hnx]
   simp only[A2,cond_true,Option.bind_some]
   by_cases h2:Asr n=true
   ·rw[if_neg (by simp[h2]),if_pos h2]
    have e2:slO (n::l) 1 ((n::l).length:Int)=some l:=by
     have:=H4 (l:=n::l) (n:=1) (by simp)
     simpa using this
    rw[e2]
    simp only[Option.bind_some]
    have key: ∀(d j:Nat) (rest:List Nd) (m:Nat),j+d=k→rest.length≤l.length→m≤100000→(∀n∈rest,n.Aj.length≤1000000)→(∀r d',Jh (Fv f) d rest m=some (r,d')→d'≤1000000)→A5 (fun(qj11:(List Aa)×Int×Int)=>match qj11 with
    |(rest12,deep13,x14)=>(
     if (decide (x14<(k:Int)))=true then
      (I6 f rest12).bind fun x15=>
      if (x15.2==0)=true then
       some (.inr (.inr (([]:List Aa),0)))
      else
       some (.inl (x15.1,(if x15.2>deep13 then x15.2 else deep13),IntKind.wrap .i64 (x14+1)))
     else
      some (.inr (.inl (rest12,deep13))):Option (((List Aa)×Int×Int)⊕(((List Aa)×Int)⊕((List Aa)×Int))))) (rest,(m:Int),(j:Int))=some (match Jh (Fv f) d rest m with|some x=> .inl (x.1,(x.2:Int))|none=> .inr ([],0)):=by
     intro d
     induction d with
     |zero=>
      intro j rest m hj _ _ _ _
      refine Ay ?_
      show(if _ then _ else _)=_
      rw[if_neg (by simp;omega)]
      rfl
     |succ d ihd=>
      intro j rest m hj hr hm hxr hb
      have hw:=walk_eq f rest (by omega) (by omega) hxr
      rw[Jh]
      rw[Jh] at hb
      cases h3:Fv f rest with
      |none=>
       rw[h3] at hw
       simp only
       refine Ay ?_
       show(if _ then _ else _)=_
       rw[if_pos (by simp;omega),hw]
       rfl
      |some x=>
       rw[h3] at hw hb
       simp only at hw hb⊢
       have hp:=Bjm f rest x.1 x.2 h3
       have hs:=A54 f rest x.1 x.2 h3
       have hxd:x.2≤100000:=by
        have:=walk_depth f rest x.1 x.2 h3
        omega
       rw[←ihd (j+1) x.1 (max m x.2) (by omega) (by omega) (by omega) (fun n hn=>hxr n (hs.subset hn)) hb]
       refine Bm ?_
       show(if _ then _ else _)=_
       rw[if_pos (by simp;omega),hw]
       simp only[Option.bind_some]
       rw[if_neg (by simp;omega),wrap64 (by omega) (by omega)]
       simp only[Option.some.injEq,Sum.inl.injEq,Prod.mk.injEq,true_and]
       refine⟨?_,rfl⟩
       split<;>omega
    have hb: ∀r d',Jh (Fv f) k l 0=some (r,d')→d'≤1000000:=by
     intro r d' h
     have:=walk_depth (f+1) (n::l) r (d'+1) (by rw[Fv,h1];simp only;rw[if_pos h2,h];rfl)
     simp at this
     omega
    refine Bh (key k 0 l 0 (by omega) (Nat.le_refl _) (by omega) (fun n hn=>hx n (by simp[hn])) hb) ?_
    cases h3:Jh (Fv f) k l 0 with
    |none=>rfl
    |some x=>
     have:=hb x.1 x.2 h3
     simp only[Option.map_some]
     rw[wrap64 (by omega) (by omega)]
     rfl
   ·rw[if_pos (by simpa using h2),if_neg h2]
where walk_depth: ∀(f:Nat) (l r:List Nd) (d:Nat),Fv f l=some (r,d)→d+r.length≤l.length
 |0,l,r,d,h=>by cases h
 |f+1,[],r,d,h=>by cases h
 |f+1,n::l,r,d,h=>by
  rw[Fv] at h
  cases h1:Ih n.Ag with
  |none=>rw[h1] at h;cases h
  |some k=>
   rw[h1] at h
   simp only at h
   split at h
   ·cases h2:Jh (Fv f) k l 0 with
    |none=>rw[h2] at h;cases h
    |some x=>
     rw[h2] at h
     cases h
     have key: ∀(k:Nat) (l:List Nd) (m:Nat) (r:List Nd) (d:Nat),Jh (Fv f) k l m=some (r,d)→d+r.length≤max (m+r.length) l.length∧r.length≤l.length:=by
      intro k
      induction k with
      |zero=>intro l m r d h;cases h;omega
      |succ k ih=>
       intro l m r d h
       rw[Jh] at h
       cases h3:Fv f l with
       |none=>rw[h3] at h;cases h
       |some x=>
        rw[h3] at h
        have e1:=walk_depth f l x.1 x.2 h3
        have e2:=ih x.1 (max m x.2) r d h
        omega
     have:=key k l 0 x.1 x.2 h2
     simp
     omega
   ·cases h
theorem Bfs{l:List Nd}(hx: ∀n∈l,n.Aj.length≤1000000):Ot l=some (Su l:Int):=by
 unfold Ot Su
 by_cases hl:200<l.length
 ·rw[if_pos (by simp;omega),if_pos hl];rfl
 ·rw[if_neg (by simp;omega),if_neg hl,walk_eq 100000 l (by omega) (by omega) hx]
  simp only[Option.bind_some]
  cases hw:Fv 100000 l with
  |none=>
   simp only
   cases hs:stk l with
   |none=>rfl
   |some st=>
    cases st with
    |nil=>rfl
    |cons d st=>
     obtain⟨r,h1,_⟩:=Bo4 l.length 100000 l d st (Nat.le_refl _) (by omega) hs
     rw[hw] at h1
     cases h1
  |some x=>
   obtain⟨r,d⟩:=x
   simp only
   cases r with
   |nil=>
    have hs:=Bo5 _ _ _ _ [] hw rfl
    rw[hs]
    simp only
    by_cases hd:d≤24
    ·rw[if_neg (by simp;omega),if_pos hd]
    ·rw[if_pos (by simp;omega),if_neg hd];rfl
   |cons a r=>
    rw[if_pos (by simp)]
    cases hs:stk l with
    |none=>rfl
    |some st=>
     match st with
     |[]=>rfl
     |[d']=>
      obtain⟨r',h1,_,h3⟩:=Bo4 l.length 100000 l d' [] (Nat.le_refl _) (by omega) hs
      rw[hw] at h1
      cases h1
      exact absurd (Bwj h3) (by simp)
     |a::b::st=>rfl
theorem right_eq{l:List Nd}(hx: ∀n∈l,n.Aj.length≤1000000):Ee l=some (decide (0<Su l)):=by
 unfold Ee
 rw[Bfs hx]
 simp only[Option.bind_some,Option.some.injEq,decide_eq_decide]
 omega
theorem Be6{text:List UInt8}(hl:text.length<4611686018427387904){i:Nat}(hi:i≤text.length):Y9 text (i:Int)=some ((plS (text.take i)).1,(plS (text.take i)).2,0):=by
 unfold Y9
 have h1:decide ((i:Int)<0)=false:=decide_eq_false (by omega)
 have h2:decide ((i:Int)>(text.length:Int))=false:=decide_eq_false (by omega)
 simp only[h1,h2,Option.bind_some,Bool.or_self,Bool.false_eq_true,if_false,Jr hi,Bg1 (s:=text.take i) (by simp;omega)]
theorem Bqd{text:List UInt8}(hl:text.length≤8000): ∀(f at_:Nat) (row:List Ad),at_≤text.length→text.length-at_<f→row.length≤1500→
  A5 (fun(qj3:Int×(List Ad))=>match qj3 with
   |(at_4,row5)=>(
    if (decide (at_4<(text.length:Int)))=true then
     (slO text at_4 (text.length:Int)).bind fun x6=>
     (Df x6).bind fun x7=>
     if (x7.f_E !=0)=true then
      some (.inr (.inr (([]:List Ad),at_4,x7.f_E)))
     else
      if ((row5.length:Int)==1500)=true then
       some (.inr (.inr (([]:List Ad),at_4,6)))
      else
       (Ci text at_4).bind fun x8=>
       (slO text at_4 (IntKind.wrap .i64 (at_4+x7.P7))).bind fun x9=>
       (apO 40 row5 [(⟨x7.Ag,x8.1,x8.2,x9⟩:Ad)]).bind fun x10=>
       (slO text (IntKind.wrap .i64 (at_4+x7.P7)) (text.length:Int)).bind fun x11=>
       (C6 x11).bind fun x12=>
       some (.inl (IntKind.wrap .i64 ((IntKind.wrap .i64 (at_4+x7.P7))+x12),x10))
    else
     some (.inr (.inl row5)):Option ((Int×(List Ad))⊕((List Ad)⊕((List Ad)×Int×Int))))) ((at_:Int),row)
   =some (match P9 f (text.drop at_) at_ row.length with| .inl l=> .inl (row++l.map (Au4 text))| .inr e=> .inr ([],(e.1:Int),(e.2:Int))):=by
 intro f
 induction f with
 |zero=>intro at_ row h1 h2;omega
 |succ f ih=>
  intro at_ row h1 h2 h3
  by_cases he:at_=text.length
  ·subst he
   rw[Ay (o:= .inl row)]
   ·simp[P9]
   ·have:decide (((text.length:Nat):Int)<(text.length:Int))=false:=by simp
    simp only[this,Bool.false_eq_true,if_false]
  ·have hlt:at_<text.length:=by omega
   have hd:decide ((at_:Int)<(text.length:Int))=true:=by simp;omega
   have hrest:text.drop at_≠[]:=by simp;omega
   obtain⟨b,t,hbt⟩: ∃b t,text.drop at_=b::t:=by
    cases hx:text.drop at_ with
    |nil=>exact absurd hx hrest
    |cons b t=>exact⟨b,t,rfl⟩
   have hlr:(b::t).length=text.length-at_:=by rw[←hbt,List.length_drop]
   have hnext:=Bip (b:=b) (t:=t) (by omega)
   rw[←hbt] at hnext
   have hs1:=H4 (l:=text) (n:=at_) h1
   rw[P9,if_neg hrest]
   generalize hnx:Bn (text.drop at_)=nx at hnext
   obtain⟨k,n,e⟩:=nx
   by_cases hee:e=0
   ·subst hee
    simp only[reT,if_true] at hnext
    obtain⟨hn1,hn2⟩:=Sj hnx
    rw[List.length_drop] at hn2
    simp only[ne_eq,not_true_eq_false,if_false]
    by_cases hfull:row.length=1500
    ·rw[if_pos hfull,Ay (o:= .inr ([],(at_:Int),6))]
     ·rfl
     ·have:((row.length:Int)==1500)=true:=by simp[hfull]
      simp only[hd,if_true,hs1,hnext,Option.bind_some,bne_self_eq_false,Bool.false_eq_true,if_false,this]
    ·rw[if_neg hfull]
     have e1:IntKind.wrap .i64 ((at_:Int)+(n:Int))=((at_+n:Nat):Int):=by rw[wrap64 (by omega) (by omega)];omega
     have hs3:=Bes (l:=text) (a:=at_) (b:=at_+n) (by omega) (by omega)
     have hs4:=H4 (l:=text) (n:=at_+n) (by omega)
     have hdd:text.drop (at_+n)=(text.drop at_).drop n:=by rw[List.drop_drop]
     have hsk:=Iu false ((text.drop at_).drop n)
     rw[List.length_drop,List.length_drop] at hsk
     have hskip:=A97 (s:=(text.drop at_).drop n) (by rw[List.length_drop,List.length_drop];omega)
     have e2:IntKind.wrap .i64 (((at_+n:Nat):Int)+(Bb false ((text.drop at_).drop n):Int))=((at_+n+Bb false ((text.drop at_).drop n):Nat):Int):=by rw[wrap64 (by omega) (by omega)];omega
     have hpl:=Ax9 (s:=text) (by omega) h1
     have hap: ∀x:Ad,apO 40 row [x]=some (row++[x]):=fun x=>by
      unfold apO
      rw[if_pos (by simp;omega)]
     have hmid:(text.take (at_+n)).drop at_=(text.drop at_).take n:=by rw[List.drop_take];congr 1;omega
     have hlen:((row.length:Int)==1500)=false:=by simp;omega
     rw[Bm (s':=(((at_+n+Bb false ((text.drop at_).drop n):Nat):Int),row++[Au4 text (at_,k,n)])),ih (at_+n+Bb false ((text.drop at_).drop n)) (row++[Au4 text (at_,k,n)]) (by omega) (by omega) (by simp;omega)]
     ·have hdr:text.drop (at_+n+Bb false ((text.drop at_).drop n))=((text.drop at_).drop n).drop (Bb false ((text.drop at_).drop n)):=by
       rw[List.drop_drop,List.drop_drop]
      rw[hdr,List.length_append,List.length_singleton]
      cases P9 f (((text.drop at_).drop n).drop (Bb false ((text.drop at_).drop n))) (at_+n+Bb false ((text.drop at_).drop n)) (row.length+1) with
      |inl l=>simp
      |inr e=>rfl
     ·simp only[hd,if_true,hs1,hnext,Option.bind_some,bne_self_eq_false,Bool.false_eq_true,if_false,hlen,hpl,e1,hs3,hmid,hap,hs4,hdd,hskip,e2]
      rfl
   ·have hne:((e:Int)!=0)=true:=by simp;omega
    simp only[reT,if_neg hee] at hnext
    simp only[ne_eq,hee,not_false_eq_true,if_true]
    rw[Ay (o:= .inr ([],(at_:Int),(e:Int)))]
    simp only[hd,if_true,hs1,hnext,Option.bind_some,hne]
theorem Bv3{text:List UInt8}(hl:text.length≤8000):C1 text=some (match Atd text with| .inl l=>(l.map (Au4 text),0,0)| .inr e=>([],(e.1:Int),(e.2:Int))):=by
 have hs:=Iu false text
 unfold C1 Atd
 have h1:decide ((text.length:Int)>8000)=false:=decide_eq_false (by omega)
 simp only[h1,Bool.false_eq_true,if_false,A97 (show text.length<4611686018427387904 by omega),Option.bind_some]
 have:=Bqd hl (text.length+1) (Bb false text) [] hs (by omega) (by simp)
 refine Bh this ?_
 simp only[List.length_nil]
 cases P9 (text.length+1) (text.drop (Bb false text)) (Bb false text) 0 with
 |inl l=>simp
 |inr e=>rfl
theorem Bqc{text:List UInt8}(hl:8000<text.length):C1 text=some ([],0,4):=by
 unfold C1
 have h1:decide ((text.length:Int)>8000)=true:=decide_eq_true (by omega)
 simp only[h1,if_true]
def LX(s:By):List Tk⊕(Nat×Nat):=if 8000<s.length then .inr (0,4) else match Atd s with
 | .inl l=> .inl (l.map (Au4 s))
 | .inr e=> .inr e
theorem Bw8(s:By):Ad9 s=some (match LX s with| .inl l=>(l,0,0)| .inr e=>([],(e.1:Int),(e.2:Int))):=by
 unfold LX
 by_cases h:8000<s.length
 ·rw[if_pos h,Brs h];rfl
 ·rw[if_neg h,Bxe (by omega)]
  cases Atd s<;>rfl
theorem Bu3(s:By):C1 s=some (match LX s with| .inl l=>(l,0,0)| .inr e=>([],(e.1:Int),(e.2:Int))):=by
 unfold LX
 by_cases h:8000<s.length
 ·rw[if_pos h,Bqc h];rfl
 ·rw[if_neg h,Bv3 (by omega)]
  cases Atd s<;>rfl
theorem Baq{s:By}{l:List Tk}(h:LX s= .inl l):Fit l∧l.length≤8000∧s.length≤8000∧(∀t∈l,okT t=true)∧Bjc l≤s.length:=by
 unfold LX at h
 split at h
 ·cases h
 ·rename_i hs
  have hs:s.length≤8000:=by omega
  cases ha:Atd s with
  |inr e=>rw[ha] at h;cases h
  |inl m=>
   rw[ha] at h
   cases h
   obtain⟨h1,h2,h3⟩:=Bru hs ha
   refine⟨⟨by simp;omega,fun t ht=>?_⟩,by simp;omega,hs,h3,h2⟩
   have:=Buc ht
   omega
theorem Bar{s:By}{e:Nat×Nat}(h:LX s= .inr e):e.2≠0∧e.1≤s.length:=by
 unfold LX at h
 split at h
 ·cases h;exact⟨by simp,by simp⟩
 ·cases ha:Atd s with
  |inl m=>rw[ha] at h;cases h
  |inr e'=>
   rw[ha] at h
   cases h
   obtain⟨h1,h2,_⟩:=Bu6 (p:=e.1) (e:=e.2) ha
   exact⟨h1,by omega⟩
def As8(s:By):List Nd×Int×Int×Int:=match LX s with
 | .inr e=>([],(plS (s.take e.1)).1,(plS (s.take e.1)).2,(e.2:Int))
 | .inl l=>match CL l 0 with
  |(_,t::_)=>([],t.Sx,t.Amu,14)
  |(none,[])=>([],(plS s).1,(plS s).2,14)
  |(some a,[])=>if Su a=0 then([],1,1,4) else(a,0,0,0)
theorem Bu4(l:List Tk):(⟨l,0,false⟩:Ab)=RD l l false:=by
 unfold RD ps
 simp
theorem Bv1(l:List Tk):ps l l=0:=by unfold ps;simp
theorem Bfi{s:By}(hs:s.length≤1000000):Ov s=some (match LX s with| .inl l=> .inl (0,0,0,RD l l false)| .inr e=> .inr ((plS (s.take e.1)).1,(plS (s.take e.1)).2,(e.2:Int))):=by
 unfold Ov
 rw[Bw8]
 simp only[Option.bind_some]
 cases h:LX s with
 |inl l=>
  simp only[beq_self_eq_true,if_true]
  rw[Bu4]
 |inr e=>
  obtain⟨h1,h2⟩:=Bar h
  simp only
  rw[if_neg (by simp;omega),Be6 (by omega) h2]
  rfl
theorem Bkk{s:By}(hs:s.length≤1000000){l ts:List Tk}(h:ts <:+ l)(fits b:Bool):F9 s fits (RD l ts b)=some (match ts with
  |t::_=>(t.Sx,t.Amu,14)
  |[]=>if b=true then((plS s).1,(plS s).2,14) else if fits=false then(1,1,4) else(0,0,0)):=by
 unfold F9
 have e1:(RD l ts b).C3=ps l ts:=rfl
 have e2:(RD l ts b).J7=l:=rfl
 have e3:(RD l ts b).B9=b:=rfl
 rw[e1,e2,e3,Wb h]
 cases ts with
 |cons t r=>
  rw[Wc h]
  rfl
 |nil=>
  have:=Be6 (text:=s) (i:=s.length) (by omega) (Nat.le_refl _)
  rw[List.take_length] at this
  cases b with
  |true=>simp[this]
  |false=>cases fits<;>rfl
theorem Bsa{s:By}(hs:s.length≤1000000){l ts:List Tk}(h:ts <:+ l):Fy s l (ps l ts)=some (match ts with
  |t::_=>(t.Sx,t.Amu,14)
  |[]=>((plS s).1,(plS s).2,14)):=by
 unfold Fy
 rw[Wb h]
 cases ts with
 |cons t r=>
  rw[Wc h]
  rfl
 |nil=>
  have:=Ax9 (s:=s) (a:=s.length) (by omega) (Nat.le_refl _)
  rw[List.take_length] at this
  simp[this]
theorem Byd{l ts i:List Tk}{a:List Nd}(hF:Fit l)(h:ts <:+ l)(hl:l.length≤8000)(e:CL ts 0=(some a,i)):NB a:=by
 rcases(Bj3 hF h hl).of with⟨a',i',e1,_,e3⟩|⟨o,i',e1,_⟩
 ·rw[e] at e1;cases e1;exact e3
 ·rw[e] at e1;cases e1
theorem A1h{s:By}(hs:s.length≤1000000):Em s=some (As8 s):=by
 unfold Em As8
 rw[Bfi hs]
 simp only[Option.bind_some]
 cases h:LX s with
 |inr e=>
  obtain⟨h1,_⟩:=Bar h
  simp only
  rw[if_pos (by simp;omega)]
 |inl l=>
  obtain⟨hF,hl,_⟩:=Baq h
  simp only[bne_self_eq_false,Bool.false_eq_true,if_false]
  have hsf:=List.suffix_refl l
  rcases(Bj3 hF hsf hl).of with⟨a,i,e1,e2,e3⟩|⟨o,i,e1,e2,e3,e4⟩
  ·have hi:=Il hsf e1
   rw[e1,e2]
   simp only[Option.bind_some]
   rw[right_eq e3]
   simp only[Option.bind_some]
   rw[Bkk hs hi]
   cases i with
   |cons t r=>rfl
   |nil=>
    simp only[Option.bind_some]
    by_cases hd:Su a=0
    ·rw[if_pos hd]
     have:decide (0<Su a)=false:=by simp[hd]
     rw[this];rfl
    ·rw[if_neg hd]
     have:decide (0<Su a)=true:=by simp;omega
     rw[this];rfl
  ·have hi:=Il hsf e1
   rw[e1,e2]
   simp only[Option.bind_some]
   rw[right_eq e4]
   simp only[Option.bind_some]
   rw[Bkk hs hi]
   cases i with
   |cons t r=>rfl
   |nil=>rfl
theorem Bad(x y:Nd):Aa.same x y=decide (x=y):=Aa.same_iff x y
theorem Bni{α:Type} [DecidableEq α]: ∀{a b:List α},a.length=b.length→((List.range' 0 a.length).any fun i=>decide (a[i]? ≠b[i]?))=decide (a≠b)
 |[],[],_=>rfl
 |[],y::b,h=>by simp at h
 |x::a,[],h=>by simp at h
 |x::a,y::b,h=>by
  have ih:=Bni (a:=a) (b:=b) (by simpa using h)
  rw[List.length_cons,List.range'_succ,List.any_cons]
  have hs:(List.range' (0+1) a.length).any (fun i=>decide ((x::a)[i]? ≠(y::b)[i]?))=(List.range' 0 a.length).any fun i=>decide (a[i]? ≠b[i]?):=by
   rw[show(0+1:Nat)=1 from rfl,List.range'_eq_map_range,List.range'_eq_map_range,List.any_map,List.any_map]
   congr 1
   funext i
   simp only[Function.comp_apply,Nat.zero_add]
   rw[Nat.add_comm 1 i]
   simp
  rw[hs,ih]
  by_cases hxy:x=y<;>by_cases hab:a=b<;>simp[hxy,hab]
theorem A1b{α:Type} [DecidableEq α]{a b:List α}{same:α→α→Bool}(hsame: ∀x y,same x y=decide (x=y))(hn:a.length≤1000000)(h:a.length=b.length):A5 (fun(qj3:Int)=>match qj3 with
   |i4=>(
    if (decide (i4<(a.length:Int)))=true then
     (rdO a i4).bind fun x5=>
     (rdO b i4).bind fun x6=>
     if (!(same x5 x6))=true then
      some (.inr (.inr false))
     else
      some (.inl (IntKind.wrap .i64 (i4+1)))
    else
     some (.inr (.inl ())):Option (Int⊕(Unit⊕Bool)))) 0=some (if a=b then .inl () else .inr false):=by
 have:=A9p (n:=a.length) (q:=fun i=>decide (a[i]? ≠b[i]?)) (o:=(.inr false:Unit⊕Bool)) (e:= .inl ()) (f:=fun(qj3:Int)=>match qj3 with
   |i4=>(
    if (decide (i4<(a.length:Int)))=true then
     (rdO a i4).bind fun x5=>
     (rdO b i4).bind fun x6=>
     if (!(same x5 x6))=true then
      some (.inr (.inr false))
     else
      some (.inl (IntKind.wrap .i64 (i4+1)))
    else
     some (.inr (.inl ())):Option (Int⊕(Unit⊕Bool)))) (by omega) (fun i hi=>by
   show(if _ then _ else _)=_
   rw[if_pos (by simp;omega),Fj hi,Fj (by omega)]
   simp only[Option.bind_some]
   rw[hsame,List.getElem?_eq_getElem hi,List.getElem?_eq_getElem (h▸hi)]
   by_cases hx:a[i]=b[i]
   ·simp[hx]
   ·simp[hx]) (fun i hi=>by
   show(if _ then _ else _)=_
   rw[if_neg (by simp;omega)]) 0
 refine this.trans ?_
 rw[Nat.sub_zero,Bni h]
 by_cases hab:a=b<;>simp[hab]
theorem Be5{a b:List Nd}(hn:a.length≤1000000):D2 a b=some (decide (a=b)):=by
 unfold D2
 by_cases h:a.length=b.length
 ·rw[if_neg (by simp;omega)]
  refine Bh (A1b Bad hn h) ?_
  by_cases hab:a=b
  ·simp[hab]
  ·simp[hab]
 ·rw[if_pos (by simp;omega)]
  have:a≠b:=fun c=>h (by rw[c])
  simp[this]
abbrev St:=List Tk×Bool
def mT(s:By)(x:St):St:=L1 [s] x
def sm(k:Int)(x:St):By×St:=Js k true x
theorem Bd(s:By)(x:St):(mT s x).1 <:+ x.1:=A9u _ _
theorem I9(k:Int)(x:St):(sm k x).2.1 <:+ x.1:=Bqo _ _ _
theorem Blb{s:By}{ts:List Tk}:mT s (ts,true)=(ts,true):=Ane
theorem Bt7{k:Int}{ts:List Tk}:sm k (ts,true)=([],ts,true):=by cases ts<;>rfl
theorem F0{s:By}{x:St}(h:(mT s x).2=false):x.2=false∧(mT s x).1.length+1=x.1.length:=by
 obtain⟨ts,b⟩:=x
 cases b with
 |true=>rw[Blb] at h;cases h
 |false=>
  unfold mT at h⊢
  rw[Anf] at h⊢
  split at h
  ·rename_i hs
   rw[if_pos hs]
   exact⟨rfl,Kb hs⟩
  ·cases h
theorem Aqs{k:Int}{x:St}(h:(sm k x).2.2=false):x.2=false∧(sm k x).2.1.length+1=x.1.length:=by
 obtain⟨ts,b⟩:=x
 cases b with
 |true=>rw[Bt7] at h;cases h
 |false=>
  cases ts with
  |nil=>cases h
  |cons t r=>
   unfold sm Js at h⊢
   simp only at h⊢
   split at h
   ·cases h
   ·rename_i hs
    rw[if_neg hs]
    simp
theorem Btf(s u:By)(ss:List By)(x:St):L1 (s::u::ss) x=L1 (u::ss) (mT s x):=by
 obtain⟨ts,b⟩:=x
 cases b with
 |true=>rw[Blb,Ane,Ane]
 |false=>
  unfold mT
  rw[Anf,L1]
  simp only[Bool.not_false,Bool.true_and]
  split
  ·rfl
  ·rw[Ane]
def RX(l:List Tk)(x:St):Ab:=RD l x.1 x.2
def PX(l:List Tk)(x:St):Ac:=⟨l,ps l x.1,x.2⟩
theorem Atv{l:List Tk}(hl:l.length≤1000000){x:St}(h:x.1 <:+ l)(s:By):Aq [s] (RX l x)=some (RX l (mT s x)):=Avz h hl [s] (by simp) x.2
theorem A1e{l:List Tk}(hl:l.length≤1000000){x:St}(h:x.1 <:+ l)(s u:By):Aq [s,u] (RX l x)=some (RX l (mT u (mT s x))):=by
 have:=Avz h hl [s,u] (by simp) x.2
 rw[Btf] at this
 exact this
theorem Ayg{l:List Tk}(hl:l.length≤1000000){x:St}(h:x.1 <:+ l)(k:Int):Ba k true (RX l x)=some ((sm k x).1,RX l (sm k x).2):=Aqt h hl k true x.2
theorem Fk{l:List Tk}(hl:l.length≤1000000){x:St}(h:x.1 <:+ l)(s:By):Ai s (PX l x)=some (PX l (mT s x)):=by
 obtain⟨ts,b⟩:=x
 unfold Ai PX
 simp only at h⊢
 rw[I7 h]
 cases b with
 |true=>rw[Blb];rfl
 |false=>
  unfold mT
  rw[Anf]
  simp only[Option.bind_some,Bool.not_false,A2,cond_true,Bool.true_and]
  split
  ·obtain⟨t,r,rfl,_,_⟩:=Bt (by assumption)
   rw[Dw h hl]
   rfl
  ·rfl
theorem R6{l:List Tk}(hl:l.length≤1000000){x:St}(h:x.1 <:+ l)(k:Int):A0 k (PX l x)=some ((sm k x).1,PX l (sm k x).2):=by
 obtain⟨ts,b⟩:=x
 unfold A0 PX
 simp only at h⊢
 rw[Bok h]
 cases b with
 |true=>rw[Bt7];cases ts<;>rfl
 |false=>
  cases ts with
  |nil=>rfl
  |cons t r=>
   rw[Wc h]
   simp only[List.isEmpty_cons,Bool.or_false,Bool.false_or,Bool.not_false,A2,cond_true,Option.bind_some]
   unfold sm Js
   by_cases h1:t.Ag=k
   ·have hb:(t.Ag !=k)=false:=by simp[h1]
    rw[hb]
    simp only[Bool.false_eq_true,if_false]
    rw[Bjr]
    simp only[Option.bind_some]
    by_cases h2:k=0∧Av1 t.Aj true=true
    ·rw[if_pos (by simp[h2.1,h2.2]),if_pos (Or.inr h2)]
    ·rw[if_neg (by
      intro hc
      simp only[Bool.and_eq_true,beq_iff_eq] at hc
      exact h2 hc),if_neg (by
      rintro(hc|hc)
      ·exact hc h1
      ·exact h2 hc),Dw h hl]
   ·have hb:(t.Ag !=k)=true:=by simp[h1]
    rw[hb,if_pos rfl]
    simp[h1]
def I1(s:By)(x:St):By×St:=((sm 1 (mT s x)).1,mT [59] (sm 1 (mT s x)).2)
theorem Ad5(s:By)(x:St):(I1 s x).2.1 <:+ x.1:=(Bd _ _).trans ((I9 _ _).trans (Bd _ _))
theorem V3{s:By}{x:St}(h:(I1 s x).2.2=false):x.2=false:=(F0 (Aqs (F0 h).1).1).1
theorem Avf{l:List Tk}(hl:l.length≤1000000){x:St}(h:x.1 <:+ l)(s:By):Ck s (RX l x)=some ((I1 s x).1,RX l (I1 s x).2):=by
 unfold Ck
 rw[Atv hl h]
 simp only[Option.bind_some]
 have h1:=(Bd s x).trans h
 rw[Ayg hl h1]
 simp only[Option.bind_some]
 rw[Atv hl ((I9 _ _).trans h1)]
 rfl
def Cf(x:St):Ah×St:=(⟨(sm 1 x).1,(sm 1 (mT [58] (sm 1 x).2)).1⟩,mT [59] (mT [37] (sm 1 (mT [58] (sm 1 x).2)).2))
theorem Avc(x:St):(Cf x).2.1 <:+ x.1:=(Bd _ _).trans ((Bd _ _).trans ((I9 _ _).trans ((Bd _ _).trans (I9 _ _))))
theorem Aqb{x:St}(h:(Cf x).2.2=false):x.2=false∧(Cf x).2.1.length<x.1.length:=by
 have h1:=F0 h
 have h2:=F0 h1.1
 have h3:=Aqs h2.1
 have h4:=F0 h3.1
 have h5:=Aqs h4.1
 refine⟨h5.1,?_⟩
 have e:(Cf x).2.1.length+1=_:=h1.2
 omega
def Cs:Nat→St→List Ah×St
 |0,x=>([],x)
 |f+1,x=>if x.2=true then([],x) else if isT [125] (Cf x).2.1=true then([(Cf x).1],(Cf x).2) else((Cf x).1::(Cs f (Cf x).2).1,(Cs f (Cf x).2).2)
def Bxg(x:St):List Ah×St:=Cs (x.1.length+2) x
theorem A84: ∀(f:Nat) (x:St),(Cs f x).2.1 <:+ x.1
 |0,x=>List.suffix_refl _
 |f+1,x=>by
  rw[Cs]
  split
  ·exact List.suffix_refl _
  ·split
   ·exact Avc x
   ·exact(A84 f _).trans (Avc x)
theorem Bj5: ∀(f:Nat) (x:St),(Cs f x).2.2=false→x.2=false
 |0,x,h=>h
 |f+1,x,h=>by
  rw[Cs] at h
  cases hx:x.2 with
  |false=>rfl
  |true=>rw[if_pos hx] at h;exact h.symm.trans hx |>.symm▸rfl
theorem Bj6{l:List Tk}(hl:l.length≤100000)(d13 d14 d15 d16:By)(d17:List Nd)(d18 d19 d20:By): ∀(f:Nat) (x:St) (first:Bool) (row:List Ah),x.1 <:+ l→(x.2=false→x.1.length+2≤f)→1≤f→(x.2=false→row.length+x.1.length≤100000)→row.length≤100001→
  A5 (fun(qj10:Bool×Ab×(List UInt8)×(List UInt8)×(List UInt8)×(List UInt8)×(List Aa)×(List UInt8)×(List UInt8)×(List UInt8)×(List Ah))=>match qj10 with
  |(first11,r12,d13,d14,d15,d16,d17,d18,d19,d20,row21)=>(
   (some (!r12.B9)).bind fun c22=>
   (gdO (c22&& !first11) (Bw [125] r12) (default:Bool)).bind fun x23=>
   if (c22&&(first11||(!x23)))=true then
    (Ba 1 true (⟨(bif (c22&& !first11) then r12.J7 else r12.J7),(bif (c22&& !first11) then r12.C3 else r12.C3),(bif (c22&& !first11) then r12.B9 else r12.B9)⟩:Ab)).bind fun x24=>
    (Aq [[58]] x24.2).bind fun x25=>
    (Ba 1 true x25).bind fun x26=>
    (Aq [[37],[59]] x26.2).bind fun x27=>
    (apO 32 row21 [(⟨x24.1,x26.1⟩:Ah)]).bind fun x28=>
    some (.inl (false,x27,d13,d14,d15,d16,d17,d18,d19,d20,x28))
   else
    some (.inr ((⟨(bif (c22&& !first11) then r12.J7 else r12.J7),(bif (c22&& !first11) then r12.C3 else r12.C3),(bif (c22&& !first11) then r12.B9 else r12.B9)⟩:Ab),(⟨d13,d14,d15,d16,row21,d17,d18,d19,d20⟩:Af))):Option ((Bool×Ab×(List UInt8)×(List UInt8)×(List UInt8)×(List UInt8)×(List Aa)×(List UInt8)×(List UInt8)×(List UInt8)×(List Ah))⊕(Ab×Af)))) (first,RX l x,d13,d14,d15,d16,d17,d18,d19,d20,row)
  =some (if first=false∧isT [125] x.1=true then(RX l x,⟨d13,d14,d15,d16,row,d17,d18,d19,d20⟩) else(RX l (Cs f x).2,⟨d13,d14,d15,d16,row++(Cs f x).1,d17,d18,d19,d20⟩)):=by
 have hl6:l.length≤1000000:=by omega
 intro f
 induction f with
 |zero=>intro x first row _ _ h;exact absurd h (by simp)
 |succ f ih=>
  intro x first row hx hf _ hrow hrow2
  have e3:(RX l x).B9=x.2:=rfl
  cases hb:x.2 with
  |true=>
   have hbs:Cs (f+1) x=([],x):=by rw[Cs,if_pos hb]
   rw[hbs]
   simp only[List.append_nil,ite_self]
   refine Ay ?_
   simp only[Option.bind_some,e3,hb,Bool.not_true,Bool.false_and,gdO,Bool.false_eq_true,if_false,cond_false]
   rw[show(⟨(RX l x).J7,(RX l x).C3,true⟩:Ab)=RX l x by unfold RX;rw[hb];rfl]
  |false=>
   have hf:=hf hb
   have hrow:=hrow hb
   by_cases hc:first=false∧isT [125] x.1=true
   ·rw[if_pos hc]
    refine Ay ?_
    simp only[Option.bind_some,e3,hb,Bool.not_false,Bool.true_and,hc.1]
    rw[show Bw [125] (RX l x)=some (!x.2&&isT [125] x.1) from A9i hx _ _,hb,hc.2]
    simp only[Bool.not_false,Bool.true_and,A2,cond_true,Option.bind_some,Bool.not_true,Bool.or_self,Bool.false_eq_true,if_false]
    rw[show(⟨(RX l x).J7,(RX l x).C3,false⟩:Ab)=RX l x by unfold RX;rw[hb];rfl]
   ·rw[if_neg hc]
    have hy:=Avc x
    have hbs:Cs (f+1) x=if isT [125] (Cf x).2.1=true then([(Cf x).1],(Cf x).2) else((Cf x).1::(Cs f (Cf x).2).1,(Cs f (Cf x).2).2):=by
     rw[Cs,if_neg (by simp[hb])]
    have hih:=ih (Cf x).2 false (row++[(Cf x).1]) (hy.trans hx) (fun hg=>by have:=(Aqb hg).2;omega) (by omega) (fun hg=>by have:=(Aqb hg).2;simp;omega) (by simp;omega)
    have hgoal:(if isT [125] (Cf x).2.1=true then(RX l (Cf x).2,(⟨d13,d14,d15,d16,row++[(Cf x).1],d17,d18,d19,d20⟩:Af)) else(RX l (Cs f (Cf x).2).2,⟨d13,d14,d15,d16,(row++[(Cf x).1])++(Cs f (Cf x).2).1,d17,d18,d19,d20⟩))=(RX l (Cs (f+1) x).2,⟨d13,d14,d15,d16,row++(Cs (f+1) x).1,d17,d18,d19,d20⟩):=by
     rw[hbs]
     split
     ·rfl
     ·simp
    rw[←hgoal]
    simp only[true_and] at hih
    rw[←hih]
    refine Bm ?_
    have hx23:gdO (!false&& !first) (Bw [125] (RX l x)) (default:Bool)=some (bif !first then isT [125] x.1 else default):=by
     rw[show Bw [125] (RX l x)=some (!x.2&&isT [125] x.1) from A9i hx _ _,hb]
     simp[A2]
    simp only[Option.bind_some,e3,hb]
    rw[hx23]
    simp only[Option.bind_some,Bool.not_false,Bool.true_and,Bool.cond_self]
    rw[if_pos (by
     cases first with
     |true=>rfl
     |false=>
      have:isT [125] x.1=false:=by rw[←Bool.not_eq_true];exact fun h=>hc ⟨rfl,h⟩
      simp[this])]
    rw[show(⟨(RX l x).J7,(RX l x).C3,false⟩:Ab)=RX l x by unfold RX;rw[hb];rfl]
    have s1:=I9 1 x
    rw[Ayg hl6 hx]
    simp only[Option.bind_some]
    rw[Atv hl6 (s1.trans hx)]
    simp only[Option.bind_some]
    have s2:=(Bd [58] (sm 1 x).2).trans (s1.trans hx)
    rw[Ayg hl6 s2]
    simp only[Option.bind_some]
    rw[A1e hl6 ((I9 1 _).trans s2)]
    simp only[Option.bind_some]
    unfold apO
    rw[if_pos (by simp only[List.length_cons,List.length_nil];omega)]
    rfl
theorem Bpa{l:List Tk}(hl:l.length≤100000): ∀(f:Nat) (x:St) (row:List Ah),x.1 <:+ l→(x.2=false→x.1.length+2≤f)→1≤f→(x.2=false→row.length+x.1.length≤100000)→row.length≤100001→
  ∃o,A5 (fun(qj2:Ac×(List Ah))=>match qj2 with
  |(p3,row4)=>(
   if (!p3.Om)=true then
    (A0 1 p3).bind fun x5=>
    (Ai [58] x5.2).bind fun x6=>
    (A0 1 x6).bind fun x7=>
    (Ai [37] x7.2).bind fun x8=>
    (Ai [59] x8).bind fun x9=>
    (apO 32 row4 [(⟨x5.1,x7.1⟩:Ah)]).bind fun x10=>
    (A4 x9.f_L x9.Sw [125]).bind fun x11=>
    if x11=true then
     some (.inr (.inr (x10,x9)))
    else
     some (.inl (x9,x10))
   else
    some (.inr (.inl (row4,p3))):Option ((Ac×(List Ah))⊕(((List Ah)×Ac)⊕((List Ah)×Ac))))) (PX l x,row)=some o∧(match o with
   | .inr o=>some o
   | .inl (out12,p13)=>some (out12,p13))=some (row++(Cs f x).1,PX l (Cs f x).2):=by
 have hl6:l.length≤1000000:=by omega
 intro f
 induction f with
 |zero=>intro x row _ _ h;exact absurd h (by simp)
 |succ f ih=>
  intro x row hx hf _ hrow hrow2
  have e3:(PX l x).Om=x.2:=rfl
  cases hb:x.2 with
  |true=>
   have hbs:Cs (f+1) x=([],x):=by rw[Cs,if_pos hb]
   rw[hbs]
   refine⟨.inl (row,PX l x),Ay ?_,by simp⟩
   simp only[e3,hb,Bool.not_true,Bool.false_eq_true,if_false]
  |false=>
   have hf:=hf hb
   have hrow:=hrow hb
   have hy:=Avc x
   have hbs:Cs (f+1) x=if isT [125] (Cf x).2.1=true then([(Cf x).1],(Cf x).2) else((Cf x).1::(Cs f (Cf x).2).1,(Cs f (Cf x).2).2):=by
    rw[Cs,if_neg (by simp[hb])]
   have hstep: ∀(o:(Ac×(List Ah))⊕(((List Ah)×Ac)⊕((List Ah)×Ac))),(if isT [125] (Cf x).2.1=true then(.inr (.inr (row++[(Cf x).1],PX l (Cf x).2))) else .inl (PX l (Cf x).2,row++[(Cf x).1]):(Ac×(List Ah))⊕(((List Ah)×Ac)⊕((List Ah)×Ac)))=o→
    (if (!(PX l x).Om)=true then
    (A0 1 (PX l x)).bind fun x5=>
    (Ai [58] x5.2).bind fun x6=>
    (A0 1 x6).bind fun x7=>
    (Ai [37] x7.2).bind fun x8=>
    (Ai [59] x8).bind fun x9=>
    (apO 32 row [(⟨x5.1,x7.1⟩:Ah)]).bind fun x10=>
    (A4 x9.f_L x9.Sw [125]).bind fun x11=>
    if x11=true then
     some (.inr (.inr (x10,x9)))
    else
     some (.inl (x9,x10))
   else
    some (.inr (.inl (row,PX l x))):Option ((Ac×(List Ah))⊕(((List Ah)×Ac)⊕((List Ah)×Ac))))=some o:=by
    intro o ho
    rw[e3,hb]
    simp only[Bool.not_false,if_true]
    have s1:=I9 1 x
    rw[R6 hl6 hx]
    simp only[Option.bind_some]
    rw[Fk hl6 (s1.trans hx)]
    simp only[Option.bind_some]
    have s2:=(Bd [58] (sm 1 x).2).trans (s1.trans hx)
    rw[R6 hl6 s2]
    simp only[Option.bind_some]
    have s3:=(I9 1 _).trans s2
    rw[Fk hl6 s3]
    simp only[Option.bind_some]
    rw[Fk hl6 ((Bd _ _).trans s3)]
    simp only[Option.bind_some]
    unfold apO
    rw[if_pos (by simp only[List.length_cons,List.length_nil];omega)]
    simp only[Option.bind_some]
    have:A4 (PX l (Cf x).2).f_L (PX l (Cf x).2).Sw [125]=some (isT [125] (Cf x).2.1):=I7 (hy.trans hx) _
    rw[show(mT [59] (mT [37] (sm 1 (mT [58] (sm 1 x).2)).2))=(Cf x).2 from rfl,this]
    simp only[Option.bind_some]
    rw[←ho]
    split<;>rfl
   by_cases hc:isT [125] (Cf x).2.1=true
   ·rw[hbs,if_pos hc]
    refine⟨.inr (row++[(Cf x).1],PX l (Cf x).2),Ay ?_,rfl⟩
    exact hstep _ (by rw[if_pos hc])
   ·rw[hbs,if_neg hc]
    obtain⟨o,g1,g2⟩:=ih (Cf x).2 (row++[(Cf x).1]) (hy.trans hx) (fun hg=>by have:=(Aqb hg).2;omega) (by omega) (fun hg=>by have:=(Aqb hg).2;simp;omega) (by simp;omega)
    refine⟨o,?_,by rw[g2];simp⟩
    rw[←g1]
    refine Bm ?_
    exact hstep _ (by rw[if_neg hc])
def Ai9(x:St):List Nd×St:=if x.2=true then([],x) else match CL x.1 0 with
 |(some a,i)=>(a,i,false)
 |(none,i)=>([],i,true)
theorem Bvg(x:St):(Ai9 x).2.1 <:+ x.1:=by
 unfold Ai9
 split
 ·exact List.suffix_refl _
 ·have:=F4 x.1 0
  cases h:CL x.1 0 with
  |mk o i=>rw[h] at this;cases o<;>exact this
theorem Bsb{x:St}(h:(Ai9 x).2.2=false):x.2=false:=by
 unfold Ai9 at h
 cases hx:x.2 with
 |false=>rfl
 |true=>rw[if_pos hx] at h;rw[hx] at h;exact h
theorem Bsc{l:List Tk}(hF:Fit l)(hl:l.length≤8000){x:St}(h:x.1 <:+ l): ∃o,parse_reader_any 100000 (RX l x)=some (o,RX l (Ai9 x).2)∧((Ai9 x).2.2=false→o=(Ai9 x).1)∧NB o:=by
 obtain⟨ts,b⟩:=x
 cases b with
 |true=>
  refine⟨[],?_,fun hh=>by simp[Ai9] at hh,fun n hn=>by simp at hn⟩
  exact Jw h hF.l6 99998
 |false=>
  have hfe:Ai9 (ts,false)=match CL ts 0 with
   |(some a,i)=>(a,i,false)
   |(none,i)=>([],i,true):=by unfold Ai9;rw[if_neg (by simp)]
  rcases(Bj3 hF h hl).of with⟨a,i,e1,e2,e3⟩|⟨o,i,e1,e2,e3,e4⟩
  ·rw[e1] at hfe
   rw[hfe]
   exact⟨a,e2,fun _=>rfl,e3⟩
  ·rw[e1] at hfe
   rw[hfe]
   exact⟨o,e2,(fun hh=>by cases hh),e4⟩
def Adh:By:=[112,114,111,100,117,99,116]
def Ayc:By:=[98,97,115,105,115]
def Ais:By:=[112,101,114,105,111,100]
def Hg:By:=[116,105,101,114,115]
def Aiq:By:=[102,101,101]
def Ub:By:=[109,105,110,105,109,117,109]
def I8:By:=[111,118,101,114,100,114,97,102,116]
def Air:By:=[110,111,116,105,99,101]
def pA(x:St):By×St:=sm 0 (mT Adh x)
def pB(x:St):By×St:=sm 0 (pA x).2
def pC(x:St):By×St:=sm 0 (mT Ayc (mT [123] (pB x).2))
def pD(x:St):By×St:=I1 Ais (mT [59] (pC x).2)
def pE(x:St):List Ah×St:=Bxg (mT [123] (mT Hg (pD x).2))
def pF(x:St):List Nd×St:=Ai9 (mT Aiq (mT [125] (pE x).2))
def pG(x:St):By×St:=I1 Ub (mT [59] (pF x).2)
def pH(x:St):By×St:=I1 I8 (pG x).2
def pI(x:St):By×St:=I1 Air (pH x).2
def pZ(x:St):St:=mT [125] (pI x).2
def Di(x:St):Af×St:=(⟨(pA x).1,(pB x).1,(pC x).1,(pD x).1,(pE x).1,(pF x).1,(pG x).1,(pH x).1,(pI x).1⟩,pZ x)
theorem Ble(x:St):(pA x).2.1 <:+ x.1:=(I9 _ _).trans (Bd _ _)
theorem Ax1(x:St):(pB x).2.1 <:+ x.1:=(I9 _ _).trans (Ble x)
theorem Atz(x:St):(pC x).2.1 <:+ x.1:=(I9 _ _).trans ((Bd _ _).trans ((Bd _ _).trans (Ax1 x)))
theorem At0(x:St):(pD x).2.1 <:+ x.1:=(Ad5 _ _).trans ((Bd _ _).trans (Atz x))
theorem Ank(x:St):(pE x).2.1 <:+ x.1:=(A84 _ _).trans ((Bd _ _).trans ((Bd _ _).trans (At0 x)))
theorem At1(x:St):(pF x).2.1 <:+ x.1:=(Bvg _).trans ((Bd _ _).trans ((Bd _ _).trans (Ank x)))
theorem A2y(x:St):(pG x).2.1 <:+ x.1:=(Ad5 _ _).trans ((Bd _ _).trans (At1 x))
theorem A2z(x:St):(pH x).2.1 <:+ x.1:=(Ad5 _ _).trans (A2y x)
theorem Bb2(x:St):(pI x).2.1 <:+ x.1:=(Ad5 _ _).trans (A2z x)
theorem Aws(x:St):(Di x).2.1 <:+ x.1:=(Bd _ _).trans (Bb2 x)
theorem Bih{x:St}(h:(Di x).2.2=false):(pF x).2.2=false:=(F0 (V3 (V3 (V3 (F0 h).1)))).1
theorem Adc{x:St}(h:(Di x).2.2=false):x.2=false∧(Di x).2.1.length<x.1.length:=by
 have h1:=(F0 (F0 (Bsb (Bih h))).1).1
 have h2:=Bj5 _ _ h1
 have h3:=V3 (F0 (F0 h2).1).1
 have h4:=(F0 h3).1
 have h5:=(F0 (F0 (Aqs h4).1).1).1
 have h6:=(Aqs h5).1
 have h7:=(Aqs h6).1
 refine⟨(F0 h7).1,?_⟩
 have e:=F0 h
 have:=(Bb2 x).length_le
 have e2:(Di x).2.1.length+1=(pI x).2.1.length:=e.2
 omega
theorem Bp9{l:List Tk}(hF:Fit l)(hl:l.length≤8000){x:St}(h:x.1 <:+ l): ∃d,Dm (RX l x)=some (d,RX l (Di x).2)∧((Di x).2.2=false→d=(Di x).1)∧NB d.C2:=by
 have hl6:=hF.l6
 obtain⟨o,f1,f2,f3⟩:=Bsc hF hl (x:=mT Aiq (mT [125] (pE x).2)) ((Bd _ _).trans ((Bd _ _).trans ((Ank x).trans h)))
 refine⟨⟨(pA x).1,(pB x).1,(pC x).1,(pD x).1,(pE x).1,o,(pG x).1,(pH x).1,(pI x).1⟩,?_,fun hh=>?_,f3⟩
 ·unfold Dm
  rw[show([112,114,111,100,117,99,116]:By)=Adh from rfl,show([98,97,115,105,115]:By)=Ayc from rfl,show([112,101,114,105,111,100]:By)=Ais from rfl,show([116,105,101,114,115]:By)=Hg from rfl,show([102,101,101]:By)=Aiq from rfl,show([109,105,110,105,109,117,109]:By)=Ub from rfl,show([111,118,101,114,100,114,97,102,116]:By)=I8 from rfl,show([110,111,116,105,99,101]:By)=Air from rfl]
  rw[Atv hl6 h]
  simp only[Option.bind_some]
  rw[Ayg hl6 ((Bd _ _).trans h)]
  simp only[Option.bind_some]
  rw[show sm 0 (mT Adh x)=pA x from rfl,Ayg hl6 ((Ble x).trans h)]
  simp only[Option.bind_some]
  rw[show sm 0 (pA x).2=pB x from rfl,A1e hl6 ((Ax1 x).trans h)]
  simp only[Option.bind_some]
  rw[Ayg hl6 ((Bd _ _).trans ((Bd _ _).trans ((Ax1 x).trans h)))]
  simp only[Option.bind_some]
  rw[show sm 0 (mT Ayc (mT [123] (pB x).2))=pC x from rfl,Atv hl6 ((Atz x).trans h)]
  simp only[Option.bind_some]
  rw[Avf hl6 ((Bd _ _).trans ((Atz x).trans h))]
  simp only[Option.bind_some]
  rw[show I1 Ais (mT [59] (pC x).2)=pD x from rfl,A1e hl6 ((At0 x).trans h)]
  simp only[Option.bind_some]
  have hE:(mT [123] (mT Hg (pD x).2)).1 <:+ l:=(Bd _ _).trans ((Bd _ _).trans ((At0 x).trans h))
  have hEl:=hE.length_le
  have hb:=Bj6 (l:=l) (by omega) (pA x).1 (pB x).1 (pC x).1 (pD x).1 [] [] [] [] ((mT [123] (mT Hg (pD x).2)).1.length+2) (mT [123] (mT Hg (pD x).2)) true [] hE (fun _=>Nat.le_refl _) (by omega) (fun _=>by simp;omega) (by simp)
  refine Bh hb ?_
  rw[if_neg (by simp)]
  rw[show Cs ((mT [123] (mT Hg (pD x).2)).1.length+2) (mT [123] (mT Hg (pD x).2))=pE x from rfl]
  simp only[List.nil_append]
  rw[A1e hl6 ((Ank x).trans h)]
  simp only[Option.bind_some]
  rw[f1]
  simp only[Option.bind_some]
  rw[show Ai9 (mT Aiq (mT [125] (pE x).2))=pF x from rfl,Atv hl6 ((At1 x).trans h)]
  simp only[Option.bind_some]
  rw[Avf hl6 ((Bd _ _).trans ((At1 x).trans h))]
  simp only[Option.bind_some]
  rw[show I1 Ub (mT [59] (pF x).2)=pG x from rfl,Avf hl6 ((A2y x).trans h)]
  simp only[Option.bind_some]
  rw[show I1 I8 (pG x).2=pH x from rfl,Avf hl6 ((A2z x).trans h)]
  simp only[Option.bind_some]
  rw[show I1 Air (pH x).2=pI x from rfl,Atv hl6 ((Bb2 x).trans h)]
  rfl
 ·rw[f2 (Bih hh)]
  rfl
theorem Btq{l:List Tk}(hF:Fit l)(hl:l.length≤8000){x:St}(h:x.1 <:+ l):B5 (PX l x)=some ((Di x).1,PX l (Di x).2):=by
 have hl6:=hF.l6
 unfold B5
 rw[show([112,114,111,100,117,99,116]:By)=Adh from rfl,show([98,97,115,105,115]:By)=Ayc from rfl,show([112,101,114,105,111,100]:By)=Ais from rfl,show([116,105,101,114,115]:By)=Hg from rfl,show([102,101,101]:By)=Aiq from rfl,show([109,105,110,105,109,117,109]:By)=Ub from rfl,show([111,118,101,114,100,114,97,102,116]:By)=I8 from rfl,show([110,111,116,105,99,101]:By)=Air from rfl]
 rw[Fk hl6 h]
 simp only[Option.bind_some]
 rw[R6 hl6 ((Bd _ _).trans h)]
 simp only[Option.bind_some]
 rw[show sm 0 (mT Adh x)=pA x from rfl,R6 hl6 ((Ble x).trans h)]
 simp only[Option.bind_some]
 rw[show sm 0 (pA x).2=pB x from rfl,Fk hl6 ((Ax1 x).trans h)]
 simp only[Option.bind_some]
 rw[Fk hl6 ((Bd _ _).trans ((Ax1 x).trans h))]
 simp only[Option.bind_some]
 rw[R6 hl6 ((Bd _ _).trans ((Bd _ _).trans ((Ax1 x).trans h)))]
 simp only[Option.bind_some]
 rw[show sm 0 (mT Ayc (mT [123] (pB x).2))=pC x from rfl,Fk hl6 ((Atz x).trans h)]
 simp only[Option.bind_some]
 rw[Fk hl6 ((Bd _ _).trans ((Atz x).trans h))]
 simp only[Option.bind_some]
 rw[R6 hl6 ((Bd _ _).trans ((Bd _ _).trans ((Atz x).trans h)))]
 simp only[Option.bind_some]
 rw[Fk hl6 ((I9 _ _).trans ((Bd _ _).trans ((Bd _ _).trans ((Atz x).trans h))))]
 simp only[Option.bind_some]
 rw[show mT [59] (sm 1 (mT Ais (mT [59] (pC x).2))).2=(pD x).2 from rfl,show(sm 1 (mT Ais (mT [59] (pC x).2))).1=(pD x).1 from rfl,Fk hl6 ((At0 x).trans h)]
 simp only[Option.bind_some]
 rw[Fk hl6 ((Bd _ _).trans ((At0 x).trans h))]
 simp only[Option.bind_some]
 have hE:(mT [123] (mT Hg (pD x).2)).1 <:+ l:=(Bd _ _).trans ((Bd _ _).trans ((At0 x).trans h))
 have hEl:=hE.length_le
 have hb:Dj (PX l (mT [123] (mT Hg (pD x).2)))=some ((pE x).1,PX l (pE x).2):=by
  unfold Dj
  obtain⟨o,g1,g2⟩:=Bpa (l:=l) (by omega) ((mT [123] (mT Hg (pD x).2)).1.length+2) (mT [123] (mT Hg (pD x).2)) [] hE (fun _=>Nat.le_refl _) (by omega) (fun _=>by simp;omega) (by simp)
  exact Bh g1 g2
 rw[hb]
 simp only[Option.bind_some]
 rw[Fk hl6 ((Ank x).trans h)]
 simp only[Option.bind_some]
 rw[Fk hl6 ((Bd _ _).trans ((Ank x).trans h))]
 simp only[Option.bind_some]
 have hF':(mT Aiq (mT [125] (pE x).2)).1 <:+ l:=(Bd _ _).trans ((Bd _ _).trans ((Ank x).trans h))
 have hfee:(if (!(PX l (mT Aiq (mT [125] (pE x).2))).Om)=true then
  (cashbookref15_climb 100000 (PX l (mT Aiq (mT [125] (pE x).2))).f_L (PX l (mT Aiq (mT [125] (pE x).2))).Sw 0).bind fun x18=>
  some ((⟨(PX l (mT Aiq (mT [125] (pE x).2))).f_L,x18.2.1,!x18.2.2⟩:Ac),(⟨(pA x).1,(pB x).1,(pC x).1,(pD x).1,(pE x).1,x18.1,[],[],[]⟩:Af))
 else
  some (PX l (mT Aiq (mT [125] (pE x).2)),(⟨(pA x).1,(pB x).1,(pC x).1,(pD x).1,(pE x).1,([]:List Aa),[],[],[]⟩:Af)))=some (PX l (pF x).2,⟨(pA x).1,(pB x).1,(pC x).1,(pD x).1,(pE x).1,(pF x).1,[],[],[]⟩):=by
  unfold pF Ai9
  generalize hy:mT Aiq (mT [125] (pE x).2)=y at hF'
  obtain⟨ts,b⟩:=y
  cases b with
  |true=>rfl
  |false=>
   have hc:=Brz hF hF' hl
   rw[show(PX l (ts,false)).Sw=ps l ts from rfl,show(PX l (ts,false)).f_L=l from rfl,show(PX l (ts,false)).Om=false from rfl,hc]
   simp only[Bool.not_false,if_true,Option.bind_some]
   rw[if_neg (by simp)]
   cases CL ts 0 with
   |mk o i=>cases o<;>rfl
 refine Bh hfee ?_
 simp only
 rw[Fk hl6 ((At1 x).trans h)]
 simp only[Option.bind_some]
 rw[Fk hl6 ((Bd _ _).trans ((At1 x).trans h))]
 simp only[Option.bind_some]
 rw[R6 hl6 ((Bd _ _).trans ((Bd _ _).trans ((At1 x).trans h)))]
 simp only[Option.bind_some]
 rw[Fk hl6 ((I9 _ _).trans ((Bd _ _).trans ((Bd _ _).trans ((At1 x).trans h))))]
 simp only[Option.bind_some]
 rw[show mT [59] (sm 1 (mT Ub (mT [59] (pF x).2))).2=(pG x).2 from rfl,show(sm 1 (mT Ub (mT [59] (pF x).2))).1=(pG x).1 from rfl,Fk hl6 ((A2y x).trans h)]
 simp only[Option.bind_some]
 rw[R6 hl6 ((Bd _ _).trans ((A2y x).trans h))]
 simp only[Option.bind_some]
 rw[Fk hl6 ((I9 _ _).trans ((Bd _ _).trans ((A2y x).trans h)))]
 simp only[Option.bind_some]
 rw[show mT [59] (sm 1 (mT I8 (pG x).2)).2=(pH x).2 from rfl,show(sm 1 (mT I8 (pG x).2)).1=(pH x).1 from rfl,Fk hl6 ((A2z x).trans h)]
 simp only[Option.bind_some]
 rw[R6 hl6 ((Bd _ _).trans ((A2z x).trans h))]
 simp only[Option.bind_some]
 rw[Fk hl6 ((I9 _ _).trans ((Bd _ _).trans ((A2z x).trans h)))]
 simp only[Option.bind_some]
 rw[show mT [59] (sm 1 (mT Air (pH x).2)).2=(pI x).2 from rfl,show(sm 1 (mT Air (pH x).2)).1=(pI x).1 from rfl,Fk hl6 ((Bb2 x).trans h)]
 rfl
def Y6(d:Af):Bool:=decide (d.Az.length≤8)&&decide (0<Su d.C2)
def Cd:Nat→St→List Af×St
 |0,x=>([],x)
 |f+1,x=>if x.2=false∧x.1≠[] then((Di x).1::(Cd f (Di x).2).1,(Cd f (Di x).2).2) else([],x)
theorem Axh: ∀(f:Nat) (x:St),(Cd f x).2.1 <:+ x.1
 |0,x=>List.suffix_refl _
 |f+1,x=>by
  rw[Cd]
  split
  ·exact(Axh f _).trans (Aws x)
  ·exact List.suffix_refl _
theorem A9a: ∀(f:Nat) (x:St),(x.2=false→x.1.length<f)→1≤f→(Cd f x).2.2=true∨(Cd f x).2.1=[]
 |0,x,_,h=>absurd h (by simp)
 |f+1,x,hf,_=>by
  rw[Cd]
  split
  ·rename_i h
   have:=hf h.1
   have hne:0<x.1.length:=List.length_pos_iff.2 h.2
   exact A9a f _ (fun hg=>by have:=(Adc hg).2;omega) (by omega)
  ·rename_i h
   cases hb:x.2 with
   |true=>exact Or.inl rfl
   |false=>exact Or.inr (Decidable.byContradiction fun hc=>h ⟨hb,hc⟩)
theorem Bkg: ∀(f:Nat) (x:St),(Cd f x).2.2=false→x.2=false
 |0,x,h=>h
 |f+1,x,h=>by
  cases hb:x.2 with
  |false=>rfl
  |true=>
   rw[Cd,if_neg (by simp[hb])] at h
   exact hb▸h
theorem Bkh{l:List Tk}(hF:Fit l)(hl:l.length≤8000): ∀(f:Nat) (x:St) (fits:Bool) (row:List Af),x.1 <:+ l→(x.2=false→x.1.length<f)→1≤f→(x.2=false→row.length+x.1.length≤100000)→row.length≤100001→
  ∃o ft,A5 (fun(qj5:Bool×Ab×(List Af))=>match qj5 with
    |(fits6,x7,row8)=>(
     (some (!x7.B9)).bind fun c9=>
     if (c9&&(decide (x7.C3<(x7.J7.length:Int))))=true then
      (Dm x7).bind fun x10=>
      (some (fits6&&(decide ((x10.1.Az.length:Int)≤8)))).bind fun c11=>
      (gdO c11 (Ee x10.1.C2) (default:Bool)).bind fun x12=>
      (apO 160 row8 [x10.1]).bind fun x13=>
      some (.inl ((c11&&x12),x10.2,x13))
     else
      some (.inr (row8,fits6,x7)):Option ((Bool×Ab×(List Af))⊕((List Af)×Bool×Ab)))) (fits,RX l x,row)=some (o,ft,RX l (Cd f x).2)∧((Cd f x).2.2=false→o=row++(Cd f x).1∧ft=(fits&&(Cd f x).1.all Y6)):=by
 have hl6:=hF.l6
 intro f
 induction f with
 |zero=>intro x fits row _ _ h;exact absurd h (by simp)
 |succ f ih=>
  intro x fits row hx hf _ hrow hrow2
  have e1:(RX l x).B9=x.2:=rfl
  have e2:decide ((RX l x).C3<((RX l x).J7.length:Int))= !x.1.isEmpty:=Wb hx
  rw[Cd]
  by_cases hc:x.2=false∧x.1≠[]
  ·rw[if_pos hc]
   have hf:=hf hc.1
   have hrow:=hrow hc.1
   obtain⟨d,p1,p2,p3⟩:=Bp9 hF hl hx
   have hne:0<x.1.length:=List.length_pos_iff.2 hc.2
   obtain⟨o,ft,g1,g2⟩:=ih (Di x).2 (fits&&Y6 d) (row++[d]) ((Aws x).trans hx) (fun hg=>by have:=(Adc hg).2;omega) (by omega) (fun hg=>by have:=(Adc hg).2;simp;omega) (by simp;omega)
   refine⟨o,ft,?_,fun hg=>?_⟩
   ·rw[←g1]
    refine Bm ?_
    simp only[Option.bind_some,e1,e2,hc.1]
    rw[if_pos (by cases hx1:x.1 with|nil=>exact absurd hx1 hc.2|cons a b=>rfl),p1]
    simp only[Option.bind_some]
    rw[right_eq p3]
    simp only[A2,Option.bind_some]
    unfold apO
    rw[if_pos (by simp only[List.length_cons,List.length_nil];omega)]
    simp only[Option.bind_some,Option.some.injEq,Sum.inl.injEq,Prod.mk.injEq,and_true]
    unfold Y6
    have:decide ((d.Az.length:Int)≤8)=decide (d.Az.length≤8):=by rw[decide_eq_decide];omega
    rw[this]
    cases fits<;>cases decide (d.Az.length≤8)<;>rfl
   ·have hd:=p2 (Bkg f _ hg)
    obtain⟨g3,g4⟩:=g2 hg
    refine⟨by rw[g3,hd];simp,?_⟩
    rw[g4,hd,List.all_cons,Bool.and_assoc]
  ·rw[if_neg hc]
   refine⟨row,fits,Ay ?_,fun _=>⟨by simp,by simp⟩⟩
   simp only[Option.bind_some,e1,e2]
   rw[if_neg]
   intro h
   simp only[Bool.and_eq_true,Bool.not_eq_true'] at h
   refine hc ⟨h.1,?_⟩
   intro he
   rw[he] at h
   simp at h
theorem Bxo{l:List Tk}(hF:Fit l)(hl:l.length≤8000){x:St}(h:x.1 <:+ l):NB (Di x).1.C2:=by
 show NB (Ai9 (mT Aiq (mT [125] (pE x).2))).1
 have hs:(mT Aiq (mT [125] (pE x).2)).1 <:+ l:=(Bd _ _).trans ((Bd _ _).trans ((Ank x).trans h))
 generalize mT Aiq (mT [125] (pE x).2)=y at hs
 unfold Ai9
 split
 ·intro n hn;simp at hn
 ·cases hc:CL y.1 0 with
  |mk o i=>
   cases o with
   |none=>intro n hn;simp at hn
   |some a=>exact Byd hF hs hl hc
theorem Bpj{l:List Tk}(hF:Fit l)(hl:l.length≤8000): ∀(f:Nat) (x:St) (lg:Bool) (row:List Af),x.1 <:+ l→(x.2=false→x.1.length<f)→1≤f→(x.2=false→row.length+x.1.length≤100000)→row.length≤100001→
  A5 (fun(qj4:Bool×Ac×(List Af))=>match qj4 with
   |(long5,x6,row7)=>(
    (some (!x6.Om)).bind fun c8=>
    if (c8&&(decide (x6.Sw<(l.length:Int))))=true then
     (B5 x6).bind fun x9=>
     (some (long5||(decide ((x9.1.Az.length:Int)>8)))).bind fun c10=>
     (gdO (!c10) (D1 x9.1.C2) (default:Int)).bind fun x11=>
     (apO 160 row7 [x9.1]).bind fun x12=>
     some (.inl ((c10||(x11==0)),x9.2,x12))
    else
     some (.inr (row7,long5,x6)):Option ((Bool×Ac×(List Af))⊕((List Af)×Bool×Ac)))) (lg,PX l x,row)=some (row++(Cd f x).1,lg|| !(Cd f x).1.all Y6,PX l (Cd f x).2):=by
 have hl6:=hF.l6
 intro f
 induction f with
 |zero=>intro x lg row _ _ h;exact absurd h (by simp)
 |succ f ih=>
  intro x lg row hx hf _ hrow hrow2
  have e1:(PX l x).Om=x.2:=rfl
  have e2:decide ((PX l x).Sw<(l.length:Int))= !x.1.isEmpty:=Wb hx
  rw[Cd]
  by_cases hc:x.2=false∧x.1≠[]
  ·rw[if_pos hc]
   have hf:=hf hc.1
   have hrow:=hrow hc.1
   have hne:0<x.1.length:=List.length_pos_iff.2 hc.2
   have g1:=ih (Di x).2 (lg|| !Y6 (Di x).1) (row++[(Di x).1]) ((Aws x).trans hx) (fun hg=>by have:=(Adc hg).2;omega) (by omega) (fun hg=>by have:=(Adc hg).2;simp;omega) (by simp;omega)
   have e3:(row++(Di x).1::(Cd f (Di x).2).1,lg|| !List.all ((Di x).1::(Cd f (Di x).2).1) Y6,PX l (Cd f (Di x).2).2)=((row++[(Di x).1])++(Cd f (Di x).2).1,(lg|| !Y6 (Di x).1)|| !(Cd f (Di x).2).1.all Y6,PX l (Cd f (Di x).2).2):=by
    simp[List.all_cons,Bool.not_and,Bool.or_assoc]
   show _=some (row++(Di x).1::(Cd f (Di x).2).1,lg|| !List.all ((Di x).1::(Cd f (Di x).2).1) Y6,PX l (Cd f (Di x).2).2)
   rw[e3,←g1]
   refine Bm ?_
   simp only[Option.bind_some,e1,e2,hc.1]
   rw[if_pos (by cases hx1:x.1 with|nil=>exact absurd hx1 hc.2|cons a b=>rfl),Btq hF hl hx]
   simp only[Option.bind_some]
   rw[Bqf (Bxo hF hl hx)]
   simp only[A2,Option.bind_some]
   unfold apO
   rw[if_pos (by simp only[List.length_cons,List.length_nil];omega)]
   simp only[Option.bind_some,Option.some.injEq,Sum.inl.injEq,Prod.mk.injEq,and_true]
   generalize (Di x).1=d
   unfold Y6
   have h8:decide ((d.Az.length:Int)>8)= !decide (d.Az.length≤8):=by
    rw[←decide_not,decide_eq_decide];omega
   rw[h8]
   cases lg with
   |true=>rfl
   |false=>
    cases decide (d.Az.length≤8) with
    |false=>rfl
    |true=>
     simp only[Bool.not_true,Bool.or_false,Bool.false_or,Bool.not_false,cond_true,Bool.true_and]
     by_cases hd:Su d.C2=0
     ·simp[hd]
     ·have:decide (0<Su d.C2)=true:=by simp;omega
      rw[this]
      simp[hd]
  ·rw[if_neg hc]
   have e4:(row++[],lg|| !List.all [] Y6,PX l x)=(row,lg,PX l x):=by simp
   show _=some (row++[],lg|| !List.all [] Y6,PX l x)
   rw[e4]
   refine Ay ?_
   simp only[Option.bind_some,e1,e2]
   rw[if_neg]
   intro h
   simp only[Bool.and_eq_true,Bool.not_eq_true'] at h
   refine hc ⟨h.1,?_⟩
   intro he
   rw[he] at h
   simp at h
def Aim(s:By):List Af×Int×Int×Int:=match LX s with
 | .inr e=>([],(plS (s.take e.1)).1,(plS (s.take e.1)).2,(e.2:Int))
 | .inl l=>match Cd (l.length+1) (l,false) with
  |(_,t::_,_)=>([],t.Sx,t.Amu,14)
  |(_,[],true)=>([],(plS s).1,(plS s).2,14)
  |(ds,[],false)=>if ds.all Y6=true∧ds.length≤16 then(ds,0,0,0) else([],1,1,4)
theorem Bfd{s:By}(hs:s.length≤1000000):Sl s=some (Aim s):=by
 unfold Sl Aim
 rw[Bfi hs]
 simp only[Option.bind_some]
 cases h:LX s with
 |inr e=>
  obtain⟨h1,_⟩:=Bar h
  simp only
  rw[if_pos (by simp;omega)]
 |inl l=>
  obtain⟨hF,hl,_⟩:=Baq h
  simp only[bne_self_eq_false,Bool.false_eq_true,if_false]
  have hsf:=List.suffix_refl l
  obtain⟨o,ft,g1,g2⟩:=Bkh hF hl (l.length+1) (l,false) true [] hsf (fun _=>by simp) (by omega) (fun _=>by simp;omega) (by simp)
  refine Bh g1 ?_
  have hy:=Axh (l.length+1) (l,false)
  generalize hr:Cd (l.length+1) (l,false)=r at g1 g2 hy
  obtain⟨ds,ts,b⟩:=r
  have hy:ts <:+ l:=hy
  simp only
  rw[show RX l (ts,b)=RD l ts b from rfl,Bkk hs hy]
  cases ts with
  |cons t r=>cases b<;>rfl
  |nil=>
   cases b with
   |true=>rfl
   |false=>
    obtain⟨g3,g4⟩:=g2 rfl
    simp only[List.nil_append,Bool.true_and] at g3 g4
    subst g3;subst g4
    simp only[Option.bind_some,Bool.false_eq_true,if_false]
    by_cases hc:List.all o Y6=true∧o.length≤16
    ·have e:(List.all o Y6&&decide ((o.length:Int)≤16))=true:=by
      rw[hc.1];simp;omega
     rw[if_pos hc,e]
     rfl
    ·have e:(List.all o Y6&&decide ((o.length:Int)≤16))=false:=by
      rw[←Bool.not_eq_true]
      intro h
      simp only[Bool.and_eq_true,decide_eq_true_eq] at h
      exact hc ⟨h.1,by omega⟩
     rw[if_neg hc,e]
     rfl
theorem Bu7{s:By}(hs:s.length≤1000000):Hj s=some (Aim s):=by
 unfold Hj Aim
 rw[Bu3]
 simp only[Option.bind_some]
 cases h:LX s with
 |inr e=>
  obtain⟨h1,h2⟩:=Bar h
  simp only
  rw[if_pos (by simp;omega),Ax9 (by omega) h2]
  rfl
 |inl l=>
  obtain⟨hF,hl,_⟩:=Baq h
  simp only[bne_self_eq_false,Bool.false_eq_true,if_false]
  have hsf:=List.suffix_refl l
  have g1:=Bpj hF hl (l.length+1) (l,false) false [] hsf (fun _=>by simp) (by omega) (fun _=>by simp;omega) (by simp)
  rw[show PX l (l,false)=(⟨l,0,false⟩:Ac) by unfold PX;rw[Bv1]] at g1
  refine Bh g1 ?_
  have hy:=Axh (l.length+1) (l,false)
  have he:=A9a (l.length+1) (l,false) (fun _=>by simp) (by omega)
  generalize hr:Cd (l.length+1) (l,false)=r at g1 hy he
  obtain⟨ds,ts,b⟩:=r
  have hy:ts <:+ l:=hy
  have he:b=true∨ts=[]:=he
  simp only[PX]
  cases b with
  |true=>
   rw[if_pos rfl,Bsa hs hy]
   cases ts<;>rfl
  |false=>
   rcases he with he|rfl
   ·cases he
   ·simp only[Bool.false_eq_true,if_false,List.nil_append,Bool.false_or]
    by_cases hc:List.all ds Y6=true∧ds.length≤16
    ·have e:(!List.all ds Y6||decide ((ds.length:Int)>16))=false:=by
      rw[hc.1];simp;omega
     rw[if_pos hc,e]
     rfl
    ·have e:(!List.all ds Y6||decide ((ds.length:Int)>16))=true:=by
      cases ha:List.all ds Y6 with
      |false=>rfl
      |true=>
       have: ¬ds.length≤16:=fun h=>hc ⟨ha,h⟩
       simp;omega
     rw[if_neg hc,e]
     rfl
def A5f(a b:Af):Bool:=decide (a.Az=b.Az)&&decide (a.C2=b.C2)&&decide (a.F7=b.F7)&&decide (a.Jf=b.Jf)&&decide (a.Dt=b.Dt)&&decide (a.Cx=b.Cx)&&decide (a.Cq=b.Cq)&&decide (a.Bu=b.Bu)&&decide (a.Cw=b.Cw)
theorem A5g(a:Af):A5f a a=true:=by simp[A5f]
theorem Bac(x y:Ah):Ah.same x y=decide (x=y):=Ah.same_iff x y
theorem Brx(a b:By):(a==b)=decide (a=b):=by
 by_cases h:a=b<;>simp[h]
theorem Bkm{a b:List Ah}(hn:a.length≤1000000):Ea a b=some (decide (a=b)):=by
 unfold Ea
 by_cases h:a.length=b.length
 ·rw[if_neg (by simp;omega)]
  refine Bh (A1b Bac hn h) ?_
  by_cases hab:a=b<;>simp[hab]
 ·rw[if_pos (by simp;omega)]
  have:a≠b:=fun c=>h (by rw[c])
  simp[this]
theorem Bkn{a b:List Nd}(hn:a.length≤1000000):Eb a b=some (decide (a=b)):=by
 unfold Eb
 by_cases h:a.length=b.length
 ·rw[if_neg (by simp;omega)]
  refine Bh (A1b Bad hn h) ?_
  by_cases hab:a=b<;>simp[hab]
 ·rw[if_pos (by simp;omega)]
  have:a≠b:=fun c=>h (by rw[c])
  simp[this]
theorem Bqj{a b:Af}(h1:a.Az.length≤1000000)(h2:a.C2.length≤1000000):S5 a b=some (A5f a b):=by
 unfold S5
 rw[Bkm h1,Bkn h2]
 simp only[Option.bind_some,A2,Brx]
 unfold A5f
 cases decide (a.Az=b.Az)<;>rfl
theorem Bt3{a b:Af}(h1:a.Az.length≤1000000)(h2:a.C2.length≤1000000):Gv a b=some (A5f a b):=by
 unfold Gv
 rw[Be5 h2]
 simp only[Option.bind_some,Brx]
 unfold A5f
 by_cases hf:a.C2=b.C2
 ·by_cases hl:a.Az.length=b.Az.length
  ·rw[if_neg (by simp[hf,hl])]
   refine Bh (A1b Bac h1 hl) ?_
   by_cases hb:a.Az=b.Az
   ·rw[if_pos hb]
    simp[hb,hf]
   ·rw[if_neg hb]
    simp[hb]
  ·rw[if_pos (by simp;omega)]
   have:a.Az≠b.Az:=fun c=>hl (by rw[c])
   simp[this]
 ·rw[if_pos (by simp[hf])]
  simp[hf]
theorem Bjq{a:List Af}(hn:a.length≤1000000)(h: ∀d∈a,d.Az.length≤1000000∧d.C2.length≤1000000):Fw a a=some true:=by
 unfold Fw
 rw[if_neg (by simp)]
 refine Bh (Ze (l:=a) (fun _=>false) (o:=(.inr false:Unit⊕Bool)) (e:= .inl ()) (by omega) (fun i hi=>?_) (fun i hi=>?_)) ?_
 ·show(if _ then _ else _)=_
  have:=h a[i] (List.getElem_mem hi)
  rw[if_pos (by simp;omega),Fj hi]
  simp only[Option.bind_some]
  rw[Bt3 this.1 this.2,A5g]
  rfl
 ·show(if _ then _ else _)=_
  rw[if_neg (by simp;omega)]
 ·have:a.any (fun _=>false)=false:=by simp
  rw[this]
  rfl
theorem A83: ∀(f:Nat) (x:St),(Cs f x).1.length≤f
 |0,x=>by simp[Cs]
 |f+1,x=>by
  have:=A83 f (Cf x).2
  rw[Cs]
  split
  ·simp
  ·split
   ·simp
   ·simp;omega
theorem Bvf(x:St):(Ai9 x).1.length≤x.1.length:=by
 unfold Ai9
 split
 ·simp
 ·cases h:CL x.1 0 with
  |mk o i=>
   cases o with
   |none=>simp
   |some a=>
    have:=Cb h
    simp only
    omega
theorem Ayv: ∀(f:Nat) (x:St),∀d∈(Cd f x).1,d.Az.length≤x.1.length+2∧d.C2.length≤x.1.length
 |0,x,d,h=>by simp[Cd] at h
 |f+1,x,d,h=>by
  rw[Cd] at h
  split at h
  ·rw[List.mem_cons] at h
   have hs:=(Aws x).length_le
   rcases h with rfl|h
   ·constructor
    ·have h1:=A83 ((mT [123] (mT Hg (pD x).2)).1.length+2) (mT [123] (mT Hg (pD x).2))
     have h2:=((Bd [123] _).trans ((Bd Hg _).trans (At0 x))).length_le
     have h3:(Di x).1.Az=(Cs ((mT [123] (mT Hg (pD x).2)).1.length+2) (mT [123] (mT Hg (pD x).2))).1:=rfl
     rw[h3]
     omega
    ·have h1:=Bvf (mT Aiq (mT [125] (pE x).2))
     have h2:=((Bd Aiq _).trans ((Bd [125] _).trans (Ank x))).length_le
     have h3:(Di x).1.C2=(Ai9 (mT Aiq (mT [125] (pE x).2))).1:=rfl
     rw[h3]
     omega
   ·have:=Ayv f _ d h
    omega
  ·simp at h
theorem Bii(s:By):(Aim s).1.length≤16∧ ∀d∈(Aim s).1,d.Az.length≤1000000∧d.C2.length≤1000000:=by
 unfold Aim
 cases h:LX s with
 |inr e=>simp
 |inl l=>
  obtain⟨hF,hl,_⟩:=Baq h
  have hsm:=Ayv (l.length+1) (l,false)
  simp only
  generalize hr:Cd (l.length+1) (l,false)=r at hsm
  obtain⟨ds,ts,b⟩:=r
  cases ts with
  |cons t r=>simp
  |nil=>
   cases b with
   |true=>simp
   |false=>
    simp only at hsm⊢
    split
    ·rename_i hc
     refine⟨hc.2,fun d hd=>?_⟩
     have:=hsm d hd
     omega
    ·simp
theorem Ben{s:By}(ha:C5=some true):Cz s=some true:=by
 unfold Cz
 by_cases hs:s.length≤9000
 ·rw[if_neg (by simp;omega),Bfd (by omega),Bu7 (by omega)]
  simp only[Option.bind_some]
  have:=Bii s
  rw[Bjq (by omega) this.2,ha]
  simp
 ·rw[if_pos (by simp;omega),ha]
  rfl
theorem Ct{L:List (List By)}(hL:L.length≤1000)(hs:L.flatten.length≤1000000):Ao L=some L.flatten:=by
 unfold Ao
 have h1:A5 (fun(qj2:Int×Int)=>match qj2 with
  |(size3,x4)=>(
   if (decide (x4<(L.length:Int)))=true then
    (rdO L x4).bind fun x5=>
    ((if (decide ((IntKind.wrap .i64 (size3+(x5.length:Int)))<0))=true then
      none
    else
     some ()):Option Unit).bind fun _=>
    some (.inl (IntKind.wrap .i64 (size3+(x5.length:Int)),IntKind.wrap .i64 (x4+1)))
   else
    some (.inr size3):Option ((Int×Int)⊕Int))) (0,0)=some (L.flatten.length:Int):=by
  have key: ∀(t pre:List (List By)),L=pre++t→A5 (fun(qj2:Int×Int)=>match qj2 with
  |(size3,x4)=>(
   if (decide (x4<(L.length:Int)))=true then
    (rdO L x4).bind fun x5=>
    ((if (decide ((IntKind.wrap .i64 (size3+(x5.length:Int)))<0))=true then
      none
    else
     some ()):Option Unit).bind fun _=>
    some (.inl (IntKind.wrap .i64 (size3+(x5.length:Int)),IntKind.wrap .i64 (x4+1)))
   else
    some (.inr size3):Option ((Int×Int)⊕Int))) ((pre.flatten.length:Int),(pre.length:Int))=some (L.flatten.length:Int):=by
   intro t
   induction t with
   |nil=>
    intro pre he
    refine Ay ?_
    subst he
    simp
   |cons x t ih=>
    intro pre he
    have hlen:pre.length<L.length:=by subst he;simp
    have hg:L[pre.length]=x:=by subst he;simp
    have hfl:pre.flatten.length+x.length≤L.flatten.length:=by subst he;simp
    rw[Bm (s':=((((pre++[x]).flatten.length:Nat):Int),(((pre++[x]).length:Nat):Int))),ih (pre++[x]) (by simp[he])]
    show(if _ then _ else _)=_
    rw[if_pos (by simp;omega),Fj hlen,hg]
    simp only[Option.bind_some]
    rw[wrap64 (x:=(pre.flatten.length:Int)+(x.length:Int)) (by omega) (by omega),wrap64 (by omega) (by omega),if_neg (by simp;omega)]
    simp
  exact key L [] rfl
 rw[h1]
 simp only[Option.bind_some]
 have hg:C9 (List UInt8) 16 (L.flatten.length:Int)=some []:=by
  unfold C9 Ec
  rw[if_pos ⟨by omega,by omega⟩]
  rfl
 rw[hg]
 simp only[Option.bind_some]
 have key: ∀(t pre:List (List By)),L=pre++t→A5 (fun(qj9:Int×(List (List UInt8)))=>match qj9 with
  |(x10,row11)=>(
   if (decide (x10<(L.length:Int)))=true then
    (rdO L x10).bind fun x12=>
    (apO 16 row11 x12).bind fun x13=>
    some (.inl (IntKind.wrap .i64 (x10+1),x13))
   else
    some (.inr row11):Option ((Int×(List (List UInt8)))⊕(List (List UInt8))))) ((pre.length:Int),pre.flatten)=some L.flatten:=by
  intro t
  induction t with
  |nil=>
   intro pre he
   refine Ay ?_
   subst he
   simp
  |cons x t ih=>
   intro pre he
   have hlen:pre.length<L.length:=by subst he;simp
   have hg:L[pre.length]=x:=by subst he;simp
   have hfl:pre.flatten.length+x.length≤L.flatten.length:=by subst he;simp
   rw[Bm (s':=((((pre++[x]).length:Nat):Int),(pre++[x]).flatten)),ih (pre++[x]) (by simp[he])]
   show(if _ then _ else _)=_
   rw[if_pos (by simp;omega),Fj hlen,hg]
   simp only[Option.bind_some]
   unfold apO
   rw[if_pos (by omega)]
   simp only[Option.bind_some]
   rw[wrap64 (by omega) (by omega)]
   simp
 exact Bh (key L [] rfl) rfl
abbrev Pc:=Nat×List By
def atS(p:Pc)(lvl:Nat):List By:=if p.1<lvl then [40]::(p.2++[[41]]) else p.2
def Fi(k:Int):Nat×By×Nat×Nat:=
 if k=2 then(7,[45],7,7) else if k=3 then(5,[43],5,6) else if k=4 then(5,[45],5,6) else if k=5 then(6,[42],6,7) else if k=6 then(6,[47],6,7)
 else if k=7 then(4,[60],5,5) else if k=8 then(4,[60,61],5,5) else if k=9 then(4,[61],5,5) else if k=10 then(4,[62],5,5) else if k=11 then(4,[62,61],5,5)
 else if k=12 then(2,Bis,2,3) else if k=13 then(1,sOr,1,2) else if k=14 then(3,Apy,3,3) else if k=15 then(0,sIf,0,0) else if k=16 then(8,Amf,0,0)
 else if k=17 then(8,A05,0,0) else(8,[],0,0)
def Bix(k:Int)(i:Nat):Nat:=if i=0 then(Fi k).2.2.1 else if i=1 then(Fi k).2.2.2 else 0
def Uj(n:Nd)(p0 p1 p2:List By):List By:=
 if n.Ag=0 then(if n.Aj.getLast?=some 37 then [n.Aj.dropLast,[37]] else [n.Aj])
 else if n.Ag=1 then [n.Aj]
 else if n.Ag=2 then [45]::p0
 else if n.Ag=14 then Apy::p0
 else if n.Ag=15 then sIf::(p0++As5::(p1++Apx::p2))
 else if n.Ag=16∨n.Ag=17 then(if n.Ag=17 then A05 else Amf)::[40]::(p0++[44]::(p1++[[41]]))
 else p0++(Fi n.Ag).2.1::p1
def gP(st:List Pc)(k:Int)(i:Nat):List By:=atS (st.getD i (0,[])) (Bix k i)
def Axo(k:Int):Nat:=(Ih k).getD 0
def pst:List Nd→List Pc
 |[]=>[]
 |n::l=>((Fi n.Ag).1,Uj n (gP (pst l) n.Ag 0) (gP (pst l) n.Ag 1) (gP (pst l) n.Ag 2))::(pst l).drop (Axo n.Ag)
theorem kinds{k:Int}(h:Ih k≠none):k=0∨k=1∨k=2∨k=3∨k=4∨k=5∨k=6∨k=7∨k=8∨k=9∨k=10∨k=11∨k=12∨k=13∨k=14∨k=15∨k=16∨k=17:=by
 unfold Ih at h
 split at h
 ·exact absurd rfl h
 ·omega
theorem Aw2{n:Nd}{l:List Nd}{s:List Nat}(h:stk (n::l)=some s): ∃st k,stk l=some st∧Ih n.Ag=some k∧Asr n=true∧k≤st.length∧s=((st.take k).foldl max 0+1)::st.drop k:=by
 rw[stk] at h
 cases h1:stk l with
 |none=>rw[h1] at h;cases h
 |some st=>
  rw[h1] at h
  simp only at h
  cases h2:Ih n.Ag with
  |none=>rw[h2] at h;cases h
  |some k=>
   rw[h2] at h
   simp only at h
   split at h
   ·rename_i h3
    cases h
    exact⟨st,k,rfl,rfl,h3.1,h3.2,rfl⟩
   ·cases h
theorem Aqq: ∀{l:List Nd} {st:List Nat},stk l=some st→(pst l).length=st.length
 |[],st,h=>by cases h;rfl
 |n::l,s,h=>by
  obtain⟨st,k,h1,h2,h3,h4,rfl⟩:=Aw2 h
  have:=Aqq h1
  rw[pst]
  simp only[List.length_cons,List.length_drop,Axo,h2,Option.getD_some]
  omega
def tw(st:List Pc):Nat:=(st.map fun p=>p.2.length).sum
theorem Bwn(st:List Pc)(k:Nat):tw (st.take k)+tw (st.drop k)=tw st:=by
 unfold tw
 rw[←List.sum_append,←List.map_append,List.take_append_drop]
theorem Bnk(p:Pc)(lvl:Nat):(atS p lvl).length≤p.2.length+2:=by
 unfold atS
 split
 ·simp
 ·omega
theorem Bq5(n:Nd)(p0 p1 p2:List By):(Uj n p0 p1 p2).length≤(if Axo n.Ag=0 then 0 else p0.length)+(if Axo n.Ag≤1 then 0 else p1.length)+(if Axo n.Ag≤2 then 0 else p2.length)+4∨Ih n.Ag=none:=by
 by_cases h:Ih n.Ag=none
 ·exact Or.inr h
 ·left
  unfold Uj
  rcases kinds h with e|e|e|e|e|e|e|e|e|e|e|e|e|e|e|e|e|e<;>rw[e]<;>simp[Axo,Ih]<;>(try split)<;>(try simp)<;>(try omega)
theorem Adf: ∀{l:List Nd} {st:List Nat},stk l=some st→tw (pst l)≤10*l.length
 |[],st,h=>by simp[pst,tw]
 |n::l,s,h=>by
  obtain⟨st,k,h1,h2,h3,h4,rfl⟩:=Aw2 h
  have ih:=Adf h1
  have hlen:=Aqq h1
  have hd:=Bwn (pst l) k
  have hk:=Bbj h2
  rcases Bq5 n (gP (pst l) n.Ag 0) (gP (pst l) n.Ag 1) (gP (pst l) n.Ag 2) with hw|hw
  ·rw[pst]
   have hN:Axo n.Ag=k:=by simp[Axo,h2]
   rw[hN] at hw⊢
   have hg: ∀i,(gP (pst l) n.Ag i).length≤((pst l).getD i (0,[])).2.length+2:=fun i=>Bnk _ _
   have g0:=hg 0;have g1:=hg 1;have g2:=hg 2
   have hsum:(if k=0 then 0 else((pst l).getD 0 (0,[])).2.length)+(if k≤1 then 0 else((pst l).getD 1 (0,[])).2.length)+(if k≤2 then 0 else((pst l).getD 2 (0,[])).2.length)=tw ((pst l).take k):=by
    match hp:pst l,k,hk with
    |[],0,_=>rfl
    |[],k+1,_=>rw[hp] at hlen;simp at hlen;omega
    |a::s,0,_=>rfl
    |a::s,1,_=>simp[tw]
    |[a],2,_=>rw[hp] at hlen;simp at hlen;omega
    |[a],3,_=>rw[hp] at hlen;simp at hlen;omega
    |a::b::s,2,_=>simp[tw]
    |[a,b],3,_=>rw[hp] at hlen;simp at hlen;omega
    |a::b::c::s,3,_=>simp[tw];omega
   have htw:tw (((Fi n.Ag).1,Uj n (gP (pst l) n.Ag 0) (gP (pst l) n.Ag 1) (gP (pst l) n.Ag 2))::(pst l).drop k)=(Uj n (gP (pst l) n.Ag 0) (gP (pst l) n.Ag 1) (gP (pst l) n.Ag 2)).length+tw ((pst l).drop k):=by simp[tw]
   rw[htw]
   simp only[List.length_cons]
   split at hw<;>(try split at hw)<;>(try split at hw)<;>(try split at hsum)<;>(try split at hsum)<;>(try split at hsum)<;>omega
  ·rw[hw] at h2;cases h2
theorem Be0{st:List Pc}{p:Pc}(h:p∈st):p.2.length≤tw st:=by
 unfold tw
 exact List.single_le_sum_nat (List.mem_map.2 ⟨p,h,rfl⟩)
where
 List.single_le_sum_nat: ∀{l:List Nat} {x:Nat},x∈l→x≤l.sum:=by
  intro l
  induction l with
  |nil=>intro x h;cases h
  |cons a l ih=>
   intro x h
   rw[List.sum_cons]
   rcases List.mem_cons.1 h with rfl|h
   ·omega
   ·have:=ih h;omega
theorem Bxm{s:By}(hl:s.length≤1000000):strings_CutSuffix s [37]=some (if s.getLast?=some 37 then(s.dropLast,true) else(s,false)):=by
 unfold strings_CutSuffix stringslite_CutSuffix
 rw[A9f hl]
 simp only[Option.bind_some]
 by_cases h:s.getLast?=some 37
 ·rw[if_neg (by simp[h]),Ayx hl h,if_pos h]
  rfl
 ·rw[if_pos (by simp[h]),if_neg h]
  rfl
def Bb4(k:Nat)(p0 p1 p2:List By):List (List By):=[p0,p1,p2].take k
theorem Buy{n:Nd}(hx:n.Aj.length≤1000000){k:Nat}(hk:Ih n.Ag=some k){p0 p1 p2:List By}(hb:p0.length≤100000∧p1.length≤100000∧p2.length≤100000):V9 n (placeOf n.Ag).2.1 (Bb4 k p0 p1 p2)=some (Uj n p0 p1 p2):=by
 have hb0:=hb.1
 have hb1:=hb.2.1
 have hb2:=hb.2.2
 have hne:Ih n.Ag≠none:=by rw[hk];simp
 unfold V9 Uj
 rcases kinds hne with e|e|e|e|e|e|e|e|e|e|e|e|e|e|e|e|e|e<;>rw[e] at hk⊢ <;>(have hk:=Option.some.inj hk)<;>subst hk
 ·simp only[beq_self_eq_true,if_true]
  rw[Bxm hx]
  simp only[Option.bind_some]
  split<;>simp
 ·rfl
 ·show(apO 16 [[45]] p0).bind _=_
  unfold apO
  rw[if_pos (by simp;omega)]
  rfl
 ·show(Ao [p0,[[43]],p1]).bind _=_
  rw[Ct (by simp) (by simp;omega)]
  simp[Fi]
 ·show(Ao [p0,[[45]],p1]).bind _=_
  rw[Ct (by simp) (by simp;omega)]
  simp[Fi]
 ·show(Ao [p0,[[42]],p1]).bind _=_
  rw[Ct (by simp) (by simp;omega)]
  simp[Fi]
 ·show(Ao [p0,[[47]],p1]).bind _=_
  rw[Ct (by simp) (by simp;omega)]
  simp[Fi]
 ·show(Ao [p0,[[60]],p1]).bind _=_
  rw[Ct (by simp) (by simp;omega)]
  simp[Fi]
 ·show(Ao [p0,[[60,61]],p1]).bind _=_
  rw[Ct (by simp) (by simp;omega)]
  simp[Fi]
 ·show(Ao [p0,[[61]],p1]).bind _=_
  rw[Ct (by simp) (by simp;omega)]
  simp[Fi]
 ·show(Ao [p0,[[62]],p1]).bind _=_
  rw[Ct (by simp) (by simp;omega)]
  simp[Fi]
 ·show(Ao [p0,[[62,61]],p1]).bind _=_
  rw[Ct (by simp) (by simp;omega)]
  simp[Fi]
 ·show(Ao [p0,[[97,110,100]],p1]).bind _=_
  rw[Ct (by simp) (by simp;omega)]
  simp[Fi,Bis]
 ·show(Ao [p0,[[111,114]],p1]).bind _=_
  rw[Ct (by simp) (by simp;omega)]
  simp[Fi,sOr]
 ·show(apO 16 [[110,111,116]] p0).bind _=_
  unfold apO
  rw[if_pos (by simp;omega)]
  rfl
 ·show(Ao [[[105,102]],p0,[[116,104,101,110]],p1,[[101,108,115,101]],p2]).bind _=_
  rw[Ct (by simp) (by simp;omega)]
  simp[sIf,As5,Apx]
 ·show(Ao [[[109,105,110],[40]],p0,[[44]],p1,[[41]]]).bind _=_
  rw[Ct (by simp) (by simp;omega)]
  simp[Amf]
 ·show(Ao [[[109,97,120],[40]],p0,[[44]],p1,[[41]]]).bind _=_
  rw[Ct (by simp) (by simp;omega)]
  simp[A05]
theorem Bt5{kind:Int}(h:Ih kind≠none): ∃sd:List Int,((if (kind==2)=true then
   some (7,[7])
  else
   if (kind==14)=true then
    some (3,[3])
   else
    if (kind==15)=true then
     some (0,[(placeOf kind).2.2.1,(placeOf kind).2.2.2,0])
    else
     some ((placeOf kind).1,[(placeOf kind).2.2.1,(placeOf kind).2.2.2,0])):Option (Int×(List Int)))=some (((Fi kind).1:Int),sd)∧ ∀i,i<Axo kind→rdO sd (i:Int)=some (Bix kind i:Int):=by
 rcases kinds h with rfl|rfl|rfl|rfl|rfl|rfl|rfl|rfl|rfl|rfl|rfl|rfl|rfl|rfl|rfl|rfl|rfl|rfl
 ·exact⟨_,rfl,fun i hi=>absurd hi (by simp[Axo,Ih])⟩
 ·exact⟨_,rfl,fun i hi=>absurd hi (by simp[Axo,Ih])⟩
 ·refine⟨_,rfl,fun i hi=>?_⟩
  have:i<1:=hi
  obtain rfl:i=0:=by omega
  rfl
 ·refine⟨_,rfl,fun i hi=>?_⟩
  have:i<2:=hi
  rcases(show i=0∨i=1 by omega) with rfl|rfl<;>rfl
 ·refine⟨_,rfl,fun i hi=>?_⟩
  have:i<2:=hi
  rcases(show i=0∨i=1 by omega) with rfl|rfl<;>rfl
 ·refine⟨_,rfl,fun i hi=>?_⟩
  have:i<2:=hi
  rcases(show i=0∨i=1 by omega) with rfl|rfl<;>rfl
 ·refine⟨_,rfl,fun i hi=>?_⟩
  have:i<2:=hi
  rcases(show i=0∨i=1 by omega) with rfl|rfl<;>rfl
 ·refine⟨_,rfl,fun i hi=>?_⟩
  have:i<2:=hi
  rcases(show i=0∨i=1 by omega) with rfl|rfl<;>rfl
 ·refine⟨_,rfl,fun i hi=>?_⟩
  have:i<2:=hi
  rcases(show i=0∨i=1 by omega) with rfl|rfl<;>rfl
 ·refine⟨_,rfl,fun i hi=>?_⟩
  have:i<2:=hi
  rcases(show i=0∨i=1 by omega) with rfl|rfl<;>rfl
 ·refine⟨_,rfl,fun i hi=>?_⟩
  have:i<2:=hi
  rcases(show i=0∨i=1 by omega) with rfl|rfl<;>rfl
 ·refine⟨_,rfl,fun i hi=>?_⟩
  have:i<2:=hi
  rcases(show i=0∨i=1 by omega) with rfl|rfl<;>rfl
 ·refine⟨_,rfl,fun i hi=>?_⟩
  have:i<2:=hi
  rcases(show i=0∨i=1 by omega) with rfl|rfl<;>rfl
 ·refine⟨_,rfl,fun i hi=>?_⟩
  have:i<2:=hi
  rcases(show i=0∨i=1 by omega) with rfl|rfl<;>rfl
 ·refine⟨_,rfl,fun i hi=>?_⟩
  have:i<1:=hi
  obtain rfl:i=0:=by omega
  rfl
 ·refine⟨_,rfl,fun i hi=>?_⟩
  have:i<3:=hi
  rcases(show i=0∨i=1∨i=2 by omega) with rfl|rfl|rfl<;>rfl
 ·refine⟨_,rfl,fun i hi=>?_⟩
  have:i<2:=hi
  rcases(show i=0∨i=1 by omega) with rfl|rfl<;>rfl
 ·refine⟨_,rfl,fun i hi=>?_⟩
  have:i<2:=hi
  rcases(show i=0∨i=1 by omega) with rfl|rfl<;>rfl
theorem Bjf: ∀(N f:Nat) (l:List Nd) (d:Nat) (st:List Nat) (lvl:Nat),l.length≤N→l.length<f→l.length≤1000→(∀n∈l,n.Aj.length≤1000000)→stk l=some (d::st)→
  ∃rest,Gl f l (lvl:Int)=some (atS ((pst l).getD 0 (0,[])) lvl,rest)∧stk rest=some st∧pst rest=(pst l).drop 1∧rest <:+ l∧rest.length<l.length:=by
 intro N
 induction N with
 |zero=>
  intro f l d st lvl hN hf hl hx hs
  obtain rfl:l=[]:=List.eq_nil_of_length_eq_zero (by omega)
  cases hs
 |succ N ih=>
  intro f l d st lvl hN hf hl hx hs
  cases l with
  |nil=>cases hs
  |cons n l=>
   obtain⟨g,rfl⟩: ∃g,f=g+1:=⟨f-1,by omega⟩
   simp only[List.length_cons] at hN hf hl
   obtain⟨st',k,h1,h2,h3,h4,h5⟩:=Aw2 hs
   have hst:st=st'.drop k:=(List.cons.inj h5).2
   have hNk:Axo n.Ag=k:=by simp[Axo,h2]
   have hk3:=Bbj h2
   have hnx:=hx n (by simp)
   have hplen:=Aqq h1
   have htw:=Adf h1
   obtain⟨sd,s1,s2⟩:=Bt5 (kind:=n.Ag) (by rw[h2];simp)
   rw[hNk] at s2
   have hP: ∀i,(gP (pst l) n.Ag i).length≤10*l.length+2:=by
    intro i
    have:=Bnk ((pst l).getD i (0,[])) (Bix n.Ag i)
    have h6:((pst l).getD i (0,[])).2.length≤tw (pst l):=by
     rw[List.getD_eq_getElem?_getD]
     cases hg:(pst l)[i]? with
     |none=>simp
     |some p=>exact Be0 (List.mem_of_getElem? hg)
    unfold gP
    omega
   have key: ∀(j:Nat) (rest:List Nd),j≤k→rest <:+ l→stk rest=some (st'.drop j)→pst rest=(pst l).drop j→ ∃rest',rest' <:+ l∧stk rest'=some (st'.drop k)∧pst rest'=(pst l).drop k∧A5 (fun(qj10:(List Aa)×Int×(List (List (List UInt8))))=>match qj10 with
   |(rest11,x12,row13)=>(
    if (decide (x12<(k:Int)))=true then
     (rdO sd x12).bind fun x14=>
     (Gl g rest11 x14).bind fun x15=>
     (apO 24 row13 [x15.1]).bind fun x16=>
     some (.inl (x15.2,IntKind.wrap .i64 (x12+1),x16))
    else
     some (.inr (rest11,row13)):Option (((List Aa)×Int×(List (List (List UInt8))))⊕((List Aa)×(List (List (List UInt8))))))) (rest,(j:Int),Bb4 j (gP (pst l) n.Ag 0) (gP (pst l) n.Ag 1) (gP (pst l) n.Ag 2))=some (rest',Bb4 k (gP (pst l) n.Ag 0) (gP (pst l) n.Ag 1) (gP (pst l) n.Ag 2)):=by
    intro j
    generalize hd:k-j=dd
    induction dd generalizing j with
    |zero=>
     intro rest hj hr hs1 hs2
     obtain rfl:j=k:=by omega
     refine⟨rest,hr,hs1,hs2,Ay ?_⟩
     show(if _ then _ else _)=_
     rw[if_neg (by simp)]
    |succ dd ihd=>
     intro rest hj hr hs1 hs2
     have hjk:j<k:=by omega
     have hjl:j<st'.length:=by omega
     have hcons:st'.drop j=st'[j]::st'.drop (j+1):=List.drop_eq_getElem_cons hjl
     rw[hcons] at hs1
     have hrl:=hr.length_le
     obtain⟨r2,t1,t2,t3,t4,t5⟩:=ih g rest st'[j] (st'.drop (j+1)) (Bix n.Ag j) (by omega) (by omega) (by omega) (fun m hm=>hx m (by simp[hr.subset hm])) hs1
     obtain⟨rest',q1,q2,q3,q4⟩:=ihd (j+1) (by omega) r2 (by omega) (t4.trans hr) t2 (by rw[t3,hs2,List.drop_drop])
     refine⟨rest',q1,q2,q3,?_⟩
     rw[←q4]
     refine Bm ?_
     show(if _ then _ else _)=_
     rw[if_pos (by simp;omega),s2 j hjk]
     simp only[Option.bind_some]
     rw[t1]
     simp only[Option.bind_some]
     have hat:atS ((pst rest).getD 0 (0,[])) (Bix n.Ag j)=gP (pst l) n.Ag j:=by
      rw[hs2]
      unfold gP
      congr 1
      simp
     rw[hat]
     unfold apO
     rw[if_pos (by simp[Bb4];omega)]
     simp only[Option.bind_some]
     rw[wrap64 (by omega) (by omega)]
     simp only[Option.some.injEq,Sum.inl.injEq,Prod.mk.injEq,true_and]
     refine⟨rfl,?_⟩
     rcases(show j=0∨j=1∨j=2 by omega) with rfl|rfl|rfl<;>rfl
   obtain⟨rest',q1,q2,q3,q4⟩:=key 0 l (by omega) (List.suffix_refl l) (by simpa using h1) (by simp)
   refine⟨rest',?_,by rw[hst];exact q2,?_,q1.trans (List.suffix_cons n l),by have:=q1.length_le;simp;omega⟩
   ·rw[Gl]
    have e0:rdO (n::l) 0=some n:=rfl
    have e2:slO (n::l) 1 ((n::l).length:Int)=some l:=by
     have:=H4 (l:=n::l) (n:=1) (by simp)
     simpa using this
    rw[e0,e2]
    simp only[Option.bind_some]
    rw[show Anr n.Ag=some (placeOf n.Ag) from rfl]
    simp only[Option.bind_some]
    refine Bh s1 ?_
    simp only
    rw[has_eq]
    have hI:Bbh n.Ag=(k:Int):=by unfold Bbh;rw[h2]
    rw[hI]
    simp only[Option.bind_some]
    refine Bh q4 ?_
    simp only
    rw[Buy hnx h2 ⟨by have:=hP 0;omega,by have:=hP 1;omega,by have:=hP 2;omega⟩]
    simp only[Option.bind_some]
    have hhead:(pst (n::l)).getD 0 (0,[])=((Fi n.Ag).1,Uj n (gP (pst l) n.Ag 0) (gP (pst l) n.Ag 1) (gP (pst l) n.Ag 2)):=rfl
    rw[hhead]
    unfold atS
    have htw2:=Adf hs
    have hwl:(Uj n (gP (pst l) n.Ag 0) (gP (pst l) n.Ag 1) (gP (pst l) n.Ag 2)).length≤20000:=by
     have:=Be0 (st:=pst (n::l)) (p:=((Fi n.Ag).1,Uj n (gP (pst l) n.Ag 0) (gP (pst l) n.Ag 1) (gP (pst l) n.Ag 2))) (by rw[pst];simp)
     simp at this htw2
     omega
    by_cases hb:(Fi n.Ag).1<lvl
    ·rw[if_pos hb,if_pos (by simp;omega),Ct (by simp) (by simp;omega)]
     simp
    ·rw[if_neg hb,if_neg (by simp;omega)]
     rfl
   ·rw[q3]
    rw[pst,hNk]
    simp
def jw(ws:List By):By:=Lib.join ws [32]
theorem Bxr:jw []=[]:=rfl
theorem Bxs(w:By):jw [w]=w:=by simp[jw,Lib.join,List.intercalate]
theorem Bvo(w v:By)(ws:List By):jw (w::v::ws)=w++32::jw (v::ws):=by simp[jw,Lib.join,List.intercalate]
theorem Bky: ∀(ws:List By) (b:Nat),(∀w∈ws,w.length≤b)→(jw ws).length≤ws.length*(b+1)
 |[],b,h=>by simp[Bxr]
 |[w],b,h=>by
  have:=h w (by simp)
  rw[Bxs];simp;omega
 |w::v::ws,b,h=>by
  have h1:=h w (by simp)
  have h2:=Bky (v::ws) b (fun x hx=>h x (by simp[hx]))
  rw[Bvo]
  simp only[List.length_append,List.length_cons] at h2⊢
  rw[Nat.add_mul,Nat.add_mul] at*
  omega
theorem Bn3{ws:List By}(h1:ws.length≤1000000)(h2:(jw ws).length≤140737488355328):strings_Join ws [32]=some (jw ws):=by
 unfold strings_Join
 rw[if_pos ⟨by omega,h2⟩]
 rfl
def N3(l:List Nd):List By:=((pst l).getD 0 (0,[])).2
def Bem(l:List Nd):By×Int:=if Su l=0 then([],1) else(jw (N3 l),0)
theorem A1a{l:List Nd}(h:Su l≠0):l.length≤200∧ ∃d,stk l=some [d]∧d≤24∧Su l=d:=by
 unfold Su at h⊢
 by_cases hl:200<l.length
 ·rw[if_pos hl] at h;exact absurd rfl h
 ·rw[if_neg hl] at h⊢
  refine⟨by omega,?_⟩
  match hs:stk l with
  |none=>rw[hs] at h;exact absurd rfl h
  |some []=>rw[hs] at h;exact absurd rfl h
  |some [d]=>
   rw[hs] at h
   simp only at h
   split at h
   ·exact⟨d,rfl,by assumption,by simp only;rw[if_pos (by assumption)]⟩
   ·exact absurd rfl h
  |some (a::b::s)=>rw[hs] at h;exact absurd rfl h
theorem Ax6{B:Nat}(hB:10≤B): ∀(l:List Nd) (st:List Nat),stk l=some st→(∀n∈l,n.Aj.length≤B)→ ∀p∈pst l,∀w∈p.2,w.length≤B
 |[],st,h,hx,p,hp=>by simp[pst] at hp
 |n::l,s,h,hx,p,hp=>by
  obtain⟨st,k,h1,h2,h3,h4,rfl⟩:=Aw2 h
  have ih:=Ax6 hB l st h1 (fun m hm=>hx m (by simp[hm]))
  have hn:=hx n (by simp)
  have hg: ∀i,∀w∈gP (pst l) n.Ag i,w.length≤B:=by
   intro i w hw
   have hq: ∀w∈((pst l).getD i (0,[])).2,w.length≤B:=by
    rw[List.getD_eq_getElem?_getD]
    cases hg:(pst l)[i]? with
    |none=>simp
    |some q=>exact ih q (List.mem_of_getElem? hg)
   unfold gP atS at hw
   split at hw
   ·simp only[List.mem_cons,List.mem_append,List.not_mem_nil,or_false] at hw
    rcases hw with rfl|hw|rfl
    ·simp;omega
    ·exact hq w hw
    ·simp;omega
   ·exact hq w hw
  rw[pst,List.mem_cons] at hp
  rcases hp with rfl|hp
  ·have hne:Ih n.Ag≠none:=by rw[h2];simp
   intro w hw
   simp only at hw
   unfold Uj at hw
   have h0:=hg 0 w;have h1:=hg 1 w;have h2:=hg 2 w
   generalize gP (pst l) n.Ag 0=p0 at hw h0
   generalize gP (pst l) n.Ag 1=p1 at hw h1
   generalize gP (pst l) n.Ag 2=p2 at hw h2
   have hdl:n.Aj.dropLast.length≤B:=by simp;omega
   rcases kinds hne with e|e|e|e|e|e|e|e|e|e|e|e|e|e|e|e|e|e<;>rw[e] at hw<;>simp[Fi,Bis,sOr,Apy,sIf,As5,Apx,Amf,A05] at hw<;>(try split at hw)<;>(try simp at hw)<;>(repeat' (refine Or.elim hw (fun hw=>?_) (fun hw=>?_)))<;>first|exact h0 hw|exact h1 hw|exact h2 hw|(rw[hw];simp at hn hdl⊢;omega)
  ·exact ih p (List.mem_of_mem_drop hp)
theorem Big{l:List Nd}(hx: ∀n∈l,n.Aj.length≤1000000):Ou l=some (Bem l):=by
 unfold Ou Bem
 rw[right_eq hx]
 simp only[Option.bind_some]
 by_cases hd:Su l=0
 ·rw[if_pos (by simp[hd]),if_pos hd]
 ·rw[if_neg (by simp;omega),if_neg hd]
  obtain⟨hl,d,hs,_⟩:=A1a hd
  obtain⟨rest,h1,_⟩:=Bjf l.length 100000 l d [] 0 (Nat.le_refl _) (by omega) (by omega) hx hs
  rw[show(0:Int)=((0:Nat):Int) from rfl,h1]
  simp only[Option.bind_some]
  have e:atS ((pst l).getD 0 (0,[])) 0=N3 l:=by unfold atS N3;rw[if_neg (by omega)]
  rw[e]
  have htw:=Adf hs
  have hlen:=Aqq hs
  have hmem:(pst l).getD 0 (0,[])∈pst l:=by
   match hp:pst l with
   |[]=>rw[hp] at hlen;simp at hlen
   |p::q=>simp
  have hwl:=Be0 hmem
  have hwt:=Ax6 (B:=1000000) (by omega) l [d] hs hx _ hmem
  have hjl:=Bky (N3 l) 1000000 hwt
  have hc:(N3 l).length≤2000:=by unfold N3;omega
  have hm:(N3 l).length*(1000000+1)≤2000*(1000000+1):=Nat.mul_le_mul_right _ hc
  rw[Bn3 (by omega) (by omega)]
  rfl
end Go.Av.G
end
