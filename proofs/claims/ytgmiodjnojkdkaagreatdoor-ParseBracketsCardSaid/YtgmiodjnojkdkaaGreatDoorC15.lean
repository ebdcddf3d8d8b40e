import Derived.Test.YtgmiodjnojkdkaaGreatDoorC14
set_option linter.all false
section
set_option maxRecDepth 4000
set_option maxHeartbeats 4000000
namespace Go.Av.G
open Go Go.Av Go.Proofs
theorem Bf3(s:By):(Ags s).2=0∨(Ags s).2=1∨(Ags s).2=2∨(Ags s).2=4∨(Ags s).2=5∨(Ags s).2=6:=by
 unfold Ags
 repeat' split
 all_goals simp
theorem N2(t:Tk):(Bc t).2=0∨(Bc t).2=1∨(Bc t).2=2∨(Bc t).2=4∨(Bc t).2=5∨(Bc t).2=6:=by
 unfold Bc
 split
 ·exact Or.inl rfl
 ·exact Bf3 _
theorem G3{α β γ:Type}(r:Rs α)(k:α→List Tk→Rs β)(g:β→List Tk→Rs γ):bnd (bnd r k) g=bnd r fun a i=>bnd (k a i) g:=by
 obtain⟨o,i⟩:=r
 cases o<;>rfl
theorem Bey{α:Type}(r:Rs α):bnd r (fun a i=>(some a,i))=r:=by
 obtain⟨o,i⟩:=r
 cases o<;>rfl
def Xx(n:Nat):Nat→List Nd→List Tk→Rs (List Nd)
 |_,out,[]=>(some out,[])
 |0,out,t::r=>(some out,t::r)
 |f+1,out,t::r=>if (Bc t).2=n then bnd (CL r (n+1)) fun b j=>if n=4 then(some (⟨(Bc t).1,[]⟩::(out++b)),j) else Xx n f (⟨(Bc t).1,[]⟩::(out++b)) j else(some out,t::r)
theorem Atp(n:Nat){a b:Nat}(out:List Nd)(own:Nat){ts:List Tk}(ha:ts.length≤a)(hb:ts.length≤b):Br CL n a out own ts=Br CL n b out own ts:=
 Vs E7 n a b out own ts (fun i k hi=>rfl) ha hb
theorem Cy{n f:Nat}{out:List Nd}{own:Nat}{t:Tk}{r:List Tk}(h:(Bc t).2=0∨(Bc t).2<n∨own<Vw (Bc t).2):Br CL n f out own (t::r)=(some (out,own),t::r):=by
 cases f with
 |zero=>rfl
 |succ f=>unfold Br;rw[if_pos h]
theorem Fa{n f:Nat}{out:List Nd}{own:Nat}{t:Tk}{r:List Tk}(h: ¬((Bc t).2=0∨(Bc t).2<n∨own<Vw (Bc t).2)):Br CL n (f+1) out own (t::r)=bnd (CL r ((Bc t).2+1)) fun b j=>Br CL n f (⟨(Bc t).1,[]⟩::(out++b)) (Bc t).2 j:=by
 rw[Br,if_neg h]
def Bgi(n own:Nat)(ts:List Tk):Prop:=match ts with
 |[]=>True
 |t::_=>(Bc t).2=0∨(Bc t).2<n∨own<Vw (Bc t).2
theorem Amm(n:Nat): ∀(f:Nat) (out:List Nd) (own:Nat) (ts:List Tk),ts.length≤f→ ∀x j,Br CL n f out own ts=(some x,j)→Bgi n x.2 j∧(n≤own→n≤x.2)
 |f,out,own,[],_,x,j,h=>by
  have:Br CL n f out own []=(some (out,own),[]):=by cases f<;>rfl
  rw[this] at h
  cases h
  exact⟨trivial,id⟩
 |0,out,own,t::r,hf,x,j,h=>absurd hf (by simp)
 |f+1,out,own,t::r,hf,x,j,h=>by
  simp only[List.length_cons] at hf
  by_cases hs:(Bc t).2=0∨(Bc t).2<n∨own<Vw (Bc t).2
  ·rw[Cy hs] at h
   cases h
   exact⟨hs,id⟩
  ·rw[Fa hs] at h
   have hl:=(E7 r ((Bc t).2+1)).length_le
   cases hc:CL r ((Bc t).2+1) with
   |mk o i=>
    rw[hc] at h hl
    cases o with
    |none=>cases h
    |some b=>
     obtain⟨h1,h2⟩:=Amm n f _ _ i (by simp at hl;omega) x j h
     exact⟨h1,fun _=>h2 (by omega)⟩
theorem Aml{n m:Nat}(hnm:n≤m): ∀(k f:Nat) (out:List Nd) (own:Nat) (ts:List Tk),ts.length≤f→ts.length≤k→Br CL n f out own ts=bnd (Br CL m f out own ts) fun x j=>Br CL n k x.1 x.2 j
 |k,f,out,own,[],_,_=>by cases f<;>cases k<;>rfl
 |k,0,out,own,t::r,hf,_=>absurd hf (by simp)
 |0,f,out,own,t::r,_,hk=>absurd hk (by simp)
 |k+1,f+1,out,own,t::r,hf,hk=>by
  by_cases hs:(Bc t).2=0∨(Bc t).2<m∨own<Vw (Bc t).2
  ·rw[Cy hs (n:=m)]
   exact Atp n out own hf hk
  ·rw[Fa hs,Fa (by omega),G3]
   simp only[List.length_cons] at hf hk
   refine Ba rfl fun b hb=>?_
   have hl:=(E7 r ((Bc t).2+1)).length_le
   rw[Aml hnm (k+1) f _ _ _ (by omega) (by omega)]
theorem A0e{n:Nat}(hn:n=1∨n=2∨n=5∨n=6): ∀(f:Nat) (out:List Nd) (ts:List Tk),ts.length≤f→(bnd (Br CL n f out n ts) fun y j=>(some y.1,j))=Xx n f out ts
 |f,out,[],_=>by cases f<;>rfl
 |0,out,t::r,hf=>absurd hf (by simp)
 |f+1,out,t::r,hf=>by
  simp only[List.length_cons] at hf
  have hd:=N2 t
  by_cases hs:(Bc t).2=n
  ·rw[Fa (by unfold Vw;rw[hs,if_neg (by omega)];omega),G3,Xx,if_pos hs,hs]
   refine Ba rfl fun b hb=>?_
   have hl:=(E7 r (n+1)).length_le
   rw[A0e hn f _ _ (by omega),if_neg (by omega)]
  ·rw[Cy (by unfold Vw;split<;>omega),Xx,if_neg hs]
   rfl
theorem A9m{f:Nat}{out:List Nd}{ts:List Tk}:Br CL 4 f out 4 ts=(some (out,4),ts):=by
 cases ts with
 |nil=>cases f<;>rfl
 |cons t r=>
  have hd:=N2 t
  exact Cy (by unfold Vw;split<;>omega)
theorem A9n{n:Nat}(hn:n=1∨n=2∨n=4∨n=5∨n=6){f:Nat}{out:List Nd}{own:Nat}{ts:List Tk}(hf:ts.length≤f)(hs:Bgi (n+1) own ts)(ho:n+1≤own):(bnd (Br CL n f out own ts) fun y j=>(some y.1,j))=Xx n f out ts:=by
 cases ts with
 |nil=>cases f<;>rfl
 |cons t r=>
  cases f with
  |zero=>exact absurd hf (by simp)
  |succ f=>
   simp only[List.length_cons] at hf
   have hd:=N2 t
   have hs:(Bc t).2=0∨(Bc t).2<n+1∨own<Vw (Bc t).2:=hs
   by_cases he:(Bc t).2=n
   ·rw[Fa (by rw[he];unfold Vw;split<;>omega),G3,Xx,if_pos he,he]
    refine Ba rfl fun b hb=>?_
    have hl:=(E7 r (n+1)).length_le
    by_cases h4:n=4
    ·subst h4
     rw[A9m,if_pos rfl]
     rfl
    ·rw[A0e (by omega) f _ _ (by omega),if_neg h4]
   ·rw[Cy (by omega),Xx,if_neg he]
    rfl
theorem Gg{n:Nat}(hn:n≠0)(ts:List Tk):Bp CL ts n=if n≤3∧isT Jq ts=true then bnd (CL ts.tail 3) fun a i=>(some (⟨14,[]⟩::a,3),i)
 else if isT [45] ts=true then bnd (CL ts.tail 7) fun a i=>(some (⟨2,[]⟩::a,7),i)
 else bnd (Co CL ts) fun a i=>(some (a,8),i):=by
 unfold Bp
 rw[if_neg (fun c=>hn c.1)]
theorem A37{n:Nat}(hn:n=1∨n=2∨n=4∨n=5∨n=6)(ts:List Tk):Bp CL ts n=Bp CL ts (n+1):=by
 rw[Gg (by omega),Gg (by omega)]
 by_cases h:isT Jq ts=true
 ·have hd:(n≤3∧isT Jq ts=true)↔(n+1≤3∧isT Jq ts=true):=⟨fun c=>⟨by have:=c.1;omega,h⟩,fun c=>⟨by have:=c.1;omega,h⟩⟩
  simp only[hd]
 ·simp only[h,and_false,if_false,Bool.false_eq_true]
theorem A9f{n:Nat}(hn:1≤n)(h7:n≤7)(ts:List Tk): ∀x j,Bp CL ts n=(some x,j)→n≤x.2:=by
 intro x j h
 rw[Gg (by omega)] at h
 split at h
 ·rename_i h3
  cases hc:CL ts.tail 3 with
  |mk o i=>cases o with
   |none=>rw[hc] at h;cases h
   |some a=>rw[hc] at h;cases h;exact h3.1
 ·split at h
  ·cases hc:CL ts.tail 7 with
   |mk o i=>cases o with
    |none=>rw[hc] at h;cases h
    |some a=>rw[hc] at h;cases h;exact h7
  ·cases hc:Co CL ts with
   |mk o i=>cases o with
    |none=>rw[hc] at h;cases h
    |some a=>rw[hc] at h;cases h;show n≤8;omega
theorem Bgz{n:Nat}(hn:n=1∨n=2∨n=4∨n=5∨n=6)(ts:List Tk):CL ts n=bnd (CL ts (n+1)) fun out i=>Xx n i.length out i:=by
 rw[Qo ts n,Qo ts (n+1),A37 hn,G3]
 refine Ba rfl fun x hx=>?_
 generalize hi:(Bp CL ts (n+1)).2=i
 have hown:=A9f (n:=n+1) (by omega) (by omega) ts x i (by rw[←hi,←hx])
 rw[Aml (Nat.le_succ n) i.length i.length x.1 x.2 i (Nat.le_refl _) (Nat.le_refl _),G3,G3]
 refine Ba rfl fun y hy=>?_
 generalize hj:(Br CL (n+1) i.length x.1 x.2 i).2=j
 obtain⟨h1,h2⟩:=Amm (n+1) i.length x.1 x.2 i (Nat.le_refl _) y j (by rw[←hj,←hy])
 have hl:=(Amk E7 (n+1) i.length x.1 x.2 i).length_le
 rw[hj] at hl
 show _=Xx n j.length y.1 j
 rw[Atp n y.1 y.2 hl (Nat.le_refl j.length)]
 exact A9n hn (Nat.le_refl _) h1 (h2 hown)
theorem Aa6{n f:Nat}{out:List Nd}{own:Nat}{ts:List Tk}(h: ∀t r,ts=t::r→(Bc t).2=0∨(Bc t).2<n∨own<Vw (Bc t).2):Br CL n f out own ts=(some (out,own),ts):=by
 cases ts with
 |nil=>cases f<;>rfl
 |cons t r=>exact Cy (h t r rfl)
theorem A68(ts:List Tk):CL ts 0=if isT sIf ts=true then
   bnd (CL ts.tail 0) fun a i=>Gs Hl i fun i2=>bnd (CL i2 0) fun b j=>Gs Gy j fun j2=>bnd (CL j2 0) fun c k=>(some (⟨15,[]⟩::(a++b++c)),k)
  else CL ts 1:=by
 rw[Qo ts 0]
 by_cases h:isT sIf ts=true
 ·rw[if_pos h]
  unfold Bp
  rw[if_pos ⟨rfl,h⟩,G3]
  refine Ba rfl fun a ha=>?_
  unfold Gs
  split
  ·rw[G3]
   refine Ba rfl fun b hb=>?_
   split
   ·rw[G3]
    refine Ba rfl fun c hc=>?_
    show bnd (Br CL 0 _ _ 0 _) _=_
    rw[Aa6 (fun t r he=>by have:=N2 t;unfold Vw;split<;>omega)]
    rfl
   ·rfl
  ·rfl
 ·rw[if_neg h,Qo ts 1]
  have hf:Bp CL ts 0=Bp CL ts 1:=by
   rw[Gg (n:=1) (by omega)]
   unfold Bp
   rw[if_neg (fun c=>h c.2)]
   simp
  rw[hf]
  refine Ba rfl fun x hx=>?_
  generalize (Bp CL ts 1).2=i
  have key: ∀(f:Nat) (out:List Nd) (own:Nat) (ts:List Tk),Br CL 0 f out own ts=Br CL 1 f out own ts:=by
   intro f
   induction f with
   |zero=>intro out own ts;cases ts<;>rfl
   |succ f ih=>
    intro out own ts
    cases ts with
    |nil=>rfl
    |cons t r=>
     by_cases hs:(Bc t).2=0∨(Bc t).2<0∨own<Vw (Bc t).2
     ·rw[Cy hs,Cy (by omega)]
     ·rw[Fa hs,Fa (by omega)]
      exact Ba rfl fun b hb=>ih _ _ _
  rw[key]
theorem Bax(ts:List Tk):CL ts 3=if isT Jq ts=true then bnd (CL ts.tail 3) fun a i=>(some (⟨14,[]⟩::a),i) else CL ts 4:=by
 rw[Qo ts 3]
 by_cases h:isT Jq ts=true
 ·rw[if_pos h]
  rw[Gg (by omega),if_pos ⟨by omega,h⟩,G3]
  refine Ba rfl fun a ha=>?_
  show bnd (Br CL 3 _ _ 3 _) _=_
  rw[Aa6 (fun t r he=>by have:=N2 t;unfold Vw;split<;>omega)]
  rfl
 ·rw[if_neg h,Qo ts 4]
  have hf:Bp CL ts 3=Bp CL ts 4:=by
   rw[Gg (by omega),Gg (by omega)]
   simp only[h,and_false,if_false,Bool.false_eq_true]
  rw[hf]
  refine Ba rfl fun x hx=>?_
  generalize (Bp CL ts 4).2=i
  have key: ∀(f:Nat) (out:List Nd) (own:Nat) (ts:List Tk),Br CL 3 f out own ts=Br CL 4 f out own ts:=by
   intro f
   induction f with
   |zero=>intro out own ts;cases ts<;>rfl
   |succ f ih=>
    intro out own ts
    cases ts with
    |nil=>rfl
    |cons t r=>
     have hd:=N2 t
     by_cases hs:(Bc t).2=0∨(Bc t).2<3∨own<Vw (Bc t).2
     ·rw[Cy hs,Cy (by omega)]
     ·rw[Fa hs,Fa (by omega)]
      exact Ba rfl fun b hb=>ih _ _ _
  rw[key]
theorem Baw(ts:List Tk):CL ts 7=if isT [45] ts=true then bnd (CL ts.tail 7) fun a i=>(some (⟨2,[]⟩::a),i) else Co CL ts:=by
 rw[Qo ts 7]
 rw[Gg (by omega),if_neg (fun c=>absurd c.1 (by omega))]
 by_cases h:isT [45] ts=true
 ·rw[if_pos h,if_pos h,G3]
  refine Ba rfl fun a ha=>?_
  show bnd (Br CL 7 _ _ 7 _) _=_
  rw[Aa6 (fun t r he=>by have:=N2 t;omega)]
  rfl
 ·rw[if_neg h,if_neg h,G3]
  conv=>rhs;rw[←Bey (Co CL ts)]
  refine Ba rfl fun a ha=>?_
  show bnd (Br CL 7 _ _ 8 _) _=_
  rw[Aa6 (fun t r he=>by have:=N2 t;omega)]
  rfl
end Go.Av.G
end
