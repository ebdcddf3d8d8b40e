import Derived.KernelRfl
import Derived.Test.YtkcilagjhieapaaGreatDoorC7
section
set_option linter.unusedVariables false
set_option linter.unusedSimpArgs false
namespace Go.Av
theorem Xs{P:Program}{C:Ctx}{ro:Option Nat}{n:Nat}{ops:Array Oper}{Q:Exit→Act→World→Prop}{l':List GOp}{σ σ':St}(hr:Aj P l' σ σ'): ∀{l:List Oper} {β:Key→Blk} {a:Act} {w:World},RR C β σ a w→Dk (G5 P C.nt ops) l l'=true→
  (∀β' a' w',RR C β' σ' a' w'→Q .normal a' w')→wpListIn (fr ro) n P ops Q l a w:=by
 induction hr with
 |nil σ=>
  intro l β a w h hag hQ
  cases l with
  |nil=>exact wpListIn_nil (hQ β a w h)
  |cons o l=>simp[Dk] at hag
 | @cons cl g os σ σ1 σ' hS hs _ ih=>
  intro l β a w h hag hQ
  cases l with
  |nil=>simp[Dk] at hag
  |cons o l=>
   simp only[Dk,Bool.and_eq_true] at hag
   refine wpListIn_step (fun K hK=>?_)
   refine Td (fun hw c hc=>?_) (Qb hS h hag.1 hs (fun β' a' w' h'=>hK _ _ (ih h' hag.2 hQ)) Q)
   obtain⟨h1,_,_,h4⟩:=H7 hag.1
   rw[hc] at h1
   have hst:=Ps h1
   unfold step at hs
   cases hwt:σ.wants g.g with
   |none=>rw[hwt] at hs;cases hs
   |some b=>
    rw[Iq h h4 hwt] at hw
    subst hw
    simp[hwt,hst,AOp.isB,Pc,B4] at hs
inductive Ev (P:Program):AC→St→Ex→St→Prop
 |skip (σ:St):Ev P .skip σ .norm σ
 |ops {l:List GOp} {σ σ':St} (h:Aj P l σ σ'):Ev P (.ops l) σ .norm σ'
 |draw {cl:Cv} {ks:List Key} {l:List GOp} {σ σ':St} (hS:H6 P cl) (h:Ew cl true l (σ.killAll ks)=some σ'):Ev P (.draw ks l) σ .norm σ'
 |drawZ {cl:Cv} {ks:List Key} {l l2:List GOp} {σ σ' σ2:St} (hS:H6 P cl) (hI: ∀g∈l,∀f sz by' x i y,g.op= .ins f sz by' x i y→T7 P f sz by') (h:Ew cl true l (σ.killAll ks)=some σ') (hz:zOK σ' l=true) (h2:Aj P l2 (σ'.killAll (Zv σ' l)) σ2):Ev P (.drawZ ks l l2) σ .norm σ2
 |seq {x y:AC} {σ σ1 σ':St} {ex:Ex} (h1:Ev P x σ .norm σ1) (h2:Ev P y σ1 ex σ'):Ev P (.seq x y) σ ex σ'
 |seq_out {x y:AC} {σ σ':St} {ex:Ex} (h1:Ev P x σ ex σ') (hne:ex≠ .norm):Ev P (.seq x y) σ ex σ'
 |cond {c:Opd} {x y:AC} {σ σ':St} {ex:Ex} {t:Bool} (hc:σ.ev c= .pv (.bool t)) (h:Ev P (bif t then x else y) σ ex σ'):Ev P (.cond c x y) σ ex σ'
 |block {id:Nat} {x:AC} {σ σ':St} (h:Ev P x σ .norm σ'):Ev P (.block id x) σ .norm σ'
 |block_exit {id:Nat} {x:AC} {σ σ':St} (h:Ev P x σ (.exit id) σ'):Ev P (.block id x) σ .norm σ'
 |block_out {id j:Nat} {x:AC} {σ σ':St} (h:Ev P x σ (.exit j) σ') (hne:j≠id):Ev P (.block id x) σ (.exit j) σ'
 |block_ret {id:Nat} {x:AC} {σ σ':St} (h:Ev P x σ .ret σ'):Ev P (.block id x) σ .ret σ'
 |loop {keep:List Nat} {ks:List Key} {x:AC} {σ σ1 σ':St} {ex:Ex} (h1:Ev P x ((σ.forget keep).killAll ks) .norm σ1) (h2:Ev P (.loop keep ks x) σ1 ex σ'):Ev P (.loop keep ks x) σ ex σ'
 |loop_out {keep:List Nat} {ks:List Key} {x:AC} {σ σ':St} {ex:Ex} (h1:Ev P x ((σ.forget keep).killAll ks) ex σ') (hne:ex≠ .norm):Ev P (.loop keep ks x) σ ex σ'
 |exit (id:Nat) (σ:St):Ev P (.exit id) σ (.exit id) σ
 |ret (σ:St):Ev P .ret σ .ret σ
 |keep {fz:List Key} {sl:List (Nat×Bool)} {bx:List (Key×Bool)} {dead:List Key} {up:List Up} {x:AC} {σ σ':St} {ex:Ex} (h:Ev P x (σ.tidy fz sl bx dead up) ex σ'):Ev P (.keep fz sl bx dead up x) σ ex σ'
 |pass {id:Nat} {x:AC} {σ σ':St} {ex:Ex} (h:Ev P x σ ex σ'):Ev P (.pass id x) σ ex σ'
section
variable {P:Program} {C:Ctx}
theorem Aio{ac:AC}{σ σ':St}{ex:Ex}(he:Ev P ac σ ex σ'): ∀id,ex= .exit id→ac.exits id=true:=by
 induction he with
 |skip|ops|draw|drawZ|ret|block|block_exit|block_ret=>intro id e;cases e
 |seq _ _ _ ih=>intro id e;simp[AC.exits,ih id e]
 |seq_out _ _ ih=>intro id e;simp[AC.exits,ih id e]
 | @cond c x y σ σ' ex t _ _ ih=>
  intro id e
  have:=ih id e
  cases t with
  |true=>simp only[cond_true] at this;simp[AC.exits,this]
  |false=>simp only[cond_false] at this;simp[AC.exits,this]
 |block_out _ _ ih=>intro id e;exact ih id e
 |loop _ _ _ ih=>intro id e;exact ih id e
 |loop_out _ _ ih=>intro id e;exact ih id e
 |exit j σ=>intro id e;cases e;simp[AC.exits]
 |keep _ ih=>intro id e;exact ih id e
 |pass _ ih=>intro id e;exact ih id e
theorem Wd{nt:Nat}{c:Code}{fz:List Key}{sl:List (Nat×Bool)}{bx:List (Key×Bool)}{dead:List Key}{up:List Up}{x:AC}(h:Bq P nt c (.keep fz sl bx dead up x)=true):(∀u∈up,∀i,u.key≠ .ext i)∧Bq P nt c x=true:=by
 have h:(up.all (fun u=>u.key.noExt)&&Bq P nt c x)=true:=by
  cases c<;>exact h
 simp only[Bool.and_eq_true] at h
 exact⟨fun u hu i e=>absurd (List.all_eq_true.1 h.1 _ hu) (by rw[e];simp[Key.noExt]),h.2⟩
theorem Afd{ro:Option Nat}{n:Nat}(hm:P.follows .mixedOrders=true){id:Nat}{ops:Array Oper}{Q:Exit→Act→World→Prop}{a:Act}{w:World}{K:Act→World→Prop}(hnd: ∀(i:Nat) (o:Oper),ops.toList[i]? =some o→ ∀c,o.op≠ .defer c)
  (h: ∀Q':Exit→Act→World→Prop,(∀a w,K a w→Q' .normal a w)→wpAny P .any ops Q' ops.size (Array.replicate ops.size false) a {w with drawn:=w.drawn+1})(hK: ∀a w,K a w→Q .normal a w):(Code.region id ops true).wpIn (fr ro) n P Q a w:=by
 have h1:=h (fun e a w=>e= .normal∧K a w) (fun a w q=>⟨rfl,q⟩)
 refine wpIn_mono (wpIn_region_any hm (Ae4 (fun i o ho=>hnd i o (by rw[Array.getElem?_toList];exact ho)) ?_ _ _ _ _ h1)) ?_
 ·rintro⟨a,w,e,_⟩;cases e
 ·rintro e a w ⟨rfl,q⟩;exact hK a w q
theorem Ha{ro:Option Nat}{n:Nat}(hm:P.follows .mixedOrders=true){ac:AC}{σ σ':St}{ex:Ex}(he:Ev P ac σ ex σ'): ∀(c:Code) (β:Key→Blk) (a:Act) (w:World) (Q:Exit→Act→World→Prop),Bq P C.nt c ac=true→RR C β σ a w→
  (∀β' a' w',RR C β' σ' a' w'→Q ex.to a' w')→c.wpIn (fr ro) n P Q a w∧ ∀c' keep ks x,c= .loop c'→ac= .loop keep ks x→Lp ro n P c' Q a w:=by
 induction he with
 |skip σ=>
  intro c β a w Q hag h hQ
  cases c<;>simp only[Bq] at hag<;>try cases hag
  exact⟨wpIn_skip (hQ _ _ _ h),by intro _ _ _ _ e;cases e⟩
 | @ops l σ σ' hr=>
  intro c β a w Q hag h hQ
  cases c<;>(try simp only[Bq] at hag)<;>try cases hag
  rename_i id ops draw
  cases draw<;>(try simp only[Bq] at hag)<;>try cases hag
  exact⟨wpIn_region_list (Xs hr h hag hQ),by intro _ _ _ _ e;cases e⟩
 | @draw cl ks l σ σ' hS hr=>
  intro c β a w Q hag h hQ
  cases c<;>(try simp only[Bq] at hag)<;>try cases hag
  rename_i id ops draw
  cases draw<;>(try simp only[Bq] at hag)<;>try cases hag
  simp only[Bool.and_eq_true] at hag
  refine⟨?_,by intro _ _ _ _ e;cases e⟩
  refine Afd hm (Sp hag.1.1 hag.1.2) (fun Q' hQ'=>?_) (fun a w q=>q)
  rcases Bool.or_eq_true_iff.1 hag.2 with h2|h2
  ·exact Aeo hm hS h2 hag.1.1 h hr (fun β' a' w' h'=>hQ' _ _ (hQ _ _ _ h'))
  ·exact Acs hm hS h2 hag.1.1 h hr (fun β' a' w' h'=>hQ' _ _ (hQ _ _ _ h'))
 | @drawZ cl ks l l2 σ σ' σ2 hS hI hr hz hr2=>
  intro c β a w Q hag h hQ
  cases c<;>(try simp only[Bq] at hag)<;>try cases hag
  rename_i id ops draw
  cases draw<;>(try simp only[Bq] at hag)<;>try cases hag
  simp only[Bool.and_eq_true] at hag
  refine⟨Afd hm (Sp hag.1.1.1.1 hag.1.1.1.2) (fun Q' hQ'=>?_) (fun a w q=>q),by intro _ _ _ _ e;cases e⟩
  exact Acu hm hS hag.1.1.2 hag.2 hag.1.2 hI hag.1.1.1.1 h hr hz hr2 (fun β' a' w' h'=>hQ' _ _ (hQ _ _ _ h'))
 | @seq x y σ σ1 σ' ex _ _ ih1 ih2=>
  intro c β a w Q hag h hQ
  cases c<;>simp only[Bq] at hag<;>try cases hag
  simp only[Bool.and_eq_true] at hag
  refine⟨wpIn_seq ?_,by intro _ _ _ _ e;cases e⟩
  exact(ih1 _ β a w _ hag.1 h (fun β' a' w' h'=>(ih2 _ β' a' w' Q hag.2 h' hQ).1)).1
 | @seq_out x y σ σ' ex _ hne ih=>
  intro c β a w Q hag h hQ
  cases c<;>simp only[Bq] at hag<;>try cases hag
  simp only[Bool.and_eq_true] at hag
  refine⟨wpIn_seq ?_,by intro _ _ _ _ e;cases e⟩
  refine(ih _ β a w _ hag.1 h (fun β' a' w' h'=>?_)).1
  have:=hQ β' a' w' h'
  cases ex with
  |norm=>exact absurd rfl hne
  |exit id=>exact this
  |ret=>exact this
 | @cond c' x y σ σ' ex t ht _ ih=>
  intro c β a w Q hag h hQ
  cases c<;>simp only[Bq] at hag<;>try cases hag
  simp only[Bool.and_eq_true] at hag
  have hs:=h.ev hag.1.1
  rw[ht] at hs
  refine⟨wpIn_cond (Qy (Cl hs)) ?_,by intro _ _ _ _ e;cases e⟩
  cases t with
  |true=>exact(ih _ β a w Q hag.1.2 h hQ).1
  |false=>exact(ih _ β a w Q hag.2 h hQ).1
 | @block id x σ σ' _ ih=>
  intro c β a w Q hag h hQ
  cases c<;>simp only[Bq] at hag<;>try cases hag
  simp only[Bool.and_eq_true,beq_iff_eq] at hag
  obtain⟨rfl,hag⟩:=hag
  exact⟨wpIn_block (ih _ β a w (Exit.inBlock _ Q) hag h (fun β' a' w' h'=>hQ β' a' w' h')).1,by intro _ _ _ _ e;cases e⟩
 | @block_exit id x σ σ' _ ih=>
  intro c β a w Q hag h hQ
  cases c<;>simp only[Bq] at hag<;>try cases hag
  simp only[Bool.and_eq_true,beq_iff_eq] at hag
  obtain⟨rfl,hag⟩:=hag
  refine⟨wpIn_block (ih _ β a w _ hag h (fun β' a' w' h'=>?_)).1,by intro _ _ _ _ e;cases e⟩
  simp only[Ex.to,Exit.inBlock,if_true]
  exact hQ _ _ _ h'
 | @block_out id j x σ σ' _ hne ih=>
  intro c β a w Q hag h hQ
  cases c<;>simp only[Bq] at hag<;>try cases hag
  simp only[Bool.and_eq_true,beq_iff_eq] at hag
  obtain⟨rfl,hag⟩:=hag
  refine⟨wpIn_block (ih _ β a w _ hag h (fun β' a' w' h'=>?_)).1,by intro _ _ _ _ e;cases e⟩
  simp only[Ex.to,Exit.inBlock]
  rw[if_neg hne]
  exact hQ _ _ _ h'
 | @block_ret id x σ σ' _ ih=>
  intro c β a w Q hag h hQ
  cases c<;>simp only[Bq] at hag<;>try cases hag
  simp only[Bool.and_eq_true,beq_iff_eq] at hag
  obtain⟨rfl,hag⟩:=hag
  exact⟨wpIn_block (ih _ β a w (Exit.inBlock _ Q) hag h (fun β' a' w' h'=>hQ β' a' w' h')).1,by intro _ _ _ _ e;cases e⟩
 | @loop keep ks x σ σ1 σ' ex _ _ ih1 ih2=>
  intro c β a w Q hag h hQ
  cases c<;>simp only[Bq] at hag<;>try cases hag
  rename_i c1
  have hag0:=hag
  have hl:Lp ro n P c1 Q a w:=by
   refine Tk ?_
   exact(ih1 _ β a w _ hag ((h.forget keep).killAll ks) (fun β' a' w' h'=>(ih2 (.loop c1) β' a' w' Q (by simpa only[Bq] using hag0) h' hQ).2 c1 keep ks x rfl rfl)).1
  refine⟨Ajm hl,fun c' keep' ks' x e1 e2=>?_⟩
  cases e1;exact hl
 | @loop_out keep ks x σ σ' ex _ hne ih=>
  intro c β a w Q hag h hQ
  cases c<;>simp only[Bq] at hag<;>try cases hag
  rename_i c1
  have hl:Lp ro n P c1 Q a w:=by
   refine Tk ?_
   refine(ih _ β a w _ hag ((h.forget keep).killAll ks) (fun β' a' w' h'=>?_)).1
   have:=hQ β' a' w' h'
   cases ex with
   |norm=>exact absurd rfl hne
   |exit id=>exact this
   |ret=>exact this
  refine⟨Ajm hl,fun c' keep' ks' x e1 e2=>?_⟩
  cases e1;exact hl
 |exit id σ=>
  intro c β a w Q hag h hQ
  cases c<;>simp only[Bq] at hag<;>try cases hag
  simp only[beq_iff_eq] at hag
  subst hag
  exact⟨wpIn_exit (hQ _ _ _ h),by intro _ _ _ _ e;cases e⟩
 |ret σ=>
  intro c β a w Q hag h hQ
  cases c<;>simp only[Bq] at hag<;>try cases hag
  exact⟨wpIn_ret (hQ _ _ _ h),by intro _ _ _ _ e;cases e⟩
 | @pass id x σ σ' ex hev ih=>
  intro c β a w Q hag h hQ
  cases c<;>simp only[Bq] at hag<;>try cases hag
  simp only[Bool.and_eq_true,beq_iff_eq,Bool.not_eq_true'] at hag
  obtain⟨⟨rfl,hno⟩,hag⟩:=hag
  refine⟨wpIn_block (ih _ β a w _ hag h (fun β' a' w' h'=>?_)).1,by intro _ _ _ _ e;cases e⟩
  have:=hQ β' a' w' h'
  cases ex with
  |norm=>exact this
  |ret=>exact this
  |exit j=>
   simp only[Ex.to,Exit.inBlock]
   split
   ·rename_i hj;subst hj
    rw[Aio hev _ rfl] at hno;cases hno
   ·exact this
 | @keep fz sl bx dead up x σ σ' ex _ ih=>
  intro c β a w Q hag h hQ
  obtain⟨hd,hag⟩:=Wd hag
  obtain⟨β',h'⟩:=h.tidy fz sl bx dead up hd
  exact⟨(ih c β' a w Q hag h' hQ).1,by intro _ _ _ _ _ e;cases e⟩
def Mn:Cv:=fun _ _ _=>none
theorem Ge{P:Program}:H6 P Mn:=fun _ _ _ _ h=>by cases h
theorem Abi(hm:P.follows .mixedOrders=true){f:FuncId}{fn:Func}{fd:Fd}(hf:P.funcs[f]? =some fn)(hag:Bl P fn fd=true){args:List SV}{ext:List Ba}{r:Res}(hnp:args.length=fd.np){ex:Ex}{σ:St}
  (he:Ev P fd.body (enter args ext) ex σ)(hex:ex= .norm∨ex= .ret)(hl:Qg Mn fd ext.length σ=some r):A3 P f args ext r:=by
 simp only[Bl,Bool.and_eq_true,decide_eq_true_eq,Bool.not_eq_true'] at hag
 obtain⟨⟨⟨⟨h1,h2⟩,h5⟩,h3⟩,h4⟩:=hag
 have hloc: ∀k∈fd.out,∀i,k≠ .ext i:=fun k hk i e=>by subst e;have:=List.all_eq_true.1 h5.2 _ hk;cases this
 split at h4
 ·rename_i c hc
  refine⟨⟨fn,hf,h2,by rw[hc];rfl⟩,fun w vs γ ok hok hG hinj hobj hlen hargs=>?_⟩
  refine calls_of_wp hf hc (wpIn_wide (n:=0).1 ?_)
  show Code.wpIn (fr none) 0 P _ _ _ _
  have h0:=S5 (nt:=fn.ntmps) hok hG hinj hobj hlen hargs (by omega)
  refine(Ha (C:=⟨w,ext,γ,fn.ntmps,ok,[]⟩) hm he c _ _ w _ h4 h0 (fun β' a' w' h'=>?_)).1
  obtain⟨v,δ,hr,haft⟩:=Lf h' h3 h5.1 hloc hl
  rcases hex with rfl|rfl
  ·exact⟨h'.dfs,v,hr,v,δ,rfl,haft⟩
  ·exact⟨h'.dfs,v,hr,v,δ,rfl,haft⟩
 ·cases h4
end
end Go.Av
end
section
set_option linter.unusedVariables false
set_option linter.unusedSimpArgs false
namespace Go.Av
structure Ent where
 on:Bool
 f:FuncId
 args:List SV
 ext:List Ba
 r:Res
noncomputable def tab:List Ent→Cv
 |[]=>fun _ _ _=>none
 |e::es=>fun g a x=>open Classical in if e.on=true∧g=e.f∧a=e.args∧x=e.ext then some e.r else tab es g a x
theorem Ax{P:Program}:H6 P (tab []):=fun _ _ _ _ h=>by cases h
theorem Ci{P:Program}{on:Bool}{f:FuncId}{args:List SV}{ext:List Ba}{r:Res}{es:List Ent}(h:on=true→A3 P f args ext r)(hs:H6 P (tab es)):H6 P (tab (⟨on,f,args,ext,r⟩::es)):=by
 intro g a x r' h'
 simp only[tab] at h'
 split at h'
 ·rename_i e
  obtain⟨ho,rfl,rfl,rfl⟩:=e
  simp only[Option.some.injEq] at h'
  subst h'
  exact h ho
 ·exact hs g a x r' h'
theorem Al2{on:Bool}{f:FuncId}{args:List SV}{ext:List Ba}{r:Res}{es:List Ent}(ho:on=true):tab (⟨on,f,args,ext,r⟩::es) f args ext=some r:=by simp[tab,ho]
theorem Ek{on:Bool}{f g:FuncId}{args a:List SV}{ext x:List Ba}{r r':Res}{es:List Ent}(hne:(g==f)=false)(h:tab es g a x=some r'):tab (⟨on,f,args,ext,r⟩::es) g a x=some r':=by
 have hne:g≠f:=by simpa using hne
 simp[tab,hne,h]
theorem Ac0{on:Bool}{f:FuncId}{args a:List SV}{ext:List Ba}{r r':Res}{es:List Ent}(he:on=true→args=a→r=r')(h:tab es f a ext=some r'):tab (⟨on,f,args,ext,r⟩::es) f a ext=some r':=by
 simp only[tab]
 split
 ·rename_i c
  rw[he c.1 c.2.2.1.symm]
 ·exact h
def Run(cl:Cv)(draw:Bool)(l:List GOp)(σ σ':St):Prop:=Ew cl draw l σ=some σ'
def St.goes(σ:St)(cl:Cv)(draw:Bool)(l:List GOp):St:=(Ew cl draw l σ).getD σ
section
variable {cl:Cv} {draw:Bool} {σ σ1 σ':St} {l:List GOp}
theorem R5(a b:List GOp)(σ:St):Ew cl draw (a++b) σ=(Ew cl draw a σ).bind (Ew cl draw b):=by
 induction a generalizing σ with
 |nil=>rfl
 |cons o os ih=>
  simp only[List.cons_append,Ew]
  cases step cl draw σ o with
  |none=>rfl
  |some s=>exact ih s
theorem Run.nil:Run cl draw [] σ σ:=rfl
theorem Run.stat(n:Nat)(h:(Ew cl draw (l.take n) σ).isSome=true)(h2:Run cl draw (l.drop n) (σ.goes cl draw (l.take n)) σ'):Run cl draw l σ σ':=by
 unfold Run at*
 rw[←List.take_append_drop n l,R5]
 obtain⟨s,hs⟩:=Option.isSome_iff_exists.1 h
 rw[St.goes,hs] at h2
 rw[hs]
 exact h2
theorem Run.all(h:(Ew cl draw l σ).isSome=true):Run cl draw l σ (σ.goes cl draw l):=by
 unfold Run
 obtain⟨s,hs⟩:=Option.isSome_iff_exists.1 h
 rw[St.goes,hs];rfl
theorem Run.dyn{o:GOp}{os:List GOp}(h:step cl draw σ o=some σ1)(h2:Run cl draw os σ1 σ'):Run cl draw (o::os) σ σ':=by
 unfold Run at*
 rw[Ew,h]
 exact h2
def St.puts(σ:St)(L:List (Nat×SV)):St:={σ with sl:=L++σ.sl}
theorem Run.puts(n:Nat)(L:List (Nat×SV))(h:Ew cl draw (l.take n) σ=some (σ.puts L))(h2:Run cl draw (l.drop n) (σ.puts L) σ'):Run cl draw l σ σ':=by
 unfold Run at*
 rw[←List.take_append_drop n l,R5,h]
 exact h2
theorem Aj.of{P:Program}{l:List GOp}{σ σ':St}{cl:Cv}(hS:H6 P cl)(h:Ew cl false l σ=some σ'):Aj P l σ σ':=by
 induction l generalizing σ with
 |nil=>simp only[Ew,Option.some.injEq] at h;subst h;exact .nil σ
 |cons o os ih=>
  simp only[Ew] at h
  split at h
  ·rename_i σ1 e;exact .cons hS e (ih h)
  ·cases h
theorem Aj.append{P:Program}{a b:List GOp}{σ σ1 σ':St}(h1:Aj P a σ σ1)(h2:Aj P b σ1 σ'):Aj P (a++b) σ σ':=by
 induction h1 with
 |nil σ=>exact h2
 |cons hS h _ ih=>exact .cons hS h (ih h2)
section
variable {P:Program}
theorem Aj.stat(n:Nat)(h:(Ew Mn false (l.take n) σ).isSome=true)(h2:Aj P (l.drop n) (σ.goes Mn false (l.take n)) σ'):Aj P l σ σ':=by
 rw[←List.take_append_drop n l]
 obtain⟨s,hs⟩:=Option.isSome_iff_exists.1 h
 rw[St.goes,hs] at h2
 exact(Aj.of Ge hs).append h2
theorem Aj.all(h:(Ew Mn false l σ).isSome=true):Aj P l σ (σ.goes Mn false l):=by
 obtain⟨s,hs⟩:=Option.isSome_iff_exists.1 h
 rw[St.goes,hs]
 exact Aj.of Ge hs
theorem Aj.puts(n:Nat)(L:List (Nat×SV))(h:Ew Mn false (l.take n) σ=some (σ.puts L))(h2:Aj P (l.drop n) (σ.puts L) σ'):Aj P l σ σ':=by
 rw[←List.take_append_drop n l]
 exact(Aj.of Ge h).append h2
theorem Aj.dyn{o:GOp}{os:List GOp}(h:step Mn false σ o=some σ1)(h2:Aj P os σ1 σ'):Aj P (o::os) σ σ':= .cons Ge h h2
end
theorem Hd{d:Nat}{op:AOp}{v:SV}(hB:op.isB=false)(hk:op.keys d=[])(h:B4 cl σ d op=some ⟨v,[]⟩):step cl draw σ ⟨some d,none,op⟩=some (σ.put (some d) v):=by
 unfold step
 simp only[St.wants,hB,cond_false,Option.getD_some,hk,St.killAll,Pc,h]
 cases draw<;>simp[St.insAll]
variable {d:Nat}
theorem Bn{t:Nat}{b:Bool}{op:AOp}{v:SV}(g:Bool)(hB:op.isB=false)(h:(g=false∧σ.wants (some (t,b))=some false)∨(g=true∧σ.wants (some (t,b))=some true∧step cl draw σ ⟨some d,none,op⟩=some (σ.put (some d) v))):step cl draw σ ⟨some d,some (t,b),op⟩=some (σ.put (some d) (bif g then v else .tup [])):=by
 rcases h with⟨rfl,h⟩|⟨rfl,h,hs⟩
 ·unfold step
  simp only[h,AOp.skipV,hB,cond_false]
 ·unfold step at hs⊢
  simp only[h,hB,cond_false,cond_true,Pc]
  simp only[hB,cond_false,Pc,St.wants] at hs
  exact hs
theorem Aaz{t:Nat}{b:Bool}{op:AOp}{v:SV}(g:Bool)(hB:op.isB=true)(h:(g=false∧σ.wants (some (t,b))=some false)∨(g=true∧σ.wants (some (t,b))=some true∧step cl draw σ ⟨some d,none,op⟩=some (σ.put (some d) v))):step cl draw σ ⟨some d,some (t,b),op⟩=some (σ.put (some d) (bif g then v else .dead)):=by
 rcases h with⟨rfl,h⟩|⟨rfl,h,hs⟩
 ·unfold step
  simp only[h,AOp.skipV,hB,cond_true,cond_false]
 ·unfold step at hs⊢
  simp only[h,hB,cond_true]
  simp only[hB,cond_true,St.wants] at hs
  exact hs
theorem Step.name{x:Opd}{α:Type}{f:α→PV}{e c:α}(hx:σ.ev x= .pv (f e))(hc:some e=some c):step cl draw σ ⟨some d,none,.mov x⟩=some (σ.put (some d) (.pv (f c))):=by
 cases hc
 exact Hd rfl rfl (by simp[B4,hx])
theorem Step.idx{sz:Nat}{x i:Opd}{xs:List PV}{k:IntKind}{n:Int}{e:PV}(hx:σ.ev x= .pv (.slice xs))(hi:σ.ev i= .pv (.int k n))(h0:0≤n)(he:xs[n.toNat]? =some e)(hs:(e.cells.length==sz)=true):step cl draw σ ⟨some d,none,.idx sz x i⟩=some (σ.put (some d) (.ipv e 0)):=by
 refine Hd rfl rfl ?_
 simp only[beq_iff_eq] at hs
 simp[B4,hx,hi,Js,h0,he,hs]
theorem Aa0{sz:Nat}{x i:Opd}{k:Key}{xs:List PV}{kd:IntKind}{n:Int}(hx:σ.ev x= .own k)(hk:σ.look k=some (.row sz xs))(hi:σ.ev i= .pv (.int kd n))(h0:0≤n)(he:n.toNat<xs.length):step cl draw σ ⟨some d,none,.idx sz x i⟩=some (σ.put (some d) (.iown k n.toNat 0)):=by
 refine Hd rfl rfl ?_
 simp[B4,hx,hi,Js,hk,h0,he]
theorem Tp{α:Type}{l:List α}{i:Int}{e:α}(h:rdO l i=some e):0≤i∧l[i.toNat]? =some e:=by
 unfold rdO at h
 split at h
 ·rename_i h0;exact⟨h0,h⟩
 ·cases h
theorem Yp{sz:Nat}{x i:Opd}{α:Type}{f:α→PV}{l:List α}{k:IntKind}{n:Int}{e:α}(hx:σ.ev x= .pv (.slice (l.map f)))(hi:σ.ev i= .pv (.int k n))(h:rdO l n=some e)(hs:((f e).cells.length==sz)=true):step cl draw σ ⟨some d,none,.idx sz x i⟩=some (σ.put (some d) (.ipv (f e) 0)):=by
 obtain⟨h0,he⟩:=Tp h
 exact Step.idx hx hi h0 (by simp[he]) hs
theorem B3{sz:Nat}{x i:Opd}{k:Key}{α:Type}{f:α→PV}{l:List α}{kd:IntKind}{n:Int}{e:α}(hx:σ.ev x= .own k)(hk:σ.look k=some (.row sz (l.map f)))(hi:σ.ev i= .pv (.int kd n))(h:rdO l n=some e):step cl draw σ ⟨some d,none,.idx sz x i⟩=some (σ.put (some d) (.iown k n.toNat 0)):=by
 obtain⟨h0,he⟩:=Tp h
 exact Aa0 hx hk hi h0 (by simpa using(List.getElem?_eq_some_iff.1 he).1)
theorem Step.sidx{x i:Opd}{s:List UInt8}{k:IntKind}{n m:Int}(hx:σ.ev x= .pv (.str s))(hi:σ.ev i= .pv (.int k n))(h:byO s n=some m):step cl draw σ ⟨some d,none,.sidx x i⟩=some (σ.put (some d) (.pv (.int .u8 m))):=by
 refine Hd rfl rfl ?_
 unfold byO at h
 split at h
 ·rename_i h0
  simp only[Option.map_eq_some_iff] at h
  obtain⟨b,hb,rfl⟩:=h
  simp[B4,hx,hi,Js,h0,hb]
 ·cases h
theorem Step.len{x:Opd}{xs:List PV}{m:Int}(hx:σ.elems (σ.ev x)=some xs)(h:(xs.length:Int)=m):step cl draw σ ⟨some d,none,.len false x⟩=some (σ.put (some d) (.pv (.int .i64 m))):=by
 refine Hd rfl rfl ?_
 subst h
 simp[B4,hx]
theorem Af2{x:Opd}{α:Type}{f:α→PV}{l:List α}(hx:σ.elems (σ.ev x)=some (l.map f)):step cl draw σ ⟨some d,none,.len false x⟩=some (σ.put (some d) (.pv (.int .i64 (l.length:Int)))):=Step.len hx (by simp)
theorem Step.quo{x y:Opd}{k:IntKind}{a b m:Int}(hx:σ.ev x= .pv (.int k a))(hy:σ.ev y= .pv (.int k b))(h:Bdy k a b=some m):step cl draw σ ⟨some d,none,.bin false .quo x y⟩=some (σ.put (some d) (.pv (.int k m))):=by
 refine Hd rfl rfl ?_
 unfold Bdy at h
 split at h
 ·cases h
 ·rename_i hb
  simp only[Option.some.injEq] at h
  simp[B4,hx,hy,PV.isB,Rp,Z9,hb,h]
theorem Step.rem{x y:Opd}{k:IntKind}{a b m:Int}(hx:σ.ev x= .pv (.int k a))(hy:σ.ev y= .pv (.int k b))(h:Bdz k a b=some m):step cl draw σ ⟨some d,none,.bin false .rem x y⟩=some (σ.put (some d) (.pv (.int k m))):=by
 refine Hd rfl rfl ?_
 unfold Bdz at h
 split at h
 ·cases h
 ·rename_i hb
  simp only[Option.some.injEq] at h
  simp[B4,hx,hy,PV.isB,Rp,Z9,hb,h]
theorem Step.shl{x y:Opd}{k k':IntKind}{a b m:Int}(hx:σ.ev x= .pv (.int k a))(hy:σ.ev y= .pv (.int k' b))(h:Bd3 k a b=some m):step cl draw σ ⟨some d,none,.bin false .shl x y⟩=some (σ.put (some d) (.pv (.int k m))):=by
 refine Hd rfl rfl ?_
 unfold Bd3 at h
 split at h
 ·cases h
 ·rename_i hb
  simp only[Option.some.injEq] at h
  simp[B4,hx,hy,PV.isB,Rp,Nk,hb,h]
theorem Step.shr{x y:Opd}{k k':IntKind}{a b m:Int}(hx:σ.ev x= .pv (.int k a))(hy:σ.ev y= .pv (.int k' b))(h:Bd4 k a b=some m):step cl draw σ ⟨some d,none,.bin false .shr x y⟩=some (σ.put (some d) (.pv (.int k m))):=by
 refine Hd rfl rfl ?_
 unfold Bd4 at h
 split at h
 ·cases h
 ·rename_i hb
  simp only[Option.some.injEq] at h
  simp[B4,hx,hy,PV.isB,Rp,Nk,hb,h]
theorem K0{x:Opd}{t:Nat}{e:Option Int}{neg:Bool}(hx:σ.ev x= .pv (Ww t e)):step cl draw σ ⟨some d,none,.isNil neg x⟩=some (σ.put (some d) (.pv (.bool (bif neg then e.isSome else e.isNone)))):=by
 refine Hd rfl rfl ?_
 simp only[B4,hx]
 cases e<;>cases neg<;>rfl
theorem Step.pick{c a b:Opd}{t:Bool}{v:SV}(hc:σ.ev c= .pv (.bool t))(h:(bif t then σ.ev a else σ.ev b)=v):step cl draw σ ⟨some d,none,.pick c a b⟩=some (σ.put (some d) v):=by
 refine Hd rfl rfl ?_
 simp[B4,hc,h]
def Bd(σ:St)(dflt:Int):Option Opd→Int→Prop
 |none,n=>n=dflt
 |some o,n=> ∃k,σ.ev o= .pv (.int k n)
theorem Bd.none{dflt n:Int}(h:n=dflt):Bd σ dflt none n:=h
theorem Bd.some{dflt n:Int}{o:Opd}{k:IntKind}(h:σ.ev o= .pv (.int k n)):Bd σ dflt (some o) n:=⟨k,h⟩
theorem Abb{dn:Nat}{top:Nat}{o:Option Opd}{n:Int}(h:Bd σ dn o n)(h0:0≤n)(ht:n≤top):G7 σ dn top o=some n.toNat:=by
 cases o with
 |none=>
  simp only[Bd] at h
  subst h
  simp[G7]
 |some o=>
  obtain⟨k,hk⟩:=h
  simp[G7,hk,Js,h0,ht]
theorem Sb{α:Type}{f:α→PV}{sz:Nat}{l:List α}(h: ∀x,(f x).cells.length=sz):It sz (l.map f)=true:=by
 simp[It,h]
theorem L6{α:Type}{f:α→PV}{x:Opd}{lo hi:Option Opd}{l m:List α}{a b:Int}{sz:Nat}(hx:(σ.ev x).tidy= .pv (.slice (l.map f)))(hlo:Bd σ 0 lo a)(hhi:Bd σ l.length hi b)(h:slO l a b=some m)(hf: ∀x,(f x).cells.length=sz):step cl draw σ ⟨some d,none,.slc false sz x lo hi⟩=some (σ.put (some d) (.pv (.slice (m.map f)))):=by
 refine Hd rfl rfl ?_
 unfold slO at h
 split at h
 ·rename_i hc
  obtain⟨h1,h2,h3⟩:=hc
  simp only[Option.some.injEq] at h
  have e1:=Abb (dn:=(l.map f).length) (top:=(l.map f).length) (by simpa using hhi) (by omega) (by simpa using h3)
  have e2:=Abb (dn:=0) (top:=b.toNat) hlo h1 (by omega)
  simp only[B4,hx,e1,e2,Sb hf,if_true]
  subst h
  simp[List.map_take,List.map_drop]
 ·cases h
theorem Step.call{keep:Nat}{f:Opd}{args:List Opd}{g:FuncId}{caps vs:List SV}{r:Res}{v:SV}{ins:List (Key×Ba)}{σ1:St}(hσ:(bif draw then σ else σ.killAll ((List.range keep).map (.loc d)))=σ1)(ht:σ1.target f=some (g,caps))(hl:((args.map σ1.ev++caps).map SV.tidy)=vs)(hb:vs.all SV.bare=true)(hc:cl g vs []=some r)(hv:took [] d keep r=some ⟨v,ins⟩):
  step cl draw σ ⟨some d,none,.call keep 0 f args [] []⟩=some ((σ1.insAll ins).put (some d) v):=by
 have hl:((args.map σ1.ev++caps).map fun v=>v.tidy)=vs:=hl
 have key:Pc cl σ1 ⟨some d,none,.call keep 0 f args [] []⟩=some ((σ1.insAll ins).put (some d) v):=by
  simp only[Pc,B4,Option.getD_some,ht,hl,hb,hc,hv,List.isEmpty_nil,Nat.le_zero_eq,beq_self_eq_true,Bool.true_or,cond_true]
  simp[hl,hb,hc,hv]
 unfold step
 simp only[St.wants,AOp.isB,AOp.keys,Option.getD_some]
 subst hσ
 cases draw<;>simpa using key
theorem Ada{f:Opd}{args:List Opd}{g:FuncId}{caps vs:List SV}{r:Res}{v:SV}(ht:σ.target f=some (g,caps))(hl:((args.map σ.ev++caps).map SV.tidy)=vs)(hb:vs.all SV.bare=true)(hc:cl g vs []=some r)(hv:took [] d 0 r=some ⟨v,[]⟩):
  step cl draw σ ⟨some d,none,.call 0 0 f args [] []⟩=some (σ.put (some d) v):=by
 have:=Step.call (cl:=cl) (draw:=draw) (σ:=σ) (d:=d) (keep:=0) (σ1:=σ) (ins:=[]) (by cases draw<;>rfl) ht hl hb hc hv
 exact this
theorem Adb{keep:Nat}{f:Opd}{args:List Opd}{g:FuncId}{caps vs:List SV}{r:Res}{v:SV}{ins:List (Key×Ba)}(ht:σ.target f=some (g,caps))(hl:((args.map σ.ev++caps).map SV.tidy)=vs)(hb:vs.all SV.bare=true)(hc:cl g vs []=some r)(hv:took [] d keep r=some ⟨v,ins⟩):
  step cl true σ ⟨some d,none,.call keep 0 f args [] []⟩=some ((σ.insAll ins).put (some d) v):=Step.call (by rfl) ht hl hb hc hv
theorem N6{keep:Nat}{f:Opd}{args:List Opd}{g:FuncId}{caps vs:List SV}{r:Res}{v:SV}{ins:List (Key×Ba)}(ht:(σ.killAll ((List.range keep).map (.loc d))).target f=some (g,caps))(hl:((args.map (σ.killAll ((List.range keep).map (.loc d))).ev++caps).map SV.tidy)=vs)(hb:vs.all SV.bare=true)(hc:cl g vs []=some r)(hv:took [] d keep r=some ⟨v,ins⟩):
  step cl false σ ⟨some d,none,.call keep 0 f args [] []⟩=some (((σ.killAll ((List.range keep).map (.loc d))).insAll ins).put (some d) v):=Step.call (by rfl) ht hl hb hc hv
theorem Wa{keep:Nat}{f:Opd}{args:List Opd}{fz ln:List Key}{g:FuncId}{caps vs:List SV}{ext:List Ba}{r:Res}{v:SV}{ins:List (Key×Ba)}{σ1 σ2:St}(hσ:(σ.freezeAll fz).killAll ((List.range keep).map (.loc d))=σ1)(ht:σ1.target f=some (g,caps))(hx:Gg σ1 ln ln=some ext)
  (hl:((args.map σ1.ev++caps).map fun v=>v.tidy.nm (toX ln))=vs)(hc:cl g vs ext=some r)(hv:took ln d keep r=some ⟨v,ins⟩)(hb:Eg (Hi ln d keep) (σ1.killAll (Ea ln r.ext)) ln r.ext=some σ2):
  step cl draw σ ⟨some d,none,.call keep 2 f args fz ln⟩=some ((σ2.insAll ins).put (some d) v):=by
 subst hσ
 unfold step
 have hl:((args.map ((σ.freezeAll fz).killAll ((List.range keep).map (.loc d))).ev++caps).map fun v=>(Zt 2 v).nm (toX ln))=vs:=hl
 simp only[St.wants,AOp.isB,Nat.le_refl,decide_true,cond_true,Ir,ht,hx,hl,hc,hv,hb]
theorem Adc{keep:Nat}{f:Opd}{args:List Opd}{ln:List Key}{g:FuncId}{caps vs:List SV}{ext:List Ba}{r:Res}{v:SV}{ins:List (Key×Ba)}{σ1 σ2:St}(hσ:σ.killAll ((List.range keep).map (.loc d))=σ1)(ht:σ1.target f=some (g,caps))(hx:Gg σ1 ln ln=some ext)
  (hl:((args.map σ1.ev++caps).map fun v=>v.nm (toX ln))=vs)(hc:cl g vs ext=some r)(hv:took ln d keep r=some ⟨v,ins⟩)(hb:Eg (Hi ln d keep) (σ1.killAll (Ea ln r.ext)) ln r.ext=some σ2):
  step cl draw σ ⟨some d,none,.call keep 3 f args [] ln⟩=some ((σ2.insAll ins).put (some d) v):=by
 subst hσ
 unfold step
 have hl:((args.map (σ.killAll ((List.range keep).map (.loc d))).ev++caps).map fun v=>(Zt 3 v).nm (toX ln))=vs:=hl
 simp only[St.wants,AOp.isB,(by decide:2≤3),decide_true,cond_true,Ir,St.freezeAll,ht,hx,hl,hc,hv,hb]
theorem Cx{keep:Nat}{f:Opd}{args:List Opd}{fz ln:List Key}{g:FuncId}{caps vs:List SV}{ext:List Ba}{r:Res}{v:SV}{ins:List (Key×Ba)}{σ1:St}(hσ:(σ.freezeAll fz).killAll ((List.range keep).map (.loc d))=σ1)(ht:σ1.target f=some (g,caps))(hx:Gg σ1 ln ln=some ext)
  (hl:((args.map σ1.ev++caps).map fun v=>v.tidy.nm (toX ln))=vs)(hc:cl g vs ext=some r)(hv:took ln d keep r=some ⟨v,ins⟩)(hb:(Eg (Hi ln d keep) (σ1.killAll (Ea ln r.ext)) ln r.ext).isSome=true):
  step cl draw σ ⟨some d,none,.call keep 2 f args fz ln⟩=some (((((Eg (Hi ln d keep) (σ1.killAll (Ea ln r.ext)) ln r.ext).getD σ).insAll ins)).put (some d) v):=by
 obtain⟨s,hs⟩:=Option.isSome_iff_exists.1 hb
 rw[Wa hσ ht hx hl hc hv hs,hs];rfl
theorem Uz{f:Opd}{args:List Opd}{fz ln:List Key}{g:FuncId}{caps vs:List SV}{ext:List Ba}{r:Res}{v:SV}{σ1:St}(hσ:(σ.freezeAll fz).killAll []=σ1)(ht:σ1.target f=some (g,caps))(hx:Gg σ1 ln ln=some ext)
  (hl:((args.map σ1.ev++caps).map fun v=>v.tidy.nm (toX ln))=vs)(hc:cl g vs ext=some r)(hv:took ln d 0 r=some ⟨v,[]⟩)(hb:Eg (Hi ln d 0) (σ1.killAll (Ea ln r.ext)) ln r.ext=some σ):
  step cl draw σ ⟨some d,none,.call 0 2 f args fz ln⟩=some (σ.put (some d) v):=Wa (keep:=0) hσ ht hx hl hc hv hb
theorem Step.st{o:GOp}{σ1:St}(h:step cl draw σ o=some σ1):step cl draw σ o=some σ1:=h
theorem V9{kd sz bytes:Nat}{x y:Opd}{k:Key}{xs ys:List PV}(hx:σ.ev x= .own k)(hk:σ.look k=some (.row sz xs))(hy:σ.elems (σ.ev y)=some ys)(hl:It sz ys=true)(hb:1≤bytes)(hs:(xs.length+ys.length)*bytes≤140737488355328):
  step cl draw σ ⟨some d,none,.append kd sz bytes x y⟩=some ((((σ.kill k).kill (.loc kd 0)).insAll [(.loc kd 0,.row sz (xs++ys))]).put (some d) (.own (.loc kd 0))):=by
 unfold step
 simp only[St.wants,AOp.isB,cond_true,Ir,hy,hx,hk,hl,hb,hs,and_self,if_true]
theorem X4{n:Nat}{a x:Opd}{k:Key}{i off sz:Nat}{xs:List PV}{v e e':PV}{d:Option Nat}(ha:σ.ev a= .iown k i off)(hk:σ.look k=some (.row sz xs))(hx:σ.ev x= .pv v)(he:xs[i]? =some e)(hn:(v.cells.length==n&&decide (off+n≤e.cells.length))=true)(hs:e.setCells off v=some e'):
  step cl draw σ ⟨d,none,.store n a x⟩=some ((σ.over k (.row sz (xs.set i e'))).put d .dead):=by
 simp only[Bool.and_eq_true,beq_iff_eq,decide_eq_true_eq] at hn
 unfold step
 simp only[St.wants,AOp.isB,cond_true,Ir,ha,hk,hx,he,hn.1,hn.2,and_self,if_true,hs]
theorem Zz{agg:Bool}{n:Nat}{x:Opd}{k:Key}{i off sz:Nat}{xs:List PV}{e:PV}{v:SV}(ha:σ.ev x= .iown k i off)(hk:σ.look k=some (.row sz xs))(he:xs[i]? =some e)(hn:decide (off+n≤e.cells.length)=true)(hv:SV.ofCells agg (((e.cells.drop off).take n).map .pv)=some v):
  step cl draw σ ⟨some d,none,.load agg n x⟩=some (σ.put (some d) v):=by
 refine Hd rfl rfl ?_
 simp only[decide_eq_true_eq] at hn
 simp only[B4,ha,hk,he,hn,if_true,hv,Option.map_some]
theorem C5{kd sz bytes:Nat}{x y:Opd}{k:Key}{α:Type}{f:α→PV}{l m r:List α}(hx:σ.ev x= .own k)(hk:σ.look k=some (.row sz (l.map f)))(hy:σ.elems (σ.ev y)=some (m.map f))(h:apO bytes l m=some r)(hf: ∀x,(f x).cells.length=sz)(hb:decide (1≤bytes)=true):
  step cl draw σ ⟨some d,none,.append kd sz bytes x y⟩=some ((((σ.kill k).kill (.loc kd 0)).insAll [(.loc kd 0,.row sz (r.map f))]).put (some d) (.own (.loc kd 0))):=by
 unfold apO at h
 split at h
 ·rename_i hc
  simp only[Option.some.injEq] at h
  subst h
  have:=V9 (cl:=cl) (draw:=draw) (d:=d) (kd:=kd) hx hk hy (Sb hf) (by simpa using hb) (by simpa using hc)
  simpa using this
 ·cases h
theorem Co{agg:Bool}{n:Nat}{x:Opd}{k:Key}{i:Int}{off sz:Nat}{α:Type}{f:α→PV}{l:List α}{e:α}{v:SV}(ha:σ.ev x= .iown k i.toNat off)(hk:σ.look k=some (.row sz (l.map f)))(h:rdO l i=some e)(hn:decide (off+n≤(f e).cells.length)=true)(hv:SV.ofCells agg ((((f e).cells.drop off).take n).map .pv)=some v):
  step cl draw σ ⟨some d,none,.load agg n x⟩=some (σ.put (some d) v):=by
 obtain⟨h0,he⟩:=Tp h
 exact Zz ha hk (by simp[he]) hn hv
theorem Ec{n:Nat}{a x:Opd}{k:Key}{i:Int}{off sz:Nat}{α:Type}{f:α→PV}{l:List α}{v:PV}{e e':α}{d:Option Nat}(ha:σ.ev a= .iown k i.toNat off)(hk:σ.look k=some (.row sz (l.map f)))(hx:σ.ev x= .pv v)(h:rdO l i=some e)(hn:(v.cells.length==n&&decide (off+n≤(f e).cells.length))=true)(hs:(f e).setCells off v=some (f e')):
  step cl draw σ ⟨d,none,.store n a x⟩=some ((σ.over k (.row sz ((l.set i.toNat e').map f))).put d .dead):=by
 obtain⟨h0,he⟩:=Tp h
 have:=X4 (cl:=cl) (draw:=draw) (d:=d) ha hk hx (e:=f e) (by simp[he]) hn hs
 rw[this,List.map_set]
theorem Af1{f:FuncId}{sz bytes x:Nat}{i y:Opd}{k k2:Key}{α:Type}{F:α→PV}{l r:List α}{e:α}{n:Int}(hx:σ.get x= .own k)(hk:σ.look k=some (.row sz (l.map F)))(hi:σ.ev i= .pv (.int .i64 n))(hy:σ.ev y= .own k2)(hk2:σ.look k2=some (.row sz [F e]))(hne:decide (k≠k2)=true)(h:Aiv bytes l n e=some r):
  step cl true σ ⟨some d,none,.ins f sz bytes x i y⟩=some ((σ.insAll [(.loc d 0,.row sz (r.map F))]).put (some d) (.own (.loc d 0))):=by
 unfold Aiv at h
 split at h
 ·rename_i hc
  obtain⟨h1,h2,h3⟩:=hc
  simp only[Option.some.injEq] at h
  subst h
  unfold step
  simp only[St.wants,AOp.isB,cond_true,cond_false,Pc,B4,Option.getD_some,hx,hk,hi,hy,hk2,Js,hne,h1,h2,h3,List.length_map,beq_self_eq_true,decide_true,Bool.and_self,Bool.and_true,List.map_append,List.map_cons,List.map_take,List.map_drop]
 ·cases h
end
def Bdp(l:List GOp):List (FuncId×Nat×Nat):=l.filterMap fun g=>match g.op with
 | .ins f sz b _ _ _=>some (f,sz,b)
 |_=>none
theorem Bdo{P:Program}{l:List GOp}{L:List (FuncId×Nat×Nat)}(e:Bdp l=L)(h: ∀t∈L,T7 P t.1 t.2.1 t.2.2): ∀g∈l,∀f sz by' x i y,g.op= .ins f sz by' x i y→T7 P f sz by':=by
 intro g hg f sz by' x i y hop
 refine h (f,sz,by') ?_
 rw[←e]
 exact List.mem_filterMap.2 ⟨g,hg,by rw[hop]⟩
theorem Axm{P:Program}: ∀t∈([]:List (FuncId×Nat×Nat)),T7 P t.1 t.2.1 t.2.2:=by simp
theorem Alh{P:Program}{f:FuncId}{sz b:Nat}{L:List (FuncId×Nat×Nat)}(h:T7 P f sz b)(hL: ∀t∈L,T7 P t.1 t.2.1 t.2.2): ∀t∈(f,sz,b)::L,T7 P t.1 t.2.1 t.2.2:=by
 intro t ht
 rcases List.mem_cons.1 ht with rfl|ht
 ·exact h
 ·exact hL t ht
structure W (P:Program) (ac:AC) (σ:St) (Q:Ex→St→Prop):Prop where
 out: ∃ex σ',Ev P ac σ ex σ'∧Q ex σ'
def Bd6(K:St→Prop)(Q:Ex→St→Prop):Ex→St→Prop
 | .norm,σ=>K σ
 | .exit j,σ=>Q (.exit j) σ
 | .ret,σ=>Q .ret σ
def Aii(id:Nat)(Q:Ex→St→Prop):Ex→St→Prop
 | .norm,σ=>Q .norm σ
 | .exit j,σ=>if j=id then Q .norm σ else Q (.exit j) σ
 | .ret,σ=>Q .ret σ
section
variable {P:Program} {σ σ1:St} {Q:Ex→St→Prop}
theorem W.mono{ac:AC}{Q':Ex→St→Prop}(h:W P ac σ Q)(hq: ∀ex σ',Q ex σ'→Q' ex σ'):W P ac σ Q':=by
 obtain⟨ex,σ',he,h⟩:=h
 exact⟨ex,σ',he,hq _ _ h⟩
theorem W.skip(h:Q .norm σ):W P .skip σ Q:=⟨_,_,.skip σ,h⟩
theorem W.exit{id:Nat}(h:Q (.exit id) σ):W P (.exit id) σ Q:=⟨_,_,.exit id σ,h⟩
theorem W.ret(h:Q .ret σ):W P .ret σ Q:=⟨_,_,.ret σ,h⟩
theorem W.ops{l:List GOp}(h:Aj P l σ σ1)(hq:Q .norm σ1):W P (.ops l) σ Q:=⟨_,_,.ops h,hq⟩
theorem W.draw{cl:Cv}{ks:List Key}{l:List GOp}(hS:H6 P cl)(h:Run cl true l (σ.killAll ks) σ1)(hq:Q .norm σ1):W P (.draw ks l) σ Q:=⟨_,_,.draw hS h,hq⟩
theorem W.seq{x y:AC}(h:W P x σ (Bd6 (fun σ1=>W P y σ1 Q) Q)):W P (.seq x y) σ Q:=by
 obtain⟨ex,σ1,he,h⟩:=h
 cases ex with
 |norm=>obtain⟨ex,σ2,he2,h2⟩:=h;exact⟨_,_,.seq he he2,h2⟩
 |exit j=>exact⟨_,_,.seq_out he (by simp),h⟩
 |ret=>exact⟨_,_,.seq_out he (by simp),h⟩
theorem Ab{l:List GOp}{y:AC}(h:Aj P l σ σ1)(hq:W P y σ1 Q):W P (.seq (.ops l) y) σ Q:=W.seq (W.ops h hq)
theorem W.drawZ{cl:Cv}{ks:List Key}{l l2:List GOp}{σ2:St}(hS:H6 P cl)(hI: ∀g∈l,∀f sz by' x i y,g.op= .ins f sz by' x i y→T7 P f sz by')(h:Run cl true l (σ.killAll ks) σ1)(hz:zOK σ1 l=true)(h2:Aj P l2 (σ1.killAll (Zv σ1 l)) σ2)(hq:Q .norm σ2):W P (.drawZ ks l l2) σ Q:=⟨_,_,.drawZ hS hI h hz h2,hq⟩
theorem Bx{cl:Cv}{ks:List Key}{l:List GOp}{y:AC}(hS:H6 P cl)(h:Run cl true l (σ.killAll ks) σ1)(hq:W P y σ1 Q):W P (.seq (.draw ks l) y) σ Q:=W.seq (W.draw hS h hq)
theorem Adi{cl:Cv}{ks:List Key}{l l2:List GOp}{σ2:St}{y:AC}(hS:H6 P cl)(hI: ∀g∈l,∀f sz by' x i y,g.op= .ins f sz by' x i y→T7 P f sz by')(h:Run cl true l (σ.killAll ks) σ1)(hz:zOK σ1 l=true)(h2:Aj P l2 (σ1.killAll (Zv σ1 l)) σ2)(hq:W P y σ2 Q):W P (.seq (.drawZ ks l l2) y) σ Q:=W.seq (W.drawZ hS hI h hz h2 hq)
theorem Ae{x y z:AC}(h:W P (.seq x (.seq y z)) σ Q):W P (.seq (.seq x y) z) σ Q:=by
 obtain⟨ex,σ',he,hq⟩:=h
 refine⟨ex,σ',?_,hq⟩
 cases he with
 |seq h1 h2=>cases h2 with
  |seq h2 h3=>exact .seq (.seq h1 h2) h3
  |seq_out h2 hne=>exact .seq_out (.seq h1 h2) hne
 |seq_out h1 hne=>exact .seq_out (.seq_out h1 hne) hne
theorem W.cond{c:Opd}{x y:AC}{t:Bool}(hc:σ.ev c= .pv (.bool t))(h1:t=true→W P x σ Q)(h2:t=false→W P y σ Q):W P (.cond c x y) σ Q:=by
 cases t with
 |true=>obtain⟨ex,σ1,he,h⟩:=h1 rfl;exact⟨_,_,.cond hc he,h⟩
 |false=>obtain⟨ex,σ1,he,h⟩:=h2 rfl;exact⟨_,_,.cond hc he,h⟩
theorem De{c:Opd}{x y:AC}{t:Bool}{α:Type}{A B:Option α}{o:α}(hc:σ.ev c= .pv (.bool t))(h:(if t=true then A else B)=some o)(h1:t=true→A=some o→W P x σ Q)(h2:t=false→B=some o→W P y σ Q):W P (.cond c x y) σ Q:=by
 refine W.cond hc (fun e=>h1 e ?_) (fun e=>h2 e ?_)
 ·rw[if_pos e] at h;exact h
 ·rw[if_neg (by simp[e])] at h;exact h
theorem W.block{id:Nat}{x:AC}(h:W P x σ (Aii id Q)):W P (.block id x) σ Q:=by
 obtain⟨ex,σ1,he,h⟩:=h
 cases ex with
 |norm=>exact⟨_,_,.block he,h⟩
 |ret=>exact⟨_,_,.block_ret he,h⟩
 |exit j=>
  simp only[Aii] at h
  split at h
  ·rename_i e;subst e;exact⟨_,_,.block_exit he,h⟩
  ·rename_i e;exact⟨_,_,.block_out he e,h⟩
theorem W.keep{fz:List Key}{sl:List (Nat×Bool)}{bx:List (Key×Bool)}{dead:List Key}{up:List Up}{x:AC}(ht:σ.tidy fz sl bx dead up=σ1)(h:W P x σ1 Q):W P (.keep fz sl bx dead up x) σ Q:=by
 obtain⟨ex,σ',he,h⟩:=h
 exact⟨ex,σ',.keep (by rw[ht];exact he),h⟩
theorem An{fz:List Key}{sl:List (Nat×Bool)}{bx:List (Key×Bool)}{dead:List Key}{up:List Up}{x y:AC}(ht:σ.tidy fz sl bx dead up=σ1)(h:W P (.seq x y) σ1 Q):W P (.seq (.keep fz sl bx dead up x) y) σ Q:=by
 obtain⟨ex,σ',he,h⟩:=h
 refine⟨ex,σ',?_,h⟩
 cases he with
 |seq h1 h2=>exact .seq (.keep (by rw[ht];exact h1)) h2
 |seq_out h1 hne=>exact .seq_out (.keep (by rw[ht];exact h1)) hne
theorem W.pass{id:Nat}{x:AC}(h:W P x σ Q):W P (.pass id x) σ Q:=by
 obtain⟨ex,σ',he,h⟩:=h
 exact⟨ex,σ',.pass he,h⟩
theorem Bs{id:Nat}{x y:AC}(h:W P (.seq x y) σ Q):W P (.seq (.pass id x) y) σ Q:=by
 obtain⟨ex,σ',he,h⟩:=h
 refine⟨ex,σ',?_,h⟩
 cases he with
 |seq h1 h2=>exact .seq (.pass h1) h2
 |seq_out h1 hne=>exact .seq_out (.pass h1) hne
theorem Ay{y:AC}(h:W P y σ Q):W P (.seq .skip y) σ Q:=by
 obtain⟨ex,σ',he,h⟩:=h
 exact⟨ex,σ',.seq (.skip σ) he,h⟩
theorem A8{y:AC}(h:Q .ret σ):W P (.seq .ret y) σ Q:=⟨_,_,.seq_out (.ret σ) (by simp),h⟩
theorem Bp{id:Nat}{y:AC}(h:Q (.exit id) σ):W P (.seq (.exit id) y) σ Q:=⟨_,_,.seq_out (.exit id σ) (by simp),h⟩
theorem Ar{c:Opd}{x y z:AC}{t:Bool}{α:Type}{A B:Option α}{o:α}(hc:σ.ev c= .pv (.bool t))(h:(if t=true then A else B)=some o)(h1:t=true→A=some o→W P (.seq x z) σ Q)(h2:t=false→B=some o→W P (.seq y z) σ Q):W P (.seq (.cond c x y) z) σ Q:=by
 have key: ∀q,q=(bif t then x else y)→W P (.seq q z) σ Q→W P (.seq (.cond c x y) z) σ Q:=by
  rintro q rfl ⟨ex,σ',he,hq⟩
  refine⟨ex,σ',?_,hq⟩
  cases he with
  |seq g1 g2=>exact .seq (.cond hc g1) g2
  |seq_out g1 hne=>exact .seq_out (.cond hc g1) hne
 cases t with
 |true=>exact key x rfl (h1 rfl (by simpa using h))
 |false=>exact key y rfl (h2 rfl (by simpa using h))
theorem Cd:Ex.ret≠ .norm:=by simp
theorem B6{id:Nat}:Ex.exit id≠ .norm:=by simp
theorem Dh{id:Nat}:Ex.ret≠ .exit id:=by simp
def Zw{α β:Type}(R:α→St→Prop)(Q:β→Ex→St→Prop):α⊕β→Ex→St→Prop
 | .inl a,ex,σ=>ex= .norm∧R a σ
 | .inr b,ex,σ=>ex≠ .norm∧Q b ex σ
def Aho(id:Nat){α β:Type}(R:α→St→Prop)(Q:β→Ex→St→Prop):α⊕β→Ex→St→Prop
 | .inl a,ex,σ=>(ex= .norm∨ex= .exit id)∧R a σ
 | .inr b,ex,σ=>ex≠ .norm∧ex≠ .exit id∧Q b ex σ
def Ux{α:Type}(R:α→St→Prop)(j:α)(ex:Ex)(σ:St):Prop:=ex= .norm∧R j σ
def Ahn(id:Nat){α:Type}(R:α→St→Prop)(j:α)(ex:Ex)(σ:St):Prop:=(ex= .norm∨ex= .exit id)∧R j σ
section
variable {α β:Type} {R:α→St→Prop} {Q':β→Ex→St→Prop} {a:α} {b:β} {ex:Ex} {id j:Nat}
theorem Alr(h:R a σ):Zw R Q' (.inl a) .norm σ:=⟨rfl,h⟩
theorem Bh(h1:ex≠ .norm)(h:Q' b ex σ):Zw R Q' (.inr b) ex σ:=⟨h1,h⟩
theorem Bdv(h:R a σ):Ux R a .norm σ:=⟨rfl,h⟩
theorem D3(h:R a σ):Ahn id R a (.exit id) σ:=⟨.inr rfl,h⟩
theorem Axc(h:R a σ):Aho id R Q' (.inl a) .norm σ:=⟨.inl rfl,h⟩
theorem Eh(h:R a σ):Aho id R Q' (.inl a) (.exit id) σ:=⟨.inr rfl,h⟩
theorem Ed(h1:ex≠ .norm)(h2:ex≠ .exit id)(h:Q' b ex σ):Aho id R Q' (.inr b) ex σ:=⟨h1,h2,h⟩
end
theorem W.join{x y:AC}{α:Type}(R:α→St→Prop){j:α}(h1:W P x σ (Ux R j))(h2: ∀σ',R j σ'→W P y σ' Q):W P (.seq x y) σ Q:=by
 obtain⟨ex,σ1,he,rfl,hR⟩:=h1
 obtain⟨ex,σ2,he2,hq⟩:=h2 σ1 hR
 exact⟨_,_,.seq he he2,hq⟩
theorem Ck{x y:AC}{α β:Type}(R:α→St→Prop){j:α⊕β}{o:β}(h1:W P x σ (Zw R (fun b ex σ'=>b=o→Q ex σ') j))(h2: ∀a σ',j= .inl a→R a σ'→W P y σ' Q)(h3: ∀b,j= .inr b→b=o):W P (.seq x y) σ Q:=by
 obtain⟨ex,σ1,he,h⟩:=h1
 cases j with
 |inl a=>
  obtain⟨rfl,hR⟩:=h
  obtain⟨ex,σ2,he2,hq⟩:=h2 a σ1 rfl hR
  exact⟨_,_,.seq he he2,hq⟩
 |inr b=>
  obtain⟨hne,hq⟩:=h
  exact⟨_,_,.seq_out he hne,hq (h3 b rfl)⟩
theorem Ahy{id:Nat}{x:AC}{α:Type}{R:α→St→Prop}{j:α}(h:W P x σ (Ahn id R j)):W P (.block id x) σ (Ux R j):=by
 obtain⟨ex,σ1,he,hex,h⟩:=h
 rcases hex with rfl|rfl
 ·exact⟨_,_,.block he,rfl,h⟩
 ·exact⟨_,_,.block_exit he,rfl,h⟩
theorem Ys{id:Nat}{x:AC}{α β:Type}{R:α→St→Prop}{Q:β→Ex→St→Prop}{j:α⊕β}(h:W P x σ (Aho id R Q j)):W P (.block id x) σ (Zw R Q j):=by
 obtain⟨ex,σ1,he,h⟩:=h
 cases j with
 |inl a=>
  obtain⟨hex,h⟩:=h
  rcases hex with rfl|rfl
  ·exact⟨_,_,.block he,rfl,h⟩
  ·exact⟨_,_,.block_exit he,rfl,h⟩
 |inr b=>
  obtain⟨h1,h2,h⟩:=h
  cases ex with
  |norm=>exact absurd rfl h1
  |ret=>exact⟨_,_,.block_ret he,h1,h⟩
  |exit i=>exact⟨_,_,.block_out he (fun e=>h2 (by rw[e])),h1,h⟩
theorem W.loopO{keep:List Nat}{ks:List Key}{x:AC}{S O:Type}{f:S→Option (S⊕O)}(J:S→St→Prop){R:O→Ex→St→Prop}{s:S}{o:O}(h:Av.loopO f s=some o)(hs:J s σ)(hb: ∀s σ j,J s σ→f s=some j→W P x ((σ.forget keep).killAll ks) (Zw J R j)):W P (.loop keep ks x) σ (fun ex σ'=>ex≠ .norm∧R o ex σ'):=by
 obtain⟨n,hn⟩:=Ra.1 h
 clear h
 induction n generalizing s σ with
 |zero=>cases hn
 |succ n ih=>
  rw[Nx] at hn
  cases hf:f s with
  |none=>rw[hf] at hn;cases hn
  |some j=>
   rw[hf] at hn
   obtain⟨ex,σ1,he,h⟩:=hb s σ j hs hf
   cases j with
   |inl s'=>
    obtain⟨rfl,hR⟩:=h
    obtain⟨ex2,σ2,he2,hq2⟩:=ih hR hn
    exact⟨_,_,.loop he he2,hq2⟩
   |inr o'=>
    simp only[Option.some.injEq] at hn
    subst hn
    exact⟨_,_,.loop_out he h.1,h⟩
theorem Ch{id:Nat}{keep:List Nat}{ks:List Key}{x:AC}{S O:Type}{f:S→Option (S⊕O)}(J:S→St→Prop){R:O→St→Prop}{s:S}{o:O}(h:Av.loopO f s=some o)(hs:J s σ)(hb: ∀s σ j,J s σ→f s=some j→W P x ((σ.forget keep).killAll ks) (Zw J (Ahn id R) j)):W P (.block id (.loop keep ks x)) σ (Ux R o):=by
 refine Ahy ((W.loopO J h hs hb).mono (fun ex σ' hq=>hq.2))
theorem B1{id:Nat}{keep:List Nat}{ks:List Key}{x:AC}{S O β:Type}{f:S→Option (S⊕(O⊕β))}(J:S→St→Prop){R:O→St→Prop}{Q:β→Ex→St→Prop}{s:S}{o:O⊕β}(h:Av.loopO f s=some o)(hs:J s σ)(hb: ∀s σ j,J s σ→f s=some j→W P x ((σ.forget keep).killAll ks) (Zw J (Aho id R Q) j)):W P (.block id (.loop keep ks x)) σ (Zw R Q o):=by
 refine Ys ((W.loopO J h hs hb).mono (fun ex σ' hq=>hq.2))
def Fin(fd:Fd)(n:Nat)(r:Res)(ex:Ex)(σ:St):Prop:=(ex= .norm∨ex= .ret)∧Qg Mn fd n σ=some r
theorem Alf{fd:Fd}{n:Nat}{r:Res}(h:Qg Mn fd n σ=some r):Fin fd n r .ret σ:=⟨.inr rfl,h⟩
theorem Mk{fd:Fd}{n:Nat}{r:Res}(h:Qg Mn fd n σ=some r):Fin fd n r .norm σ:=⟨.inl rfl,h⟩
theorem Ap(hm:P.follows .mixedOrders=true){f:FuncId}{fn:Func}{fd:Fd}(hf:P.funcs[f]? =some fn)(hag:Bl P fn fd=true){args:List SV}{ext:List Ba}{r:Res}(hnp:(args.length==fd.np)=true)
  (h:W P fd.body (enter args ext) (Fin fd ext.length r)):A3 P f args ext r:=by
 obtain⟨ex,σ,he,hex,hl⟩:=h
 exact Abi hm hf hag (by simpa using hnp) he hex hl
end
end Go.Av
end
