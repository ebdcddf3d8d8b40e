import Derived.KernelRfl
import Derived.Test.YtgmiodjnojkdkaaGreatDoorC8
set_option linter.all false
section
namespace Go.Av
theorem Bmu{P:Program}{C:Ctx}{ro:Option Nat}{n:Nat}{ops:Array Oper}{Q:Exit→Act→World→Prop}{l':List GOp}{σ σ':St}(hr:Bas P l' σ σ'): ∀{l:List Oper} {β:Key→Blk} {a:Act} {w:World},RR C β σ a w→Co (Ho P C.nt ops) l l'=true→
  (∀β' a' w',RR C β' σ' a' w'→Q .normal a' w')→wpListIn (fr ro) n P ops Q l a w:=by
 induction hr with
 |nil σ=>
  intro l β a w h hag hQ
  cases l with
  |nil=>exact wpListIn_nil (hQ β a w h)
  |cons o l=>simp[Co] at hag
 | @cons cl g os σ σ1 σ' hS hs _ ih=>
  intro l β a w h hag hQ
  cases l with
  |nil=>simp[Co] at hag
  |cons o l=>
   simp only[Co,Bool.and_eq_true] at hag
   refine wpListIn_step (fun K hK=>?_)
   refine Bbg (fun hw c hc=>?_) (Avp hS h hag.1 hs (fun β' a' w' h'=>hK _ _ (ih h' hag.2 hQ)) Q)
   obtain⟨h1,_,_,h4⟩:=Ob hag.1
   rw[hc] at h1
   have hst:=Ayp h1
   unfold step at hs
   cases hwt:σ.wants g.g with
   |none=>rw[hwt] at hs;cases hs
   |some b=>
    rw[Sa h h4 hwt] at hw
    subst hw
    simp[hwt,hst,AOp.isB,As6,Ax] at hs
inductive Ev (P:Program):AC→St→Ex→St→Prop
 |skip (σ:St):Ev P .skip σ .norm σ
 |ops {l:List GOp} {σ σ':St} (h:Bas P l σ σ'):Ev P (.ops l) σ .norm σ'
 |draw {cl:Callee} {ks:List Key} {l:List GOp} {σ σ':St} (hS:Qn P cl) (h:Nz cl true l (σ.killAll ks)=some σ'):Ev P (.draw ks l) σ .norm σ'
 |drawZ {cl:Callee} {ks:List Key} {l l2:List GOp} {σ σ' σ2:St} (hS:Qn P cl) (hI: ∀g∈l,∀f sz by' x i y,g.op= .ins f sz by' x i y→Bu2 P f sz by') (h:Nz cl true l (σ.killAll ks)=some σ') (hz:zOK σ' l=true) (h2:Bas P l2 (σ'.killAll (Bo7 σ' l)) σ2):Ev P (.drawZ ks l l2) σ .norm σ2
 |seq {x y:AC} {σ σ1 σ':St} {ex:Ex} (h1:Ev P x σ .norm σ1) (h2:Ev P y σ1 ex σ'):Ev P (.seq x y) σ ex σ'
 |seq_out {x y:AC} {σ σ':St} {ex:Ex} (h1:Ev P x σ ex σ') (hne:ex≠ .norm):Ev P (.seq x y) σ ex σ'
 |cond {c:Opd} {x y:AC} {σ σ':St} {ex:Ex} {t:Bool} (hc:σ.ev c= .pv (.bool t)) (h:Ev P (bif t then x else y) σ ex σ'):Ev P (.cond c x y) σ ex σ'
 |block {id:Nat} {x:AC} {σ σ':St} (h:Ev P x σ .norm σ'):Ev P (.block id x) σ .norm σ'
 |block_exit {id:Nat} {x:AC} {σ σ':St} (h:Ev P x σ (.exit id) σ'):Ev P (.block id x) σ .norm σ'
 |block_out {id j:Nat} {x:AC} {σ σ':St} (h:Ev P x σ (.exit j) σ') (hne:j≠id):Ev P (.block id x) σ (.exit j) σ'
 |block_ret {id:Nat} {x:AC} {σ σ':St} (h:Ev P x σ .ret σ'):Ev P (.block id x) σ .ret σ'
 |loop {keep:List Nat} {ks:List Key} {x:AC} {σ σ1 σ':St} {ex:Ex} (h1:Ev P x ((σ.forget keep).killAll ks) .norm σ1) (h2:Ev P (.loop keep ks x) σ1 ex σ'):Ev P (.loop keep ks x) σ ex σ'
 |loop_out {keep:List Nat} {ks:List Key} {x:AC} {σ σ':St} {ex:Ex} (h1:Ev P x ((σ.forget keep).killAll ks) ex σ') (hne:ex≠ .norm):Ev P (.loop keep ks x) σ ex σ'
 |exit (id:Nat) (σ:St):Ev P (.exit id) σ (.exit id) σ
 |ret (σ:St):Ev P .ret σ .ret σ
 |keep {fz:List Key} {sl:List (Nat×Bool)} {bx:List (Key×Bool)} {dead:List Key} {up:List Up} {x:AC} {σ σ':St} {ex:Ex} (h:Ev P x (σ.tidy fz sl bx dead up) ex σ'):Ev P (.keep fz sl bx dead up x) σ ex σ'
 |pass {id:Nat} {x:AC} {σ σ':St} {ex:Ex} (h:Ev P x σ ex σ'):Ev P (.pass id x) σ ex σ'
 |post {fz:List Key} {sl:List (Nat×Bool)} {bx:List (Key×Bool)} {dead:List Key} {up:List Up} {x:AC} {σ σ':St} (h:Ev P x σ .norm σ'):Ev P (.post fz sl bx dead up x) σ .norm (σ'.tidy fz sl bx dead up)
 |post_out {fz:List Key} {sl:List (Nat×Bool)} {bx:List (Key×Bool)} {dead:List Key} {up:List Up} {x:AC} {σ σ':St} {ex:Ex} (h:Ev P x σ ex σ') (hne:ex≠ .norm):Ev P (.post fz sl bx dead up x) σ ex σ'
section
variable {P:Program} {C:Ctx}
theorem Br6{ac:AC}{σ σ':St}{ex:Ex}(he:Ev P ac σ ex σ'): ∀id,ex= .exit id→ac.exits id=true:=by
 induction he with
 |skip|ops|draw|drawZ|ret|block|block_exit|block_ret|post=>intro id e;cases e
 |seq _ _ _ ih=>intro id e;simp[AC.exits,ih id e]
 |seq_out _ _ ih=>intro id e;simp[AC.exits,ih id e]
 | @cond c x y σ σ' ex t _ _ ih=>
  intro id e
  have:=ih id e
  cases t with
  |true=>simp only[cond_true] at this;simp[AC.exits,this]
  |false=>simp only[cond_false] at this;simp[AC.exits,this]
 |block_out _ _ ih=>intro id e;exact ih id e
 |loop _ _ _ ih=>intro id e;exact ih id e
 |loop_out _ _ ih=>intro id e;exact ih id e
 |exit j σ=>intro id e;cases e;simp[AC.exits]
 |keep _ ih=>intro id e;exact ih id e
 |pass _ ih=>intro id e;exact ih id e
 |post_out _ _ ih=>intro id e;exact ih id e
theorem A1m{nt:Nat}{c:Code}{fz:List Key}{sl:List (Nat×Bool)}{bx:List (Key×Bool)}{dead:List Key}{up:List Up}{x:AC}(h:A6 P nt c (.keep fz sl bx dead up x)=true):(∀u∈up,∀i,u.key≠ .ext i)∧A6 P nt c x=true:=by
 have h:(up.all (fun u=>u.key.noExt)&&A6 P nt c x)=true:=by
  cases c<;>exact h
 simp only[Bool.and_eq_true] at h
 exact⟨fun u hu i e=>absurd (List.all_eq_true.1 h.1 _ hu) (by rw[e];simp[Key.noExt]),h.2⟩
theorem Amo{nt:Nat}{c:Code}{fz:List Key}{sl:List (Nat×Bool)}{bx:List (Key×Bool)}{dead:List Key}{up:List Up}{x:AC}(h:A6 P nt c (.post fz sl bx dead up x)=true):(∀u∈up,∀i,u.key≠ .ext i)∧A6 P nt c x=true:=by
 have h:(up.all (fun u=>u.key.noExt)&&A6 P nt c x)=true:=by
  cases c<;>exact h
 simp only[Bool.and_eq_true] at h
 exact⟨fun u hu i e=>absurd (List.all_eq_true.1 h.1 _ hu) (by rw[e];simp[Key.noExt]),h.2⟩
theorem Bnq{ro:Option Nat}{n:Nat}(hm:P.follows .mixedOrders=true){id:Nat}{ops:Array Oper}{Q:Exit→Act→World→Prop}{a:Act}{w:World}{K:Act→World→Prop}(hnd: ∀(i:Nat) (o:Oper),ops.toList[i]? =some o→ ∀c,o.op≠ .defer c)
  (h: ∀Q':Exit→Act→World→Prop,(∀a w,K a w→Q' .normal a w)→wpAny P .any ops Q' ops.size (Array.replicate ops.size false) a {w with drawn:=w.drawn+1})(hK: ∀a w,K a w→Q .normal a w):(Code.region id ops true).wpIn (fr ro) n P Q a w:=by
 have h1:=h (fun e a w=>e= .normal∧K a w) (fun a w q=>⟨rfl,q⟩)
 refine wpIn_mono (wpIn_region_any hm (Bng (fun i o ho=>hnd i o (by rw[Array.getElem?_toList];exact ho)) ?_ _ _ _ _ h1)) ?_
 ·rintro⟨a,w,e,_⟩;cases e
 ·rintro e a w ⟨rfl,q⟩;exact hK a w q
theorem Br8{ro:Option Nat}{n:Nat}(hm:P.follows .mixedOrders=true){ac:AC}{σ σ':St}{ex:Ex}(he:Ev P ac σ ex σ'): ∀(c:Code) (β:Key→Blk) (a:Act) (w:World) (Q:Exit→Act→World→Prop),A6 P C.nt c ac=true→RR C β σ a w→
  (∀β' a' w',RR C β' σ' a' w'→Q ex.to a' w')→c.wpIn (fr ro) n P Q a w∧ ∀c' keep ks x,c= .loop c'→ac= .loop keep ks x→Lp ro n P c' Q a w:=by
 induction he with
 |skip σ=>
  intro c β a w Q hag h hQ
  cases c<;>simp only[A6] at hag<;>try cases hag
  exact⟨wpIn_skip (hQ _ _ _ h),by intro _ _ _ _ e;cases e⟩
 | @ops l σ σ' hr=>
  intro c β a w Q hag h hQ
  cases c<;>(try simp only[A6] at hag)<;>try cases hag
  rename_i id ops draw
  cases draw<;>(try simp only[A6] at hag)<;>try cases hag
  exact⟨wpIn_region_list (Bmu hr h hag hQ),by intro _ _ _ _ e;cases e⟩
 | @draw cl ks l σ σ' hS hr=>
  intro c β a w Q hag h hQ
  cases c<;>(try simp only[A6] at hag)<;>try cases hag
  rename_i id ops draw
  cases draw<;>(try simp only[A6] at hag)<;>try cases hag
  simp only[Bool.and_eq_true] at hag
  refine⟨?_,by intro _ _ _ _ e;cases e⟩
  refine Bnq hm (Au5 hag.1.1 hag.1.2) (fun Q' hQ'=>?_) (fun a w q=>q)
  rcases Bool.or_eq_true_iff.1 hag.2 with h2|h2
  ·exact Bmn hm hS h2 hag.1.1 h hr (fun β' a' w' h'=>hQ' _ _ (hQ _ _ _ h'))
  ·exact Bi5 hm hS h2 hag.1.1 h hr (fun β' a' w' h'=>hQ' _ _ (hQ _ _ _ h'))
 | @drawZ cl ks l l2 σ σ' σ2 hS hI hr hz hr2=>
  intro c β a w Q hag h hQ
  cases c<;>(try simp only[A6] at hag)<;>try cases hag
  rename_i id ops draw
  cases draw<;>(try simp only[A6] at hag)<;>try cases hag
  simp only[Bool.and_eq_true] at hag
  refine⟨Bnq hm (Au5 hag.1.1.1.1 hag.1.1.1.2) (fun Q' hQ'=>?_) (fun a w q=>q),by intro _ _ _ _ e;cases e⟩
  exact Bi6 hm hS hag.1.1.2 hag.2 hag.1.2 hI hag.1.1.1.1 h hr hz hr2 (fun β' a' w' h'=>hQ' _ _ (hQ _ _ _ h'))
 | @seq x y σ σ1 σ' ex _ _ ih1 ih2=>
  intro c β a w Q hag h hQ
  cases c<;>simp only[A6] at hag<;>try cases hag
  simp only[Bool.and_eq_true] at hag
  refine⟨wpIn_seq ?_,by intro _ _ _ _ e;cases e⟩
  exact(ih1 _ β a w _ hag.1 h (fun β' a' w' h'=>(ih2 _ β' a' w' Q hag.2 h' hQ).1)).1
 | @seq_out x y σ σ' ex _ hne ih=>
  intro c β a w Q hag h hQ
  cases c<;>simp only[A6] at hag<;>try cases hag
  simp only[Bool.and_eq_true] at hag
  refine⟨wpIn_seq ?_,by intro _ _ _ _ e;cases e⟩
  refine(ih _ β a w _ hag.1 h (fun β' a' w' h'=>?_)).1
  have:=hQ β' a' w' h'
  cases ex with
  |norm=>exact absurd rfl hne
  |exit id=>exact this
  |ret=>exact this
 | @cond c' x y σ σ' ex t ht _ ih=>
  intro c β a w Q hag h hQ
  cases c<;>simp only[A6] at hag<;>try cases hag
  simp only[Bool.and_eq_true] at hag
  have hs:=h.ev hag.1.1
  rw[ht] at hs
  refine⟨wpIn_cond (Aqk (Be hs)) ?_,by intro _ _ _ _ e;cases e⟩
  cases t with
  |true=>exact(ih _ β a w Q hag.1.2 h hQ).1
  |false=>exact(ih _ β a w Q hag.2 h hQ).1
 | @block id x σ σ' _ ih=>
  intro c β a w Q hag h hQ
  cases c<;>simp only[A6] at hag<;>try cases hag
  simp only[Bool.and_eq_true,beq_iff_eq] at hag
  obtain⟨rfl,hag⟩:=hag
  exact⟨wpIn_block (ih _ β a w (Exit.inBlock _ Q) hag h (fun β' a' w' h'=>hQ β' a' w' h')).1,by intro _ _ _ _ e;cases e⟩
 | @block_exit id x σ σ' _ ih=>
  intro c β a w Q hag h hQ
  cases c<;>simp only[A6] at hag<;>try cases hag
  simp only[Bool.and_eq_true,beq_iff_eq] at hag
  obtain⟨rfl,hag⟩:=hag
  refine⟨wpIn_block (ih _ β a w _ hag h (fun β' a' w' h'=>?_)).1,by intro _ _ _ _ e;cases e⟩
  simp only[Ex.to,Exit.inBlock,if_true]
  exact hQ _ _ _ h'
 | @block_out id j x σ σ' _ hne ih=>
  intro c β a w Q hag h hQ
  cases c<;>simp only[A6] at hag<;>try cases hag
  simp only[Bool.and_eq_true,beq_iff_eq] at hag
  obtain⟨rfl,hag⟩:=hag
  refine⟨wpIn_block (ih _ β a w _ hag h (fun β' a' w' h'=>?_)).1,by intro _ _ _ _ e;cases e⟩
  simp only[Ex.to,Exit.inBlock]
  rw[if_neg hne]
  exact hQ _ _ _ h'
 | @block_ret id x σ σ' _ ih=>
  intro c β a w Q hag h hQ
  cases c<;>simp only[A6] at hag<;>try cases hag
  simp only[Bool.and_eq_true,beq_iff_eq] at hag
  obtain⟨rfl,hag⟩:=hag
  exact⟨wpIn_block (ih _ β a w (Exit.inBlock _ Q) hag h (fun β' a' w' h'=>hQ β' a' w' h')).1,by intro _ _ _ _ e;cases e⟩
 | @loop keep ks x σ σ1 σ' ex _ _ ih1 ih2=>
  intro c β a w Q hag h hQ
  cases c<;>simp only[A6] at hag<;>try cases hag
  rename_i c1
  have hag0:=hag
  have hl:Lp ro n P c1 Q a w:=by
   refine Bgn ?_
   exact(ih1 _ β a w _ hag ((h.forget keep).killAll ks) (fun β' a' w' h'=>(ih2 (.loop c1) β' a' w' Q (by simpa only[A6] using hag0) h' hQ).2 c1 keep ks x rfl rfl)).1
  refine⟨Bw5 hl,fun c' keep' ks' x e1 e2=>?_⟩
  cases e1;exact hl
 | @loop_out keep ks x σ σ' ex _ hne ih=>
  intro c β a w Q hag h hQ
  cases c<;>simp only[A6] at hag<;>try cases hag
  rename_i c1
  have hl:Lp ro n P c1 Q a w:=by
   refine Bgn ?_
   refine(ih _ β a w _ hag ((h.forget keep).killAll ks) (fun β' a' w' h'=>?_)).1
   have:=hQ β' a' w' h'
   cases ex with
   |norm=>exact absurd rfl hne
   |exit id=>exact this
   |ret=>exact this
  refine⟨Bw5 hl,fun c' keep' ks' x e1 e2=>?_⟩
  cases e1;exact hl
 |exit id σ=>
  intro c β a w Q hag h hQ
  cases c<;>simp only[A6] at hag<;>try cases hag
  simp only[beq_iff_eq] at hag
  subst hag
  exact⟨wpIn_exit (hQ _ _ _ h),by intro _ _ _ _ e;cases e⟩
 |ret σ=>
  intro c β a w Q hag h hQ
  cases c<;>simp only[A6] at hag<;>try cases hag
  exact⟨wpIn_ret (hQ _ _ _ h),by intro _ _ _ _ e;cases e⟩
 | @pass id x σ σ' ex hev ih=>
  intro c β a w Q hag h hQ
  cases c<;>simp only[A6] at hag<;>try cases hag
  simp only[Bool.and_eq_true,beq_iff_eq,Bool.not_eq_true'] at hag
  obtain⟨⟨rfl,hno⟩,hag⟩:=hag
  refine⟨wpIn_block (ih _ β a w _ hag h (fun β' a' w' h'=>?_)).1,by intro _ _ _ _ e;cases e⟩
  have:=hQ β' a' w' h'
  cases ex with
  |norm=>exact this
  |ret=>exact this
  |exit j=>
   simp only[Ex.to,Exit.inBlock]
   split
   ·rename_i hj;subst hj
    rw[Br6 hev _ rfl] at hno;cases hno
   ·exact this
 | @keep fz sl bx dead up x σ σ' ex _ ih=>
  intro c β a w Q hag h hQ
  obtain⟨hd,hag⟩:=A1m hag
  obtain⟨β',h'⟩:=h.tidy fz sl bx dead up hd
  exact⟨(ih c β' a w Q hag h' hQ).1,by intro _ _ _ _ _ e;cases e⟩
 | @post fz sl bx dead up x σ σ' _ ih=>
  intro c β a w Q hag h hQ
  obtain⟨hd,hag⟩:=Amo hag
  refine⟨(ih c β a w Q hag h (fun β1 a' w' h1=>?_)).1,by intro _ _ _ _ _ e;cases e⟩
  obtain⟨β2,h2⟩:=h1.tidy fz sl bx dead up hd
  exact hQ β2 a' w' h2
 | @post_out fz sl bx dead up x σ σ' ex _ hne ih=>
  intro c β a w Q hag h hQ
  obtain⟨hd,hag⟩:=Amo hag
  exact⟨(ih c β a w Q hag h hQ).1,by intro _ _ _ _ _ e;cases e⟩
def A2w:Callee:=fun _ _ _ _=>none
theorem Blc{P:Program}:Qn P A2w:=fun _ _ _ _ _ h=>by cases h
theorem Bfq(hm:P.follows .mixedOrders=true){f:FuncId}{fn:Func}{fd:Fd}(hf:P.funcs[f]? =some fn)(hag:Bj2 P fn fd=true){args:List SV}{ext:List Al}{r:Res}(hnp:args.length=fd.np){ex:Ex}{σ:St}
  (he:Ev P fd.body (enter args ext) ex σ)(hex:ex= .norm∨ex= .ret)(hl:Bga A2w fd ext.length σ=some r):Bp P f args ext r:=by
 simp only[Bj2,Bool.and_eq_true,decide_eq_true_eq,Bool.not_eq_true'] at hag
 obtain⟨⟨⟨⟨h1,h2⟩,h5⟩,h3⟩,h4⟩:=hag
 have hloc: ∀k∈fd.out,∀i,k≠ .ext i:=fun k hk i e=>by subst e;have:=List.all_eq_true.1 h5.2 _ hk;cases this
 split at h4
 ·rename_i c hc
  refine⟨⟨fn,hf,h2,by rw[hc];rfl⟩,fun w vs γ ok hok hG hinj hobj hlen hargs=>?_⟩
  refine calls_of_wp hf hc (wpIn_wide (n:=0).1 ?_)
  show Code.wpIn (fr none) 0 P _ _ _ _
  have h0:=Br5 (nt:=fn.ntmps) hok hG hinj hobj hlen hargs (by omega)
  refine(Br8 (C:=⟨w,ext,γ,fn.ntmps,ok,[]⟩) hm he c _ _ w _ h4 h0 (fun β' a' w' h'=>?_)).1
  obtain⟨v,δ,hr,haft⟩:=Bgb h' h3 h5.1 hloc hl
  rcases hex with rfl|rfl
  ·exact⟨h'.dfs,v,hr,v,δ,rfl,haft⟩
  ·exact⟨h'.dfs,v,hr,v,δ,rfl,haft⟩
 ·cases h4
end
end Go.Av
end
section
namespace Go.Av
section
variable [Dic] {σ:TSt} {ch:List (Nat×Bool)} {P:Program} {T:Tab}
inductive An2:Type 1 where
 |no
 |tot (σ:TSt)
 |par (α:Type) (o:Option α) (g:α→Option TSt)
 |alt (α β:Type) (o:Option (α⊕β)) (f:α→Option TSt) (g:β→Option TSt)
def An2.gives:An2→TSt→Prop
 | .no,_=>False
 | .tot σ,σ'=>σ'=σ
 | .par _ o g,σ'=> ∃a,o=some a∧g a=some σ'
 | .alt _ _ o f g,σ'=> ∃j,o=some j∧(match j with
  | .inl a=>f a
  | .inr b=>g b)=some σ'
def An2.opt:Option TSt→An2
 |some σ=> .tot σ
 |none=> .no
theorem I3{o:Option TSt}{σ':TSt}(h:(An2.opt o).gives σ'):o=some σ':=by
 cases o with
 |none=>cases h
 |some x=>cases h;rfl
def Vv(P:Program)(σ:TSt)(d:Option Nat)(op:AOp)(σ':TSt):Prop:= ∃q:Option Ask,(∀k,q=some k→d=some k.d∧k.good P∧ ∃keep m f args fz ln,op= .call keep m f args fz ln)∧ ∀cl,(∀k,q=some k→k.told cl)→F5 cl σ.u d op=some σ'.u
theorem Vv.one{d:Option Nat}{op:AOp}{σ':TSt}(h: ∀cl,F5 cl σ.u d op=some σ'.u):Vv P σ d op σ':=⟨none,fun k e=>(by cases e),fun cl _=>h cl⟩
theorem Awz{α β:Type}(f:α→β)(cs vs:List α)(off:Nat):(B7 cs off vs).map f=B7 (cs.map f) off (vs.map f):=by
 simp[B7,List.map_append,List.map_take,List.map_drop]
def Bql(t:Ty)(e:t.D)(off:Nat)(X:TV)(vc:List TV):Option t.D:=match t with
 | .st i=>gather (.st i) (B7 (Ss (.st i) e) off vc)
 |t=>as1 t X
theorem N0{t:Ty}(hs:t.scal=true){e:t.D}{off:Nat}{X:TV}{z:t.D}(h:as1 t X=some z):(t.e e).setCells off X.pv=some (t.e z):=by
 rw[(L3 h).2]
 unfold PV.setCells
 split
 ·rename_i cs he
  have:=Biu hs e
  rw[he] at this;cases this
 ·rw[Biu hs z];rfl
theorem Bwe{t:Ty}{e:t.D}{off:Nat}{X:TV}{vc:List TV}{z:t.D}(hX:X.isP=true)(hv:X.cells=some vc)(h:Bql t e off X vc=some z):(t.e e).setCells off X.pv=some (t.e z):=by
 cases t with
 |st i=>
  have hc:vc.map TV.u=X.pv.cells.map .pv:=by
   rw[←Ad4 hv,Qr hX];rfl
  obtain⟨h1,h2⟩:=Sc (t:= .st i) h
  have h3:vc.all TV.isP=true:=by
   cases X<;>first|(cases hX;done)|skip
   ·simp only[TV.cells,Option.some.injEq] at hv;subst hv;exact(G7 _ _).1
   ·simp only[TV.cells,Option.some.injEq] at hv;subst hv;simp[Bug]
  rw[A2r h3] at hc
  have hc':vc.map TV.pv=X.pv.cells:=by
   have:=congrArg (List.map (fun s=>match s with|SV.pv x=>x|_=>PV.nilI)) hc
   simpa [List.map_map,Function.comp_def] using this
  rw[Awz,(G7 (.st i) e).2,hc'] at h2
  show some (PV.agg (B7 (Cel.cl i e) off X.pv.cells))=some (PV.agg (Cel.cl i z))
  exact congrArg (fun l=>some (PV.agg l)) h2
 |int k=>exact N0 (t:= .int k) rfl h
 |bool=>exact N0 (t:= .bool) rfl h
 |str=>exact N0 (t:= .str) rfl h
 |fn=>exact N0 (t:= .fn) rfl h
 |er k=>exact N0 (t:= .er k) rfl h
 |sl k=>exact N0 (t:= .sl k) rfl h
 |mp k v=>exact N0 (t:= .mp k v) rfl h
def newRow(σ:TSt)(k:Key)(t:Ty)(l:List t.D)(m:Int)(d:Option Nat)(z:Option t.D):Option TSt:=match z with
 |some z=>(σ.over k (.row t (l.set (Int.toNat m) z))).put d .dead
 |none=>none
def Aw4(σ:TSt)(d:Option Nat)(n:Nat)(A X:TV):An2:=match X.solid with
 |false=> .no
 |true=>match X.cells with
  |none=> .no
  |some vc=>match decide (vc.length=n) with
   |false=> .no
   |true=>match A with
    | .ptr k off=>match σ.look k with
     |some (.box cs)=>match decide (off+n≤cs.length) with
      |true=> .opt ((σ.over k (.box (B7 cs off vc))).put d .dead)
      |false=> .no
     |_=> .no
    | .iown k m off t e ok=>match X.isP with
     |false=> .no
     |true=>match ok with
      |true=>match decide (off+n≤t.sz) with
       |true=>match Bql t e off X vc with
        |some z=>match σ.look k with
         |some (.row t' l)=>if h:t=t' then .opt (newRow σ k t' l m d (some (h▸z))) else .no
         |_=> .no
        |none=> .no
       |false=> .no
      |false=>match σ.look k with
       |some (.row t' l)=>match decide (off+n≤t'.sz) with
        |true=> .par t'.D (rdO l m) fun e'=>newRow σ k t' l m d (Bql t' e' off X vc)
        |false=> .no
       |_=> .no
    |_=> .no
theorem Inv.put_dead(hI:Inv σ){d:Option Nat}{σ':TSt}(h:σ.put d .dead=some σ'):Inv σ':=hI.put rfl h
theorem A98(hI:Inv σ){k:Key}{t:Ty}{l:List t.D}{m:Int}{off n:Nat}{e z:t.D}{X:TV}{vc:List TV}{d:Option Nat}{σ':TSt}{a x:Opd}(ha:σ.u.ev a= .iown k m.toNat off)(hx:σ.u.ev x=X.u)(hk:σ.look k=some (.row t l))(hm:l[m.toNat]? =some e)
  (hX:X.isP=true)(hv:X.cells=some vc)(hn:vc.length=n)(hb:off+n≤t.sz)(hz:Bql t e off X vc=some z)(h:newRow σ k t l m d (some z)=some σ')(cl:Callee):F5 cl σ.u d (.store n a x)=some σ'.u∧Inv σ':=by
 have hc:X.pv.cells.length=n:=by
  have:=congrArg List.length (Ad4 hv)
  rw[Qr hX] at this
  simpa [SV.cells,hn] using this
 unfold newRow at h
 refine⟨?_,(hI.over _ _).put_dead h⟩
 have h1:((List.map t.e l)[m.toNat]?)=some (t.e e):=Bn9 t.e hm
 have h2:X.pv.cells.length=n∧off+n≤(t.e e).cells.length:=⟨hc,by rw[Aqc];exact hb⟩
 simp only[F5,ha,A9 hk,TO.u,hx,Qr hX,h1,if_pos h2,Bwe hX hv hz]
 rw[As3 h,Aty]
 simp only[TO.u,TV.u]
 congr 3
 exact(congrArg (Al.row t.sz) (List.map_set (f:=t.e) (l:=l) (i:=m.toNat) (a:=z)).symm)
theorem Bm1(hI:Inv σ)(hc:Bq σ ch){n:Nat}{a x:Opd}{d:Option Nat}{σ':TSt}(h:(Aw4 σ d n (σ.ev ch a) (σ.ev ch x)).gives σ'):Vv P σ d (.store n a x) σ'∧Inv σ':=by
 have ha:=Dy hI hc a
 have hx:=Dy hI hc x
 unfold Aw4 at h
 split at h
 ·cases h
 ·rename_i hs
  split at h
  ·cases h
  ·rename_i vc hv
   split at h
   ·cases h
   ·rename_i hn
    have hn:=of_decide_eq_true hn
    have hvl:(σ.u.ev x).cells.length=n:=by rw[←hx,Ad4 hv,List.length_map];exact hn
    split at h
    ·rename_i k off e1
     rw[e1] at ha
     split at h
     ·rename_i cs hk
      split at h
      ·rename_i hb
       have hb:=of_decide_eq_true hb
       have h:=I3 h
       refine⟨Vv.one fun cl=>?_,(hI.over _ _).put_dead h⟩
       have hsx:=Bet hs
       rw[hx] at hsx
       have e3:σ.u.ev a= .ptr k off:=ha.symm
       have hcond:(σ.u.ev x).cells.length=n∧off+n≤(cs.map TV.u).length:=⟨hvl,by simpa using hb⟩
       have hset:B7 (cs.map TV.u) off (σ.u.ev x).cells=(B7 cs off vc).map TV.u:=by rw[Awz,←Ad4 hv,hx]
       simp only[F5,e3,A9 hk,TO.u]
       split
       ·rename_i e4;rw[e4] at hsx;cases hsx
       ·rename_i e4;rw[e4] at hsx;cases hsx
       ·rw[if_pos hcond,hset,As3 h,Aty];rfl
      ·cases h
     ·cases h
    ·rename_i k m off t e ok e1
     rw[e1] at ha
     split at h
     ·cases h
     ·rename_i hX
      split at h
      ·split at h
       ·rename_i hb
        have hb:=of_decide_eq_true hb
        split at h
        ·rename_i z hz
         split at h
         ·rename_i t' l hk
          split at h
          ·rename_i ht
           subst ht
           have h:=I3 h
           obtain⟨_,l',hl',hm⟩:=Br7 hI e1
           rw[hk] at hl'
           cases hl'
           have:=fun cl=>A98 hI ha.symm hx.symm hk hm hX hv hn hb hz h cl
           exact⟨Vv.one fun cl=>(this cl).1,(this A2w).2⟩
          ·cases h
         ·cases h
        ·cases h
       ·cases h
      ·split at h
       ·rename_i t' l hk
        split at h
        ·rename_i hb
         have hb:=of_decide_eq_true hb
         obtain⟨e',he',hg⟩:=h
         have hg:newRow σ k t' l m d (Bql t' e' off (σ.ev ch x) vc)=some σ':=hg
         cases hz:Bql t' e' off (σ.ev ch x) vc with
         |none=>rw[hz] at hg;cases hg
         |some z=>
          rw[hz] at hg
          have:=fun cl=>A98 hI ha.symm hx.symm hk (Apw he').2 hX hv hn hb hz hg cl
          exact⟨Vv.one fun cl=>(this cl).1,(this A2w).2⟩
        ·cases h
       ·cases h
    ·cases h
def Btw(ty:Ty):TO→Option (List ty.D)
 | .row t l=>if h:t=ty then some (h▸l) else none
 |_=>none
theorem Bv6{ty:Ty}{o:TO}{l:List ty.D}(h:Btw ty o=some l):o.u= .row ty.sz (List.map ty.e l):=by
 unfold Btw at h
 split at h
 ·split at h
  ·rename_i ht;subst ht;cases h;rfl
  ·cases h
 ·cases h
def elK(ty:Ty)(σ:TSt)(k:Key):Option (List ty.D):=match σ.look k with
 |some o=>Btw ty o
 |none=>none
theorem Byl{ty:Ty}{k:Key}{l:List ty.D}(h:elK ty σ k=some l):σ.u.look k=some (.row ty.sz (List.map ty.e l)):=by
 unfold elK at h
 split at h
 ·rename_i o ho;rw[A9 ho,Bv6 h]
 ·cases h
def elT(ty:Ty)(σ:TSt):TV→Option (List ty.D)
 | .nils=>some []
 | .own k=>elK ty σ k
 | .v t x=>as1 (.sl ty) (.v t x)
 | .c p=>as1 (.sl ty) (.c p)
 |_=>none
theorem Bym{ty:Ty}{w:TV}{l:List ty.D}(h:elT ty σ w=some l):σ.u.elems w.u=some (List.map ty.e l):=by
 unfold elT at h
 split at h
 ·have h:l=[]:=(Option.some.inj h).symm
  rw[h];rfl
 ·rename_i k
  simp only[TV.u,St.elems,Byl h]
 ·obtain⟨h1,h2⟩:=L3 h
  rw[Qr h1,h2];rfl
 ·obtain⟨h1,h2⟩:=L3 h
  rw[Qr h1,h2];rfl
 ·rename_i g1 g2 g3 g4
  exfalso
  cases w<;>first|exact g1 rfl|exact g2 _ rfl|exact g3 _ _ rfl|exact g4 _ rfl|cases h
def Axy(σ:TSt)(ks:List Key)(kd d:Nat)(ty:Ty)(r:List ty.D):Option TSt:=match σ.killAll ks with
 |some σ1=>(σ1.insAll [(.loc kd 0,.row ty r)]).put (some d) (.own (.loc kd 0))
 |none=>none
def Bjd(σ:TSt)(d:Option Nat)(ty:Ty)(kd sz bytes:Nat)(X Y:TV):An2:=match d with
 |none=> .no
 |some d=>match elT ty σ Y with
  |none=> .no
  |some ys=>match ty.sz==sz&&decide (1≤bytes) with
   |false=> .no
   |true=>match X with
    | .nils=> .par (List ty.D) (apO bytes [] ys) fun r=>Axy σ [.loc kd 0] kd d ty r
    | .own k=>match σ.look k with
     |some (.row t l)=>if h:t=ty then .par (List ty.D) (apO bytes (h▸l) ys) fun r=>Axy σ [k,.loc kd 0] kd d ty r else .no
     |_=> .no
    |_=> .no
theorem Bff{α:Type}{n:Nat}{xs ys r:List α}(h:apO n xs ys=some r):(xs.length+ys.length)*n≤140737488355328∧r=xs++ys:=by
 unfold apO at h
 split at h
 ·rename_i hb;cases h;exact⟨hb,rfl⟩
 ·cases h
theorem Bgu{ks:List Key}{kd d:Nat}{ty:Ty}{r:List ty.D}{σ':TSt}(hI:Inv σ)(h:Axy σ ks kd d ty r=some σ'):σ'.u=((σ.u.killAll ks).insAll [(.loc kd 0,.row ty.sz (List.map ty.e r))]).put (some d) (.own (.loc kd 0))∧Inv σ':=by
 unfold Axy at h
 split at h
 ·rename_i σ1 e1
  exact⟨by rw[As3 h,A17,Ji e1];rfl,((hI.killAll e1).insAll _).put rfl h⟩
 ·cases h
theorem Brv(hI:Inv σ)(hc:Bq σ ch){ty:Ty}{kd sz bytes:Nat}{x y:Opd}{d:Option Nat}{σ':TSt}(h:(Bjd σ d ty kd sz bytes (σ.ev ch x) (σ.ev ch y)).gives σ'):Vv P σ d (.append kd sz bytes x y) σ'∧Inv σ':=by
 have hx:=Dy hI hc x
 have hy:=Dy hI hc y
 unfold Bjd at h
 split at h
 ·cases h
 ·split at h
  ·cases h
  ·rename_i ys hys
   have hys:=Bym hys
   rw[hy] at hys
   split at h
   ·cases h
   ·rename_i hcd
    simp only[Bool.and_eq_true,beq_iff_eq,decide_eq_true_eq] at hcd
    obtain⟨rfl,hb⟩:=hcd
    split at h
    ·rename_i e1
     rw[e1] at hx
     obtain⟨r,hr,hg⟩:=h
     obtain⟨h1,hre⟩:=Bff hr
     obtain⟨h2,h3⟩:=Bgu hI hg
     rw[hre,List.nil_append] at h2
     refine⟨Vv.one fun cl=>?_,h3⟩
     have hx:SV.nils=σ.u.ev x:=hx
     have hcc:Ig ty.sz (List.map ty.e ys)=true∧1≤bytes∧(List.map ty.e ys).length*bytes≤140737488355328:=⟨Ava ys,hb,by simpa using h1⟩
     simp only[F5,hys,←hx,if_pos hcc]
     rw[h2];rfl
    ·rename_i k e1
     rw[e1] at hx
     split at h
     ·rename_i t l hk
      split at h
      ·rename_i ht
       subst ht
       obtain⟨r,hr,hg⟩:=h
       have hr:apO bytes l ys=some r:=hr
       obtain⟨h1,hre⟩:=Bff hr
       obtain⟨h2,h3⟩:=Bgu hI hg
       rw[hre,List.map_append] at h2
       refine⟨Vv.one fun cl=>?_,h3⟩
       have hx:SV.own k=σ.u.ev x:=hx
       have hcc:Ig t.sz (List.map t.e ys)=true∧True∧1≤bytes∧((List.map t.e l).length+(List.map t.e ys).length)*bytes≤140737488355328:=⟨Ava ys,trivial,hb,by simpa using h1⟩
       simp only[F5,hys,←hx,A9 hk,TO.u,if_pos hcc]
       rw[h2];rfl
      ·cases h
     ·cases h
    ·cases h
def A5t(σ:TSt)(d:Option Nat)(kk:KK)(X K V:TV):An2:=match X with
 | .mp key=>match σ.look key with
  |some (.map kt vt es)=>match as1 kt K,as1 vt V with
   |some k,some v=>match decide (kt.kk=kk)&&kt.key with
    |true=> .opt ((σ.over key (.map kt vt (msT es k v))).put d .dead)
    |false=> .no
   |_,_=> .no
  |_=> .no
 |_=> .no
theorem Bpz(hI:Inv σ)(hc:Bq σ ch){kk:KK}{x k v:Opd}{d:Option Nat}{σ':TSt}(h:(A5t σ d kk (σ.ev ch x) (σ.ev ch k) (σ.ev ch v)).gives σ'):Vv P σ d (.mset kk x k v) σ'∧Inv σ':=by
 have hx:=Dy hI hc x
 have hk:=Dy hI hc k
 have hv:=Dy hI hc v
 unfold A5t at h
 split at h
 ·rename_i key e1
  rw[e1] at hx
  split at h
  ·rename_i kt vt es hl
   split at h
   ·rename_i kv vv hkv hvv
    split at h
    ·rename_i hcc
     simp only[Bool.and_eq_true,decide_eq_true_eq] at hcc
     have h:=I3 h
     obtain⟨h1,h2⟩:=L3 hkv
     obtain⟨h3,h4⟩:=L3 hvv
     have hk':σ.u.ev k= .pv (kt.e kv):=by rw[←hk,Qr h1,h2]
     have hv':σ.u.ev v= .pv (vt.e vv):=by rw[←hv,Qr h3,h4]
     have hkk:(decide (kt.kk=kk)&&(kt.e kv).isKK kk)=true:=by rw[←hcc.1,Bs4 hcc.2];simp
     refine⟨Vv.one fun cl=>?_,(hI.over _ _).put_dead h⟩
     have hkey:σ.u.ev x= .mp key:=hx.symm
     simp only[F5,hkey,hk',hv',A9 hl,TO.u,hkk,cond_true,Bwx hcc.2]
     rw[As3 h,Aty,←hcc.1];rfl
    ·cases h
   ·cases h
  ·cases h
 ·cases h
theorem Bku{f:TV→Option TV}(hf:Bq9 f){sl:List (Nat×TV)}(h:El (onS f) σ.sl=some sl){t:Nat}{b q:Bool}(hg:σ.gv t b=some q)(hp:List (Key×TO)):TSt.gv ⟨sl,hp,σ.gs,σ.fr⟩ t b=some q:=by
 unfold TSt.gv at hg⊢
 show(match Gy sl t with| .v .bool c=>some (gtr b c)| .gd _ _ q (.v .bool c)=>some (q&&gtr b c)|_=>none)=some q
 have key: ∀w,Gy σ.sl t=w→(∀w',f w=some w'→w'=w)→w≠ .dead→Gy sl t=w:=by
  intro w e hw hd
  rcases Y7 h t with⟨h4,h5⟩|h4
  ·exact absurd (e.symm.trans h4) hd
  ·rw[e] at h4;exact hw _ h4
 split at hg
 ·rename_i c e2
  rw[key _ e2 (fun w' hw=>hf.bool _ _ hw) (by intro e;cases e)];exact hg
 ·rename_i e2
  rw[key _ e2 (fun w' hw=>hf.gd _ _ _ _ _ hw) (by intro e;cases e)];exact hg
 ·cases hg
theorem Bq.kill{σ':TSt}{k:Key}(hc:Bq σ ch)(h:σ.kill k=some σ'):Bq σ' ch:=by
 unfold TSt.kill at h
 split at h
 ·rename_i sl e1
  split at h
  ·cases h;exact fun g hg=>Bku (A9j k) e1 (hc g hg) _
  ·cases h
 ·cases h
theorem Bq.killAll: ∀{ks:List Key} {σ σ':TSt},Bq σ ch→σ.killAll ks=some σ'→Bq σ' ch
 |[],σ,σ',hc,h=>by cases h;exact hc
 |k::ks,σ,σ',hc,h=>by
  simp only[TSt.killAll] at h
  split at h
  ·rename_i σ1 e;exact(hc.kill e).killAll h
  ·cases h
theorem Bq.ice{σ':TSt}{k:Key}{I:Ice}(hw: ∀w,I.own=some w→ ∃t x,w= .v t x)(hc:Bq σ ch)(h:σ.ice k I=some σ'):Bq σ' ch:=by
 unfold TSt.ice at h
 split at h
 ·rename_i sl e1
  split at h
  ·cases h;exact fun g hg=>Bku (Bf1 k I hw) e1 (hc g hg) _
  ·cases h
 ·cases h
theorem Bq.freeze{σ':TSt}{k:Key}(hc:Bq σ ch)(h:σ.freeze k=some σ'):Bq σ' ch:=by
 unfold TSt.freeze at h
 split at h
 ·exact hc.ice (fun w hw=>(by cases hw;exact⟨_,_,rfl⟩)) h
 ·split at h
  ·exact hc.ice (fun w hw=>(by cases hw)) h
  ·split at h
   ·cases h;exact hc
   ·cases h
 ·cases h;exact hc
theorem Bq.freezeAll: ∀{ks:List Key} {σ σ':TSt},Bq σ ch→σ.freezeAll ks=some σ'→Bq σ' ch
 |[],σ,σ',hc,h=>by cases h;exact hc
 |k::ks,σ,σ',hc,h=>by
  simp only[TSt.freezeAll] at h
  split at h
  ·rename_i σ1 e;exact(hc.freeze e).freezeAll h
  ·cases h
def Bbc(σ:TSt)(ln:List Key)(d keep:Nat)(r:Hm):Option TSt:=match A5y ln d keep r with
 |some x=>match x.1.tame with
  |true=>match σ.killAll (Y8 ln r.ext) with
   |some σ1=>match Ani (Hk ln d keep) σ1 ln r.ext with
    |some σ2=>(σ2.insAll x.2).put (some d) x.1
    |none=>none
   |none=>none
  |false=>none
 |none=>none
def RAn.an2(a:RAn)(f:Hm→Option TSt):An2:=match a with
 | .no=> .no
 | .tot r=> .opt (f r)
 | .par α dd o g=> .par α o fun a=>f (g a)
 | .alt α β o g h=> .alt α β o (fun a=>f (g a)) (fun b=>f (h b))
theorem A48{a:RAn}{f:Hm→Option TSt}{σ':TSt}(h:(a.an2 f).gives σ'): ∃r,a.gives r∧f r=some σ':=by
 unfold RAn.an2 at h
 split at h
 ·cases h
 ·exact⟨_,rfl,I3 h⟩
 ·obtain⟨a,h1,h2⟩:=h
  exact⟨_,⟨a,h1,rfl⟩,h2⟩
 ·obtain⟨j,h1,h2⟩:=h
  cases j with
  |inl a=>exact⟨_,⟨_,h1,rfl⟩,h2⟩
  |inr b=>exact⟨_,⟨_,h1,rfl⟩,h2⟩
def Bu8(m:Nat)(ln:List Key)(w:TV):Option TV:=match m with
 |2=>match w.tidy with
  |some w'=>w'.nm (toX ln)
  |none=>none
 |_=>w.nm (toX ln)
def Ap4(T:Tab)(σ:TSt)(ch:List (Nat×Bool))(d:Option Nat)(keep m:Nat)(f:Opd)(args:List Opd)(fz ln:List Key):An2:=match d with
 |none=> .no
 |some d=>match σ.freezeAll fz with
  |none=> .no
  |some σ1=>match σ1.killAll ((List.range keep).map (.loc d)) with
   |none=> .no
   |some σ2=>match callee σ2 ch f with
    |none=> .no
    |some c=>match Bf5 σ2 ln ln with
     |none=> .no
     |some ext=>match El (Bu8 m ln) (args.map (σ2.ev ch)++c.2.2) with
      |none=> .no
      |some vs=>(T.ask keep c vs ext).an2 (Bbc σ2 ln d keep)
theorem A1u(hT:Vw P T)(hI:Inv σ)(hc:Bq σ ch){d:Option Nat}{keep m:Nat}{f:Opd}{args:List Opd}{fz ln:List Key}{σ':TSt}(h:(Ap4 T σ ch d keep m f args fz ln).gives σ'):Vv P σ d (.call keep m f args fz ln) σ'∧Inv σ':=by
 unfold Ap4 at h
 split at h
 ·cases h
 ·rename_i d
  split at h
  ·cases h
  ·rename_i σ1 e1
   split at h
   ·cases h
   ·rename_i σ2 e2
    obtain⟨u1,i1⟩:=Amy hI e1
    have u2:=Ji e2
    have i2:=i1.killAll e2
    have c2:Bq σ2 ch:=(hc.freezeAll e1).killAll e2
    split at h
    ·cases h
    ·rename_i c hcal
     split at h
     ·cases h
     ·rename_i ext hext
      split at h
      ·cases h
      ·rename_i vs hv
       obtain⟨r,hr,hf⟩:=A48 h
       have hcon:=Bfg hT hr
       unfold Bbc at hf
       split at hf
       ·rename_i x hx
        split at hf
        ·rename_i ht
         split at hf
         ·rename_i σ3 e3
          split at hf
          ·rename_i σ4 e4
           obtain⟨u4,i4⟩:=Bb1 (i2.killAll e3) e4
           refine⟨⟨some ⟨d,c.2.1,vs.map TV.u,ext.map TO.u,r.u⟩,fun k e=>(by cases e;exact⟨rfl,hcon,_,_,_,_,_,_,rfl⟩),fun cl hcl=>?_⟩,(i4.insAll _).put ht hf⟩
           have hcl:cl d c.2.1 (vs.map TV.u) (ext.map TO.u)=some r.u:=hcl _ rfl
           have hF: ∀w w',Bu8 m ln w=some w'→w'.u=(fun v=>(A5x m v).nm (toX ln)) w.u:=by
            intro w w' hw
            unfold Bu8 at hw
            split at hw
            ·split at hw
             ·rename_i w1 hw1
              rw[nm_u _ _ hw,tidy_u hw1];rfl
             ·cases hw
            ·rename_i hm
             have:(m==2)=false:=by simpa using hm
             simp only[A5x,this,cond_false]
             exact nm_u _ _ hw
           have hargs:=Btb (F:=fun v=>(A5x m v).nm (toX ln)) hF hv
           have e5:(args.map (σ2.ev ch)++c.2.2).map TV.u=args.map σ2.u.ev++c.2.2.map TV.u:=by
            rw[List.map_append,List.map_map]
            congr 1
            exact List.map_congr_left fun p _=>Dy i2 c2 p
           rw[e5] at hargs
           have u2':(σ.u.freezeAll fz).killAll ((List.range keep).map (.loc d))=σ2.u:=by rw[u2,u1]
           have u3:σ2.u.killAll (C0 ln r.u.ext)=σ3.u:=by
            rw[Ji e3]
            congr 1
            exact Bbf ln r.ext
           have u4':Da (Hk ln d keep) σ3.u ln r.u.ext=some σ4.u:=u4
           simp only[F5,u2',Bfo i2 c2 hcal,Bn0 hext,←hargs,hcl,Boz hx,u3,u4']
           rw[As3 hf,A17]
          ·cases hf
         ·cases hf
        ·cases hf
       ·cases hf
def tb(T:Tab)(σ:TSt)(ch:List (Nat×Bool))(d:Option Nat)(ty:Ty):AOp→An2
 | .store n a x=>Aw4 σ d n (σ.ev ch a) (σ.ev ch x)
 | .append kd sz bytes x y=>Bjd σ d ty kd sz bytes (σ.ev ch x) (σ.ev ch y)
 | .mset kk x k v=>A5t σ d kk (σ.ev ch x) (σ.ev ch k) (σ.ev ch v)
 | .call keep m f args fz ln=>Ap4 T σ ch d keep m f args fz ln
 |_=> .no
theorem Bje(hT:Vw P T)(hI:Inv σ)(hc:Bq σ ch){d:Option Nat}{ty:Ty}{op:AOp}{σ':TSt}(h:(tb T σ ch d ty op).gives σ'):Vv P σ d op σ'∧Inv σ':=by
 cases op<;>simp only[tb] at h
 case store=>exact Bm1 hI hc h
 case append=>exact Brv hI hc h
 case mset=>exact Bpz hI hc h
 case call=>exact A1u hT hI hc h
 all_goals cases h
end
end Go.Av
end
section
namespace Go.Av
section
variable [Dic] {σ σ':TSt} {ch:List (Nat×Bool)} {P:Program} {T:Tab}
def TV.still:TV→Bool
 | .v _ _=>true
 | .c _=>true
 | .iv _ _ _=>true
 | .ic _ _=>true
 | .dead=>true
 | .tup cs=>stillL cs
 | .fn _ cs=> !cs.isEmpty&&stillL cs
 |_=>false
where
 stillL:List TV→Bool
  |[]=>true
  |a::cs=>a.still&&stillL cs
theorem Ayj{w:TV}(h:w.still=true):w.dem=w:=by cases w<;>first|rfl|cases h
theorem Bub{w:TV}(h:w.still=true):w.tame=true:=by cases w<;>first|rfl|cases h
mutual
theorem still_nmd(k:Key): ∀w:TV,w.still=true→w.nmd k=some false
 | .v _ _,_| .c _,_| .iv _ _ _,_| .ic _ _,_| .dead,_=>rfl
 | .tup cs,h=>stillL_nmd k cs h
 | .fn _ cs,h=>by
  simp only[TV.still,Bool.and_eq_true] at h
  exact stillL_nmd k cs h.2
 | .nils,h| .ptr _ _,h| .own _,h| .mp _,h| .iown _ _ _ _ _ _,h| .agg _ _,h| .gd _ _ _ _,h=>by cases h
theorem stillL_nmd(k:Key): ∀cs:List TV,TV.still.stillL cs=true→TV.nmd.nmdL k cs=some false
 |[],_=>rfl
 |a::cs,h=>by
  simp only[TV.still.stillL,Bool.and_eq_true] at h
  simp only[TV.nmd.nmdL,still_nmd k a h.1,stillL_nmd k cs h.2,Bool.or_self]
end
theorem A5q{k:Key}{w:TV}(h:w.still=true):w.kill k=some w:=by
 unfold TV.kill
 split
 ·cases h
 ·unfold TV.kill0
  rw[still_nmd k _ h]
  simp only[Ayj h]
mutual
theorem still_frz(k:Key)(I:Ice): ∀w:TV,w.still=true→w.frz k I=some w
 | .v _ _,_| .c _,_| .iv _ _ _,_| .ic _ _,_| .dead,_=>rfl
 | .tup cs,h=>by simp only[TV.frz,stillL_frz k I cs h]
 | .fn _ cs,h=>by
  simp only[TV.still,Bool.and_eq_true] at h
  simp only[TV.frz,stillL_frz k I cs h.2]
 | .nils,h| .ptr _ _,h| .own _,h| .mp _,h| .iown _ _ _ _ _ _,h| .agg _ _,h| .gd _ _ _ _,h=>by cases h
theorem stillL_frz(k:Key)(I:Ice): ∀cs:List TV,TV.still.stillL cs=true→TV.frz.frzL k I cs=some cs
 |[],_=>rfl
 |a::cs,h=>by
  simp only[TV.still.stillL,Bool.and_eq_true] at h
  simp only[TV.frz.frzL,still_frz k I a h.1,stillL_frz k I cs h.2]
end
theorem A5r{w:TV}(h:w.still=true):w.tidy=some w:=by
 cases w with
 |fn f cs=>
  cases cs with
  |nil=>cases h
  |cons a cs=>rfl
 |_=>first|rfl|cases h
mutual
theorem still_nm(f:Key→Option Key): ∀w:TV,w.still=true→w.nm f=some w
 | .v _ _,_| .c _,_| .iv _ _ _,_| .ic _ _,_| .dead,_=>rfl
 | .tup cs,h=>by simp only[TV.nm,stillL_nm f cs h]
 | .fn _ cs,h=>by
  simp only[TV.still,Bool.and_eq_true] at h
  simp only[TV.nm,stillL_nm f cs h.2]
 | .nils,h| .ptr _ _,h| .own _,h| .mp _,h| .iown _ _ _ _ _ _,h| .agg _ _,h| .gd _ _ _ _,h=>by cases h
theorem stillL_nm(f:Key→Option Key): ∀cs:List TV,TV.still.stillL cs=true→TV.nm.nmL f cs=some cs
 |[],_=>rfl
 |a::cs,h=>by
  simp only[TV.still.stillL,Bool.and_eq_true] at h
  simp only[TV.nm.nmL,still_nm f a h.1,stillL_nm f cs h.2]
end
def Hi(o o':Option TO):Prop:=o'=none∨o'=o∨ ∃cs cs',o=some (.box cs)∧o'=some (.box cs')∧cs'.length=cs.length∧ ∀(i:Nat) (w:TV),cs[i]? =some w→w.still=true→cs'[i]? =some w
theorem Hi.trans{a b c:Option TO}(h1:Hi a b)(h2:Hi b c):Hi a c:=by
 rcases h2 with rfl|rfl|⟨cs,cs',rfl,rfl,hl,h⟩
 ·exact .inl rfl
 ·exact h1
 ·rcases h1 with h1|h1|⟨ds,ds',rfl,e,hl',h'⟩
  ·cases h1
  ·exact .inr (.inr ⟨cs,cs',h1.symm,rfl,hl,h⟩)
  ·cases e
   exact .inr (.inr ⟨ds,cs',rfl,rfl,hl.trans hl',fun i w hi hw=>h i w (h' i w hi hw) hw⟩)
structure Frm (σ σ':TSt):Prop where
 fr:σ'.fr=σ.fr
 s: ∀t∈σ.fr.s,(σ.get t).still=true→σ'.get t=σ.get t∨σ'.get t= .dead
 k: ∀k∈σ.fr.k,Hi (σ.look k) (σ'.look k)
theorem Frm.refl(σ:TSt):Frm σ σ:=⟨rfl,fun _ _ _=> .inl rfl,fun _ _=> .inr (.inl rfl)⟩
theorem Frm.trans{a b c:TSt}(h1:Frm a b)(h2:Frm b c):Frm a c where
 fr:=h2.fr.trans h1.fr
 s t ht hs:=by
  rcases h1.s t ht hs with e|e
  ·rcases h2.s t (by rw[h1.fr];exact ht) (by rw[e];exact hs) with e2|e2
   ·exact .inl (e2.trans e)
   ·exact .inr e2
  ·rcases h2.s t (by rw[h1.fr];exact ht) (by rw[e];rfl) with e2|e2
   ·exact .inr (e2.trans e)
   ·exact .inr e2
 k k hk:=(h1.k k hk).trans (h2.k k (by rw[h1.fr];exact hk))
theorem Bbu(l:List (Key×TO))(k k':Key)(h:k'≠k):B0 (l.filter fun p=>decide (p.1≠k)) k'=B0 l k':=by
 induction l with
 |nil=>rfl
 |cons p l ih=>
  simp only[List.filter_cons]
  by_cases e:p.1=k
  ·simp only[ne_eq,e,not_true_eq_false,decide_false,Bool.false_eq_true,if_false,B0,if_neg (Ne.symm h)]
   exact ih
  ·simp only[ne_eq,e,not_false_eq_true,decide_true,if_true,B0,ih]
theorem A9n{G:TO→Option TO}{k:Key}: ∀{l r:List (Key×TO)},El (onH G) l=some r→(B0 l k=none∧B0 r k=none)∨ ∃o o',B0 l k=some o∧B0 r k=some o'∧G o=some o'
 |[],_,h=>by cases h;exact .inl ⟨rfl,rfl⟩
 |a::l,r,h=>by
  obtain⟨b,r',h1,h2,rfl⟩:=G8 h
  unfold onH at h1
  split at h1
  ·rename_i o' ho
   cases h1
   simp only[B0]
   by_cases e:a.1=k
   ·rw[if_pos e,if_pos e];exact .inr ⟨a.2,o',rfl,rfl,ho⟩
   ·rw[if_neg e,if_neg e];exact A9n h2
  ·cases h1
theorem Bso{f:TV→Option TV}(hf: ∀w,w.still=true→f w=some w){G:TO→Option TO}(hG: ∀o o',G o=some o'→Hi (some o) (some o')){k:Key}(hk:k∉σ.fr.k){sl:List (Nat×TV)}{hp:List (Key×TO)}(h1:El (onS f) σ.sl=some sl)(h2:El (onH G) (σ.hp.filter fun p=>decide (p.1≠k))=some hp)(gs:List Nat):Frm σ ⟨sl,hp,gs,σ.fr⟩ where
 fr:=rfl
 s t ht hs:=by
  rcases Y7 h1 t with⟨e1,e2⟩|e
  ·exact .inr e2
  ·have:f (σ.get t)=some (σ.get t):=hf _ hs
   exact .inl (Option.some.inj (e.symm.trans this))
 k k' hk':=by
  have hne:k'≠k:=fun e=>hk (e▸hk')
  show Hi (B0 σ.hp k') (B0 hp k')
  rw[←Bbu σ.hp k k' hne]
  rcases A9n (k:=k') h2 with⟨e1,e2⟩|⟨o,o',e1,e2,e3⟩
  ·rw[e1,e2];exact .inl rfl
  ·rw[e1,e2];exact hG _ _ e3
theorem Bn8{f:TV→Option TV}: ∀{cs cs':List TV},El f cs=some cs'→cs'.length=cs.length∧ ∀(i:Nat) (w:TV),cs[i]? =some w→f w=some w→cs'[i]? =some w
 |[],_,h=>by cases h;exact⟨rfl,fun i w e=>by simp at e⟩
 |a::cs,r,h=>by
  obtain⟨b,r',h1,h2,rfl⟩:=G8 h
  obtain⟨h3,h4⟩:=Bn8 h2
  refine⟨by simp[h3],fun i w e hw=>?_⟩
  cases i with
  |zero=>
   simp only[List.getElem?_cons_zero,Option.some.injEq] at e⊢
   subst e
   exact Option.some.inj (h1.symm.trans hw)
  |succ i=>
   simp only[List.getElem?_cons_succ] at e⊢
   exact h4 i w e hw
theorem Avq{f:TV→Option TV}(hf: ∀w,w.still=true→f w=some w){cs cs':List TV}(h:El f cs=some cs'):Hi (some (.box cs)) (some (.box cs')):=by
 obtain⟨h1,h2⟩:=Bn8 h
 exact .inr (.inr ⟨cs,cs',rfl,rfl,h1,fun i w hi hw=>h2 i w hi (hf w hw)⟩)
theorem Bvp{f:Key→Option Key}{o o':TO}(h:o.nm f=some o'):Hi (some o) (some o'):=by
 unfold TO.nm at h
 split at h
 ·split at h
  ·rename_i cs' e;cases h;exact Avq (fun w hw=>still_nm f w hw) e
  ·cases h
 ·cases h;exact .inr (.inl rfl)
theorem Bsl{k:Key}(hk:k∉σ.fr.k)(h:σ.kill k=some σ'):Frm σ σ':=by
 unfold TSt.kill at h
 split at h
 ·rename_i sl e1
  split at h
  ·rename_i hp e2
   cases h
   refine Bso (fun w hw=>A5q hw) (fun o o' e=>?_) hk e1 e2 _
   unfold TO.kill at e
   split at e
   ·split at e
    ·rename_i cs' e3;cases e;exact Avq (fun w hw=>A5q hw) e3
    ·cases e
   ·cases e;exact .inr (.inl rfl)
  ·cases h
 ·cases h
theorem Gg: ∀{ks:List Key} {σ σ':TSt},(∀k∈ks,k∉σ.fr.k)→σ.killAll ks=some σ'→Frm σ σ'
 |[],σ,σ',_,h=>by cases h;exact .refl _
 |k::ks,σ,σ',hk,h=>by
  simp only[TSt.killAll] at h
  split at h
  ·rename_i σ1 e
   have h1:=Bsl (hk k (by simp)) e
   exact h1.trans (Gg (fun k' hk'=>by rw[h1.fr];exact hk k' (by simp[hk'])) h)
  ·cases h
theorem Bnv{k:Key}{I:Ice}(hk:k∉σ.fr.k)(h:σ.ice k I=some σ'):Frm σ σ':=by
 unfold TSt.ice at h
 split at h
 ·rename_i sl e1
  split at h
  ·rename_i hp e2
   cases h
   refine Bso (fun w hw=>still_frz k I w hw) (fun o o' e=>?_) hk e1 e2 _
   unfold TO.frz at e
   split at e
   ·split at e
    ·rename_i cs' e3;cases e;exact Avq (fun w hw=>still_frz k I w hw) e3
    ·cases e
   ·cases e;exact .inr (.inl rfl)
  ·cases h
 ·cases h
theorem Bkr{k:Key}(hk:k∉σ.fr.k)(h:σ.freeze k=some σ'):Frm σ σ':=by
 unfold TSt.freeze at h
 split at h
 ·exact Bnv hk h
 ·split at h
  ·exact Bnv hk h
  ·split at h
   ·cases h;exact .refl _
   ·cases h
 ·cases h;exact .refl _
theorem Wj: ∀{ks:List Key} {σ σ':TSt},(∀k∈ks,k∉σ.fr.k)→σ.freezeAll ks=some σ'→Frm σ σ'
 |[],σ,σ',_,h=>by cases h;exact .refl _
 |k::ks,σ,σ',hk,h=>by
  simp only[TSt.freezeAll] at h
  split at h
  ·rename_i σ1 e
   have h1:=Bkr (hk k (by simp)) e
   exact h1.trans (Wj (fun k' hk'=>by rw[h1.fr];exact hk k' (by simp[hk'])) h)
  ·cases h
theorem Q1{d:Option Nat}{w:TV}(hd: ∀t,d=some t→t∉σ.fr.s)(h:σ.put d w=some σ'):Frm σ σ':=by
 unfold TSt.put at h
 split at h
 ·rename_i d
  split at h
  ·cases h
   refine⟨rfl,fun t ht _=> .inl ?_,fun k _=> .inr (.inl rfl)⟩
   show(bif d==t then w else σ.get t)=σ.get t
   have:(d==t)=false:=by
    have:=hd d rfl
    simp only[beq_eq_false_iff_ne]
    intro e;subst e;exact this ht
   rw[this];rfl
  ·cases h
 ·cases h;exact .refl _
theorem Bvk(t:Nat)(hp:List (Key×TO))(gs:List Nat)(fr:Fr):(TSt.get ⟨σ.dem.sl,hp,gs,fr⟩ t)=(σ.get t).dem:=by
 show Gy (σ.sl.map fun p=>(p.1,p.2.dem)) t=(Gy σ.sl t).dem
 generalize σ.sl=l
 induction l with
 |nil=>rfl
 |cons p l ih=>
  simp only[List.map_cons,Gy]
  cases p.1==t with
  |true=>rfl
  |false=>exact ih
theorem A1c{hp:List (Key×TO)}(gs:List Nat)(h: ∀k∈σ.fr.k,Hi (σ.look k) (B0 hp k)):Frm σ ⟨σ.dem.sl,hp,gs,σ.fr⟩:=⟨rfl,fun t _ hs=> .inl (by rw[Bvk,Ayj hs]),h⟩
theorem A2k(l:List (Key×TO))(k k':Key)(o:TO)(h:k'≠k):B0 (l.map fun p=>if p.1=k then(k,o) else p) k'=B0 l k':=by
 induction l with
 |nil=>rfl
 |cons p l ih=>
  simp only[List.map_cons,B0]
  by_cases e:p.1=k
  ·simp[e,ih,Ne.symm h]
  ·simp[e,ih]
theorem Amz{k:Key}(hk:k∉σ.fr.k)(o:TO):Frm σ (σ.over k o):=
 A1c σ.gs (fun k' hk'=> .inr (.inl (A2k σ.hp k k' o (fun e=>hk (e▸hk')))))
theorem Bbt{l l':List (Key×TO)}{k:Key}(h: ∀p∈l,p.1≠k):B0 (l++l') k=B0 l' k:=by
 induction l with
 |nil=>rfl
 |cons p l ih=>
  simp only[List.cons_append,B0,if_neg (h p (by simp))]
  exact ih (fun q hq=>h q (by simp[hq]))
theorem Bbe{l:List (Key×TO)}(hk: ∀p∈l,p.1∉σ.fr.k):Frm σ (σ.insAll l):=by
 cases l with
 |nil=>exact .refl _
 |cons a l=>exact A1c σ.gs (fun k hk'=> .inr (.inl (Bbt (fun p hp e=>hk p hp (e▸hk')))))
theorem Boq: ∀{sl:List (Nat×Bool)} {l:List (Nat×TV)},Biw σ sl=some l→ ∀t,Gy l t= .dead∨((σ.get t).still=true→Gy l t=σ.get t)
 |[],_,h,t=>by cases h;exact .inl rfl
 |p::r,l,h,t=>by
  simp only[Biw] at h
  split at h
  ·rename_i w e
   split at h
   ·split at h
    ·rename_i l' e2
     cases h
     simp only[Gy]
     cases hp:p.1==t with
     |true=>
      refine .inr fun hs=>?_
      have hp:=eq_of_beq hp
      subst hp
      have:w=σ.get p.1:=by
       cases hb:p.2 with
       |true=>rw[hb] at e;exact(Option.some.inj ((A5r hs).symm.trans e)).symm
       |false=>rw[hb] at e;exact(Option.some.inj e).symm
      simp only[cond_true,this,Ayj hs]
     |false=>exact Boq e2 t
    ·cases h
   ·cases h
  ·cases h
theorem Bnw{sl:List (Nat×Bool)}{l:List (Nat×TV)}(h:Biw σ sl=some l){hp:List (Key×TO)}(gs:List Nat)(hk: ∀k∈σ.fr.k,Hi (σ.look k) (B0 hp k)):Frm σ ⟨l,hp,gs,σ.fr⟩ where
 fr:=rfl
 s t _ hs:=by
  rcases Boq h t with e|e
  ·exact .inr e
  ·exact .inl (e hs)
 k:=hk
theorem Bkq{keep:List Nat}(h:σ.forget keep=some σ'):Frm σ σ':=by
 unfold TSt.forget at h
 split at h
 ·rename_i l e;cases h;exact Bnw e [] (fun k _=> .inr (.inl rfl))
 ·cases h
theorem Bpr{o o':TO}(h:o.tidy=some o'):Hi (some o) (some o'):=by
 unfold TO.tidy at h
 split at h
 ·split at h
  ·rename_i cs' e;cases h;exact Avq (fun w hw=>A5r hw) e
  ·cases h
 ·cases h;exact .inr (.inl rfl)
theorem Bgz{k:Key}: ∀{bx:List (Key×Bool)} {l:List (Key×TO)},A93 σ bx=some l→(B0 l k=none∧(σ.look k=none∨bx.any (fun p=>decide (p.1=k))=false))∨ ∃o,B0 l k=some o∧Hi (σ.look k) (some o)
 |[],_,h=>by cases h;exact .inl ⟨rfl,.inr rfl⟩
 |p::r,l,h=>by
  simp only[A93] at h
  split at h
  ·rename_i l' e
   have ih:=Bgz (k:=k) e
   split at h
   ·rename_i e2
    cases h
    rcases ih with⟨h1,h2⟩|h1
    ·refine .inl ⟨h1,?_⟩
     rcases h2 with h2|h2
     ·exact .inl h2
     ·by_cases hp:p.1=k
      ·subst hp;exact .inl e2
      ·exact .inr (by simp[hp,h2])
    ·exact .inr h1
   ·rename_i o e2
    split at h
    ·rename_i o' e3
     cases h
     by_cases hp:p.1=k
     ·subst hp
      refine .inr ⟨o',by simp[B0],?_⟩
      rw[e2]
      cases hb:p.2 with
      |true=>rw[hb] at e3;exact Bpr e3
      |false=>rw[hb] at e3;cases e3;exact .inr (.inl rfl)
     ·simp only[B0,if_neg hp]
      rcases ih with⟨h1,h2⟩|h1
      ·refine .inl ⟨h1,?_⟩
       rcases h2 with h2|h2
       ·exact .inl h2
       ·exact .inr (by simp[hp,h2])
      ·exact .inr h1
    ·cases h
  ·cases h
theorem Bta(l l':List (Key×TO))(k:Key):B0 (l++l') k=match B0 l k with|some o=>some o|none=>B0 l' k:=by
 induction l with
 |nil=>rfl
 |cons p l ih=>
  simp only[List.cons_append,B0]
  by_cases e:p.1=k
  ·simp[e]
  ·simp[e,ih]
theorem Bk9(l:List (Key×TO))(bx:List (Key×Bool))(k:Key)(h:bx.any (fun p=>decide (p.1=k))=false):B0 (l.filter fun q=> !(bx.any fun p=>decide (p.1=q.1))) k=B0 l k:=by
 induction l with
 |nil=>rfl
 |cons q l ih=>
  simp only[List.filter_cons]
  by_cases e:q.1=k
  ·subst e
   rw[h];simp[B0]
  ·split
   ·simp[B0,e,ih]
   ·simp[B0,e,ih]
theorem Bk8(l:List (Key×TO))(f:Key→Bool)(k:Key)(h:B0 l k=none):B0 (l.filter fun q=>f q.1) k=none:=by
 induction l with
 |nil=>rfl
 |cons q l ih=>
  simp only[B0] at h
  split at h
  ·cases h
  ·rename_i e
   simp only[List.filter_cons]
   split
   ·simp only[B0,if_neg e];exact ih h
   ·exact ih h
theorem Bsm{sl:List (Nat×Bool)}{bx:List (Key×Bool)}(h:σ.laid sl bx=some σ'):Frm σ σ':=by
 unfold TSt.laid at h
 split at h
 ·rename_i l e
  split at h
  ·rename_i hh e2
   cases h
   refine Bnw e [] (fun k _=>?_)
   rw[Bta]
   rcases Bgz (k:=k) e2 with⟨h1,h2⟩|⟨o,h1,h2⟩
   ·rw[h1]
    simp only
    rcases h2 with h2|h2
    ·exact .inl (Bk8 σ.hp (fun q=> !(bx.any fun p=>decide (p.1=q))) k h2)
    ·rw[Bk9 _ _ _ h2];exact .inr (.inl rfl)
   ·rw[h1];exact h2
  ·cases h
 ·cases h
def Up.keys:Up→List Key
 | .slot _ k _=>[k]
 | .cell kb _ k _=>[kb,k]
def Up.slots:Up→List Nat
 | .slot t _ _=>[t]
 | .cell _ _ _ _=>[]
theorem Bvi{p:Up×Ty}(hk: ∀k∈p.1.keys,k∉σ.fr.k)(ht: ∀t∈p.1.slots,t∉σ.fr.s)(h:σ.up1 p=some σ'):Frm σ σ':=by
 obtain⟨up,ty⟩:=p
 unfold TSt.up1 at h
 cases up with
 |slot t k sz=>
  simp only at h
  split at h
  ·split at h
   ·split at h
    ·cases h
     have h1:Frm σ ⟨σ.dem.sl,(k,.row ty [])::σ.hp,σ.gs,σ.fr⟩:=A1c σ.gs (fun k' hk'=> .inr (.inl (by
      have:k≠k':=fun e=>hk k (by simp[Up.keys]) (e▸hk')
      simp[B0,this];rfl)))
     refine h1.trans ⟨rfl,fun s hs hst=> .inl ?_,fun k' _=> .inr (.inl rfl)⟩
     have hne:(t==s)=false:=by
      simp only[beq_eq_false_iff_ne]
      intro e;subst e
      exact ht t (by simp[Up.slots]) hs
     show(bif t==s then TV.own k else Gy σ.dem.sl s)=Gy σ.dem.sl s
     rw[hne];rfl
    ·cases h
   ·cases h;exact .refl _
  ·cases h
  ·cases h;exact .refl _
 |cell kb i k sz=>
  simp only at h
  split at h
  ·split at h
   ·split at h
    ·split at h
     ·cases h
      refine A1c σ.gs (fun k' hk'=> .inr (.inl ?_))
      have h1:k≠k':=fun e=>hk k (by simp[Up.keys]) (e▸hk')
      have h2:k'≠kb:=fun e=>hk kb (by simp[Up.keys]) (e▸hk')
      simp only[B0,if_neg h1]
      exact A2k σ.hp kb k' _ h2
     ·cases h
    ·cases h
    ·cases h;exact .refl _
   ·cases h;exact .refl _
  ·cases h;exact .refl _
theorem A9e: ∀{l:List (Up×Ty)} {σ σ':TSt},(∀p∈l,(∀k∈p.1.keys,k∉σ.fr.k)∧ ∀t∈p.1.slots,t∉σ.fr.s)→σ.upAll l=some σ'→Frm σ σ'
 |[],σ,σ',_,h=>by cases h;exact .refl _
 |p::r,σ,σ',hk,h=>by
  simp only[TSt.upAll] at h
  split at h
  ·rename_i σ1 e
   have h1:=Bvi (hk p (by simp)).1 (hk p (by simp)).2 e
   exact h1.trans (A9e (fun q hq=>by rw[h1.fr];exact hk q (by simp[hq])) h)
  ·cases h
def Kp.free(k:Kp)(fr:Fr):Bool:=k.fz.all (fun q=> !fr.k.contains q)&&k.dead.all (fun q=> !fr.k.contains q)&&k.up.all (fun p=>p.1.keys.all (fun q=> !fr.k.contains q)&&p.1.slots.all (fun t=> !fr.s.contains t))
theorem Qa{α:Type} [DecidableEq α]{l:List α}{a:α}(h:(!l.contains a)=true):a∉l:=by
 intro hm
 rw[List.contains_iff_mem.2 hm] at h;cases h
theorem A13{k:Kp}(hk:k.free σ.fr=true)(h:σ.tidy k=some σ'):Frm σ σ':=by
 simp only[Kp.free,Bool.and_eq_true,List.all_eq_true] at hk
 obtain⟨⟨h1,h2⟩,h3⟩:=hk
 unfold TSt.tidy at h
 split at h
 ·rename_i σ1 e1
  split at h
  ·rename_i σ2 e2
   split at h
   ·rename_i σ3 e3
    have f1:=Wj (fun q hq=>Qa (h1 q hq)) e1
    have f2:=Gg (fun q hq=>by rw[f1.fr];exact Qa (h2 q hq)) e2
    have f12:=f1.trans f2
    have f3:=A9e (fun p hp=>by
     rw[f12.fr]
     exact⟨fun q hq=>Qa ((h3 p hp).1 q hq),fun t ht=>Qa ((h3 p hp).2 t ht)⟩) e3
    exact(f12.trans f3).trans (Bsm h)
   ·cases h
  ·cases h
 ·cases h
end
end Go.Av
end
section
namespace Go.Av
section
variable [Dic] {σ σ':TSt} {ch:List (Nat×Bool)} {P:Program} {T:Tab}
def touch(σ:TSt)(ch:List (Nat×Bool))(d:Nat):AOp→List Key
 | .store _ a _=>match σ.ev ch a with
  | .ptr k _=>[k]
  | .iown k .. =>[k]
  |_=>[]
 | .append kd _ _ x _=> .loc kd 0::match σ.ev ch x with
  | .own k=>[k]
  |_=>[]
 | .mset _ x _ _=>match σ.ev ch x with
  | .mp k=>[k]
  |_=>[]
 | .call keep m f args fz ln=>(List.range keep).map (.loc d)++(fz++ln)
 |op=>op.keys d
def clear(σ:TSt)(ch:List (Nat×Bool))(d:Option Nat)(op:AOp):Bool:=(match d with
 |some d=> !σ.fr.s.contains d
 |none=>true)&&(touch σ ch (d.getD 0) op).all fun k=> !σ.fr.k.contains k
theorem Avg{d:Option Nat}{op:AOp}(h:clear σ ch d op=true): ∀t,d=some t→t∉σ.fr.s:=by
 intro t e
 subst e
 simp only[clear,Bool.and_eq_true] at h
 exact Qa h.1
theorem A09{d:Option Nat}{op:AOp}(h:clear σ ch d op=true): ∀k∈touch σ ch (d.getD 0) op,k∉σ.fr.k:=by
 simp only[clear,Bool.and_eq_true,List.all_eq_true] at h
 exact fun k hk=>Qa (h.2 k hk)
theorem A12{k:Key}(hk:k∉σ.fr.k){t:Ty}{l:List t.D}{m:Int}{d:Option Nat}(hd: ∀t,d=some t→t∉σ.fr.s){z:Option t.D}(h:newRow σ k t l m d z=some σ'):Frm σ σ':=by
 unfold newRow at h
 split at h
 ·exact(Amz hk _).trans (Q1 hd h)
 ·cases h
theorem Bpp{d:Option Nat}{n:Nat}{a x:Opd}(hd: ∀t,d=some t→t∉σ.fr.s)(hk: ∀k∈touch σ ch (d.getD 0) (.store n a x),k∉σ.fr.k)(h:(Aw4 σ d n (σ.ev ch a) (σ.ev ch x)).gives σ'):Frm σ σ':=by
 simp only[touch] at hk
 unfold Aw4 at h
 split at h
 ·cases h
 ·split at h
  ·cases h
  ·split at h
   ·cases h
   ·split at h
    ·rename_i k off e1
     rw[e1] at hk
     split at h
     ·split at h
      ·exact(Amz (hk k (by simp)) _).trans (Q1 hd (I3 h))
      ·cases h
     ·cases h
    ·rename_i k m off t e ok e1
     rw[e1] at hk
     have hkk:k∉σ.fr.k:=hk k (by simp)
     split at h
     ·cases h
     ·split at h
      ·split at h
       ·split at h
        ·split at h
         ·split at h
          ·exact A12 hkk hd (I3 h)
          ·cases h
         ·cases h
        ·cases h
       ·cases h
      ·split at h
       ·split at h
        ·obtain⟨e',_,hg⟩:=h
         exact A12 hkk hd hg
        ·cases h
       ·cases h
    ·cases h
theorem A11{ks:List Key}{kd d:Nat}{ty:Ty}{r:List ty.D}(hks: ∀k∈ks,k∉σ.fr.k)(hkd:Key.loc kd 0∉σ.fr.k)(hd:d∉σ.fr.s)(h:Axy σ ks kd d ty r=some σ'):Frm σ σ':=by
 unfold Axy at h
 split at h
 ·rename_i σ1 e1
  have f1:=Gg hks e1
  have f2:=Bbe (σ:=σ1) (l:=[(.loc kd 0,.row ty r)]) (fun p hp=>by
   rw[List.mem_singleton.1 hp,f1.fr];exact hkd)
  have f12:=f1.trans f2
  exact f12.trans (Q1 (fun t e=>by cases e;rw[f12.fr];exact hd) h)
 ·cases h
theorem Bvh{d:Option Nat}{ty:Ty}{kd sz bytes:Nat}{x y:Opd}(hd: ∀t,d=some t→t∉σ.fr.s)(hk: ∀k∈touch σ ch (d.getD 0) (.append kd sz bytes x y),k∉σ.fr.k)(h:(Bjd σ d ty kd sz bytes (σ.ev ch x) (σ.ev ch y)).gives σ'):Frm σ σ':=by
 simp only[touch] at hk
 unfold Bjd at h
 split at h
 ·cases h
 ·rename_i d
  have hd:=hd d rfl
  split at h
  ·cases h
  ·split at h
   ·cases h
   ·split at h
    ·obtain⟨r,_,hg⟩:=h
     have hkd:=hk (.loc kd 0) (by simp)
     exact A11 (fun k hk'=>by rw[List.mem_singleton.1 hk'];exact hkd) hkd hd hg
    ·rename_i k e1
     rw[e1] at hk
     split at h
     ·split at h
      ·obtain⟨r,_,hg⟩:=h
       have hkd:=hk (.loc kd 0) (by simp)
       refine A11 (fun k' hk'=>?_) hkd hd hg
       rcases List.mem_cons.1 hk' with rfl|hk'
       ·exact hk _ (by simp)
       ·rw[List.mem_singleton.1 hk'];exact hkd
      ·cases h
     ·cases h
    ·cases h
theorem Bsn{d:Option Nat}{kk:KK}{x k v:Opd}(hd: ∀t,d=some t→t∉σ.fr.s)(hk: ∀q∈touch σ ch (d.getD 0) (.mset kk x k v),q∉σ.fr.k)(h:(A5t σ d kk (σ.ev ch x) (σ.ev ch k) (σ.ev ch v)).gives σ'):Frm σ σ':=by
 simp only[touch] at hk
 unfold A5t at h
 split at h
 ·rename_i key e1
  rw[e1] at hk
  split at h
  ·split at h
   ·split at h
    ·exact(Amz (hk key (by simp)) _).trans (Q1 hd (I3 h))
    ·cases h
   ·cases h
  ·cases h
 ·cases h
theorem Au0{f:Key→Option Key}{d:Nat}: ∀{r:List (Option TO)} {i:Nat} {l:List (Key×TO)},Awu f d i r=some l→ ∀p∈l,∃j,j<i+r.length∧p.1= .loc d j
 |[],_,_,h,p,hp=>by cases h;simp at hp
 |none::r,i,l,h,p,hp=>by
  simp only[Awu] at h
  obtain⟨j,h1,h2⟩:=Au0 h p hp
  exact⟨j,by simp;omega,h2⟩
 |some o::r,i,l,h,p,hp=>by
  simp only[Awu] at h
  split at h
  ·split at h
   ·rename_i l' e2
    cases h
    rcases List.mem_cons.1 hp with rfl|hp
    ·exact⟨i,by simp,rfl⟩
    ·obtain⟨j,h1,h2⟩:=Au0 e2 p hp
     exact⟨j,by simp;omega,h2⟩
   ·cases h
  ·cases h
theorem Bne{ks:List Key}{d keep:Nat}{r:Hm}{x:TV×List (Key×TO)}(h:A5y ks d keep r=some x): ∀p∈x.2,p.1∈(List.range keep).map (Key.loc d):=by
 unfold A5y at h
 split at h
 ·split at h
  ·cases h;intro p hp;simp at hp
  ·cases h
 ·split at h
  ·rename_i hl
   have hl:=of_decide_eq_true hl
   split at h
   ·split at h
    ·rename_i l e2
     cases h
     intro p hp
     obtain⟨j,h1,h2⟩:=Au0 e2 p hp
     rw[h2]
     exact List.mem_map_of_mem (List.mem_range.2 (by omega))
    ·cases h
   ·cases h
  ·cases h
theorem Axm: ∀(ks:List Key) (r:List (Option TO)),∀k∈Y8 ks r,k∈ks
 |[],r,k,h=>by cases r<;>simp[Y8] at h
 |a::ks,[],k,h=>by simp[Y8] at h
 |a::ks,none::r,k,h=>by
  simp only[Y8] at h
  rcases List.mem_cons.1 h with rfl|h
  ·exact List.mem_cons_self
  ·exact List.mem_cons_of_mem _ (Axm ks r k h)
 |a::ks,some o::r,k,h=>by
  simp only[Y8] at h
  exact List.mem_cons_of_mem _ (Axm ks r k h)
theorem Axl{f:Key→Option Key}: ∀{ks:List Key} {r:List (Option TO)} {σ σ':TSt},(∀k∈ks,k∉σ.fr.k)→Ani f σ ks r=some σ'→Frm σ σ'
 |[],[],σ,σ',_,h=>by cases h;exact .refl _
 |[],_::_,σ,σ',_,h=>by cases h
 |_::_,[],σ,σ',_,h=>by cases h
 |k::ks,none::r,σ,σ',hk,h=>by
  simp only[Ani] at h
  exact Axl (fun k' hk'=>hk k' (by simp[hk'])) h
 |k::ks,some o::r,σ,σ',hk,h=>by
  simp only[Ani] at h
  split at h
  ·rename_i o' e
   exact(Amz (hk k (by simp)) o').trans (Axl (fun k' hk'=>hk k' (by simp[hk'])) h)
  ·cases h
theorem Bsk{ln:List Key}{d keep:Nat}{r:Hm}(hln: ∀k∈ln,k∉σ.fr.k)(hkeep: ∀k∈(List.range keep).map (Key.loc d),k∉σ.fr.k)(hd:d∉σ.fr.s)(h:Bbc σ ln d keep r=some σ'):Frm σ σ':=by
 unfold Bbc at h
 split at h
 ·rename_i x hx
  split at h
  ·split at h
   ·rename_i σ1 e1
    split at h
    ·rename_i σ2 e2
     have f1:=Gg (fun k hk=>hln k (Axm _ _ k hk)) e1
     have f2:=Axl (fun k hk=>by rw[f1.fr];exact hln k hk) e2
     have f12:=f1.trans f2
     have f3:=Bbe (σ:=σ2) (l:=x.2) (fun p hp=>by rw[f12.fr];exact hkeep _ (Bne hx p hp))
     have f123:=f12.trans f3
     exact f123.trans (Q1 (fun t e=>by cases e;rw[f123.fr];exact hd) h)
    ·cases h
   ·cases h
  ·cases h
 ·cases h
theorem Bsj{d:Option Nat}{keep m:Nat}{f:Opd}{args:List Opd}{fz ln:List Key}(hd: ∀t,d=some t→t∉σ.fr.s)(hk: ∀q∈touch σ ch (d.getD 0) (.call keep m f args fz ln),q∉σ.fr.k)(h:(Ap4 T σ ch d keep m f args fz ln).gives σ'):Frm σ σ':=by
 unfold Ap4 at h
 split at h
 ·cases h
 ·rename_i d
  have hd:=hd d rfl
  simp only[touch,Option.getD_some,List.mem_append] at hk
  split at h
  ·cases h
  ·rename_i σ1 e1
   split at h
   ·cases h
   ·rename_i σ2 e2
    have f1:=Wj (fun k hq=>hk k (.inr (.inl hq))) e1
    have f2:=Gg (fun k hq=>by rw[f1.fr];exact hk k (.inl hq)) e2
    have f12:=f1.trans f2
    split at h
    ·cases h
    ·split at h
     ·cases h
     ·split at h
      ·cases h
      ·obtain⟨r,_,hf⟩:=A48 h
       exact f12.trans (Bsk (fun k hq=>by rw[f12.fr];exact hk k (.inr (.inr hq))) (fun k hq=>by rw[f12.fr];exact hk k (.inl hq)) (by rw[f12.fr];exact hd) hf)
theorem Bsp{d:Option Nat}{ty:Ty}{op:AOp}(hc:clear σ ch d op=true)(h:(tb T σ ch d ty op).gives σ'):Frm σ σ':=by
 have hd:=Avg hc
 have hk:=A09 hc
 cases op<;>simp only[tb] at h
 case store=>exact Bpp hd hk h
 case append=>exact Bvh hd hk h
 case mset=>exact Bsn hd hk h
 case call=>exact Bsj hd hk h
 all_goals cases h
theorem Bk6{l:List (Key×TO)}{p:Key×TO}(h:p∈l): ∃o,A3 (l.map hpU) p.1=some o:=by
 induction l with
 |nil=>cases h
 |cons q l ih=>
  simp only[List.map_cons,A3,show(hpU q).1=q.1 from rfl]
  by_cases e:q.1=p.1
  ·exact⟨_,by rw[if_pos e]⟩
  ·rw[if_neg e]
   rcases List.mem_cons.1 h with rfl|h
   ·exact absurd rfl e
   ·exact ih h
end
end Go.Av
end
section
namespace Go.Av
section
variable [Dic] {σ:TSt} {ch:List (Nat×Bool)} {P:Program} {T:Tab}
theorem Inv.gs(hI:Inv σ)(t:Nat):Inv ⟨σ.sl,σ.hp,t::σ.gs,σ.fr⟩ where
 gd s t' b q x e:=by
  obtain⟨h1,h2⟩:=hI.gd s t' b q x e
  exact⟨List.mem_cons_of_mem _ h1,h2⟩
 io:=hI.io
def Br1(w:Bool)(a b:TV):Option TV:=match a with
 | .v t x=>match as1 t b with
  |some x'=>some (.v t (bif w then x else x'))
  |none=>none
 | .c p=>match b with
  | .v t x'=>match as1 t (.c p) with
   |some x=>some (.v t (bif w then x else x'))
   |none=>none
  |_=>none
 | .nils=>match b with
  | .nils=>some .nils
  |_=>none
 | .ptr k n=>match b with
  | .ptr k' n'=>match decide (k=k')&&decide (n=n') with
   |true=>some (.ptr k n)
   |false=>none
  |_=>none
 | .own k=>match b with
  | .own k'=>match decide (k=k') with
   |true=>some (.own k)
   |false=>none
  |_=>none
 | .mp k=>match b with
  | .mp k'=>match decide (k=k') with
   |true=>some (.mp k)
   |false=>none
  |_=>none
 | .dead=>match b with
  | .dead=>some .dead
  |_=>none
 |_=>none
theorem Bvc{w:Bool}{a b c:TV}(h:Br1 w a b=some c):c.u=bif w then a.u else b.u:=by
 unfold Br1 at h
 split at h
 ·split at h
  ·rename_i t x x' e
   cases h
   have hb:=L3 e
   cases w
   ·rw[cond_false,Qr hb.1,hb.2];rfl
   ·rfl
  ·cases h
 ·split at h
  ·split at h
   ·rename_i p t x' x e
    cases h
    have hb:=L3 e
    cases w
    ·rfl
    ·rw[cond_true,Qr hb.1,hb.2];rfl
   ·cases h
  ·cases h
 ·split at h<;>cases h
  cases w<;>rfl
 ·split at h
  ·split at h
   ·rename_i hc
    simp only[Bool.and_eq_true,decide_eq_true_eq] at hc
    obtain⟨rfl,rfl⟩:=hc
    cases h;cases w<;>rfl
   ·cases h
  ·cases h
 ·split at h
  ·split at h
   ·rename_i hc
    have:=of_decide_eq_true hc
    subst this
    cases h;cases w<;>rfl
   ·cases h
  ·cases h
 ·split at h
  ·split at h
   ·rename_i hc
    have:=of_decide_eq_true hc
    subst this
    cases h;cases w<;>rfl
   ·cases h
  ·cases h
 ·split at h<;>cases h
  cases w<;>rfl
 ·cases h
def Bnm(w:Bool):List TV→List TV→Option (List TV)
 |[],[]=>some []
 |a::l,b::l'=>match Br1 w a b with
  |some c=>match Bnm w l l' with
   |some r=>some (c::r)
   |none=>none
  |none=>none
 |_,_=>none
theorem Bnn{w:Bool}: ∀{l l' r:List TV},Bnm w l l'=some r→r.map TV.u=bif w then l.map TV.u else l'.map TV.u
 |[],[],r,h=>by cases h;cases w<;>rfl
 |[],_::_,r,h=>by cases h
 |_::_,[],r,h=>by cases h
 |a::l,b::l',r,h=>by
  simp only[Bnm] at h
  split at h
  ·rename_i c e1
   split at h
   ·rename_i r' e2
    cases h
    have h1:=Bvc e1
    have h2:=Bnn e2
    cases w
    ·simp only[cond_false] at h1 h2⊢;simp[h1,h2]
    ·simp only[cond_true] at h1 h2⊢;simp[h1,h2]
   ·cases h
  ·cases h
def Br0(w:Bool)(a b:TO):Option TO:=match a,b with
 | .box cs,.box cs'=>match Bnm w cs cs' with
  |some r=>some (.box r)
  |none=>none
 | .row t l,.row t' l'=>if h:t=t' then some (.row t' (bif w then h▸l else l')) else none
 | .map kt vt l,.map kt' vt' l'=>if h:kt=kt'∧vt=vt' then some (.map kt' vt' (bif w then h.1▸h.2▸l else l')) else none
 |_,_=>none
theorem Bno{w:Bool}{a b c:TO}(h:Br0 w a b=some c):c.u=bif w then a.u else b.u:=by
 unfold Br0 at h
 split at h
 ·split at h
  ·rename_i e
   cases h
   have:=Bnn e
   cases w
   ·exact congrArg Al.box this
   ·exact congrArg Al.box this
  ·cases h
 ·split at h
  ·rename_i e
   subst e;cases h;cases w<;>rfl
  ·cases h
 ·split at h
  ·rename_i e
   obtain⟨rfl,rfl⟩:=e
   cases h;cases w<;>rfl
  ·cases h
 ·cases h
def Boh(k:Key):List (Key×TO)→Bool
 |[]=>true
 |p::l=>if p.1=k then l.all fun q=> !decide (q.1=k) else Boh k l
theorem A9w{k:Key}{o o':TO}(hu:o'.u=o.u): ∀{l:List (Key×TO)},Boh k l=true→B0 l k=some o→(l.map fun p=>if p.1=k then(k,o') else p).map hpU=l.map hpU
 |[],_,h=>by cases h
 |p::l,hn,h=>by
  simp only[Boh] at hn
  simp only[B0] at h
  by_cases e:p.1=k
  ·rw[if_pos e] at hn h
   cases h
   simp only[List.map_cons,if_pos e]
   congr 1
   ·simp only[hpU,hu,e]
   ·rw[List.map_map]
    refine List.map_congr_left fun q hq=>?_
    have:=List.all_eq_true.1 hn q hq
    have hqk: ¬q.1=k:=by simpa using this
    simp only[Function.comp,if_neg hqk]
  ·rw[if_neg e] at hn h
   simp only[List.map_cons,if_neg e,A9w hu hn h]
def Ai0(f:Key→Option Key)(w:Bool):TSt→List Key→List (Option TO)→Option TSt
 |σ,[],[]=>some σ
 |σ,k::ks,some o::r=>match o.nm f with
  |some o'=>match σ.look k with
   |some o0=>match Br0 w o' o0 with
    |some o1=>match Boh k σ.hp with
     |true=>Ai0 f w (σ.over k o1) ks r
     |false=>none
    |none=>none
   |none=>none
  |none=>none
 |_,_,_=>none
theorem Bgx{f:Key→Option Key}: ∀{ks:List Key} {r:List (Option TO)} {σ σ':TSt},Ai0 f false σ ks r=some σ'→σ'.u=σ.u
 |[],[],σ,σ',h=>by cases h;rfl
 |[],_::_,σ,σ',h=>by cases h
 |_::_,[],σ,σ',h=>by cases h
 |k::ks,none::r,σ,σ',h=>by cases h
 |k::ks,some o::r,σ,σ',h=>by
  simp only[Ai0] at h
  split at h
  ·split at h
   ·rename_i o0 e0
    split at h
    ·rename_i o1 e1
     split at h
     ·rename_i hn
      rw[Bgx h]
      have hu:o1.u=o0.u:=Bno e1
      have h1:=congrArg St.sl σ.dem_u
      show(⟨_,_⟩:St)=⟨_,_⟩
      congr 1
      ·exact A9w hu hn e0
     ·cases h
    ·cases h
   ·cases h
  ·cases h
theorem A9z{f:Key→Option Key}: ∀{ks:List Key} {r:List (Option TO)} {σ τ σ':TSt},σ.u=τ.u→σ.gs=τ.gs→Ai0 f true σ ks r=some σ'→ ∃τ',Ani f τ ks r=some τ'∧τ'.u=σ'.u∧τ'.gs=σ'.gs∧Y8 ks r=[]
 |[],[],σ,τ,σ',hu,hg,h=>by cases h;exact⟨τ,rfl,hu.symm,hg.symm,rfl⟩
 |[],_::_,σ,τ,σ',hu,hg,h=>by cases h
 |_::_,[],σ,τ,σ',hu,hg,h=>by cases h
 |k::ks,none::r,σ,τ,σ',hu,hg,h=>by cases h
 |k::ks,some o::r,σ,τ,σ',hu,hg,h=>by
  simp only[Ai0] at h
  split at h
  ·rename_i o' e'
   split at h
   ·split at h
    ·rename_i o0 _ o1 e1
     split at h
     ·have hu1:o1.u=o'.u:=Bno e1
      have:(σ.over k o1).u=(τ.over k o').u:=by rw[Aty,Aty,hu,hu1]
      obtain⟨τ',h1,h2,h3,h4⟩:=A9z (τ:=τ.over k o') this hg h
      exact⟨τ',by simp only[Ani,e',h1],h2,h3,by simp only[Y8,h4]⟩
     ·cases h
    ·cases h
   ·cases h
  ·cases h
theorem A9y{f:Key→Option Key}{w:Bool}: ∀{ks:List Key} {r:List (Option TO)} {σ σ':TSt},Inv σ→Ai0 f w σ ks r=some σ'→Inv σ'
 |[],[],σ,σ',hI,h=>by cases h;exact hI
 |[],_::_,σ,σ',hI,h=>by cases h
 |_::_,[],σ,σ',hI,h=>by cases h
 |k::ks,none::r,σ,σ',hI,h=>by cases h
 |k::ks,some o::r,σ,σ',hI,h=>by
  simp only[Ai0] at h
  split at h
  ·split at h
   ·split at h
    ·split at h
     ·exact A9y (hI.over _ _) h
     ·cases h
    ·cases h
   ·cases h
  ·cases h
theorem Bvm{k:Key}{o:TO}{t:Nat}{b q:Bool}(h:σ.gv t b=some q):(σ.over k o).gv t b=some q:=by
 exact Bku Bfr (Br2 σ.sl) h _
theorem Bgw{f:Key→Option Key}{w:Bool}{t:Nat}{b q:Bool}: ∀{ks:List Key} {r:List (Option TO)} {σ σ':TSt},σ.gv t b=some q→Ai0 f w σ ks r=some σ'→σ'.gv t b=some q
 |[],[],σ,σ',hI,h=>by cases h;exact hI
 |[],_::_,σ,σ',hI,h=>by cases h
 |_::_,[],σ,σ',hI,h=>by cases h
 |k::ks,none::r,σ,σ',hI,h=>by cases h
 |k::ks,some o::r,σ,σ',hI,h=>by
  simp only[Ai0] at h
  split at h
  ·split at h
   ·split at h
    ·split at h
     ·exact Bgw (Bvm hI) h
     ·cases h
    ·cases h
   ·cases h
  ·cases h
theorem A9d{f:Key→Option Key}{w:Bool}: ∀{ks:List Key} {r:List (Option TO)} {σ σ':TSt},(∀k∈ks,k∉σ.fr.k)→Ai0 f w σ ks r=some σ'→Frm σ σ'
 |[],[],σ,σ',hI,h=>by cases h;exact .refl _
 |[],_::_,σ,σ',hI,h=>by cases h
 |_::_,[],σ,σ',hI,h=>by cases h
 |k::ks,none::r,σ,σ',hI,h=>by cases h
 |k::ks,some o::r,σ,σ',hI,h=>by
  simp only[Ai0] at h
  split at h
  ·split at h
   ·split at h
    ·rename_i o1 _
     split at h
     ·exact(Amz (hI k (by simp)) o1).trans (A9d (fun k' hk'=>hI k' (by simp[hk'])) h)
     ·cases h
    ·cases h
   ·cases h
  ·cases h
def Bxp(σ:TSt)(ln:List Key)(d t:Nat)(b w:Bool)(r:Hm):Option TSt:=match A5y ln d 0 r with
 |some (x,[])=>match x.tame&&x.noGd with
  |true=>match Ai0 (Hk ln d 0) w σ ln r.ext with
   |some σ2=>TSt.put ⟨σ2.sl,σ2.hp,t::σ2.gs,σ2.fr⟩ (some d) (.gd t b w x.dem)
   |none=>none
  |false=>none
 |_=>none
def RAn.gog{β:Type}(w:Bool)(a:RAn)(K:Hm→Option β):Option β:=match a with
 | .tot r=>K r
 | .par _ d o g=>(gdO w o d).bind fun a=>K (g a)
 |_=>none
theorem Bqg{β:Type}{w:Bool}{a:RAn}{K:Hm→Option β}{r:β}(h:a.gog w K=some r): ∃x,K x=some r∧(w=true→a.gives x):=by
 cases a with
 |no=>cases h
 |tot v=>exact⟨v,h,fun _=>rfl⟩
 |par α d o g=>
  obtain⟨a,h1,h2⟩:=Avd h
  exact⟨_,h2,fun hw=>⟨a,Bsr hw h1,rfl⟩⟩
 |alt=>cases h
def Bry{β:Type}(T:Tab)(σ:TSt)(ch:List (Nat×Bool))(d:Option Nat)(t:Nat)(b w:Bool)(op:AOp)(K:TSt→Option β):Option β:=match op,d with
 | .call 0 m f args [] ln,some d=>match callee σ ch f with
  |none=>none
  |some c=>match Bf5 σ ln ln with
   |none=>none
   |some ext=>match El (Bu8 m ln) (args.map (σ.ev ch)++c.2.2) with
    |none=>none
    |some vs=>(T.ask 0 c vs ext).gog w fun r=>match Bxp σ ln d t b w r with
     |some σ'=>K σ'
     |none=>none
 |_,_=>none
theorem Bka(hT:Vw P T)(hI:Inv σ){β:Type}{d:Option Nat}{t:Nat}{b w:Bool}{op:AOp}{K:TSt→Option β}{r:β}(hw:σ.gv t b=some w)(hs:w=true→Bq σ ch)(h:Bry T σ ch d t b w op K=some r):
  ∃(σ':TSt) (d' m:Nat) (f:Opd) (args:List Opd) (ln:List Key),K σ'=some r∧Inv σ'∧d=some d'∧op= .call 0 m f args [] ln∧((∀k∈ln,k∉σ.fr.k)→d'∉σ.fr.s→Frm σ σ')∧
   (w=false→σ'.u=σ.u.put (some d') (.tup []))∧(w=true→ ∃τ,Vv P σ (some d') op τ∧τ.u=σ'.u):=by
 unfold Bry at h
 split at h
 ·rename_i m f args ln d
  split at h
  ·cases h
  ·rename_i c hcal
   split at h
   ·cases h
   ·rename_i ext hext
    split at h
    ·cases h
    ·rename_i vs hv
     obtain⟨x,hx,hg⟩:=Bqg h
     split at hx
     ·rename_i σ' hf
      have hfin:Bxp σ ln d t b w x=some σ':=hf
      unfold Bxp at hf
      split at hf
      ·rename_i xv hxv
       split at hf
       ·rename_i htn
        simp only[Bool.and_eq_true] at htn
        split at hf
        ·rename_i σ2 e2
         have hu:=As3 hf
         refine⟨σ',d,m,f,args,ln,hx,?_,rfl,rfl,fun h1 h2=>?_,fun hwf=>?_,fun hwt=>?_⟩
         ·refine((A9y hI e2).gs t).put' (fun t' b' q y e=>?_) (fun k n off t' e' he=>by cases he) hf
          cases e
          refine⟨List.mem_cons_self,(Bgw hw e2:σ2.gv t b=some w),?_⟩
          have:=htn.2
          cases xv<;>first|rfl|cases this
         ·have f1:=A9d h1 e2
          refine f1.trans (Frm.trans (b:=⟨σ2.sl,σ2.hp,t::σ2.gs,σ2.fr⟩) ⟨rfl,fun _ _ _=> .inl rfl,fun _ _=> .inr (.inl rfl)⟩ (Q1 (fun t' e=>?_) hf))
          cases e
          show d∉σ2.fr.s
          rw[f1.fr];exact h2
         ·subst hwf
          rw[hu]
          have:(⟨σ2.sl,σ2.hp,t::σ2.gs,σ2.fr⟩:TSt).u=σ.u:=(Bgx e2:σ2.u=σ.u)
          rw[this];rfl
         ·subst hwt
          obtain⟨τ2,h1,h2,h3,h4⟩:=A9z (τ:=σ) rfl rfl e2
          have hput: ∃τ,τ2.put (some d) xv=some τ:=by
           unfold TSt.put at hf⊢
           rw[h3]
           simp only at hf⊢
           split at hf
           ·rename_i hng
            have:σ2.gs.contains d=false:=by
             simp only[List.contains_cons,Bool.or_eq_false_iff] at hng
             exact hng.2
            rw[this];exact⟨_,rfl⟩
           ·cases hf
          obtain⟨τ,hτ⟩:=hput
          have hfin2:Bbc σ ln d 0 x=some τ:=by
           unfold Bbc
           simp only[hxv,htn.1,h4,TSt.killAll,h1]
           exact hτ
          have htb:(Ap4 T σ ch (some d) 0 m f args [] ln).gives τ:=by
           have e:Ap4 T σ ch (some d) 0 m f args [] ln=(T.ask 0 c vs ext).an2 (Bbc σ ln d 0):=by
            simp only[Ap4,TSt.freezeAll,List.range_zero,List.map_nil,TSt.killAll,hcal,hext,hv]
           rw[e]
           have hgi:=hg rfl
           unfold RAn.an2
           cases hA:T.ask 0 c vs ext with
           |no=>rw[hA] at hgi;cases hgi
           |tot r0=>
            rw[hA] at hgi
            have hgi:x=r0:=hgi
            subst hgi
            show(An2.opt (Bbc σ ln d 0 x)).gives τ;rw[hfin2];rfl
           |par α dd o g=>
            rw[hA] at hgi
            obtain⟨a,ha,hga⟩:=hgi
            exact⟨a,ha,by show Bbc σ ln d 0 (g a)=some τ;rw[hga];exact hfin2⟩
           |alt α β o f' g=>
            rw[hA] at h
            cases h
          refine⟨τ,(A1u hT hI (hs rfl) htb).1,?_⟩
          rw[As3 hτ,hu,h2]
          show St.put _ _ _=St.put σ2.u _ _
          simp only[TV.u,cond_true,dem_u]
        ·cases hf
       ·cases hf
      ·cases hf
     ·cases hx
 ·cases h
end
end Go.Av
end
section
namespace Go.Av
section
variable [Dic] {σ:TSt} {ch:List (Nat×Bool)} {P:Program} {T:Tab}
structure TOp where
 g:GOp
 t:Ty
 t2:Ty
def An2.go{β:Type}(a:An2)(K:TSt→Option β):Option β:=match a with
 | .no=>none
 | .tot σ=>K σ
 | .par _ o g=>o.bind fun a=>match g a with
  |some σ=>K σ
  |none=>none
 | .alt _ _ o f g=>o.bind fun j=>match j with
  | .inl a=>match f a with
   |some σ=>K σ
   |none=>none
  | .inr b=>match g b with
   |some σ=>K σ
   |none=>none
def An.go{β:Type}(a:An)(K:TV→List (Key×TO)→Option β):Option β:=match a with
 | .no=>none
 | .tot v l=>K v l
 | .par _ _ o g=>o.bind fun a=>match g a with
  |some x=>K x.1 x.2
  |none=>none
 | .alt _ _ o f g=>o.bind fun j=>match j with
  | .inl a=>match f a with
   |some x=>K x.1 x.2
   |none=>none
  | .inr b=>match g b with
   |some x=>K x.1 x.2
   |none=>none
def An.gog{β:Type}(w:Bool)(a:An)(K:TV→Option β):Option β:=match a with
 | .tot v []=>K v
 | .par _ d o g=>(gdO w o d).bind fun a=>match g a with
  |some (v,[])=>K v
  |_=>none
 |_=>none
theorem Bf3{β:Type}{a:An2}{K:TSt→Option β}{r:β}(h:a.go K=some r): ∃σ',a.gives σ'∧K σ'=some r:=by
 cases a with
 |no=>cases h
 |tot σ=>exact⟨σ,rfl,h⟩
 |par α o g=>
  obtain⟨a,h1,h2⟩:=Avd h
  cases e:g a with
  |none=>simp only[e] at h2;cases h2
  |some σ=>simp only[e] at h2;exact⟨σ,⟨a,h1,e⟩,h2⟩
 |alt α β o f g=>
  obtain⟨j,h1,h2⟩:=Avd h
  cases j with
  |inl a=>
   simp only at h2
   split at h2
   ·rename_i σ e;exact⟨σ,⟨_,h1,e⟩,h2⟩
   ·cases h2
  |inr a=>
   simp only at h2
   split at h2
   ·rename_i σ e;exact⟨σ,⟨_,h1,e⟩,h2⟩
   ·cases h2
theorem Bvl{β:Type}{a:An}{K:TV→List (Key×TO)→Option β}{r:β}(h:a.go K=some r): ∃e,a.gives e∧K e.1 e.2=some r:=by
 cases a with
 |no=>cases h
 |tot v l=>exact⟨(v,l),rfl,h⟩
 |par α d o g=>
  obtain⟨a,h1,h2⟩:=Avd h
  cases e:g a with
  |none=>simp only[e] at h2;cases h2
  |some x=>simp only[e] at h2;exact⟨x,⟨a,h1,e⟩,h2⟩
 |alt α β o f g=>
  obtain⟨j,h1,h2⟩:=Avd h
  cases j with
  |inl a=>
   simp only at h2
   split at h2
   ·rename_i σ e;exact⟨σ,⟨_,h1,e⟩,h2⟩
   ·cases h2
  |inr a=>
   simp only at h2
   split at h2
   ·rename_i σ e;exact⟨σ,⟨_,h1,e⟩,h2⟩
   ·cases h2
theorem Bsv{β:Type}{w:Bool}{a:An}{K:TV→Option β}{r:β}(h:a.gog w K=some r): ∃v,K v=some r∧(w=true→a.gives (v,[])):=by
 cases a with
 |no=>cases h
 |tot v l=>
  cases l with
  |nil=>exact⟨v,h,fun _=>rfl⟩
  |cons a l=>cases h
 |par α d o g=>
  obtain⟨a,h1,h2⟩:=Avd h
  split at h2
  ·rename_i v e
   refine⟨v,h2,fun hw=>⟨a,Bsr hw h1,e⟩⟩
  ·cases h2
 |alt α β o f g=>cases h
def AOp.isCall:AOp→Bool
 | .call .. =>true
 |_=>false
def Byz{β:Type}(σ:TSt)(t:Nat)(b w:Bool)(d:Option Nat)(v:TV)(K:TSt→Option β):Option β:=match v.noGd with
 |true=>match TSt.put ⟨σ.sl,σ.hp,t::σ.gs,σ.fr⟩ d (.gd t b w v.dem) with
  |some σ'=>K σ'
  |none=>none
 |false=>none
def Bv2{β:Type}(σ:TSt)(d:Option Nat)(v:TV)(K:TSt→Option β):Option β:=match σ.put d v with
 |some σ'=>K σ'
 |none=>none
def Buw{β:Type}(T:Tab)(draw:Bool)(σ:TSt)(o:TOp)(K:TSt→Option β):Option β:=match o.g.g with
 |none=>match clear σ [] o.g.d o.g.op with
  |false=>none
  |true=>match o.g.op.isB with
   |true=>(tb T σ [] o.g.d o.t o.g.op).go K
   |false=>match (match draw with
     |true=>some σ
     |false=>σ.killAll (o.g.op.keys (o.g.d.getD 0))) with
    |some σ=>(Bq0 T σ [] (o.g.d.getD 0) o.t o.t2 o.g.op).go fun v ins=>Bv2 (σ.insAll ins) o.g.d v K
    |none=>none
 |some (t,b)=>match σ.gv t b with
  |none=>none
  |some w=>match clear σ (chain σ 4 t b) o.g.d o.g.op with
   |false=>none
   |true=>match o.g.op.isB with
    |true=>match o.g.op.isCall with
     |true=>Bry T σ (chain σ 4 t b) o.g.d t b w o.g.op K
     |false=>if w=true then(tb T σ (chain σ 4 t b) o.g.d o.t o.g.op).go K else Bv2 σ o.g.d .dead K
    |false=>match (o.g.op.keys (o.g.d.getD 0)).isEmpty with
     |true=>(Bq0 T σ (chain σ 4 t b) (o.g.d.getD 0) o.t o.t2 o.g.op).gog w fun v=>Byz σ t b w o.g.d v K
     |false=>none
theorem Adl:Bq σ []:=fun _ h=>by cases h
theorem Bsf(hI:Inv σ){w:TV}{d:Option Nat}{ins:List (Key×TO)}{σ':TSt}(hw:Bo8 σ w)(hio:ins=[]∨w.tame=true)(h:(σ.insAll ins).put d w=some σ'):Inv σ':=by
 rcases hio with rfl|ht
 ·refine hI.put' (fun t b q x e=>?_) hw.2 h
  subst e;cases hw.1
 ·exact(hI.insAll _).put ht h
theorem Bus{d:Nat}{ty ty2:Ty}{op:AOp}{e:TV×List (Key×TO)}(hT:Vw P T)(hI:Inv σ)(hc:Bq σ ch)(h:(Bq0 T σ ch d ty ty2 op).gives e):e.2=[]∨e.1.tame=true:=by
 cases op<;>simp only[Bq0] at h
 case fld=>
  unfold Bow at h
  split at h<;>cases h<;>exact .inl rfl
 case idx=>
  unfold Box at h
  split at h
  ·split at h
   ·split at h
    ·obtain⟨a,_,rfl⟩:=Ef h;exact .inl rfl
    ·cases h
   ·split at h
    ·split at h
     ·obtain⟨a,_,rfl⟩:=Ef h;exact .inl rfl
     ·cases h
    ·cases h
   ·cases h
  ·cases h
 case mov=>exact .inr (Bgt (d:=d) hI hc h).2
 case pick=>exact .inr (A94 (d:=d) hI hc h).2
 case alloc=>exact .inr (A1o (σ:=σ) h).2
 case box=>exact .inr (Bfm hI hc h).2
 case load=>exact .inr (Axu (d:=d) hI hc h).2
 case bin=>exact .inr (Bfk (d:=d) hI hc h).2
 case eqs=>exact .inr (Bfv (d:=d) hI hc h).2
 case un=>exact .inr (Bo2 (d:=d) hI hc h).2
 case conv=>exact .inr (A89 (d:=d) hI hc h).2
 case part=>exact .inr (A91 (d:=d) hI hc h).2
 case sidx=>exact .inr (Bae (d:=d) hI hc h).2
 case aidx=>exact .inr (A8z (d:=d) hI hc h).2
 case b2s=>exact .inr (Bfh (d:=d) hI hc h).2
 case ext=>exact .inr (Bfw (d:=d) hI hc h).2
 case build=>exact .inr (A1t (d:=d) hI hc h).2
 case lit=>exact .inr (Bgi hI hc h).2
 case mk=>exact .inr (Bob hI hc h).2
 case slc=>exact .inr (Bi0 (d:=d) hI hc h).2
 case len=>exact .inr (Bgc (d:=d) hI hc h).2
 case mm=>exact .inr (Boc (d:=d) hI hc h).2
 case mkfn=>exact .inr (A9s (d:=d) hI hc h).2
 case call=>exact .inr (A86 hT hI hc h).2
 case mkmap=>exact .inr (A2s (σ:=σ) h).2
 case mlook=>exact .inr (A2t (d:=d) hI hc h).2
 case mlen=>exact .inr (A9t (d:=d) hI hc h).2
 case mkI=>exact .inr (Bgr (d:=d) hI hc h).2
 case nchk=>exact .inr (A9v (d:=d) hI hc h).2
 case isNil=>exact .inr (A18 (d:=d) hI hc h).2
 all_goals cases h
def Byg(P:Program)(draw:Bool)(σ:TSt)(o:GOp)(σ':TSt):Prop:= ∃q:Option Ask,(∀k,q=some k→k.d=o.d.getD 0∧k.good P∧o.op.isCall=true)∧ ∀cl,(∀k,q=some k→k.told cl)→step cl draw σ.u o=some σ'.u
theorem A5z{d:Nat}{op:AOp}(hB:op.isB=false): ∀k∈op.keys d,k∈touch σ ch d op:=by
 intro k hk
 cases op<;>first|(cases hB;done)|exact hk|skip
 exact List.mem_append_left _ hk
theorem Bpl{d:Nat}{op:AOp}{e:TV×List (Key×TO)}(h:Be4 P σ d op e): ∀p∈e.2,p.1∈op.keys d:=by
 obtain⟨q,h1,h2⟩:=h
 have hcl: ∃cl:Callee,∀k,q=some k→k.told cl:=by
  cases q with
  |none=>exact⟨A2w,fun k e=>by cases e⟩
  |some k=>exact⟨fun d g a x=>some k.r,fun k' e=>by cases e;rfl⟩
 obtain⟨cl,hcl⟩:=hcl
 intro p hp
 obtain⟨o,ho⟩:=Bk6 hp
 exact Bfb (h2 cl hcl) ho
theorem Azk(hT:Vw P T)(hI:Inv σ){β:Type}{draw:Bool}{o:TOp}{K:TSt→Option β}{r:β}(h:Buw T draw σ o K=some r): ∃σ',K σ'=some r∧Inv σ'∧Frm σ σ'∧Byg P draw σ o.g σ':=by
 obtain⟨⟨d,g,op⟩,ty,ty2⟩:=o
 unfold Buw at h
 simp only at h
 cases g with
 |none=>
  simp only at h
  split at h
  ·cases h
  ·rename_i hclear
   split at h
   ·rename_i hB
    obtain⟨σ',h1,h2⟩:=Bf3 h
    obtain⟨⟨q,h3,h4⟩,h5⟩:=Bje hT hI Adl h1
    refine⟨σ',h2,h5,Bsp hclear h1,q,fun k e=>?_,fun cl hcl=>?_⟩
    ·obtain⟨g1,g2,keep,m,f,args,fz,ln,rfl⟩:=h3 k e
     exact⟨by rw[g1];rfl,g2,rfl⟩
    ·simp only[step,St.wants,hB,cond_true]
     exact h4 cl hcl
   ·rename_i hB
    split at h
    ·rename_i σ1 e1
     obtain⟨e,h1,h2⟩:=Bvl h
     unfold Bv2 at h2
     split at h2
     ·rename_i σ' e2
      have i1:Inv σ1:=by
       cases draw with
       |true=>cases e1;exact hI
       |false=>exact hI.killAll e1
      have f1:Frm σ σ1:=by
       cases draw with
       |true=>cases e1;exact .refl _
       |false=>exact Gg (fun k hk=>A09 hclear k (A5z hB k hk)) e1
      have hd:=A5v hT i1 Adl h1
      have f2:Frm σ1 (σ1.insAll e.2):=Bbe (fun p hp=>by
       rw[f1.fr]
       exact A09 hclear _ (A5z hB _ (Bpl hd.1 p hp)))
      have f12:=f1.trans f2
      have f3:=f12.trans (Q1 (fun t ht=>by rw[f12.fr];exact Avg hclear t ht) e2)
      obtain⟨⟨q,h3,h4⟩,h5⟩:=hd
      refine⟨σ',h2,Bsf i1 h5 (Bus hT i1 Adl h1) e2,f3,q,fun k e=>?_,fun cl hcl=>?_⟩
      ·obtain⟨g1,g2,keep,m,f,args,fz,ln,rfl⟩:=h3 k e
       exact⟨g1,g2,rfl⟩
      ·have hu:(bif draw then As6 cl σ.u ⟨d,none,op⟩ else As6 cl (σ.u.killAll (op.keys (d.getD 0))) ⟨d,none,op⟩)=As6 cl σ1.u ⟨d,none,op⟩:=by
        cases draw with
        |true=>cases e1;rfl
        |false=>rw[Ji e1];rfl
       simp only[step,St.wants,hB,cond_false]
       rw[hu]
       simp only[As6,h4 cl hcl]
       rw[As3 e2,A17]
     ·cases h2
    ·cases h
 |some tb'=>
  obtain⟨t,b⟩:=tb'
  simp only at h
  split at h
  ·cases h
  ·rename_i w hw
   have hwu:=Bsx hw
   split at h
   ·cases h
   ·rename_i hclear
    split at h
    ·rename_i hB
     split at h
     ·obtain⟨σ',d',m,f,args,ln,hK,i2,rfl,rfl,hfrm,hno,hyes⟩:=Bka hT hI hw (fun e=>V2 hI 4 t b (e▸hw)) h
      have hd:=Avg hclear
      have hk:=A09 hclear
      refine⟨σ',hK,i2,hfrm (fun k hk'=>hk k (by simp[touch,hk'])) (hd d' rfl),?_⟩
      cases w with
      |true=>
       obtain⟨τ,⟨q,h3,h4⟩,h5⟩:=hyes rfl
       refine⟨q,fun k e=>?_,fun cl hcl=>?_⟩
       ·obtain⟨g1,g2,g3⟩:=h3 k e
        exact⟨by cases g1;rfl,g2,rfl⟩
       ·simp only[step,hwu,hB,cond_true]
        rw[h4 cl hcl,h5]
      |false=>
       refine⟨none,fun k e=>(by cases e),fun cl _=>?_⟩
       simp only[step,hwu,AOp.skipV]
       rw[hno rfl]
     ·rename_i hnc
      split at h
      ·rename_i hwt
       subst hwt
       obtain⟨σ',h1,h2⟩:=Bf3 h
       obtain⟨⟨q,h3,h4⟩,h5⟩:=Bje hT hI (V2 hI 4 t b hw) h1
       refine⟨σ',h2,h5,Bsp hclear h1,q,fun k e=>?_,fun cl hcl=>?_⟩
       ·obtain⟨g1,g2,keep,m,f,args,fz,ln,rfl⟩:=h3 k e
        exact⟨by rw[g1];rfl,g2,rfl⟩
       ·simp only[step,hwu,hB,cond_true]
        exact h4 cl hcl
      ·rename_i hwf
       have hwf:w=false:=by simpa using hwf
       subst hwf
       unfold Bv2 at h
       split at h
       ·rename_i σ' e2
        refine⟨σ',h,hI.put_dead e2,Q1 (Avg hclear) e2,none,fun k e=>(by cases e),fun cl _=>?_⟩
        have hsk:op.skipV= .dead:=by
         cases op<;>first|rfl|(cases hnc;done)|(cases hB;done)
        simp only[step,hwu,hsk]
        rw[As3 e2];rfl
       ·cases h
    ·rename_i hB
     split at h
     ·rename_i hk
      have hk:op.keys (d.getD 0)=[]:=by simpa using hk
      obtain⟨v,h1,h2⟩:=Bsv h
      unfold Byz at h1
      split at h1
      ·rename_i hv
       split at h1
       ·rename_i σ' e2
        have hu:=As3 e2
        have i2:Inv σ':=by
         refine(hI.gs t).put' (fun t' b' q x e=>?_) (fun k n off t' e' he=>by cases he) e2
         cases e
         refine⟨List.mem_cons_self,hw,?_⟩
         cases v<;>first|rfl|cases hv
        have f2:Frm σ σ':=Frm.trans (b:=⟨σ.sl,σ.hp,t::σ.gs,σ.fr⟩) ⟨rfl,fun _ _ _=> .inl rfl,fun _ _=> .inr (.inl rfl)⟩ (Q1 (Avg hclear) e2)
        cases w with
        |true=>
         obtain⟨⟨q,h3,h4⟩,h5⟩:=A5v hT hI (V2 hI 4 t b hw) (h2 rfl)
         refine⟨σ',h1,i2,f2,q,fun k e=>?_,fun cl hcl=>?_⟩
         ·obtain⟨g1,g2,keep,m,f,args,fz,ln,rfl⟩:=h3 k e
          exact⟨g1,g2,rfl⟩
         ·simp only[step,hwu,hB,cond_false,hk,St.killAll,As6,h4 cl hcl]
          rw[hu]
          cases draw<;>simp[St.insAll,TV.u,dem_u]<;>rfl
        |false=>
         refine⟨σ',h1,i2,f2,none,fun k e=>(by cases e),fun cl _=>?_⟩
         have hsk:op.skipV= .tup []:=by
          cases op<;>first|rfl|(cases hB;done)
         simp only[step,hwu,hsk]
         rw[hu];rfl
       ·cases h1
      ·cases h1
     ·cases h
def Bq1{β:Type}(T:Tab)(draw:Bool):List TOp→TSt→(TSt→Option β)→Option β
 |[],σ,K=>K σ
 |o::os,σ,K=>Buw T draw σ o fun σ'=>Bq1 T draw os σ' K
noncomputable def Bpf(L:List Ask):Callee:=fun d g args ext=>open Classical in if h: ∃k,k∈L∧k.d=d∧k.g=g∧k.args=args∧k.ext=ext then some h.choose.r else none
theorem A1v{L:List Ask}(h: ∀k∈L,k.good P):Qn P (Bpf L):=by
 intro d g args ext r hr
 unfold Bpf at hr
 split at hr
 ·rename_i hx
  cases hr
  obtain⟨h1,h2,h3,h4,h5⟩:=hx.choose_spec
  have:=h _ h1
  unfold Ask.good at this
  rw[h3,h4,h5] at this
  exact this
 ·cases hr
theorem A88{L:List Ask}(hd: ∀k∈L,∀k'∈L,k.d=k'.d→k=k'): ∀k∈L,k.told (Bpf L):=by
 intro k hk
 have hx: ∃k',k'∈L∧k'.d=k.d∧k'.g=k.g∧k'.args=k.args∧k'.ext=k.ext:=⟨k,hk,rfl,rfl,rfl,rfl⟩
 unfold Ask.told Bpf
 rw[dif_pos hx]
 obtain⟨h1,h2,_⟩:=hx.choose_spec
 rw[hd _ h1 _ hk h2]
theorem Bjj(hT:Vw P T){β:Type}{K:TSt→Option β}{r:β}: ∀{l:List TOp} {σ:TSt},Inv σ→Bq1 T false l σ K=some r→ ∃σ',K σ'=some r∧Inv σ'∧Frm σ σ'∧Bas P (l.map (·.g)) σ.u σ'.u
 |[],σ,hI,h=>⟨σ,h,hI,.refl _,.nil _⟩
 |o::os,σ,hI,h=>by
  obtain⟨σ1,h1,i1,f1,q,h2,h3⟩:=Azk hT hI h
  obtain⟨σ',h4,i',f2,h5⟩:=Bjj hT i1 h1
  refine⟨σ',h4,i',f1.trans f2,?_⟩
  have hS: ∃cl,Qn P cl∧step cl false σ.u o.g=some σ1.u:=by
   cases q with
   |none=>exact⟨A2w,Blc,h3 A2w (fun k e=>by cases e)⟩
   |some k=>
    refine⟨Bpf [k],A1v (fun k' hk'=>?_),h3 _ (fun k' e=>?_)⟩
    ·rw[List.mem_singleton.1 hk'];exact(h2 k rfl).2.1
    ·cases e
     exact A88 (fun a ha b hb _=>(by rw[List.mem_singleton.1 ha,List.mem_singleton.1 hb])) k (by simp)
  obtain⟨cl,hs,hst⟩:=hS
  exact .cons hs hst h5
def Axg(l:List TOp):List Nat:=l.filterMap fun o=>match o.g.op.isCall with
 |true=>some (o.g.d.getD 0)
 |false=>none
def Anh:List Nat→Bool
 |[]=>true
 |a::l=> !l.contains a&&Anh l
theorem Bld{l:List Nat}(h:Anh l=true):l.Nodup:=by
 induction l with
 |nil=>exact List.nodup_nil
 |cons a l ih=>
  simp only[Anh,Bool.and_eq_true,Bool.not_eq_true'] at h
  refine List.nodup_cons.2 ⟨fun hm=>?_,ih h.2⟩
  rw[List.contains_iff_mem.2 hm] at h;cases h.1
theorem A51(hT:Vw P T){β:Type}{K:TSt→Option β}{r:β}: ∀{l:List TOp} {σ:TSt},Inv σ→Bq1 T true l σ K=some r→ ∃(σ':TSt) (L:List Ask),K σ'=some r∧Inv σ'∧Frm σ σ'∧(∀k∈L,k.good P)∧(L.map Ask.d).Sublist (Axg l)∧ ∀cl,(∀k∈L,k.told cl)→Nz cl true (l.map (·.g)) σ.u=some σ'.u
 |[],σ,hI,h=>⟨σ,[],h,hI,.refl _,by simp,.slnil,fun cl _=>rfl⟩
 |o::os,σ,hI,h=>by
  obtain⟨σ1,h1,i1,f1,q,h2,h3⟩:=Azk hT hI h
  obtain⟨σ',L,h4,i',f2,h5,h6,h7⟩:=A51 hT i1 h1
  have hcd:Axg (o::os)=(match o.g.op.isCall with|true=>[o.g.d.getD 0]|false=>[])++Axg os:=by
   unfold Axg
   rw[List.filterMap_cons]
   cases o.g.op.isCall<;>rfl
  cases q with
  |none=>
   refine⟨σ',L,h4,i',f1.trans f2,h5,?_,fun cl hcl=>?_⟩
   ·rw[hcd];exact h6.trans (List.sublist_append_right _ _)
   ·simp only[List.map_cons,Nz,h3 cl (fun k e=>by cases e)]
    exact h7 cl hcl
  |some k=>
   obtain⟨g1,g2,g3⟩:=h2 k rfl
   refine⟨σ',k::L,h4,i',f1.trans f2,fun k' hk'=>?_,?_,fun cl hcl=>?_⟩
   ·rcases List.mem_cons.1 hk' with rfl|hk'
    ·exact g2
    ·exact h5 k' hk'
   ·rw[hcd,g3,List.map_cons,g1]
    exact h6.cons_cons _
   ·simp only[List.map_cons,Nz,h3 cl (fun k' e=>by cases e;exact hcl k (by simp))]
    exact h7 cl (fun k' hk'=>hcl k' (by simp[hk']))
theorem Bq2(hT:Vw P T){β:Type}{K:TSt→Option β}{r:β}{l:List TOp}(hI:Inv σ)(hn:Anh (Axg l)=true)(h:Bq1 T true l σ K=some r): ∃(σ':TSt) (cl:Callee),K σ'=some r∧Inv σ'∧Frm σ σ'∧Qn P cl∧Nz cl true (l.map (·.g)) σ.u=some σ'.u:=by
 obtain⟨σ',L,h4,i',f,h5,h6,h7⟩:=A51 hT hI h
 refine⟨σ',Bpf L,h4,i',f,A1v h5,h7 _ (A88 ?_)⟩
 have hnd:(L.map Ask.d).Nodup:=h6.nodup (Bld hn)
 clear h4 h5 h6 h7 hn
 induction L with
 |nil=>simp
 |cons a L ih=>
  rw[List.map_cons,List.nodup_cons] at hnd
  intro k hk k' hk' e
  rcases List.mem_cons.1 hk with h1|h1<;>rcases List.mem_cons.1 hk' with h2|h2
  ·rw[h1,h2]
  ·exact absurd ((h1▸e)▸List.mem_map_of_mem (f:=Ask.d) h2) hnd.1
  ·exact absurd ((h2▸e)▸List.mem_map_of_mem (f:=Ask.d) h1) hnd.1
  ·exact ih hnd.2 k h1 k' h2 e
end
end Go.Av
end
section
namespace Go.Av
def As0{α:Type}(p:List Nat)(l:List α):Option (List α):=match p with
 |[]=>some l
 |p=>El (fun i=>l[i]?) p
theorem Bgp{α β:Type}(f:α→β)(l:List α): ∀p:List Nat,El (fun i=>(l.map f)[i]?) p=(El (fun i=>l[i]?) p).map (List.map f)
 |[]=>rfl
 |i::p=>by
  simp only[El]
  rw[Bgp f l p,List.getElem?_map]
  cases l[i]? with
  |none=>rfl
  |some a=>
   simp only[Option.map_some]
   cases El (fun i=>l[i]?) p<;>rfl
theorem A92{α β:Type}(f:α→β)(p:List Nat)(l:List α):As0 p (l.map f)=(As0 p l).map (List.map f):=by
 cases p with
 |nil=>rfl
 |cons i p=>exact Bgp f l (i::p)
def Byc(p q:List Nat)(n:Nat):Bool:=match As0 p (List.range n) with
 |some r=>match As0 q r with
  |some s=>s==List.range n
  |none=>false
 |none=>false
theorem Bq4{α:Type}(d:α){p q:List Nat}{l r:List α}(h:Byc p q l.length=true)(hp:As0 p l=some r):As0 q r=some l:=by
 have e:l=(List.range l.length).map (fun i=>l.getD i d):=by
  apply List.ext_getElem?
  intro i
  rw[List.getElem?_map]
  by_cases hi:i<l.length
  ·rw[List.getElem?_range hi,List.getElem?_eq_getElem hi]
   simp[List.getD,List.getElem?_eq_getElem hi]
  ·rw[List.getElem?_eq_none (by omega),List.getElem?_eq_none (by simp;omega)];rfl
 rw[e,A92] at hp
 unfold Byc at h
 split at h
 ·rename_i r' e1
  split at h
  ·rename_i s e2
   rw[e1] at hp
   simp only[Option.map_some,Option.some.injEq] at hp
   subst hp
   rw[A92,e2]
   have:s=List.range l.length:=by simpa using h
   rw[this,Option.map_some,←e]
  ·cases h
 ·cases h
section
variable [Dic]
def Eh:List Ty→Type
 |[]=>Unit
 |t::ts=>match ts with
  |[]=>t.D
  |_::_=>t.D×Eh ts
def Bnp(t:Ty):(ts:List Ty)→t.D→Eh ts→Eh (t::ts)
 |[],x,_=>x
 |_::_,x,r=>(x,r)
def hdX(t:Ty):(ts:List Ty)→Eh (t::ts)→t.D
 |[],x=>x
 |_::_,x=>x.1
def tlX(t:Ty):(ts:List Ty)→Eh (t::ts)→Eh ts
 |[],_=>()
 |_::_,x=>x.2
theorem Bvn(t:Ty)(ts:List Ty)(x:t.D)(r:Eh ts):hdX t ts (Bnp t ts x r)=x:=by cases ts<;>rfl
theorem Bwl(t:Ty)(ts:List Ty)(x:t.D)(r:Eh ts):tlX t ts (Bnp t ts x r)=r:=by cases ts<;>rfl
def toN:(ts:List Ty)→List TV→Option (Eh ts)
 |[],[]=>some ()
 |t::ts,w::ws=>match as0 t w with
  |some x=>match toN ts ws with
   |some r=>some (Bnp t ts x r)
   |none=>none
  |none=>none
 |_,_=>none
def ofN:(ts:List Ty)→Eh ts→List TV
 |[],_=>[]
 |t::ts,x=> .v t (hdX t ts x)::ofN ts (tlX t ts x)
def Byj:(ts:List Ty)→Eh ts
 |[]=>()
 |t::ts=>Bnp t ts t.dfl (Byj ts)
def TV.isV:TV→Bool
 | .v _ _=>true
 |_=>false
theorem Bnj{t:Ty}{w:TV}{x:t.D}(hv:w.isV=true)(h:as0 t w=some x):w= .v t x:=by
 cases w<;>first|(cases hv;done)|skip
 simp only[as0] at h
 split at h
 ·rename_i ht;subst ht;cases h;rfl
 ·cases h
theorem Buu: ∀{ts:List Ty} {ws:List TV} {p:Eh ts},ws.all TV.isV=true→toN ts ws=some p→ofN ts p=ws:=by
 intro ts
 induction ts with
 |nil=>
  intro ws p hv h
  cases ws with
  |nil=>rfl
  |cons w ws=>simp only[toN] at h;cases h
 |cons t ts ih=>
  intro ws p hv h
  cases ws with
  |nil=>simp only[toN] at h;cases h
  |cons w ws=>
   simp only[List.all_cons,Bool.and_eq_true] at hv
   simp only[toN] at h
   split at h
   ·rename_i x hx
    split at h
    ·rename_i r hr
     have h:=(Option.some.inj h).symm
     subst h
     rw[Bnj hv.1 hx,ofN,Bvn,Bwl,ih hv.2 hr]
    ·cases h
   ·cases h
inductive VS where
 |ty (t:Ty)
 |nils
 |ptr (k:Key) (off:Nat)
 |own (k:Key)
 |mp (k:Key)
 |agg (t:Ty) (cs:List VS)
 |tup (cs:List VS)
 |fn (f:FuncId) (cs:List VS)
 |fnc (f:FuncId)
 |nilFn
 |iv (t:Ty) (off:Nat)
 |ic (cs:List VS) (off:Nat)
 |dead
mutual
def VS.flat:VS→TV→Option (List TV)
 | .ty t,w=>match as1 t w with
  |some x=>some [.v t x]
  |none=>none
 | .nils,.nils=>some []
 | .ptr k o,.ptr k' o'=>match decide (k=k')&&o==o' with
  |true=>some []
  |false=>none
 | .own k,.own k'=>match decide (k=k') with
  |true=>some []
  |false=>none
 | .mp k,.mp k'=>match decide (k=k') with
  |true=>some []
  |false=>none
 | .agg _ cs,.agg _ ws=>flatL cs ws
 | .tup cs,.tup ws=>flatL cs ws
 | .fn f cs,.fn f' ws=>match f==f' with
  |true=>flatL cs ws
  |false=>none
 | .fnc f,.c (.fn f')=>match f==f' with
  |true=>some []
  |false=>none
 | .nilFn,.c .nilFn=>some []
 | .iv t o,.iv t' x o'=>match o==o' with
  |true=>match as0 t (.v t' x) with
   |some x=>some [.v t x]
   |none=>none
  |false=>none
 | .ic cs o,.ic ws o'=>match o==o'&&ws.all TV.isP with
  |true=>flatL cs ws
  |false=>none
 | .dead,.dead=>some []
 |_,_=>none
def flatL:List VS→List TV→Option (List TV)
 |[],[]=>some []
 |c::cs,w::ws=>match c.flat w with
  |some l=>match flatL cs ws with
   |some r=>some (l++r)
   |none=>none
  |none=>none
 |_,_=>none
end
mutual
def VS.mk':VS→List TV→TV×List TV
 | .ty _,w::r=>(w,r)
 | .ty _,[]=>(.dead,[])
 | .nils,r=>(.nils,r)
 | .ptr k o,r=>(.ptr k o,r)
 | .own k,r=>(.own k,r)
 | .mp k,r=>(.mp k,r)
 | .agg t cs,r=>(.agg t (mkL cs r).1,(mkL cs r).2)
 | .tup cs,r=>(.tup (mkL cs r).1,(mkL cs r).2)
 | .fn f cs,r=>(.fn f (mkL cs r).1,(mkL cs r).2)
 | .fnc f,r=>(.c (.fn f),r)
 | .nilFn,r=>(.c .nilFn,r)
 | .iv _ o,w::r=>(match w with
  | .v t x=> .iv t x o
  |_=> .dead,r)
 | .iv _ _,[]=>(.dead,[])
 | .ic cs o,r=>(.ic (mkL cs r).1 o,(mkL cs r).2)
 | .dead,r=>(.dead,r)
def mkL:List VS→List TV→List TV×List TV
 |[],r=>([],r)
 |c::cs,r=>((c.mk' r).1::(mkL cs (c.mk' r).2).1,(mkL cs (c.mk' r).2).2)
end
theorem Bsg{f:FuncId}{w:TV}{l:List TV}(h:(VS.fnc f).flat w=some l):l=[]∧w= .c (.fn f):=by
 cases w with
 |c p=>
  cases p with
  |fn f'=>
   simp only[VS.flat] at h
   split at h
   ·rename_i hf;rw[eq_of_beq hf];cases h;exact⟨rfl,rfl⟩
   ·cases h
  |_=>simp only[VS.flat] at h;cases h
 |_=>simp only[VS.flat] at h;cases h
theorem Bkp{w:TV}{l:List TV}(h:VS.nilFn.flat w=some l):l=[]∧w= .c .nilFn:=by
 cases w with
 |c p=>cases p<;>simp only[VS.flat] at h<;>cases h;exact⟨rfl,rfl⟩
 |_=>simp only[VS.flat] at h;cases h
def SV.pv':SV→PV
 | .pv x=>x
 |_=> .nilI
def TV.pv'(w:TV):PV:=w.u.pv'
mutual
theorem flatS_spec: ∀(s:VS) (w:TV) (l:List TV),s.flat w=some l→l.all TV.isV=true∧ ∀r,(s.mk' (l++r)).1.u=w.u∧(s.mk' (l++r)).2=r∧(s.mk' (l++r)).1.tame=true
 | .ty t,w,l,h=>by
  simp only[VS.flat] at h
  split at h
  ·rename_i x hx
   cases h
   refine⟨rfl,fun r=>⟨?_,rfl,rfl⟩⟩
   obtain⟨h1,h2⟩:=L3 hx
   rw[Qr h1,h2];rfl
  ·cases h
 | .nils,w,l,h=>by
  cases w<;>simp only[VS.flat] at h<;>cases h
  exact⟨rfl,fun r=>⟨rfl,rfl,rfl⟩⟩
 | .ptr k o,w,l,h=>by
  cases w<;>simp only[VS.flat] at h<;>try cases h
  split at h
  ·rename_i hc
   cases h
   simp only[Bool.and_eq_true,decide_eq_true_eq,beq_iff_eq] at hc
   refine⟨rfl,fun r=>⟨?_,rfl,rfl⟩⟩
   simp only[VS.mk',TV.u,hc.1,hc.2]
  ·cases h
 | .own k,w,l,h=>by
  cases w<;>simp only[VS.flat] at h<;>try cases h
  split at h
  ·rename_i hc
   cases h
   simp only[decide_eq_true_eq] at hc
   exact⟨rfl,fun r=>⟨by simp only[VS.mk',TV.u,hc],rfl,rfl⟩⟩
  ·cases h
 | .mp k,w,l,h=>by
  cases w<;>simp only[VS.flat] at h<;>try cases h
  split at h
  ·rename_i hc
   cases h
   simp only[decide_eq_true_eq] at hc
   exact⟨rfl,fun r=>⟨by simp only[VS.mk',TV.u,hc],rfl,rfl⟩⟩
  ·cases h
 | .agg t cs,w,l,h=>by
  cases w<;>simp only[VS.flat] at h<;>try cases h
  rename_i t' ws
  obtain⟨h1,h2,_⟩:=flatV_spec cs ws l h
  exact⟨h1,fun r=>⟨by simp only[VS.mk',TV.u,Jc,(h2 r).1],by simp only[VS.mk',(h2 r).2],rfl⟩⟩
 | .tup cs,w,l,h=>by
  cases w<;>simp only[VS.flat] at h<;>try cases h
  rename_i ws
  obtain⟨h1,h2,_⟩:=flatV_spec cs ws l h
  exact⟨h1,fun r=>⟨by simp only[VS.mk',TV.u,Jc,(h2 r).1],by simp only[VS.mk',(h2 r).2],rfl⟩⟩
 | .fn f cs,w,l,h=>by
  cases w<;>simp only[VS.flat] at h<;>try cases h
  rename_i f' ws
  split at h
  ·rename_i hf
   have hf:=eq_of_beq hf
   obtain⟨h1,h2,_⟩:=flatV_spec cs ws l h
   exact⟨h1,fun r=>⟨by simp only[VS.mk',TV.u,Jc,(h2 r).1,hf],by simp only[VS.mk',(h2 r).2],rfl⟩⟩
  ·cases h
 | .fnc f,w,l,h=>by
  obtain⟨rfl,rfl⟩:=Bsg h
  exact⟨rfl,fun r=>⟨rfl,rfl,rfl⟩⟩
 | .nilFn,w,l,h=>by
  obtain⟨rfl,rfl⟩:=Bkp h
  exact⟨rfl,fun r=>⟨rfl,rfl,rfl⟩⟩
 | .iv t o,w,l,h=>by
  cases w<;>simp only[VS.flat] at h<;>try cases h
  split at h
  ·rename_i ho
   have ho:=eq_of_beq ho
   split at h
   ·rename_i x hx
    cases h
    have:=Bnj rfl hx
    cases this
    exact⟨rfl,fun r=>⟨by simp only[List.cons_append,VS.mk',TV.u,ho],rfl,rfl⟩⟩
   ·cases h
  ·cases h
 | .ic cs o,w,l,h=>by
  cases w<;>simp only[VS.flat] at h<;>try cases h
  rename_i ws o'
  split at h
  ·rename_i ho
   simp only[Bool.and_eq_true] at ho
   have ho1:=eq_of_beq ho.1
   obtain⟨h1,h2,h3⟩:=flatV_spec cs ws l h
   refine⟨h1,fun r=>⟨?_,(h2 r).2,rfl⟩⟩
   have e: ∀l:List TV,l.map TV.u=ws.map TV.u→l.map TV.pv'=ws.map TV.pv:=fun l hl=>by
    have h5:=congrArg (List.map SV.pv') hl
    rw[List.map_map,List.map_map] at h5
    have h6:ws.map (SV.pv'∘TV.u)=ws.map TV.pv:=List.map_congr_left fun w hw=>by simp only[Function.comp,Qr (List.all_eq_true.1 ho.2 w hw)];rfl
    rw[h6] at h5
    exact h5
   simp only[VS.mk',TV.u,ho1]
   have h7:=e _ (h2 r).1
   have h8:(mkL cs (l++r)).1.map TV.pv=(mkL cs (l++r)).1.map TV.pv':=List.map_congr_left fun w hw=>by
    have h9:w.u∈ws.map TV.u:=by rw[←(h2 r).1];exact List.mem_map_of_mem hw
    obtain⟨w',hw',e9⟩:=List.mem_map.1 h9
    rw[Qr (List.all_eq_true.1 ho.2 w' hw')] at e9
    have ht:=(h3 r) w hw
    unfold TV.pv'
    rw[←e9]
    cases w<;>first|exact(SV.pv.inj e9).symm|(cases ht;done)|(cases e9;done)
   rw[h8,h7]
  ·cases h
 | .dead,w,l,h=>by
  cases w<;>simp only[VS.flat] at h<;>cases h
  exact⟨rfl,fun r=>⟨rfl,rfl,rfl⟩⟩
theorem flatV_spec: ∀(cs:List VS) (ws l:List TV),flatL cs ws=some l→l.all TV.isV=true∧(∀r,(mkL cs (l++r)).1.map TV.u=ws.map TV.u∧(mkL cs (l++r)).2=r)∧ ∀r,∀w∈(mkL cs (l++r)).1,w.tame=true
 |[],[],l,h=>by cases h;exact⟨rfl,fun r=>⟨rfl,rfl⟩,by simp[mkL]⟩
 |[],_::_,l,h=>by cases h
 |_::_,[],l,h=>by cases h
 |c::cs,w::ws,l,h=>by
  simp only[flatL] at h
  split at h
  ·rename_i l1 e1
   split at h
   ·rename_i l2 e2
    cases h
    obtain⟨h1,h2⟩:=flatS_spec c w l1 e1
    obtain⟨h3,h4,h5⟩:=flatV_spec cs ws l2 e2
    refine⟨by rw[List.all_append,h1,h3];rfl,fun r=>?_,fun r w' hw'=>?_⟩
    ·rw[List.append_assoc]
     obtain⟨g1,g2,g3⟩:=h2 (l2++r)
     obtain⟨g4,g5⟩:=h4 r
     simp only[mkL,g2,List.map_cons,g1,g4,g5,and_self]
    ·rw[List.append_assoc] at hw'
     obtain⟨g1,g2,g3⟩:=h2 (l2++r)
     simp only[mkL,g2] at hw'
     rcases List.mem_cons.1 hw' with rfl|hw'
     ·exact g3
     ·exact h5 r w' hw'
   ·cases h
  ·cases h
end
inductive OS where
 |same
 |box (cs:List (Option VS))
 |row (t:Ty)
 |map (kt vt:Ty)
 |st (i:Nat)
def TO.still:TO→Bool
 | .box cs=>cs.all TV.still
 |_=>true
def Ap9:Option TO→List TV
 |some (.box cs)=>cs
 |_=>[]
def Asn:List TV→List (Option VS)→List TV→Option (List TV)
 |_,[],[]=>some []
 |b::bs,none::cs,_::ws=>match b.still with
  |true=>Asn bs cs ws
  |false=>none
 |bs,some c::cs,w::ws=>match c.flat w with
  |some l=>match Asn bs.tail cs ws with
   |some r=>some (l++r)
   |none=>none
  |none=>none
 |_,_,_=>none
def mkC:List TV→List (Option VS)→List TV→List TV×List TV
 |_,[],r=>([],r)
 |b::bs,none::cs,r=>(b::(mkC bs cs r).1,(mkC bs cs r).2)
 |[],none::cs,r=>(.dead::(mkC [] cs r).1,(mkC [] cs r).2)
 |bs,some c::cs,r=>((c.mk' r).1::(mkC bs.tail cs (c.mk' r).2).1,(mkC bs.tail cs (c.mk' r).2).2)
theorem Atl: ∀(cs:List (Option VS)) (bs ws l:List TV),Asn bs cs ws=some l→(∀i:Nat,cs[i]? =some none→ ∀w,bs[i]? =some w→w.still=true→ws[i]? =some w)→l.all TV.isV=true∧ ∀r,(mkC bs cs (l++r)).1.map TV.u=ws.map TV.u∧(mkC bs cs (l++r)).2=r
 |[],bs,[],l,h,_=>by cases bs<;>(simp only[Asn] at h;cases h;exact⟨rfl,fun r=>⟨rfl,rfl⟩⟩)
 |[],bs,_::_,l,h,_=>by cases bs<;>(simp only[Asn] at h;cases h)
 |c::cs,bs,[],l,h,_=>by cases bs<;>cases c<;>(simp only[Asn] at h;cases h)
 |none::cs,[],w::ws,l,h,_=>by simp only[Asn] at h;cases h
 |none::cs,b::bs,w::ws,l,h,H=>by
  simp only[Asn] at h
  split at h
  ·rename_i hb
   have hw:w=b:=by
    have:=H 0 rfl b rfl hb
    simpa using this
   subst hw
   obtain⟨h1,h2⟩:=Atl cs bs ws l h (fun i hi w' hw' hs=>by have:=H (i+1) (by simpa using hi) w' (by simpa using hw') hs;simpa using this)
   exact⟨h1,fun r=>⟨by simp only[mkC,List.map_cons,(h2 r).1],by simp only[mkC,(h2 r).2]⟩⟩
  ·cases h
 |some c::cs,bs,w::ws,l,h,H=>by
  simp only[Asn] at h
  split at h
  ·rename_i l1 e1
   split at h
   ·rename_i l2 e2
    cases h
    obtain⟨h1,h2⟩:=flatS_spec c w l1 e1
    obtain⟨h3,h4⟩:=Atl cs bs.tail ws l2 e2 (fun i hi w' hw' hs=>by
     have:=H (i+1) (by simpa using hi) w' (by cases bs<;>simpa using hw') hs
     simpa using this)
    refine⟨by rw[List.all_append,h1,h3];rfl,fun r=>?_⟩
    rw[List.append_assoc]
    obtain⟨g1,g2,g3⟩:=h2 (l2++r)
    obtain⟨g4,g5⟩:=h4 r
    simp only[mkC,g2,List.map_cons,g1,g4,g5,and_self]
   ·cases h
  ·cases h
def Bbi:List (Option VS)→Bool
 |[]=>false
 |none::_=>true
 |some _::cs=>Bbi cs
theorem Bkv{cs:List (Option VS)}{i:Nat}(h:cs[i]? =some none):Bbi cs=true:=by
 induction cs generalizing i with
 |nil=>simp at h
 |cons c cs ih=>
  cases i with
  |zero=>simp at h;subst h;rfl
  |succ i=>
   cases c with
   |none=>rfl
   |some c=>exact ih (by simpa using h)
def OS.old:OS→Bool
 | .same=>true
 | .box cs=>Bbi cs
 |_=>false
def OS.flat(b:Option TO):OS→TO→Option (List TV)
 | .same,_=>match b with
  |some o=>match o.still with
   |true=>some []
   |false=>none
  |none=>none
 | .box cs,.box ws=>Asn (Ap9 b) cs ws
 | .row t,.row t' l=>match as0 (.sl t) (.v (.sl t') l) with
  |some x=>some [.v (.sl t) x]
  |none=>none
 | .map kt vt,.map kt' vt' es=>match as0 (.mp kt vt) (.v (.mp kt' vt') es) with
  |some x=>some [.v (.mp kt vt) x]
  |none=>none
 | .st i,.box ws=>match gather (.st i) ws with
  |some x=>some [.v (.st i) x]
  |none=>none
 |_,_=>none
def OS.mk'(b:Option TO):OS→List TV→TO×List TV
 | .same,r=>(match b with
  |some o=>o
  |none=> .box [],r)
 | .box cs,r=>(.box (mkC (Ap9 b) cs r).1,(mkC (Ap9 b) cs r).2)
 | .row t,w::r=>(match w with
  | .v (.sl t) l=> .row t l
  |_=> .box [],r)
 | .map _ _,w::r=>(match w with
  | .v (.mp kt vt) es=> .map kt vt es
  |_=> .box [],r)
 | .st _,w::r=>(match w with
  | .v (.st i) x=> .box (Ss (.st i) x)
  |_=> .box [],r)
 |_,[]=>(.box [],[])
theorem Bkz{o o':TO}(h:Hi (some o) (some o'))(hs:o.still=true):o'=o:=by
 rcases h with h|h|⟨cs,cs',e1,e2,hl,h⟩
 ·cases h
 ·exact Option.some.inj h
 ·cases e1;cases e2
  congr 1
  apply List.ext_getElem?
  intro i
  by_cases hi:i<cs.length
  ·have h1:=List.getElem?_eq_getElem hi
   rw[h1]
   exact h i _ h1 (List.all_eq_true.1 hs _ (List.getElem_mem hi))
  ·rw[List.getElem?_eq_none (by omega),List.getElem?_eq_none (by omega)]
theorem Adp{b:Option TO}{s:OS}{o:TO}{l:List TV}(h:s.flat b o=some l)(hb:s.old=true→Hi b (some o)):l.all TV.isV=true∧ ∀r,(s.mk' b (l++r)).1.u=o.u∧(s.mk' b (l++r)).2=r:=by
 cases s with
 |same=>
  simp only[OS.flat] at h
  split at h
  ·split at h
   ·rename_i o' hs
    cases h
    have:=Bkz (hb rfl) hs
    subst this
    exact⟨rfl,fun r=>⟨rfl,rfl⟩⟩
   ·cases h
  ·cases h
 |box cs=>
  cases o<;>simp only[OS.flat] at h<;>try cases h
  rename_i ws
  obtain⟨h1,h2⟩:=Atl _ _ _ _ h (fun i hi w hw hs=>by
   have hk:=hb (Bkv hi)
   rcases hk with hk|hk|⟨ds,ds',e1,e2,hl,hk⟩
   ·cases hk
   ·subst hk;simpa [Ap9] using hw
   ·subst e1;cases e2;exact hk i w hw hs)
  exact⟨h1,fun r=>⟨by simp only[OS.mk',TO.u,(h2 r).1],by simp only[OS.mk',(h2 r).2]⟩⟩
 |row t=>
  cases o<;>simp only[OS.flat] at h<;>try cases h
  split at h
  ·rename_i x hx
   cases h
   have:=Bnj rfl hx
   cases this
   exact⟨rfl,fun r=>⟨rfl,rfl⟩⟩
  ·cases h
 |map kt vt=>
  cases o<;>simp only[OS.flat] at h<;>try cases h
  split at h
  ·rename_i x hx
   cases h
   have:=Bnj rfl hx
   cases this
   exact⟨rfl,fun r=>⟨rfl,rfl⟩⟩
  ·cases h
 |st i=>
  cases o<;>simp only[OS.flat] at h<;>try cases h
  rename_i ws
  split at h
  ·rename_i x hx
   cases h
   obtain⟨h1,h2⟩:=Sc hx
   obtain⟨h3,h4⟩:=G7 (.st i) x
   refine⟨rfl,fun r=>⟨?_,rfl⟩⟩
   show Al.box ((Ss (.st i) x).map TV.u)=Al.box (ws.map TV.u)
   rw[A2r h1,A2r h3,h2,h4]
  ·cases h
structure Sig where
 sl:List (Nat×Option VS)
 hp:List (Key×OS)
 ts:List Ty
 p:List Nat
 q:List Nat
def TV.live:TV→Bool
 | .dead=>false
 |_=>true
def P8(σ:TSt):List (Nat×Option VS)→List (Nat×TV)→Option (List TV)
 |[],[]=>some []
 |c::cs,w::ws=>match c.1==w.1 with
  |true=>match c.2 with
   |none=>match (σ.get c.1).still&&w.2.live with
    |true=>P8 σ cs ws
    |false=>none
   |some s=>match s.flat w.2 with
    |some l=>match P8 σ cs ws with
     |some r=>some (l++r)
     |none=>none
    |none=>none
  |false=>none
 |_,_=>none
def Wh(σ:TSt):List (Key×OS)→List (Key×TO)→Option (List TV)
 |[],[]=>some []
 |c::cs,w::ws=>match decide (c.1=w.1) with
  |true=>match c.2.flat (σ.look c.1) w.2 with
   |some l=>match Wh σ cs ws with
    |some r=>some (l++r)
    |none=>none
   |none=>none
  |false=>none
 |_,_=>none
def Aee(σ:TSt):List (Nat×Option VS)→List TV→List (Nat×TV)×List TV
 |[],r=>([],r)
 |c::cs,r=>match c.2 with
  |none=>((c.1,σ.get c.1)::(Aee σ cs r).1,(Aee σ cs r).2)
  |some s=>((c.1,(s.mk' r).1)::(Aee σ cs (s.mk' r).2).1,(Aee σ cs (s.mk' r).2).2)
def Bpy(σ:TSt):List (Key×OS)→List TV→List (Key×TO)
 |[],_=>[]
 |c::cs,r=>(c.1,(c.2.mk' (σ.look c.1) r).1)::Bpy σ cs (c.2.mk' (σ.look c.1) r).2
theorem Amv{σ:TSt}: ∀{cs:List (Nat×Option VS)} {ws:List (Nat×TV)} {l:List TV},P8 σ cs ws=some l→(∀t w,(t,none)∈cs→(t,w)∈ws→(σ.get t).still=true→w.live=true→w=σ.get t)→l.all TV.isV=true∧ ∀r,(Aee σ cs (l++r)).1.map slU=ws.map slU∧(Aee σ cs (l++r)).2=r∧ ∀p∈(Aee σ cs (l++r)).1,p.2.tame=true
 |[],[],l,h,_=>by cases h;exact⟨rfl,fun r=>⟨rfl,rfl,by simp[Aee]⟩⟩
 |[],_::_,l,h,_=>by simp only[P8] at h;cases h
 |_::_,[],l,h,_=>by simp only[P8] at h;cases h
 |(t,none)::cs,w::ws,l,h,H=>by
  simp only[P8] at h
  split at h
  ·rename_i hc
   have hc:=eq_of_beq hc
   split at h
   ·rename_i hs
    simp only[Bool.and_eq_true] at hs
    have hw:w.2=σ.get t:=H t w.2 (by simp) (by simp[hc]) hs.1 hs.2
    obtain⟨h1,h2⟩:=Amv h (fun t' w' h1 h2=>H t' w' (by simp[h1]) (by simp[h2]))
    refine⟨h1,fun r=>?_⟩
    obtain⟨g1,g2,g3⟩:=h2 r
    refine⟨?_,by simp only[Aee,g2],fun q hq=>?_⟩
    ·simp only[Aee,List.map_cons,g1,slU,←hw]
     rw[hc]
    ·simp only[Aee] at hq
     rcases List.mem_cons.1 hq with rfl|hq
     ·exact Bub hs.1
     ·exact g3 q hq
   ·cases h
  ·cases h
 |(t,some s)::cs,w::ws,l,h,H=>by
  simp only[P8] at h
  split at h
  ·rename_i hc
   have hc:=eq_of_beq hc
   split at h
   ·rename_i l1 e1
    split at h
    ·rename_i l2 e2
     cases h
     obtain⟨h1,h2⟩:=flatS_spec s w.2 l1 e1
     obtain⟨h3,h4⟩:=Amv e2 (fun t' w' h1 h2=>H t' w' (by simp[h1]) (by simp[h2]))
     refine⟨by rw[List.all_append,h1,h3];rfl,fun r=>?_⟩
     rw[List.append_assoc]
     obtain⟨g1,g2,g3⟩:=h2 (l2++r)
     obtain⟨g4,g5,g6⟩:=h4 r
     refine⟨?_,by simp only[Aee,g2,g5],fun q hq=>?_⟩
     ·simp only[Aee,g2,List.map_cons,slU,g1,g4]
      rw[hc]
     ·simp only[Aee,g2] at hq
      rcases List.mem_cons.1 hq with rfl|hq
      ·exact g3
      ·exact g6 q hq
    ·cases h
   ·cases h
  ·cases h
theorem Ay2{σ:TSt}: ∀{cs:List (Key×OS)} {ws:List (Key×TO)} {l:List TV},Wh σ cs ws=some l→(∀k s o,(k,s)∈cs→(k,o)∈ws→s.old=true→Hi (σ.look k) (some o))→l.all TV.isV=true∧ ∀r,(Bpy σ cs (l++r)).map hpU=ws.map hpU
 |[],[],l,h,_=>by cases h;exact⟨rfl,fun r=>rfl⟩
 |[],_::_,l,h,_=>by simp only[Wh] at h;cases h
 |_::_,[],l,h,_=>by simp only[Wh] at h;cases h
 |c::cs,w::ws,l,h,H=>by
  simp only[Wh] at h
  split at h
  ·rename_i hc
   have hc:=of_decide_eq_true hc
   split at h
   ·rename_i l1 e1
    split at h
    ·rename_i l2 e2
     cases h
     obtain⟨h1,h2⟩:=Adp e1 (fun ho=>H c.1 c.2 w.2 (by simp) (by simp[hc]) ho)
     obtain⟨h3,h4⟩:=Ay2 e2 (fun k s o h1 h2=>H k s o (by simp[h1]) (by simp[h2]))
     refine⟨by rw[List.all_append,h1,h3];rfl,fun r=>?_⟩
     rw[List.append_assoc]
     obtain⟨g1,g2⟩:=h2 (l2++r)
     simp only[Bpy,g2,List.map_cons,hpU,g1]
     rw[hc]
     congr 1
     exact h4 r
    ·cases h
   ·cases h
  ·cases h
def Bo1(ts:List Ty)(p q:List Nat)(l:List TV):Option (Eh ts):=match Byc p q l.length with
 |true=>match As0 p l with
  |some l'=>toN ts l'
  |none=>none
 |false=>none
def A2x(ts:List Ty)(q:List Nat)(x:Eh ts):List TV:=match As0 q (ofN ts x) with
 |some l=>l
 |none=>[]
theorem Bgo{p:TV→Bool}{l:List TV}(h:l.all p=true): ∀{q:List Nat} {r:List TV},El (fun i=>l[i]?) q=some r→r.all p=true
 |[],r,e=>by cases e;rfl
 |i::q,r,e=>by
  obtain⟨b,r',h1,h2,rfl⟩:=G8 e
  rw[List.all_cons,Bgo h h2,List.all_eq_true.1 h b (List.mem_of_getElem? h1)];rfl
theorem Bp2{p:TV→Bool}{l r:List TV}{q:List Nat}(h:l.all p=true)(e:As0 q l=some r):r.all p=true:=by
 unfold As0 at e
 split at e
 ·cases e;exact h
 ·exact Bgo h e
theorem A53{ts:List Ty}{p q:List Nat}{l:List TV}{x:Eh ts}(hv:l.all TV.isV=true)(h:Bo1 ts p q l=some x):A2x ts q x=l:=by
 unfold Bo1 at h
 split at h
 ·rename_i hu
  split at h
  ·rename_i l' e
   unfold A2x
   rw[Buu (Bp2 hv e) h,Bq4 .dead hu e]
  ·cases h
 ·cases h
def Sig.fr(s:Sig):Fr:=⟨s.sl.filterMap fun c=>match c.2 with
 |none=>some c.1
 |some _=>none,s.hp.filterMap fun c=>match c.2.old with
 |true=>some c.1
 |false=>none⟩
def Bbz:List Key→Bool
 |[]=>true
 |a::l=> !l.contains a&&Bbz l
def pack(s:Sig)(b σ:TSt):Option (Eh s.ts):=match Anh (s.sl.map (·.1))&&Bbz (s.hp.map (·.1)) with
 |true=>match P8 b s.sl σ.sl with
  |some x=>match Wh b s.hp σ.hp with
   |some y=>Bo1 s.ts s.p s.q (x++y)
   |none=>none
  |none=>none
 |false=>none
def unpack(s:Sig)(b:TSt)(x:Eh s.ts):TSt:=⟨(Aee b s.sl (A2x s.ts s.q x)).1,Bpy b s.hp (Aee b s.sl (A2x s.ts s.q x)).2,[],b.fr⟩
theorem Bnx: ∀{l:List (Nat×TV)} {t:Nat} {w:TV},Anh (l.map (·.1))=true→(t,w)∈l→Gy l t=w
 |[],_,_,_,h=>by cases h
 |p::l,t,w,hn,h=>by
  simp only[List.map_cons,Anh,Bool.and_eq_true] at hn
  simp only[Gy]
  rcases List.mem_cons.1 h with e|h
  ·rw[←e];simp
  ·have hne:p.1≠t:=by
    intro e
    have:=Qa hn.1
    rw[e] at this
    exact this (List.mem_map.2 ⟨_,h,rfl⟩)
   have:(p.1==t)=false:=by simpa using hne
   rw[this]
   exact Bnx hn.2 h
theorem Bgj: ∀{l:List (Key×TO)} {k:Key} {o:TO},Bbz (l.map (·.1))=true→(k,o)∈l→B0 l k=some o
 |[],_,_,_,h=>by cases h
 |p::l,k,o,hn,h=>by
  simp only[List.map_cons,Bbz,Bool.and_eq_true] at hn
  simp only[B0]
  rcases List.mem_cons.1 h with e|h
  ·rw[←e];simp
  ·have hne:p.1≠k:=by
    intro e
    have:=Qa hn.1
    rw[e] at this
    exact this (List.mem_map.2 ⟨_,h,rfl⟩)
   rw[if_neg hne]
   exact Bgj hn.2 h
def Dk(fr:Fr)(b σ:TSt):Prop:=(∀t∈fr.s,(b.get t).still=true→σ.get t=b.get t∨σ.get t= .dead)∧ ∀k∈fr.k,Hi (b.look k) (σ.look k)
theorem Dk.refl(fr:Fr)(b:TSt):Dk fr b b:=⟨fun _ _ _=> .inl rfl,fun _ _=> .inr (.inl rfl)⟩
theorem Dk.trans{fr:Fr}{a b c:TSt}(h1:Dk fr a b)(h2:Dk fr b c):Dk fr a c:=by
 refine⟨fun t ht hs=>?_,fun k hk=>(h1.2 k hk).trans (h2.2 k hk)⟩
 rcases h1.1 t ht hs with e|e
 ·rcases h2.1 t ht (by rw[e];exact hs) with e2|e2
  ·exact .inl (e2.trans e)
  ·exact .inr e2
 ·rcases h2.1 t ht (by rw[e];rfl) with e2|e2
  ·exact .inr (e2.trans e)
  ·exact .inr e2
theorem Frm.stays{a b:TSt}(h:Frm a b):Dk a.fr a b:=⟨h.s,h.k⟩
theorem Bmk{b:TSt}: ∀{cs:List (Nat×Option VS)} {ws:List (Nat×TV)} {l:List TV},P8 b cs ws=some l→cs.map (·.1)=ws.map (·.1)
 |[],[],_,_=>rfl
 |[],_::_,l,h=>by simp only[P8] at h;cases h
 |_::_,[],l,h=>by simp only[P8] at h;cases h
 |c::cs,w::ws,l,h=>by
  simp only[P8] at h
  split at h
  ·rename_i hc
   have hc:=eq_of_beq hc
   rw[List.map_cons,List.map_cons,hc]
   congr 1
   split at h
   ·split at h
    ·exact Bmk h
    ·cases h
   ·split at h
    ·split at h
     ·rename_i e;exact Bmk e
     ·cases h
    ·cases h
  ·cases h
theorem Bs0{b:TSt}: ∀{cs:List (Key×OS)} {ws:List (Key×TO)} {l:List TV},Wh b cs ws=some l→cs.map (·.1)=ws.map (·.1)
 |[],[],_,_=>rfl
 |[],_::_,l,h=>by simp only[Wh] at h;cases h
 |_::_,[],l,h=>by simp only[Wh] at h;cases h
 |c::cs,w::ws,l,h=>by
  simp only[Wh] at h
  split at h
  ·rename_i hc
   have hc:=of_decide_eq_true hc
   rw[List.map_cons,List.map_cons,hc]
   congr 1
   split at h
   ·split at h
    ·rename_i e;exact Bs0 e
    ·cases h
   ·cases h
  ·cases h
theorem Ax2{s:Sig}{b σ:TSt}{x:Eh s.ts}(hs:Dk s.fr b σ)(h:pack s b σ=some x):(unpack s b x).u=σ.u∧Inv (unpack s b x):=by
 unfold pack at h
 split at h
 ·rename_i hn
  simp only[Bool.and_eq_true] at hn
  split at h
  ·rename_i l e1
   split at h
   ·rename_i m e2
    obtain⟨h1,h2⟩:=Amv e1 (fun t w ht hw hst hlv=>by
     have hg:=Bnx (by rw[←Bmk e1];exact hn.1) hw
     have hm:t∈s.fr.s:=List.mem_filterMap.2 ⟨(t,none),ht,rfl⟩
     rcases hs.1 t hm hst with e|e
     ·exact hg.symm.trans e
     ·have:w= .dead:=hg.symm.trans e
      subst this;cases hlv)
    obtain⟨h3,h4⟩:=Ay2 e2 (fun k c o hc ho hold=>by
     have hg:σ.look k=some o:=Bgj (by rw[←Bs0 e2];exact hn.2) ho
     have hm:k∈s.fr.k:=List.mem_filterMap.2 ⟨(k,c),hc,by simp[hold]⟩
     rw[←hg]
     exact hs.2 k hm)
    have hl:=A53 (by rw[List.all_append,h1,h3];rfl) h
    obtain⟨g1,g2,g3⟩:=h2 m
    have g4:=h4 []
    rw[List.append_nil] at g4
    unfold unpack
    rw[hl,g2]
    exact⟨by simp only[TSt.u,g1,g4],Vx g3 _ _ _⟩
   ·cases h
  ·cases h
 ·cases h
def A19:List TV→List (Option VS)→Bool
 |[],[]=>true
 |b::bs,c::cs=>(match c with
  |none=>true
  |some _=> !b.still)&&A19 bs cs
 |_,_=>false
def OS.keeps(b:Option TO):OS→Bool
 | .same=>b.isSome
 | .box cs=>match b with
  |some (.box bs)=>A19 bs cs
  |_=>false
 |_=>false
def Sig.keeps(s:Sig)(fr:Fr)(b:TSt):Bool:=s.sl.all (fun c=>match c.2 with
 |none=>true
 |some _=> !fr.s.contains c.1)&&s.hp.all (fun c=> !fr.k.contains c.1||c.2.keeps (b.look c.1))
theorem Axp: ∀{bs:List TV} {cs:List (Option VS)} {r:List TV},A19 bs cs=true→(mkC bs cs r).1.length=bs.length∧ ∀(i:Nat) (w:TV),bs[i]? =some w→w.still=true→(mkC bs cs r).1[i]? =some w
 |[],[],r,h=>⟨rfl,fun i w e=>by simp at e⟩
 |[],_::_,r,h=>by cases h
 |_::_,[],r,h=>by cases h
 |b::bs,none::cs,r,h=>by
  simp only[A19,Bool.true_and] at h
  obtain⟨h1,h2⟩:=Axp (r:=r) h
  refine⟨by simp only[mkC,List.length_cons,h1],fun i w e hs=>?_⟩
  cases i with
  |zero=>simpa [mkC] using e
  |succ i=>simp only[mkC,List.getElem?_cons_succ] at e⊢;exact h2 i w e hs
 |b::bs,some c::cs,r,h=>by
  simp only[A19,Bool.and_eq_true,Bool.not_eq_true'] at h
  obtain⟨h1,h2⟩:=Axp (r:=(c.mk' r).2) h.2
  refine⟨by simp only[mkC,List.length_cons,List.tail_cons,h1],fun i w e hs=>?_⟩
  cases i with
  |zero=>
   simp only[List.getElem?_cons_zero,Option.some.injEq] at e
   subst e
   rw[h.1] at hs;cases hs
  |succ i=>simp only[mkC,List.getElem?_cons_succ,List.tail_cons] at e⊢;exact h2 i w e hs
theorem Bs5{b:Option TO}{s:OS}{r:List TV}(h:s.keeps b=true):Hi b (some (s.mk' b r).1):=by
 unfold OS.keeps at h
 split at h
 ·cases b with
  |none=>cases h
  |some o=>exact .inr (.inl rfl)
 ·split at h
  ·rename_i cs bs
   obtain⟨h1,h2⟩:=Axp (r:=r) h
   exact .inr (.inr ⟨bs,_,rfl,rfl,h1,h2⟩)
  ·cases h
 ·cases h
theorem Bbx{b:TSt}{t:Nat}: ∀{cs:List (Nat×Option VS)} {r:List TV},(∀c∈cs,c.1=t→c.2=none)→Gy (Aee b cs r).1 t=b.get t∨Gy (Aee b cs r).1 t= .dead
 |[],r,_=> .inr rfl
 |c::cs,r,h=>by
  simp only[Aee]
  by_cases e:c.1=t
  ·have:=h c (by simp) e
   subst e
   rw[this]
   exact .inl (by simp[Gy])
  ·have hne:(c.1==t)=false:=by simpa using e
   cases hc:c.2 with
   |none=>simp only[Gy,hne,cond_false];exact Bbx (fun c' hc'=>h c' (by simp[hc']))
   |some s=>simp only[Gy,hne,cond_false];exact Bbx (fun c' hc'=>h c' (by simp[hc']))
theorem Boa{b:TSt}{k:Key}: ∀{cs:List (Key×OS)} {r:List TV},(∀c∈cs,c.1=k→c.2.keeps (b.look k)=true)→Hi (b.look k) (B0 (Bpy b cs r) k)
 |[],r,_=> .inl rfl
 |c::cs,r,h=>by
  simp only[Bpy,B0]
  by_cases e:c.1=k
  ·have:=h c (by simp) e
   subst e
   rw[if_pos rfl]
   exact Bs5 this
  ·rw[if_neg e]
   exact Boa (fun c' hc'=>h c' (by simp[hc']))
theorem Am3{s:Sig}{fr:Fr}{b:TSt}(h:s.keeps fr b=true)(x:Eh s.ts):Dk fr b (unpack s b x):=by
 simp only[Sig.keeps,Bool.and_eq_true,List.all_eq_true,Bool.or_eq_true] at h
 refine⟨fun t ht _=>Bbx (fun c hc e=>?_),fun k hk=>Boa (fun c hc e=>?_)⟩
 ·have h1:=h.1 c hc
  split at h1
  ·rename_i e2;exact e2
  ·subst e;exact absurd ht (Qa h1)
 ·subst e
  rcases h.2 c hc with h1|h1
  ·exact absurd hk (Qa h1)
  ·exact h1
end
end Go.Av
end
section
namespace Go.Av
inductive DC where
 |skip
 |ops (l:List TOp)
 |draw (ks:List Key) (l:List TOp)
 |seq (a b:DC)
 |join (k:Kp) (s:Sig) (a:DC)
 |joinO (k:Kp) (s:Sig) (a:DC)
 |cond (c:Opd) (a b:DC)
 |block (id:Nat) (a:DC)
 |loop (keep:List Nat) (ks:List Key) (k:Kp) (s:Sig) (a:DC)
 |exit (id:Nat)
 |ret
 |keep (k:Kp) (a:DC)
 |pass (id:Nat) (a:DC)
 |free (a:DC)
 |stuck
def Kp.ac(k:Kp)(a:AC):AC:= .keep k.fz k.sl k.bx k.dead (k.up.map (·.1)) a
def Kp.po(k:Kp)(a:AC):AC:= .post k.fz k.sl k.bx k.dead (k.up.map (·.1)) a
def DC.ac:DC→AC
 | .skip=> .skip
 | .ops l=> .ops (l.map (·.g))
 | .draw ks l=> .draw ks (l.map (·.g))
 | .seq a b=> .seq a.ac b.ac
 | .join k _ a=>k.po a.ac
 | .joinO k _ a=>k.po a.ac
 | .cond c a b=> .cond c a.ac b.ac
 | .block id a=> .block id a.ac
 | .loop l ks k _ a=> .loop l ks (k.ac a.ac)
 | .exit id=> .exit id
 | .ret=> .ret
 | .keep k a=>k.ac a.ac
 | .pass id a=> .pass id a.ac
 | .free a=>a.ac
 | .stuck=> .stuck
section
variable [Dic] {P:Program} {T:Tab}
def TSt.wr(σ:TSt)(fr:Fr):TSt:=⟨σ.sl,σ.hp,σ.gs,⟨fr.s++σ.fr.s,fr.k++σ.fr.k⟩⟩
def TSt.ref(σ:TSt)(fr:Fr):TSt:=⟨σ.sl,σ.hp,σ.gs,fr⟩
theorem Inv.ref{σ:TSt}(hI:Inv σ)(fr:Fr):Inv (σ.ref fr):=⟨hI.gd,hI.io⟩
theorem Inv.wr{σ:TSt}(hI:Inv σ)(fr:Fr):Inv (σ.wr fr):=⟨hI.gd,hI.io⟩
theorem Be1{σ σ':TSt}{fr:Fr}(h:Dk (σ.wr fr).fr (σ.wr fr) σ'):Dk fr σ σ':=⟨fun t ht=>h.1 t (List.mem_append_left _ ht),fun k hk=>h.2 k (List.mem_append_left _ hk)⟩
theorem A58{σ σ':TSt}{fr:Fr}(h:Dk (σ.wr fr).fr (σ.wr fr) σ'):Dk σ.fr σ σ':=⟨fun t ht=>h.1 t (List.mem_append_right _ ht),fun k hk=>h.2 k (List.mem_append_right _ hk)⟩
def Byo:Key→Bool
 | .ext _=>true
 |_=>false
def Asm(fr:Fr):Fr:=⟨[],fr.k.filter Byo⟩
def Br9(ex:Ex)(fr:Fr):Fr:=match ex with
 | .ret=>Asm fr
 |_=>fr
theorem Baj{σ σ':TSt}{fr:Fr}(h:Dk fr σ σ'):Dk (Asm fr) σ σ':=⟨fun t ht=>(by cases ht),fun k hk=>h.2 k (List.mem_filter.1 hk).1⟩
theorem Bja{σ σ':TSt}{fr:Fr}(ex:Ex)(h:Dk fr σ σ'):Dk (Br9 ex fr) σ σ':=by
 cases ex with
 |ret=>exact Baj h
 |_=>exact h
theorem Bao{σ σ':TSt}{fr:Fr}(h:Dk (Asm (σ.wr fr).fr) (σ.wr fr) σ'):Dk (Asm σ.fr) σ σ':=⟨fun t ht=>(by cases ht),fun k hk=>h.2 k (List.mem_filter.2 ⟨List.mem_append_right _ (List.mem_filter.1 hk).1,(List.mem_filter.1 hk).2⟩)⟩
theorem Bve{σ σ':TSt}{fr:Fr}{ex:Ex}(h:Dk (Br9 ex fr) σ σ'){i:Nat}(hm:Key.ext i∈fr.k):Key.ext i∈(Br9 ex fr).k:=by
 cases ex with
 |ret=>exact List.mem_filter.2 ⟨hm,rfl⟩
 |_=>exact hm
def Bo0(k:Kp)(s:Sig)(b σ:TSt):Option (Eh s.ts):=match k.free σ.fr with
 |true=>match σ.tidy k with
  |some σ'=>pack s b σ'
  |none=>none
 |false=>none
def Bnz(keep:List Nat)(ks:List Key)(k:Kp)(σ:TSt):Option TSt:=match ks.all (fun q=> !σ.fr.k.contains q)&&k.free σ.fr with
 |true=>match σ.forget keep with
  |some σ1=>match σ1.killAll ks with
   |some σ2=>σ2.tidy k
   |none=>none
  |none=>none
 |false=>none
def Bs1(keep:List Nat)(ks:List Key)(k:Kp)(s:Sig)(b σ:TSt):Option (Eh s.ts):=match Bnz keep ks k σ with
 |some σ'=>pack s b σ'
 |none=>none
theorem A50{b σ:TSt}(hI:Inv σ){k:Kp}{s:Sig}{x:Eh s.ts}(hs:Dk s.fr b σ)(hf: ∀{σ':TSt},Dk σ.fr σ σ'→Dk s.fr σ σ')(h:Bo0 k s b σ=some x):(unpack s b x).u=σ.u.tidy k.fz k.sl k.bx k.dead (k.up.map (·.1))∧Inv (unpack s b x):=by
 unfold Bo0 at h
 split at h
 ·rename_i hk
  split at h
  ·rename_i σ' e
   obtain⟨h1,h2⟩:=Ax2 (hs.trans (hf (A13 hk e).stays)) h
   exact⟨by rw[h1,(TSt.tidy_u hI e).1],h2⟩
  ·cases h
 ·cases h
theorem A16{keep:List Nat}{ks:List Key}{k:Kp}{σ σ':TSt}(h:Bnz keep ks k σ=some σ'):σ'.u=((σ.u.forget keep).killAll ks).tidy k.fz k.sl k.bx k.dead (k.up.map (·.1))∧Inv σ'∧Frm σ σ':=by
 unfold Bnz at h
 split at h
 ·rename_i hc
  simp only[Bool.and_eq_true,List.all_eq_true] at hc
  split at h
  ·rename_i σ1 e1
   split at h
   ·rename_i σ2 e2
    obtain⟨h1,i1⟩:=Bsi e1
    have h2:=Ji e2
    obtain⟨h3,i3⟩:=TSt.tidy_u (i1.killAll e2) h
    have f1:=Bkq e1
    have f2:=f1.trans (Gg (fun q hq=>by rw[f1.fr];exact Qa (hc.1 q hq)) e2)
    exact⟨by rw[h3,h2,h1],i3,f2.trans (A13 (by rw[f2.fr];exact hc.2) h)⟩
   ·cases h
  ·cases h
 ·cases h
noncomputable def den(T:Tab):DC→{β:Type}→TSt→(Ex→TSt→Option β)→Option β
 | .skip,_,σ,K=>K .norm σ
 | .ops l,_,σ,K=>Bq1 T false l σ (K .norm)
 | .draw ks l,_,σ,K=>match ks.all (fun q=> !σ.fr.k.contains q)&&Anh (Axg l) with
  |true=>match σ.killAll ks with
   |some σ'=>Bq1 T true l σ' (K .norm)
   |none=>none
  |false=>none
 | .seq a b,_,σ,K=>den T a σ fun ex σ'=>match ex with
  | .norm=>den T b σ' K
  | .exit j=>K (.exit j) σ'
  | .ret=>K .ret σ'
 | .join k s a,_,σ,K=>match s.keeps σ.fr σ with
  |true=>(den T a (β:=Eh s.ts) (σ.wr s.fr) fun ex σ'=>match ex with
   | .norm=>Bo0 k s σ σ'
   |_=>none).bind fun p=>K .norm (unpack s σ p)
  |false=>none
 | .joinO k s a,β,σ,K=>match s.keeps σ.fr σ with
  |true=>(den T a (β:=Eh s.ts⊕β) (σ.wr s.fr) fun ex σ'=>match ex with
   | .norm=>(Bo0 k s σ σ').map .inl
   | .exit j=>(K (.exit j) (σ'.ref σ.fr)).map .inr
   | .ret=>(K .ret (σ'.ref σ.fr)).map .inr).bind fun j=>match j with
    | .inr o=>some o
    | .inl p=>K .norm (unpack s σ p)
  |false=>none
 | .cond c a b,_,σ,K=>match σ.ev [] c with
  | .v .bool (q:Bool)=>if q=true then den T a σ K else den T b σ K
  |_=>none
 | .block id a,_,σ,K=>den T a σ fun ex σ'=>match ex with
  | .norm=>K .norm σ'
  | .ret=>K .ret σ'
  | .exit j=>match j==id with
   |true=>K .norm σ'
   |false=>K (.exit j) σ'
 | .loop keep ks k s a,β,σ,K=>match Bnz keep ks k σ with
  |some b=>match s.keeps ⟨s.fr.s++b.fr.s,s.fr.k++b.fr.k⟩ b with
   |true=>match pack s b b with
    |some x=>A5 (fun q:Eh s.ts=>den T a (β:=Eh s.ts⊕β) ((unpack s b q).wr s.fr) fun ex σ'=>match ex with
     | .norm=>(Bs1 keep ks k s b σ').map .inl
     | .exit j=>(K (.exit j) (σ'.ref σ.fr)).map .inr
     | .ret=>(K .ret (σ'.ref σ.fr)).map .inr) x
    |none=>none
   |false=>none
  |none=>none
 | .exit id,_,σ,K=>K (.exit id) σ
 | .ret,_,σ,K=>K .ret σ
 | .keep k a,_,σ,K=>match k.free σ.fr with
  |true=>match σ.tidy k with
   |some σ'=>den T a σ' K
   |none=>none
  |false=>none
 | .pass _ a,_,σ,K=>den T a σ K
 | .free a,_,σ,K=>den T a (σ.ref (Asm σ.fr)) fun ex σ'=>match ex with
  | .ret=>K .ret (σ'.ref σ.fr)
  |_=>none
 | .stuck,_,_,_=>none
structure Got (P:Program) {β:Type} (ac:AC) (σ:TSt) (K:Ex→TSt→Option β) (r:β) (ex:Ex) (σ':TSt):Prop where
 ev:Ev P ac σ.u ex σ'.u
 inv:Inv σ'
 fr:σ'.fr=σ.fr
 st:Dk (Br9 ex σ.fr) σ σ'
 k:K ex σ'=some r
def Comes(P:Program){β:Type}(ac:AC)(σ:TSt)(K:Ex→TSt→Option β)(r:β):Prop:= ∃ex σ',Got P ac σ K r ex σ'
theorem map_some{α β:Type}{o:Option α}{f:α→β}{y:β}(h:o.map f=some y): ∃x,o=some x∧f x=y:=by
 cases o with
 |none=>cases h
 |some x=>exact⟨x,rfl,by simpa using h⟩
theorem Bpk(hT:Vw P T): ∀(c:DC) {β:Type} {σ:TSt} {K:Ex→TSt→Option β} {r:β},Inv σ→den T c σ K=some r→Comes P c.ac σ K r:=by
 intro c
 induction c with
 |skip=>intro β σ K r hI h;exact⟨.norm,σ,.skip _,hI,rfl,.refl _ _,h⟩
 |ops l=>
  intro β σ K r hI h
  obtain⟨σ',h1,h2,f,h3⟩:=Bjj hT hI h
  exact⟨.norm,σ',.ops h3,h2,f.fr,f.stays,h1⟩
 |draw ks l=>
  intro β σ K r hI h
  simp only[den] at h
  split at h
  ·rename_i hc
   simp only[Bool.and_eq_true,List.all_eq_true] at hc
   split at h
   ·rename_i σ1 e1
    obtain⟨σ',cl,h1,h2,f,h3,h4⟩:=Bq2 hT (hI.killAll e1) hc.2 h
    have f':=(Gg (fun q hq=>Qa (hc.1 q hq)) e1).trans f
    exact⟨.norm,σ',.draw h3 (by rw[←Ji e1];exact h4),h2,f'.fr,f'.stays,h1⟩
   ·cases h
  ·cases h
 |seq a b iha ihb=>
  intro β σ K r hI h
  obtain⟨ex,σ1,g⟩:=iha hI h
  cases ex with
  |norm=>
   obtain⟨ex,σ2,g2⟩:=ihb g.inv g.k
   exact⟨ex,σ2,.seq g.ev g2.ev,g2.inv,g2.fr.trans g.fr,(Bja ex (show Dk σ.fr σ σ1 from g.st)).trans (by rw[←g.fr];exact g2.st),g2.k⟩
  |exit j=>exact⟨_,σ1,.seq_out g.ev (by simp),g.inv,g.fr,g.st,g.k⟩
  |ret=>exact⟨_,σ1,.seq_out g.ev (by simp),g.inv,g.fr,g.st,g.k⟩
 |join k s a iha=>
  intro β σ K r hI h
  simp only[den] at h
  split at h
  ·rename_i hkp
   obtain⟨p,hp,h⟩:=Avd h
   obtain⟨ex,σ1,g⟩:=iha (hI.wr s.fr) hp
   cases ex with
   |norm=>
    obtain⟨h3,h4⟩:=A50 g.inv (Be1 g.st) (fun hs=>by rw[g.fr] at hs;exact⟨fun t ht=>hs.1 t (List.mem_append_left _ ht),fun q hq=>hs.2 q (List.mem_append_left _ hq)⟩) g.k
    exact⟨.norm,unpack s σ p,by rw[h3];exact .post g.ev,h4,rfl,Am3 hkp p,h⟩
   |exit j=>exact absurd g.k (by simp)
   |ret=>exact absurd g.k (by simp)
  ·cases h
 |joinO k s a iha=>
  intro β σ K r hI h
  simp only[den] at h
  split at h
  ·rename_i hkp
   obtain⟨p,hp,h⟩:=Avd h
   obtain⟨ex,σ1,g⟩:=iha (hI.wr s.fr) hp
   cases ex with
   |norm=>
    obtain⟨x,hx,rfl⟩:=map_some g.k
    obtain⟨h3,h4⟩:=A50 g.inv (Be1 g.st) (fun hs=>by rw[g.fr] at hs;exact⟨fun t ht=>hs.1 t (List.mem_append_left _ ht),fun q hq=>hs.2 q (List.mem_append_left _ hq)⟩) hx
    exact⟨.norm,unpack s σ x,by rw[h3];exact .post g.ev,h4,rfl,Am3 hkp x,h⟩
   |exit j=>
    obtain⟨x,hx,rfl⟩:=map_some g.k
    cases h
    exact⟨_,σ1.ref σ.fr,.post_out g.ev (by simp),g.inv.ref _,rfl,A58 g.st,hx⟩
   |ret=>
    obtain⟨x,hx,rfl⟩:=map_some g.k
    cases h
    exact⟨_,σ1.ref σ.fr,.post_out g.ev (by simp),g.inv.ref _,rfl,Bao g.st,hx⟩
  ·cases h
 |cond c a b iha ihb=>
  intro β σ K r hI h
  have hx:=Dy hI Adl c
  simp only[den] at h
  split at h
  ·rename_i q e
   rw[e] at hx
   have hx:σ.u.ev c= .pv (.bool q):=hx.symm
   split at h
   ·rename_i hq
    obtain⟨ex,σ1,g⟩:=iha hI h
    exact⟨ex,σ1,.cond hx (by rw[hq];exact g.ev),g.inv,g.fr,g.st,g.k⟩
   ·rename_i hq
    have hq:q=false:=by simpa using hq
    obtain⟨ex,σ1,g⟩:=ihb hI h
    exact⟨ex,σ1,.cond hx (by rw[hq];exact g.ev),g.inv,g.fr,g.st,g.k⟩
  ·cases h
 |block id a iha=>
  intro β σ K r hI h
  obtain⟨ex,σ1,g⟩:=iha hI h
  have h2:=g.k
  cases ex with
  |norm=>exact⟨.norm,σ1,.block g.ev,g.inv,g.fr,g.st,h2⟩
  |ret=>exact⟨.ret,σ1,.block_ret g.ev,g.inv,g.fr,g.st,h2⟩
  |exit j=>
   simp only at h2
   split at h2
   ·rename_i hj
    have hj:=eq_of_beq hj
    subst hj
    exact⟨.norm,σ1,.block_exit g.ev,g.inv,g.fr,g.st,h2⟩
   ·rename_i hj
    exact⟨.exit j,σ1,.block_out g.ev (by simpa using hj),g.inv,g.fr,g.st,h2⟩
 |loop keep ks k s a iha=>
  intro β σ K r hI h
  simp only[den] at h
  split at h
  ·rename_i b hb
   split at h
   ·rename_i hkp
    split at h
    ·rename_i x hx
     obtain⟨n,hn⟩:=Si.1 h
     clear h
     obtain⟨hu0,i0,f0⟩:=A16 hb
     have key: ∀(n:Nat) (x:Eh s.ts) (τ:TSt),(unpack s b x).u=((τ.u.forget keep).killAll ks).tidy k.fz k.sl k.bx k.dead (k.up.map (·.1))→Inv (unpack s b x)→Dk σ.fr σ τ→
       Oo (fun q:Eh s.ts=>den T a (β:=Eh s.ts⊕β) ((unpack s b q).wr s.fr) fun ex σ'=>match ex with
        | .norm=>(Bs1 keep ks k s b σ').map .inl
        | .exit j=>(K (.exit j) (σ'.ref σ.fr)).map .inr
        | .ret=>(K .ret (σ'.ref σ.fr)).map .inr) n x=some r→ ∃ex σ',Ev P (.loop keep ks (k.ac a.ac)) τ.u ex σ'.u∧Inv σ'∧σ'.fr=σ.fr∧Dk (Br9 ex σ.fr) σ σ'∧K ex σ'=some r:=by
      intro n
      induction n with
      |zero=>intro x τ _ _ _ hn;cases hn
      |succ n ih=>
       intro x τ h3 i3 hst hn
       rw[Oo] at hn
       have hbq:Dk ⟨s.fr.s++b.fr.s,s.fr.k++b.fr.k⟩ b (unpack s b x):=Am3 hkp x
       have hσq:Dk σ.fr σ (unpack s b x):=f0.stays.trans ⟨fun t ht=>hbq.1 t (List.mem_append_right _ (by rw[f0.fr];exact ht)),fun q hq=>hbq.2 q (List.mem_append_right _ (by rw[f0.fr];exact hq))⟩
       have hfr:(unpack s b x).fr=σ.fr:=f0.fr
       split at hn
       ·cases hn
       ·rename_i s' hf
        obtain⟨ex,σ1,g⟩:=iha (i3.wr s.fr) hf
        have hev:Ev P a.ac (unpack s b x).u ex σ1.u:=g.ev
        rw[h3] at hev
        cases ex with
        |norm=>
         have hs1:Dk σ.fr (unpack s b x) σ1:=by have:=A58 g.st;rw[hfr] at this;exact this
         obtain⟨y,hy,e⟩:=map_some g.k
         cases e
         unfold Bs1 at hy
         split at hy
         ·rename_i σ2 e2
          obtain⟨hu2,i2,f2⟩:=A16 e2
          have hst2:Dk s.fr b σ2:=by
           have h5:Dk s.fr b (unpack s b x):=⟨fun t ht=>hbq.1 t (List.mem_append_left _ ht),fun q hq=>hbq.2 q (List.mem_append_left _ hq)⟩
           have h6:=Be1 g.st
           have h7:=f2.stays
           rw[g.fr] at h7
           exact(h5.trans h6).trans ⟨fun t ht=>h7.1 t (List.mem_append_left _ ht),fun q hq=>h7.2 q (List.mem_append_left _ hq)⟩
          obtain⟨h8,i8⟩:=Ax2 hst2 hy
          obtain⟨ex,σ3,h9,i9,r9,s9,k9⟩:=ih _ σ1 (h8.trans hu2) i8 (hσq.trans hs1) hn
          exact⟨ex,σ3,.loop (.keep hev) h9,i9,r9,s9,k9⟩
         ·cases hy
        |exit j=>obtain⟨y,hy,e⟩:=map_some g.k;cases e
        |ret=>obtain⟨y,hy,e⟩:=map_some g.k;cases e
       ·rename_i o hf
        cases hn
        obtain⟨ex,σ1,g⟩:=iha (i3.wr s.fr) hf
        have hev:Ev P a.ac (unpack s b x).u ex σ1.u:=g.ev
        rw[h3] at hev
        cases ex with
        |norm=>obtain⟨y,hy,e⟩:=map_some g.k;cases e
        |exit j=>
         have hs1:Dk σ.fr (unpack s b x) σ1:=by have:=A58 g.st;rw[hfr] at this;exact this
         obtain⟨y,hy,e⟩:=map_some g.k
         cases e
         exact⟨_,σ1.ref σ.fr,.loop_out (.keep hev) (by simp),g.inv.ref _,rfl,hσq.trans hs1,hy⟩
        |ret=>
         have hs1:Dk (Asm σ.fr) (unpack s b x) σ1:=by have:=Bao g.st;rw[hfr] at this;exact this
         obtain⟨y,hy,e⟩:=map_some g.k
         cases e
         exact⟨_,σ1.ref σ.fr,.loop_out (.keep hev) (by simp),g.inv.ref _,rfl,(Baj hσq).trans hs1,hy⟩
     obtain⟨h1,i1⟩:=Ax2 (.refl _ _) hx
     obtain⟨ex,σ',h2,i2,r2,s2,k2⟩:=key n x σ (h1.trans hu0) i1 (.refl _ _) hn
     exact⟨ex,σ',h2,i2,r2,s2,k2⟩
    ·cases h
   ·cases h
  ·cases h
 |exit id=>intro β σ K r hI h;exact⟨.exit id,σ,.exit _ _,hI,rfl,.refl _ _,h⟩
 |ret=>intro β σ K r hI h;exact⟨.ret,σ,.ret _,hI,rfl,.refl _ _,h⟩
 |keep k a iha=>
  intro β σ K r hI h
  simp only[den] at h
  split at h
  ·rename_i hk
   split at h
   ·rename_i σ' e
    obtain⟨h1,i1⟩:=TSt.tidy_u hI e
    have f:=A13 hk e
    obtain⟨ex,σ1,g⟩:=iha i1 h
    have hev:=g.ev
    rw[h1] at hev
    exact⟨ex,σ1,.keep hev,g.inv,g.fr.trans f.fr,(Bja ex f.stays).trans (by rw[←f.fr];exact g.st),g.k⟩
   ·cases h
  ·cases h
 |pass id a iha=>
  intro β σ K r hI h
  obtain⟨ex,σ1,g⟩:=iha hI h
  exact⟨ex,σ1,.pass g.ev,g.inv,g.fr,g.st,g.k⟩
 |free a iha=>
  intro β σ K r hI h
  obtain⟨ex,σ1,g⟩:=iha (hI.ref (Asm σ.fr)) h
  have h2:=g.k
  cases ex with
  |ret=>
   have hs:Dk (Asm (Asm σ.fr)) (σ.ref (Asm σ.fr)) σ1:=g.st
   exact⟨.ret,σ1.ref σ.fr,g.ev,g.inv.ref _,rfl,⟨fun t ht=>(by cases ht),fun k hk=>hs.2 k (List.mem_filter.2 ⟨hk,(List.mem_filter.1 hk).2⟩)⟩,h2⟩
  |norm=>cases h2
  |exit j=>cases h2
 |stuck=>intro β σ K r hI h;cases h
structure TFd where
 np:Nat
 res:List (RV×Ty)
 out:List Key
 body:DC
def TFd.fd(f:TFd):Fd:=⟨f.np,f.res.map (·.1),f.out,f.body.ac⟩
def Ayf:Nat→List TV→List (Nat×TV)
 |_,[]=>[]
 |i,v::vs=>(i,v)::Ayf (i+1) vs
def A1z:Nat→List TO→List (Key×TO)
 |_,[]=>[]
 |i,o::r=>(.ext i,o)::A1z (i+1) r
def Axj(fr:Fr)(args:List TV)(ext:List TO):TSt:=⟨Ayf 0 args,A1z 0 ext,[],fr⟩
theorem Bi1: ∀(l:List TV) (i:Nat),(Ayf i l).map slU=slotsOf i (l.map TV.u)
 |[],_=>rfl
 |v::vs,i=>by simp only[Ayf,List.map_cons,slotsOf,slU,Bi1 vs (i+1)]
theorem Bnr: ∀(l:List TO) (i:Nat),(A1z i l).map hpU=P6 i (l.map TO.u)
 |[],_=>rfl
 |v::vs,i=>by simp only[A1z,List.map_cons,P6,hpU,Bnr vs (i+1)]
theorem A5n: ∀{l:List TV} {i:Nat} {p:Nat×TV},p∈Ayf i l→p.2∈l
 |v::vs,i,p,h=>by
  simp only[Ayf] at h
  rcases List.mem_cons.1 h with rfl|h
  ·exact List.mem_cons_self
  ·exact List.mem_cons_of_mem _ (A5n h)
theorem Br4(fr:Fr)(args:List TV)(ext:List TO):(Axj fr args ext).u=enter (args.map TV.u) (ext.map TO.u):=by
 simp only[Axj,TSt.u,enter,Bi1,Bnr]
theorem Bkl(fr:Fr){args:List TV}(h: ∀w∈args,w.tame=true)(ext:List TO):Inv (Axj fr args ext):=Vx (fun p hp=>h _ (A5n hp)) _ _ _
def Bv4(σ:TSt):RV×Ty→Option TV
 |(.tmp t,_)=>some (σ.get t)
 |(.cell t agg n,ty)=>match A5u σ agg ty n (σ.ev [] (.tmp t)) with
  | .tot w []=>some w
  |_=>none
theorem Bx3{σ:TSt}(hI:Inv σ){p:RV×Ty}{w:TV}(h:Bv4 σ p=some w):Auz A2w σ.u p.1=some w.u:=by
 obtain⟨rv,ty⟩:=p
 cases rv with
 |tmp t=>cases h;simp only[Auz,Bam]
 |cell t agg n=>
  simp only[Bv4] at h
  split at h
  ·rename_i w' e
   cases h
   have hg:(A5u σ agg ty n (σ.ev [] (.tmp t))).gives (w,[]):=by rw[e];rfl
   obtain⟨h1,_⟩:=Axu (d:=0) hI Adl hg
   simp only[Auz,h1 A2w];rfl
  ·cases h
theorem Bts{σ:TSt}(hI:Inv σ): ∀{l:List (RV×Ty)} {ws:List TV},El (Bv4 σ) l=some ws→Aip A2w σ.u (l.map (·.1))=some (ws.map TV.u)
 |[],_,h=>by cases h;rfl
 |p::l,r,h=>by
  obtain⟨b,r',h1,h2,rfl⟩:=G8 h
  simp only[List.map_cons,Aip,Bx3 hI h1,Bts hI h2]
def outT(f:Key→Option Key)(σ:TSt)(k:Key):Option (Option TO):=match σ.look k with
 |none=>some none
 |some o=>match o.nm f with
  |some o'=>some (some o')
  |none=>none
theorem Btj{f:Key→Option Key}{σ:TSt}{k:Key}{o:Option TO}(h:outT f σ k=some o):o.map TO.u=(σ.u.look k).map (Al.nm f):=by
 unfold outT at h
 split at h
 ·rename_i e;cases h;rw[H6 e];rfl
 ·rename_i o' e
  split at h
  ·rename_i o2 e2;cases h;rw[A9 e];simp only[Option.map_some,TO.nm_u e2]
  ·cases h
def Bxy:List TV→TV
 |[w]=>w
 |ws=> .tup ws
def Axq(f:TFd)(ne:Nat)(σ:TSt):Option Hm:=match El (Bv4 σ) f.res with
 |some ws=>match (Bxy ws).nm (toR f.out) with
  |some v=>match El (outT (toR f.out) σ) f.out with
   |some rows=>match El (outT (toR f.out) σ) ((List.range ne).map .ext) with
    |some ext=>some ⟨v,rows,ext⟩
    |none=>none
   |none=>none
  |none=>none
 |none=>none
theorem Bxz(ws:List TV):(Bxy ws).u=Bin (ws.map TV.u):=by
 cases ws with
 |nil=>rfl
 |cons w ws=>
  cases ws with
  |nil=>rfl
  |cons w' ws=>simp only[Bxy,TV.u,Jc,List.map_cons,Bin]
theorem Bs7{f:TFd}{ne:Nat}{σ:TSt}(hI:Inv σ){r:Hm}(h:Axq f ne σ=some r):Bga A2w f.fd ne σ.u=some r.u:=by
 unfold Axq at h
 split at h
 ·rename_i ws e1
  split at h
  ·rename_i v e2
   split at h
   ·rename_i rows e3
    split at h
    ·rename_i ext e4
     cases h
     have h1:=Bts hI e1
     have h2:=nm_u _ _ e2
     have h3:rows.map (Option.map TO.u)=f.out.map fun k=>(σ.u.look k).map (Al.nm (toR f.out)):=by
      have:=Iq (g:=fun k:Key=>k) (g':=Option.map TO.u) (F:=fun k=>(σ.u.look k).map (Al.nm (toR f.out))) (fun a b e=>Btj e) e3
      simpa using this
     have h4:ext.map (Option.map TO.u)=(List.range ne).map fun i=>(σ.u.look (.ext i)).map (Al.nm (toR f.out)):=by
      have:=Iq (g:=fun k:Key=>k) (g':=Option.map TO.u) (F:=fun k=>(σ.u.look k).map (Al.nm (toR f.out))) (fun a b e=>Btj e) e4
      rw[this,List.map_map,List.map_map];rfl
     simp only[Bga,TFd.fd,h1,Hm.u,h2,h3,h4,Bxz]
    ·cases h
   ·cases h
  ·cases h
 ·cases h
structure RS where
 v:VS
 rows:List (Option OS)
 ext:List (Option OS)
 ts:List Ty
 p:List Nat
 q:List Nat
def Aiy:List TO→List (Option OS)→List (Option TO)→Option (List TV)
 |_,[],[]=>some []
 |bs,none::cs,none::ws=>Aiy bs.tail cs ws
 |bs,some c::cs,some w::ws=>match c.flat bs.head? w with
  |some l=>match Aiy bs.tail cs ws with
   |some r=>some (l++r)
   |none=>none
  |none=>none
 |_,_,_=>none
def Axx:List TO→List (Option OS)→List TV→List (Option TO)×List TV
 |_,[],r=>([],r)
 |bs,none::cs,r=>(none::(Axx bs.tail cs r).1,(Axx bs.tail cs r).2)
 |bs,some c::cs,r=>(some (c.mk' bs.head? r).1::(Axx bs.tail cs (c.mk' bs.head? r).2).1,(Axx bs.tail cs (c.mk' bs.head? r).2).2)
theorem Bov{α:Type}(l:List α)(i:Nat):l.tail[i]? =l[i+1]? :=by cases l<;>simp
theorem Ad8: ∀{bs:List TO} {cs:List (Option OS)} {ws:List (Option TO)} {l:List TV},Aiy bs cs ws=some l→(∀(i:Nat) (c:OS) (w:TO),cs[i]? =some (some c)→ws[i]? =some (some w)→c.old=true→Hi bs[i]? (some w))→l.all TV.isV=true∧ ∀r,(Axx bs cs (l++r)).1.map (Option.map TO.u)=ws.map (Option.map TO.u)∧(Axx bs cs (l++r)).2=r
 |bs,[],[],l,h,_=>by simp only[Aiy] at h;cases h;exact⟨rfl,fun r=>⟨rfl,rfl⟩⟩
 |bs,[],_::_,l,h,_=>by simp only[Aiy] at h;cases h
 |bs,c::cs,[],l,h,_=>by cases c<;>simp only[Aiy] at h<;>cases h
 |bs,none::cs,none::ws,l,h,H=>by
  simp only[Aiy] at h
  obtain⟨h1,h2⟩:=Ad8 h (fun i c w hc hw ho=>by rw[Bov];exact H (i+1) c w (by simpa using hc) (by simpa using hw) ho)
  exact⟨h1,fun r=>⟨by simp only[Axx,List.map_cons,(h2 r).1],by simp only[Axx,(h2 r).2]⟩⟩
 |bs,none::cs,some w::ws,l,h,_=>by simp only[Aiy] at h;cases h
 |bs,some c::cs,none::ws,l,h,_=>by simp only[Aiy] at h;cases h
 |bs,some c::cs,some w::ws,l,h,H=>by
  simp only[Aiy] at h
  split at h
  ·rename_i l1 e1
   split at h
   ·rename_i l2 e2
    cases h
    obtain⟨h1,h2⟩:=Adp e1 (fun ho=>by rw[List.head?_eq_getElem?];exact H 0 c w rfl rfl ho)
    obtain⟨h3,h4⟩:=Ad8 e2 (fun i c w hc hw ho=>by rw[Bov];exact H (i+1) c w (by simpa using hc) (by simpa using hw) ho)
    refine⟨by rw[List.all_append,h1,h3];rfl,fun r=>?_⟩
    rw[List.append_assoc]
    obtain⟨g1,g2⟩:=h2 (l2++r)
    obtain⟨g3,g4⟩:=h4 r
    exact⟨by simp only[Axx,g2,List.map_cons,Option.map_some,g1,g3],by simp only[Axx,g2,g4]⟩
   ·cases h
  ·cases h
def Bgy(s:RS)(b:List TO)(r:Hm):Option (Eh s.ts):=match s.rows.all (fun c=>match c with
 |some c=> !c.old
 |none=>true) with
 |true=>match s.v.flat r.v with
  |some x=>match Aiy [] s.rows r.rows with
   |some y=>match Aiy b s.ext r.ext with
    |some z=>Bo1 s.ts s.p s.q (x++(y++z))
    |none=>none
   |none=>none
  |none=>none
 |false=>none
def mkR(s:RS)(b:List TO)(x:Eh s.ts):Hm:=⟨(s.v.mk' (A2x s.ts s.q x)).1,(Axx [] s.rows (s.v.mk' (A2x s.ts s.q x)).2).1,(Axx b s.ext (Axx [] s.rows (s.v.mk' (A2x s.ts s.q x)).2).2).1⟩
theorem At2{s:RS}{b:List TO}{r:Hm}{x:Eh s.ts}(H: ∀(i:Nat) (c:OS) (w:TO),s.ext[i]? =some (some c)→r.ext[i]? =some (some w)→c.old=true→Hi b[i]? (some w))(h:Bgy s b r=some x):(mkR s b x).u=r.u:=by
 unfold Bgy at h
 split at h
 ·rename_i hrows
  split at h
  ·rename_i a e1
   split at h
   ·rename_i y e2
    split at h
    ·rename_i c e3
     obtain⟨h1,h2⟩:=flatS_spec _ _ _ e1
     obtain⟨h3,h4⟩:=Ad8 e2 (fun i c w hc _ ho=>by
      have:=List.all_eq_true.1 hrows _ (List.mem_of_getElem? hc)
      simp only[ho] at this;cases this)
     obtain⟨h5,h6⟩:=Ad8 e3 H
     have hl:=A53 (by rw[List.all_append,List.all_append,h1,h3,h5];rfl) h
     obtain⟨g1,g2,_⟩:=h2 (y++c)
     obtain⟨g3,g4⟩:=h4 c
     have g5:=(h6 []).1
     rw[List.append_nil] at g5
     simp only[mkR,hl,Hm.u,g1,g2,g3,g4,g5]
    ·cases h
   ·cases h
  ·cases h
 ·cases h
def Bra(s:RS):Option RS→Type
 |none=>Eh s.ts
 |some s'=>Eh s.ts⊕Eh s'.ts
def mkQ(s:RS):(s':Option RS)→List TO→Bra s s'→Hm
 |none,b,x=>mkR s b x
 |some s',b,x=>match x with
  | .inl x=>mkR s b x
  | .inr y=>mkR s' b y
def Boi(s:RS):(s':Option RS)→List TO→Hm→Option (Bra s s')
 |none,b,r=>Bgy s b r
 |some s',b,r=>match Bgy s b r with
  |some x=>some (.inl x)
  |none=>match Bgy s' b r with
   |some y=>some (.inr y)
   |none=>none
def RS.olds(s:RS)(s':Option RS)(i:Nat):Prop:=(∃c,s.ext[i]? =some (some c)∧c.old=true)∨ ∃s2,s'=some s2∧ ∃c,s2.ext[i]? =some (some c)∧c.old=true
theorem Blg{s:RS}{s':Option RS}{b:List TO}{r:Hm}{x:Bra s s'}(H: ∀(i:Nat) (w:TO),r.ext[i]? =some (some w)→s.olds s' i→Hi b[i]? (some w))(h:Boi s s' b r=some x):(mkQ s s' b x).u=r.u:=by
 cases s' with
 |none=>exact At2 (fun i c w h1 h2 h3=>H i w h2 (.inl ⟨c,h1,h3⟩)) h
 |some s2=>
  simp only[Boi] at h
  split at h
  ·rename_i y e
   cases h
   exact At2 (fun i c w h1 h2 h3=>H i w h2 (.inl ⟨c,h1,h3⟩)) e
  ·split at h
   ·rename_i y e
    cases h
    exact At2 (fun i c w h1 h2 h3=>H i w h2 (.inr ⟨s2,rfl,c,h1,h3⟩)) e
   ·cases h
structure Ent where
 ps:List VS
 xs:List OS
 ts:List Ty
 rs:RS
 alt:Option RS
 f:Eh ts→Option (Bra rs alt)
def A9b:List OS→List TO→Option (List TV)
 |[],[]=>some []
 |c::cs,w::ws=>match (match c.old with
  |true=>none
  |false=>c.flat none w) with
  |some l=>match A9b cs ws with
   |some r=>some (l++r)
   |none=>none
  |none=>none
 |_,_=>none
def mkX:List OS→List TV→List TO
 |[],_=>[]
 |c::cs,r=>(c.mk' none r).1::mkX cs (c.mk' none r).2
theorem A10: ∀{cs:List OS} {ws:List TO} {l:List TV},A9b cs ws=some l→l.all TV.isV=true∧ ∀r,(mkX cs (l++r)).map TO.u=ws.map TO.u
 |[],[],l,h=>by cases h;exact⟨rfl,fun r=>rfl⟩
 |[],_::_,l,h=>by simp only[A9b] at h;cases h
 |_::_,[],l,h=>by simp only[A9b] at h;cases h
 |c::cs,w::ws,l,h=>by
  simp only[A9b] at h
  split at h
  ·rename_i l1 e0
   have hold:c.old=false:=by cases ho:c.old with
    |false=>rfl
    |true=>rw[ho] at e0;cases e0
   have e1:c.flat none w=some l1:=by rw[hold] at e0;exact e0
   split at h
   ·rename_i l2 e2
    cases h
    obtain⟨h1,h2⟩:=Adp e1 (fun ho=>by rw[hold] at ho;cases ho)
    obtain⟨h3,h4⟩:=A10 e2
    refine⟨by rw[List.all_append,h1,h3];rfl,fun r=>?_⟩
    rw[List.append_assoc]
    obtain⟨g1,g2⟩:=h2 (l2++r)
    simp only[mkX,g2,List.map_cons,g1]
    congr 1
    exact h4 r
   ·cases h
  ·cases h
def Btl(e:Ent)(args:List TV)(ext:List TO):Option (Eh e.ts):=match flatL e.ps args with
 |some a=>match A9b e.xs ext with
  |some b=>toN e.ts (a++b)
  |none=>none
 |none=>none
def A82(e:Ent)(x:Eh e.ts):List TV:=(mkL e.ps (ofN e.ts x)).1
def Aq0(e:Ent)(x:Eh e.ts):List TO:=mkX e.xs (mkL e.ps (ofN e.ts x)).2
theorem Blf{e:Ent}{args:List TV}{ext:List TO}{x:Eh e.ts}(h:Btl e args ext=some x):(A82 e x).map TV.u=args.map TV.u∧(Aq0 e x).map TO.u=ext.map TO.u:=by
 unfold Btl at h
 split at h
 ·rename_i a e1
  split at h
  ·rename_i b e2
   obtain⟨h1,h2,_⟩:=flatV_spec _ _ _ e1
   obtain⟨h3,h4⟩:=A10 e2
   have hl:=Buu (by rw[List.all_append,h1,h3];rfl) h
   have g:=h2 b
   have g4:=h4 []
   rw[List.append_nil] at g4
   unfold A82 Aq0
   rw[hl,g.2]
   exact⟨g.1,g4⟩
  ·cases h
 ·cases h
def Ent.ok(P:Program)(g:FuncId)(e:Ent):Prop:= ∀x r,e.f x=some r→Bp P g ((A82 e x).map TV.u) ((Aq0 e x).map TO.u) (mkQ e.rs e.alt (Aq0 e x) r).u
def frX:Nat→List (Option OS)→List Key
 |_,[]=>[]
 |i,c::cs=>match (match c with
  |some c=>c.old
  |none=>false) with
  |true=> .ext i::frX (i+1) cs
  |false=>frX (i+1) cs
def Ent.fr(e:Ent):Fr:=⟨[],frX 0 e.rs.ext++match e.alt with
 |none=>[]
 |some s=>frX 0 s.ext⟩
noncomputable def Bza(T:Tab)(f:TFd)(e:Ent)(x:Eh e.ts):Option (Bra e.rs e.alt):=
 den T f.body (Axj e.fr (A82 e x) (Aq0 e x)) fun ex σ=>match ex with
  | .exit _=>none
  |_=>match Axq f (Aq0 e x).length σ with
   |some r=>Boi e.rs e.alt (Aq0 e x) r
   |none=>none
theorem Bbd: ∀{cs:List (Option OS)} {n i:Nat} {c:OS},cs[i]? =some (some c)→c.old=true→Key.ext (n+i)∈frX n cs
 |[],_,_,_,h,_=>by simp at h
 |c'::cs,n,0,c,h,ho=>by
  simp only[List.getElem?_cons_zero,Option.some.injEq] at h
  subst h
  simp only[frX,ho]
  exact List.mem_cons_self
 |c'::cs,n,i+1,c,h,ho=>by
  have ih:=Bbd (n:=n+1) (cs:=cs) (i:=i) (by simpa using h) ho
  have e:n+(i+1)=n+1+i:=by omega
  rw[e]
  simp only[frX]
  split
  ·exact List.mem_cons_of_mem _ ih
  ·exact ih
theorem Bfx: ∀(l:List TO) (n i:Nat),B0 (A1z n l) (.ext (n+i))=l[i]?
 |[],_,_=>rfl
 |o::l,n,0=>by simp[A1z,B0]
 |o::l,n,i+1=>by
  have e:n+(i+1)=n+1+i:=by omega
  have hne: ¬(Key.ext n=Key.ext (n+(i+1))):=by intro h;injection h with h;omega
  simp only[A1z,B0,if_neg hne]
  rw[e,Bfx l (n+1) i];simp
theorem A9r{α β:Type}{f:α→Option β}: ∀{l:List α} {r:List β} {i:Nat} {b:β},El f l=some r→r[i]? =some b→ ∃a,l[i]? =some a∧f a=some b
 |[],_,_,_,h,e=>by cases h;simp at e
 |a::l,r,i,b,h,e=>by
  obtain⟨b',r',h1,h2,rfl⟩:=G8 h
  cases i with
  |zero=>simp at e;subst e;exact⟨a,rfl,h1⟩
  |succ i=>simp at e;obtain⟨a',h3,h4⟩:=A9r h2 e;exact⟨a',by simpa using h3,h4⟩
theorem Bk0{f:TFd}{ne:Nat}{σ:TSt}{r:Hm}(h:Axq f ne σ=some r){i:Nat}{w:TO}(hw:r.ext[i]? =some (some w)): ∃o,σ.look (.ext i)=some o∧Hi (some o) (some w):=by
 unfold Axq at h
 split at h
 ·split at h
  ·split at h
   ·split at h
    ·rename_i ext e4
     cases h
     obtain⟨k,hk,ho⟩:=A9r e4 hw
     simp only[List.getElem?_map,Option.map_eq_some_iff] at hk
     obtain⟨j,hj,rfl⟩:=hk
     have:j=i:=by
      rw[List.getElem?_range (by
       have:=(List.getElem?_eq_some_iff.1 hj).1
       simpa using this)] at hj
      exact(Option.some.inj hj).symm
     subst this
     unfold outT at ho
     split at ho
     ·cases ho
     ·rename_i o e
      split at ho
      ·rename_i o' e2
       cases ho
       exact⟨o,e,Bvp e2⟩
      ·cases ho
    ·cases h
   ·cases h
  ·cases h
 ·cases h
theorem Bvu: ∀(s:VS) (l:List TV),l.all TV.isV=true→(s.mk' l).1.tame=true
 | .ty _,[],_| .nils,_,_| .ptr _ _,_,_| .own _,_,_| .mp _,_,_| .agg _ _,_,_| .tup _,_,_| .fn _ _,_,_| .fnc _,_,_| .nilFn,_,_| .iv _ _,[],_| .ic _ _,_,_| .dead,_,_=>rfl
 | .ty _,w::r,h=>by
  simp only[List.all_cons,Bool.and_eq_true] at h
  simp only[VS.mk']
  cases w<;>first|rfl|cases h.1
 | .iv _ o,w::r,h=>by
  simp only[VS.mk']
  split<;>rfl
theorem Bvt: ∀(s:VS) (l:List TV),l.all TV.isV=true→(s.mk' l).2.all TV.isV=true:=by
 have key: ∀n:Nat,∀(l:List TV),l.all TV.isV=true→(l.drop n).all TV.isV=true:=fun n l h=>List.all_eq_true.2 fun x hx=>List.all_eq_true.1 h x (List.mem_of_mem_drop hx)
 intro s
 refine VS.rec (motive_1:=fun s=> ∀l:List TV,l.all TV.isV=true→(s.mk' l).2.all TV.isV=true) (motive_2:=fun cs=> ∀l:List TV,l.all TV.isV=true→(mkL cs l).2.all TV.isV=true) ?_ ?_ ?_ ?_ ?_ ?_ ?_ ?_ ?_ ?_ ?_ ?_ ?_ ?_ ?_ s
 ·intro t l h
  cases l with
  |nil=>rfl
  |cons w r=>simp only[List.all_cons,Bool.and_eq_true] at h;exact h.2
 ·exact fun l h=>h
 ·exact fun _ _ l h=>h
 ·exact fun _ l h=>h
 ·exact fun _ l h=>h
 ·exact fun t cs ih l h=>ih l h
 ·exact fun cs ih l h=>ih l h
 ·exact fun f cs ih l h=>ih l h
 ·exact fun _ l h=>h
 ·exact fun l h=>h
 ·intro t o l h
  cases l with
  |nil=>rfl
  |cons w r=>simp only[List.all_cons,Bool.and_eq_true] at h;exact h.2
 ·exact fun cs o ih l h=>ih l h
 ·exact fun l h=>h
 ·exact fun l h=>h
 ·intro c cs ih1 ih2 l h
  simp only[mkL]
  exact ih2 _ (ih1 l h)
theorem Bgs: ∀(cs:List VS) (l:List TV),l.all TV.isV=true→ ∀w∈(mkL cs l).1,w.tame=true
 |[],_,_,w,hw=>by simp[mkL] at hw
 |c::cs,l,h,w,hw=>by
  simp only[mkL] at hw
  rcases List.mem_cons.1 hw with rfl|hw
  ·exact Bvu c l h
  ·exact Bgs cs _ (Bvt c l h) w hw
theorem Bwy: ∀(ts:List Ty) (x:Eh ts),(ofN ts x).all TV.isV=true
 |[],_=>rfl
 |t::ts,x=>by simp only[ofN,List.all_cons,TV.isV,Bwy ts _,Bool.and_self]
theorem Au(hm:P.follows .mixedOrders=true){g:FuncId}{fn:Func}(hf:P.funcs[g]? =some fn){fd:TFd}(hag:Bj2 P fn fd.fd=true)(hT:Vw P T){e:Ent}(hn:(e.ps.length==fd.np)=true)(h: ∀x,Bza T fd e x=e.f x):Ent.ok P g e:=by
 intro x r hr
 rw[←h] at hr
 obtain⟨ex,σ,g1⟩:=Bpk hT fd.body (Bkl e.fr (Bgs _ _ (Bwy _ _)) _) hr
 have h2:=g1.k
 have key:(ex= .norm∨ex= .ret)∧ ∃r',Axq fd (Aq0 e x).length σ=some r'∧Boi e.rs e.alt (Aq0 e x) r'=some r:=by
  cases ex with
  |exit j=>cases h2
  |norm=>
   simp only at h2
   split at h2
   ·rename_i r' e';exact⟨.inl rfl,r',e',h2⟩
   ·cases h2
  |ret=>
   simp only at h2
   split at h2
   ·rename_i r' e';exact⟨.inr rfl,r',e',h2⟩
   ·cases h2
 obtain⟨hex,r',h3,h4⟩:=key
 rw[Blg (fun i w hw ho=>by
  obtain⟨o,h5,h6⟩:=Bk0 h3 hw
  have hm:Key.ext i∈e.fr.k:=by
   rcases ho with⟨c,hc,ho⟩|⟨s2,e2,c,hc,ho⟩
   ·have:=Bbd (n:=0) hc ho
    rw[Nat.zero_add] at this
    exact List.mem_append_left _ this
   ·have:=Bbd (n:=0) hc ho
    rw[Nat.zero_add] at this
    unfold Ent.fr
    rw[e2]
    exact List.mem_append_right _ this
  have h7:=g1.st.2 (.ext i) (Bve g1.st hm)
  have h8:TSt.look (Axj e.fr (A82 e x) (Aq0 e x)) (.ext i)=(Aq0 e x)[i]? :=by have:=Bfx (Aq0 e x) 0 i;rw[Nat.zero_add] at this;exact this
  have h7:Hi (TSt.look (Axj e.fr (A82 e x) (Aq0 e x)) (.ext i)) (σ.look (.ext i)):=h7
  rw[h8,h5] at h7
  exact h7.trans h6) h4]
 have hlen: ∀(cs:List VS) (l:List TV),(mkL cs l).1.length=cs.length:=by
  intro cs
  induction cs with
  |nil=>intro l;rfl
  |cons c cs ih=>intro l;simp only[mkL,List.length_cons,ih]
 refine Bfq hm hf hag (by rw[List.length_map];exact(hlen _ _).trans (eq_of_beq hn)) (by rw[←Br4];exact g1.ev) hex ?_
 rw[List.length_map]
 exact Bs7 g1.inv h3
def Ent.run(e:Ent)(args:List TV)(ext:List TO):Option RAn:=match Btl e args ext with
 |some x=>some (match e with
  |⟨ps,xs,ts,rs,none,f⟩=> .par (Eh rs.ts) (Byj rs.ts) (f x) (mkR rs (Aq0 ⟨ps,xs,ts,rs,none,f⟩ x))
  |⟨ps,xs,ts,rs,some s,f⟩=> .alt (Eh rs.ts) (Eh s.ts) (f x) (mkR rs (Aq0 ⟨ps,xs,ts,rs,some s,f⟩ x)) (mkR s (Aq0 ⟨ps,xs,ts,rs,some s,f⟩ x)))
 |none=>none
def Bud(l:List (FuncId×Ent))(g:FuncId)(args:List TV)(ext:List TO):RAn:=match l with
 |[]=> .no
 |p::l=>match p.1==g with
  |true=>match p.2.run args ext with
   |some r=>r
   |none=>Bud l g args ext
  |false=>Bud l g args ext
structure Dyn where
 ps:List VS
 ts:List Ty
 rs:RS
 f:Nat→Eh ts→Option (Eh rs.ts)
def Dyn.ent(y:Dyn)(g:Nat):Ent:=⟨y.ps,[],y.ts,y.rs,none,y.f g⟩
def Bwk(l:List Dyn)(g:Nat)(args:List TV):RAn:=match l with
 |[]=> .no
 |y::l=>match (y.ent g).run args [] with
  |some r=>r
  |none=>Bwk l g args
def tab(l:List (FuncId×Ent))(y:List Dyn):Tab:=⟨fun b=>Bud (l.filter (fun p=>p.2.rs.rows.isEmpty==b)++l),Bwk y⟩
theorem Btz{g:FuncId}{e:Ent}(h:e.ok P g){args:List TV}{ext:List TO}{a:RAn}{r:Hm}(hr:e.run args ext=some a)(hg:a.gives r):Bp P g (args.map TV.u) (ext.map TO.u) r.u:=by
 unfold Ent.run at hr
 split at hr
 ·rename_i x hx
  cases hr
  obtain⟨h2,h3⟩:=Blf hx
  rw[←h2,←h3]
  obtain⟨ps,xs,ts,rs,alt,f⟩:=e
  cases alt with
  |none=>
   obtain⟨y,h1,rfl⟩:=hg
   exact h x y h1
  |some s=>
   obtain⟨y,h1,h4⟩:=hg
   cases y with
   |inl y=>subst h4;exact h x _ h1
   |inr y=>subst h4;exact h x _ h1
 ·cases hr
def Asd(P:Program):List (FuncId×Ent)→Prop
 |[]=>True
 |p::l=>p.2.ok P p.1∧Asd P l
def Bq6(P:Program):List Dyn→Prop
 |[]=>True
 |y::l=>(∀g,(y.ent g).ok P g)∧Bq6 P l
theorem Asd.mem: ∀{l:List (FuncId×Ent)},Asd P l→ ∀p∈l,p.2.ok P p.1
 |_::_,h,p,hp=>by
  rcases List.mem_cons.1 hp with rfl|hp
  ·exact h.1
  ·exact Asd.mem h.2 p hp
theorem Asd.of: ∀{l:List (FuncId×Ent)},(∀p∈l,p.2.ok P p.1)→Asd P l
 |[],_=>trivial
 |p::l,h=>⟨h p (by simp),Asd.of fun q hq=>h q (by simp[hq])⟩
theorem Ak{l:List (FuncId×Ent)}{y:List Dyn}(h:Asd P l)(hy:Bq6 P y):Vw P (tab l y):=by
 constructor
 ·intro b g args ext r hr
  show Bp P g _ _ _
  have hr:(Bud (l.filter (fun p=>p.2.rs.rows.isEmpty==b)++l) g args ext).gives r:=hr
  have h:Asd P (l.filter (fun p=>p.2.rs.rows.isEmpty==b)++l):=Asd.of fun p hp=>by
   rcases List.mem_append.1 hp with hp|hp
   ·exact h.mem p (List.mem_filter.1 hp).1
   ·exact h.mem p hp
  generalize l.filter (fun p=>p.2.rs.rows.isEmpty==b)++l=l at h hr
  induction l with
  |nil=>cases hr
  |cons p l ih=>
   simp only[Bud] at hr
   split at hr
   ·rename_i hg
    have hg:=eq_of_beq hg
    subst hg
    split at hr
    ·rename_i a ha;exact Btz h.1 ha hr
    ·exact ih h.2 hr
   ·exact ih h.2 hr
 ·intro g args r hr
  have hr:(Bwk y g args).gives r:=hr
  induction y with
  |nil=>cases hr
  |cons p l ih=>
   simp only[Bwk] at hr
   split at hr
   ·rename_i a ha
    exact Btz (ext:=[]) (hy.1 g) ha hr
   ·exact ih hy.2 hr hr
end
end Go.Av
end
section
namespace Go.Av
def oo(d:Nat)(op:AOp):TOp:=⟨⟨some d,none,op⟩,.bool,.bool⟩
def ot(d:Nat)(t:Ty)(op:AOp):TOp:=⟨⟨some d,none,op⟩,t,.bool⟩
def om(d:Nat)(t t2:Ty)(op:AOp):TOp:=⟨⟨some d,none,op⟩,t,t2⟩
def on(op:AOp):TOp:=⟨⟨none,none,op⟩,.bool,.bool⟩
def og(d g:Nat)(b:Bool)(t:Ty)(op:AOp):TOp:=⟨⟨some d,some (g,b),op⟩,t,.bool⟩
end Go.Av
end
