import Derived.KernelRfl
import Derived.Test.YtgmiodjnojkdkaaGreatDoorC8
set_option linter.all false
section
namespace Go.Av
theorem Bf0{P:Program}{C:Ctx}{ro:Option Nat}{n:Nat}{ops:Array Oper}{Q:Exit→Act→World→Prop}{l':List GOp}{σ σ':St}(hr:A3r P l' σ σ'): ∀{l:List Oper} {β:Key→Blk} {a:Act} {w:World},RR C β σ a w→Cu (G6 P C.nt ops) l l'=true→
  (∀β' a' w',RR C β' σ' a' w'→Q .normal a' w')→wpListIn (fr ro) n P ops Q l a w:=by
 induction hr with
 |nil σ=>
  intro l β a w h hag hQ
  cases l with
  |nil=>exact wpListIn_nil (hQ β a w h)
  |cons o l=>simp[Cu] at hag
 | @cons cl g os σ σ1 σ' hS hs _ ih=>
  intro l β a w h hag hQ
  cases l with
  |nil=>simp[Cu] at hag
  |cons o l=>
   simp only[Cu,Bool.and_eq_true] at hag
   refine wpListIn_step (fun K hK=>?_)
   refine A4f (fun hw c hc=>?_) (Aod hS h hag.1 hs (fun β' a' w' h'=>hK _ _ (ih h' hag.2 hQ)) Q)
   obtain⟨h1,_,_,h4⟩:=Mr hag.1
   rw[hc] at h1
   have hst:=Ard h1
   unfold step at hs
   cases hwt:σ.wants g.g with
   |none=>rw[hwt] at hs;cases hs
   |some b=>
    rw[Qm h h4 hwt] at hw
    subst hw
    simp[hwt,hst,AOp.isB,Alt,Au] at hs
inductive Ev (P:Program):AC→St→Ex→St→Prop
 |skip (σ:St):Ev P .skip σ .norm σ
 |ops {l:List GOp} {σ σ':St} (h:A3r P l σ σ'):Ev P (.ops l) σ .norm σ'
 |draw {cl:Callee} {ks:List Key} {l:List GOp} {σ σ':St} (hS:Oc P cl) (h:Md cl true l (σ.killAll ks)=some σ'):Ev P (.draw ks l) σ .norm σ'
 |drawZ {cl:Callee} {ks:List Key} {l l2:List GOp} {σ σ' σ2:St} (hS:Oc P cl) (hI: ∀g∈l,∀f sz by' x i y,g.op= .ins f sz by' x i y→Boo P f sz by') (h:Md cl true l (σ.killAll ks)=some σ') (hz:zOK σ' l=true) (h2:A3r P l2 (σ'.killAll (Bij σ' l)) σ2):Ev P (.drawZ ks l l2) σ .norm σ2
 |seq {x y:AC} {σ σ1 σ':St} {ex:Ex} (h1:Ev P x σ .norm σ1) (h2:Ev P y σ1 ex σ'):Ev P (.seq x y) σ ex σ'
 |seq_out {x y:AC} {σ σ':St} {ex:Ex} (h1:Ev P x σ ex σ') (hne:ex≠ .norm):Ev P (.seq x y) σ ex σ'
 |cond {c:Opd} {x y:AC} {σ σ':St} {ex:Ex} {t:Bool} (hc:σ.ev c= .pv (.bool t)) (h:Ev P (bif t then x else y) σ ex σ'):Ev P (.cond c x y) σ ex σ'
 |block {id:Nat} {x:AC} {σ σ':St} (h:Ev P x σ .norm σ'):Ev P (.block id x) σ .norm σ'
 |block_exit {id:Nat} {x:AC} {σ σ':St} (h:Ev P x σ (.exit id) σ'):Ev P (.block id x) σ .norm σ'
 |block_out {id j:Nat} {x:AC} {σ σ':St} (h:Ev P x σ (.exit j) σ') (hne:j≠id):Ev P (.block id x) σ (.exit j) σ'
 |block_ret {id:Nat} {x:AC} {σ σ':St} (h:Ev P x σ .ret σ'):Ev P (.block id x) σ .ret σ'
 |loop {keep:List Nat} {ks:List Key} {x:AC} {σ σ1 σ':St} {ex:Ex} (h1:Ev P x ((σ.forget keep).killAll ks) .norm σ1) (h2:Ev P (.loop keep ks x) σ1 ex σ'):Ev P (.loop keep ks x) σ ex σ'
 |loop_out {keep:List Nat} {ks:List Key} {x:AC} {σ σ':St} {ex:Ex} (h1:Ev P x ((σ.forget keep).killAll ks) ex σ') (hne:ex≠ .norm):Ev P (.loop keep ks x) σ ex σ'
 |exit (id:Nat) (σ:St):Ev P (.exit id) σ (.exit id) σ
 |ret (σ:St):Ev P .ret σ .ret σ
 |keep {fz:List Key} {sl:List (Nat×Bool)} {bx:List (Key×Bool)} {dead:List Key} {up:List Up} {x:AC} {σ σ':St} {ex:Ex} (h:Ev P x (σ.tidy fz sl bx dead up) ex σ'):Ev P (.keep fz sl bx dead up x) σ ex σ'
 |pass {id:Nat} {x:AC} {σ σ':St} {ex:Ex} (h:Ev P x σ ex σ'):Ev P (.pass id x) σ ex σ'
 |post {fz:List Key} {sl:List (Nat×Bool)} {bx:List (Key×Bool)} {dead:List Key} {up:List Up} {x:AC} {σ σ':St} (h:Ev P x σ .norm σ'):Ev P (.post fz sl bx dead up x) σ .norm (σ'.tidy fz sl bx dead up)
 |post_out {fz:List Key} {sl:List (Nat×Bool)} {bx:List (Key×Bool)} {dead:List Key} {up:List Up} {x:AC} {σ σ':St} {ex:Ex} (h:Ev P x σ ex σ') (hne:ex≠ .norm):Ev P (.post fz sl bx dead up x) σ ex σ'
section
variable {P:Program} {C:Ctx}
theorem Blj{ac:AC}{σ σ':St}{ex:Ex}(he:Ev P ac σ ex σ'): ∀id,ex= .exit id→ac.exits id=true:=by
 induction he with
 |skip|ops|draw|drawZ|ret|block|block_exit|block_ret|post=>intro id e;cases e
 |seq _ _ _ ih=>intro id e;simp[AC.exits,ih id e]
 |seq_out _ _ ih=>intro id e;simp[AC.exits,ih id e]
 | @cond c x y σ σ' ex t _ _ ih=>
  intro id e
  have:=ih id e
  cases t with
  |true=>simp only[cond_true] at this;simp[AC.exits,this]
  |false=>simp only[cond_false] at this;simp[AC.exits,this]
 |block_out _ _ ih=>intro id e;exact ih id e
 |loop _ _ _ ih=>intro id e;exact ih id e
 |loop_out _ _ ih=>intro id e;exact ih id e
 |exit j σ=>intro id e;cases e;simp[AC.exits]
 |keep _ ih=>intro id e;exact ih id e
 |pass _ ih=>intro id e;exact ih id e
 |post_out _ _ ih=>intro id e;exact ih id e
theorem Auc{nt:Nat}{c:Code}{fz:List Key}{sl:List (Nat×Bool)}{bx:List (Key×Bool)}{dead:List Key}{up:List Up}{x:AC}(h:A4 P nt c (.keep fz sl bx dead up x)=true):(∀u∈up,∀i,u.key≠ .ext i)∧A4 P nt c x=true:=by
 have h:(up.all (fun u=>u.key.noExt)&&A4 P nt c x)=true:=by
  cases c<;>exact h
 simp only[Bool.and_eq_true] at h
 exact⟨fun u hu i e=>absurd (List.all_eq_true.1 h.1 _ hu) (by rw[e];simp[Key.noExt]),h.2⟩
theorem Agq{nt:Nat}{c:Code}{fz:List Key}{sl:List (Nat×Bool)}{bx:List (Key×Bool)}{dead:List Key}{up:List Up}{x:AC}(h:A4 P nt c (.post fz sl bx dead up x)=true):(∀u∈up,∀i,u.key≠ .ext i)∧A4 P nt c x=true:=by
 have h:(up.all (fun u=>u.key.noExt)&&A4 P nt c x)=true:=by
  cases c<;>exact h
 simp only[Bool.and_eq_true] at h
 exact⟨fun u hu i e=>absurd (List.all_eq_true.1 h.1 _ hu) (by rw[e];simp[Key.noExt]),h.2⟩
theorem Bg0{ro:Option Nat}{n:Nat}(hm:P.follows .mixedOrders=true){id:Nat}{ops:Array Oper}{Q:Exit→Act→World→Prop}{a:Act}{w:World}{K:Act→World→Prop}(hnd: ∀(i:Nat) (o:Oper),ops.toList[i]? =some o→ ∀c,o.op≠ .defer c)
  (h: ∀Q':Exit→Act→World→Prop,(∀a w,K a w→Q' .normal a w)→wpAny P .any ops Q' ops.size (Array.replicate ops.size false) a {w with drawn:=w.drawn+1})(hK: ∀a w,K a w→Q .normal a w):(Code.region id ops true).wpIn (fr ro) n P Q a w:=by
 have h1:=h (fun e a w=>e= .normal∧K a w) (fun a w q=>⟨rfl,q⟩)
 refine wpIn_mono (wpIn_region_any hm (Bgn (fun i o ho=>hnd i o (by rw[Array.getElem?_toList];exact ho)) ?_ _ _ _ _ h1)) ?_
 ·rintro⟨a,w,e,_⟩;cases e
 ·rintro e a w ⟨rfl,q⟩;exact hK a w q
theorem Blm{ro:Option Nat}{n:Nat}(hm:P.follows .mixedOrders=true){ac:AC}{σ σ':St}{ex:Ex}(he:Ev P ac σ ex σ'): ∀(c:Code) (β:Key→Blk) (a:Act) (w:World) (Q:Exit→Act→World→Prop),A4 P C.nt c ac=true→RR C β σ a w→
  (∀β' a' w',RR C β' σ' a' w'→Q ex.to a' w')→c.wpIn (fr ro) n P Q a w∧ ∀c' keep ks x,c= .loop c'→ac= .loop keep ks x→Lp ro n P c' Q a w:=by
 induction he with
 |skip σ=>
  intro c β a w Q hag h hQ
  cases c<;>simp only[A4] at hag<;>try cases hag
  exact⟨wpIn_skip (hQ _ _ _ h),by intro _ _ _ _ e;cases e⟩
 | @ops l σ σ' hr=>
  intro c β a w Q hag h hQ
  cases c<;>(try simp only[A4] at hag)<;>try cases hag
  rename_i id ops draw
  cases draw<;>(try simp only[A4] at hag)<;>try cases hag
  exact⟨wpIn_region_list (Bf0 hr h hag hQ),by intro _ _ _ _ e;cases e⟩
 | @draw cl ks l σ σ' hS hr=>
  intro c β a w Q hag h hQ
  cases c<;>(try simp only[A4] at hag)<;>try cases hag
  rename_i id ops draw
  cases draw<;>(try simp only[A4] at hag)<;>try cases hag
  simp only[Bool.and_eq_true] at hag
  refine⟨?_,by intro _ _ _ _ e;cases e⟩
  refine Bg0 hm (Ann hag.1.1 hag.1.2) (fun Q' hQ'=>?_) (fun a w q=>q)
  rcases Bool.or_eq_true_iff.1 hag.2 with h2|h2
  ·exact Bft hm hS h2 hag.1.1 h hr (fun β' a' w' h'=>hQ' _ _ (hQ _ _ _ h'))
  ·exact Bca hm hS h2 hag.1.1 h hr (fun β' a' w' h'=>hQ' _ _ (hQ _ _ _ h'))
 | @drawZ cl ks l l2 σ σ' σ2 hS hI hr hz hr2=>
  intro c β a w Q hag h hQ
  cases c<;>(try simp only[A4] at hag)<;>try cases hag
  rename_i id ops draw
  cases draw<;>(try simp only[A4] at hag)<;>try cases hag
  simp only[Bool.and_eq_true] at hag
  refine⟨Bg0 hm (Ann hag.1.1.1.1 hag.1.1.1.2) (fun Q' hQ'=>?_) (fun a w q=>q),by intro _ _ _ _ e;cases e⟩
  exact Bcb hm hS hag.1.1.2 hag.2 hag.1.2 hI hag.1.1.1.1 h hr hz hr2 (fun β' a' w' h'=>hQ' _ _ (hQ _ _ _ h'))
 | @seq x y σ σ1 σ' ex _ _ ih1 ih2=>
  intro c β a w Q hag h hQ
  cases c<;>simp only[A4] at hag<;>try cases hag
  simp only[Bool.and_eq_true] at hag
  refine⟨wpIn_seq ?_,by intro _ _ _ _ e;cases e⟩
  exact(ih1 _ β a w _ hag.1 h (fun β' a' w' h'=>(ih2 _ β' a' w' Q hag.2 h' hQ).1)).1
 | @seq_out x y σ σ' ex _ hne ih=>
  intro c β a w Q hag h hQ
  cases c<;>simp only[A4] at hag<;>try cases hag
  simp only[Bool.and_eq_true] at hag
  refine⟨wpIn_seq ?_,by intro _ _ _ _ e;cases e⟩
  refine(ih _ β a w _ hag.1 h (fun β' a' w' h'=>?_)).1
  have:=hQ β' a' w' h'
  cases ex with
  |norm=>exact absurd rfl hne
  |exit id=>exact this
  |ret=>exact this
 | @cond c' x y σ σ' ex t ht _ ih=>
  intro c β a w Q hag h hQ
  cases c<;>simp only[A4] at hag<;>try cases hag
  simp only[Bool.and_eq_true] at hag
  have hs:=h.ev hag.1.1
  rw[ht] at hs
  refine⟨wpIn_cond (Ajo (Bb hs)) ?_,by intro _ _ _ _ e;cases e⟩
  cases t with
  |true=>exact(ih _ β a w Q hag.1.2 h hQ).1
  |false=>exact(ih _ β a w Q hag.2 h hQ).1
 | @block id x σ σ' _ ih=>
  intro c β a w Q hag h hQ
  cases c<;>simp only[A4] at hag<;>try cases hag
  simp only[Bool.and_eq_true,beq_iff_eq] at hag
  obtain⟨rfl,hag⟩:=hag
  exact⟨wpIn_block (ih _ β a w (Exit.inBlock _ Q) hag h (fun β' a' w' h'=>hQ β' a' w' h')).1,by intro _ _ _ _ e;cases e⟩
 | @block_exit id x σ σ' _ ih=>
  intro c β a w Q hag h hQ
  cases c<;>simp only[A4] at hag<;>try cases hag
  simp only[Bool.and_eq_true,beq_iff_eq] at hag
  obtain⟨rfl,hag⟩:=hag
  refine⟨wpIn_block (ih _ β a w _ hag h (fun β' a' w' h'=>?_)).1,by intro _ _ _ _ e;cases e⟩
  simp only[Ex.to,Exit.inBlock,if_true]
  exact hQ _ _ _ h'
 | @block_out id j x σ σ' _ hne ih=>
  intro c β a w Q hag h hQ
  cases c<;>simp only[A4] at hag<;>try cases hag
  simp only[Bool.and_eq_true,beq_iff_eq] at hag
  obtain⟨rfl,hag⟩:=hag
  refine⟨wpIn_block (ih _ β a w _ hag h (fun β' a' w' h'=>?_)).1,by intro _ _ _ _ e;cases e⟩
  simp only[Ex.to,Exit.inBlock]
  rw[if_neg hne]
  exact hQ _ _ _ h'
 | @block_ret id x σ σ' _ ih=>
  intro c β a w Q hag h hQ
  cases c<;>simp only[A4] at hag<;>try cases hag
  simp only[Bool.and_eq_true,beq_iff_eq] at hag
  obtain⟨rfl,hag⟩:=hag
  exact⟨wpIn_block (ih _ β a w (Exit.inBlock _ Q) hag h (fun β' a' w' h'=>hQ β' a' w' h')).1,by intro _ _ _ _ e;cases e⟩
 | @loop keep ks x σ σ1 σ' ex _ _ ih1 ih2=>
  intro c β a w Q hag h hQ
  cases c<;>simp only[A4] at hag<;>try cases hag
  rename_i c1
  have hag0:=hag
  have hl:Lp ro n P c1 Q a w:=by
   refine A9u ?_
   exact(ih1 _ β a w _ hag ((h.forget keep).killAll ks) (fun β' a' w' h'=>(ih2 (.loop c1) β' a' w' Q (by simpa only[A4] using hag0) h' hQ).2 c1 keep ks x rfl rfl)).1
  refine⟨Bq8 hl,fun c' keep' ks' x e1 e2=>?_⟩
  cases e1;exact hl
 | @loop_out keep ks x σ σ' ex _ hne ih=>
  intro c β a w Q hag h hQ
  cases c<;>simp only[A4] at hag<;>try cases hag
  rename_i c1
  have hl:Lp ro n P c1 Q a w:=by
   refine A9u ?_
   refine(ih _ β a w _ hag ((h.forget keep).killAll ks) (fun β' a' w' h'=>?_)).1
   have:=hQ β' a' w' h'
   cases ex with
   |norm=>exact absurd rfl hne
   |exit id=>exact this
   |ret=>exact this
  refine⟨Bq8 hl,fun c' keep' ks' x e1 e2=>?_⟩
  cases e1;exact hl
 |exit id σ=>
  intro c β a w Q hag h hQ
  cases c<;>simp only[A4] at hag<;>try cases hag
  simp only[beq_iff_eq] at hag
  subst hag
  exact⟨wpIn_exit (hQ _ _ _ h),by intro _ _ _ _ e;cases e⟩
 |ret σ=>
  intro c β a w Q hag h hQ
  cases c<;>simp only[A4] at hag<;>try cases hag
  exact⟨wpIn_ret (hQ _ _ _ h),by intro _ _ _ _ e;cases e⟩
 | @pass id x σ σ' ex hev ih=>
  intro c β a w Q hag h hQ
  cases c<;>simp only[A4] at hag<;>try cases hag
  simp only[Bool.and_eq_true,beq_iff_eq,Bool.not_eq_true'] at hag
  obtain⟨⟨rfl,hno⟩,hag⟩:=hag
  refine⟨wpIn_block (ih _ β a w _ hag h (fun β' a' w' h'=>?_)).1,by intro _ _ _ _ e;cases e⟩
  have:=hQ β' a' w' h'
  cases ex with
  |norm=>exact this
  |ret=>exact this
  |exit j=>
   simp only[Ex.to,Exit.inBlock]
   split
   ·rename_i hj;subst hj
    rw[Blj hev _ rfl] at hno;cases hno
   ·exact this
 | @keep fz sl bx dead up x σ σ' ex _ ih=>
  intro c β a w Q hag h hQ
  obtain⟨hd,hag⟩:=Auc hag
  obtain⟨β',h'⟩:=h.tidy fz sl bx dead up hd
  exact⟨(ih c β' a w Q hag h' hQ).1,by intro _ _ _ _ _ e;cases e⟩
 | @post fz sl bx dead up x σ σ' _ ih=>
  intro c β a w Q hag h hQ
  obtain⟨hd,hag⟩:=Agq hag
  refine⟨(ih c β a w Q hag h (fun β1 a' w' h1=>?_)).1,by intro _ _ _ _ _ e;cases e⟩
  obtain⟨β2,h2⟩:=h1.tidy fz sl bx dead up hd
  exact hQ β2 a' w' h2
 | @post_out fz sl bx dead up x σ σ' ex _ hne ih=>
  intro c β a w Q hag h hQ
  obtain⟨hd,hag⟩:=Agq hag
  exact⟨(ih c β a w Q hag h hQ).1,by intro _ _ _ _ _ e;cases e⟩
def Avp:Callee:=fun _ _ _ _=>none
theorem Beg{P:Program}:Oc P Avp:=fun _ _ _ _ _ h=>by cases h
theorem A8w(hm:P.follows .mixedOrders=true){f:FuncId}{fn:Func}{fd:Fd}(hf:P.funcs[f]? =some fn)(hag:Bc7 P fn fd=true){args:List SV}{ext:List Ah}{r:Res}(hnp:args.length=fd.np){ex:Ex}{σ:St}
  (he:Ev P fd.body (enter args ext) ex σ)(hex:ex= .norm∨ex= .ret)(hl:A9h Avp fd ext.length σ=some r):Bo P f args ext r:=by
 simp only[Bc7,Bool.and_eq_true,decide_eq_true_eq,Bool.not_eq_true'] at hag
 obtain⟨⟨⟨⟨h1,h2⟩,h5⟩,h3⟩,h4⟩:=hag
 have hloc: ∀k∈fd.out,∀i,k≠ .ext i:=fun k hk i e=>by subst e;have:=List.all_eq_true.1 h5.2 _ hk;cases this
 split at h4
 ·rename_i c hc
  refine⟨⟨fn,hf,h2,by rw[hc];rfl⟩,fun w vs γ ok hok hG hinj hobj hlen hargs=>?_⟩
  refine calls_of_wp hf hc (wpIn_wide (n:=0).1 ?_)
  show Code.wpIn (fr none) 0 P _ _ _ _
  have h0:=Bli (nt:=fn.ntmps) hok hG hinj hobj hlen hargs (by omega)
  refine(Blm (C:=⟨w,ext,γ,fn.ntmps,ok,[]⟩) hm he c _ _ w _ h4 h0 (fun β' a' w' h'=>?_)).1
  obtain⟨v,δ,hr,haft⟩:=A9i h' h3 h5.1 hloc hl
  rcases hex with rfl|rfl
  ·exact⟨h'.dfs,v,hr,v,δ,rfl,haft⟩
  ·exact⟨h'.dfs,v,hr,v,δ,rfl,haft⟩
 ·cases h4
end
end Go.Av
end
section
namespace Go.Av
section
variable [Dic] {σ:TSt} {ch:List (Nat×Bool)} {P:Program} {T:Tab}
inductive An2:Type 1 where
 |no
 |tot (σ:TSt)
 |par (α:Type) (o:Option α) (g:α→Option TSt)
 |alt (α β:Type) (o:Option (α⊕β)) (f:α→Option TSt) (g:β→Option TSt)
def An2.gives:An2→TSt→Prop
 | .no,_=>False
 | .tot σ,σ'=>σ'=σ
 | .par _ o g,σ'=> ∃a,o=some a∧g a=some σ'
 | .alt _ _ o f g,σ'=> ∃j,o=some j∧(match j with
  | .inl a=>f a
  | .inr b=>g b)=some σ'
def An2.opt:Option TSt→An2
 |some σ=> .tot σ
 |none=> .no
theorem Iq{o:Option TSt}{σ':TSt}(h:(An2.opt o).gives σ'):o=some σ':=by
 cases o with
 |none=>cases h
 |some x=>cases h;rfl
def Tn(P:Program)(σ:TSt)(d:Option Nat)(op:AOp)(σ':TSt):Prop:= ∃q:Option Ask,(∀k,q=some k→d=some k.d∧k.good P∧ ∃keep m f args fz ln,op= .call keep m f args fz ln)∧ ∀cl,(∀k,q=some k→k.told cl)→Fm cl σ.u d op=some σ'.u
theorem Tn.one{d:Option Nat}{op:AOp}{σ':TSt}(h: ∀cl,Fm cl σ.u d op=some σ'.u):Tn P σ d op σ':=⟨none,fun k e=>(by cases e),fun cl _=>h cl⟩
theorem Apm{α β:Type}(f:α→β)(cs vs:List α)(off:Nat):(Cf cs off vs).map f=Cf (cs.map f) off (vs.map f):=by
 simp[Cf,List.map_append,List.map_take,List.map_drop]
def Bjv(t:Ty)(e:t.D)(off:Nat)(X:TV)(vc:List TV):Option t.D:=match t with
 | .st i=>gather (.st i) (Cf (Q7 (.st i) e) off vc)
 |t=>as1 t X
theorem Me{t:Ty}(hs:t.scal=true){e:t.D}{off:Nat}{X:TV}{z:t.D}(h:as1 t X=some z):(t.e e).setCells off X.pv=some (t.e z):=by
 rw[(Lg h).2]
 unfold PV.setCells
 split
 ·rename_i cs he
  have:=Bby hs e
  rw[he] at this;cases this
 ·rw[Bby hs z];rfl
theorem Bp6{t:Ty}{e:t.D}{off:Nat}{X:TV}{vc:List TV}{z:t.D}(hX:X.isP=true)(hv:X.cells=some vc)(h:Bjv t e off X vc=some z):(t.e e).setCells off X.pv=some (t.e z):=by
 cases t with
 |st i=>
  have hc:vc.map TV.u=X.pv.cells.map .pv:=by
   rw[←Z3 hv,Oe hX];rfl
  obtain⟨h1,h2⟩:=Qo (t:= .st i) h
  have h3:vc.all TV.isP=true:=by
   cases X<;>first|(cases hX;done)|skip
   ·simp only[TV.cells,Option.some.injEq] at hv;subst hv;exact(Gq _ _).1
   ·simp only[TV.cells,Option.some.injEq] at hv;subst hv;simp[Bn1]
  rw[Avk h3] at hc
  have hc':vc.map TV.pv=X.pv.cells:=by
   have:=congrArg (List.map (fun s=>match s with|SV.pv x=>x|_=>PV.nilI)) hc
   simpa [List.map_map,Function.comp_def] using this
  rw[Apm,(Gq (.st i) e).2,hc'] at h2
  show some (PV.agg (Cf (Cel.cl i e) off X.pv.cells))=some (PV.agg (Cel.cl i z))
  exact congrArg (fun l=>some (PV.agg l)) h2
 |int k=>exact Me (t:= .int k) rfl h
 |bool=>exact Me (t:= .bool) rfl h
 |str=>exact Me (t:= .str) rfl h
 |fn=>exact Me (t:= .fn) rfl h
 |er k=>exact Me (t:= .er k) rfl h
 |sl k=>exact Me (t:= .sl k) rfl h
 |mp k v=>exact Me (t:= .mp k v) rfl h
def newRow(σ:TSt)(k:Key)(t:Ty)(l:List t.D)(m:Int)(d:Option Nat)(z:Option t.D):Option TSt:=match z with
 |some z=>(σ.over k (.row t (l.set (Int.toNat m) z))).put d .dead
 |none=>none
def Aps(σ:TSt)(d:Option Nat)(n:Nat)(A X:TV):An2:=match X.solid with
 |false=> .no
 |true=>match X.cells with
  |none=> .no
  |some vc=>match decide (vc.length=n) with
   |false=> .no
   |true=>match A with
    | .ptr k off=>match σ.look k with
     |some (.box cs)=>match decide (off+n≤cs.length) with
      |true=> .opt ((σ.over k (.box (Cf cs off vc))).put d .dead)
      |false=> .no
     |_=> .no
    | .iown k m off t e ok=>match X.isP with
     |false=> .no
     |true=>match ok with
      |true=>match decide (off+n≤t.sz) with
       |true=>match Bjv t e off X vc with
        |some z=>match σ.look k with
         |some (.row t' l)=>if h:t=t' then .opt (newRow σ k t' l m d (some (h▸z))) else .no
         |_=> .no
        |none=> .no
       |false=> .no
      |false=>match σ.look k with
       |some (.row t' l)=>match decide (off+n≤t'.sz) with
        |true=> .par t'.D (rdO l m) fun e'=>newRow σ k t' l m d (Bjv t' e' off X vc)
        |false=> .no
       |_=> .no
    |_=> .no
theorem Inv.put_dead(hI:Inv σ){d:Option Nat}{σ':TSt}(h:σ.put d .dead=some σ'):Inv σ':=hI.put rfl h
theorem A28(hI:Inv σ){k:Key}{t:Ty}{l:List t.D}{m:Int}{off n:Nat}{e z:t.D}{X:TV}{vc:List TV}{d:Option Nat}{σ':TSt}{a x:Opd}(ha:σ.u.ev a= .iown k m.toNat off)(hx:σ.u.ev x=X.u)(hk:σ.look k=some (.row t l))(hm:l[m.toNat]? =some e)
  (hX:X.isP=true)(hv:X.cells=some vc)(hn:vc.length=n)(hb:off+n≤t.sz)(hz:Bjv t e off X vc=some z)(h:newRow σ k t l m d (some z)=some σ')(cl:Callee):Fm cl σ.u d (.store n a x)=some σ'.u∧Inv σ':=by
 have hc:X.pv.cells.length=n:=by
  have:=congrArg List.length (Z3 hv)
  rw[Oe hX] at this
  simpa [SV.cells,hn] using this
 unfold newRow at h
 refine⟨?_,(hI.over _ _).put_dead h⟩
 have h1:((List.map t.e l)[m.toNat]?)=some (t.e e):=Bhm t.e hm
 have h2:X.pv.cells.length=n∧off+n≤(t.e e).cells.length:=⟨hc,by rw[Ajf];exact hb⟩
 simp only[Fm,ha,A6 hk,TO.u,hx,Oe hX,h1,if_pos h2,Bp6 hX hv hz]
 rw[Alr h,Amj]
 simp only[TO.u,TV.u]
 congr 3
 exact(congrArg (Ah.row t.sz) (List.map_set (f:=t.e) (l:=l) (i:=m.toNat) (a:=z)).symm)
theorem Bf7(hI:Inv σ)(hc:Bp σ ch){n:Nat}{a x:Opd}{d:Option Nat}{σ':TSt}(h:(Aps σ d n (σ.ev ch a) (σ.ev ch x)).gives σ'):Tn P σ d (.store n a x) σ'∧Inv σ':=by
 have ha:=Dx hI hc a
 have hx:=Dx hI hc x
 unfold Aps at h
 split at h
 ·cases h
 ·rename_i hs
  split at h
  ·cases h
  ·rename_i vc hv
   split at h
   ·cases h
   ·rename_i hn
    have hn:=of_decide_eq_true hn
    have hvl:(σ.u.ev x).cells.length=n:=by rw[←hx,Z3 hv,List.length_map];exact hn
    split at h
    ·rename_i k off e1
     rw[e1] at ha
     split at h
     ·rename_i cs hk
      split at h
      ·rename_i hb
       have hb:=of_decide_eq_true hb
       have h:=Iq h
       refine⟨Tn.one fun cl=>?_,(hI.over _ _).put_dead h⟩
       have hsx:=A7y hs
       rw[hx] at hsx
       have e3:σ.u.ev a= .ptr k off:=ha.symm
       have hcond:(σ.u.ev x).cells.length=n∧off+n≤(cs.map TV.u).length:=⟨hvl,by simpa using hb⟩
       have hset:Cf (cs.map TV.u) off (σ.u.ev x).cells=(Cf cs off vc).map TV.u:=by rw[Apm,←Z3 hv,hx]
       simp only[Fm,e3,A6 hk,TO.u]
       split
       ·rename_i e4;rw[e4] at hsx;cases hsx
       ·rename_i e4;rw[e4] at hsx;cases hsx
       ·rw[if_pos hcond,hset,Alr h,Amj];rfl
      ·cases h
     ·cases h
    ·rename_i k m off t e ok e1
     rw[e1] at ha
     split at h
     ·cases h
     ·rename_i hX
      split at h
      ·split at h
       ·rename_i hb
        have hb:=of_decide_eq_true hb
        split at h
        ·rename_i z hz
         split at h
         ·rename_i t' l hk
          split at h
          ·rename_i ht
           subst ht
           have h:=Iq h
           obtain⟨_,l',hl',hm⟩:=Bll hI e1
           rw[hk] at hl'
           cases hl'
           have:=fun cl=>A28 hI ha.symm hx.symm hk hm hX hv hn hb hz h cl
           exact⟨Tn.one fun cl=>(this cl).1,(this Avp).2⟩
          ·cases h
         ·cases h
        ·cases h
       ·cases h
      ·split at h
       ·rename_i t' l hk
        split at h
        ·rename_i hb
         have hb:=of_decide_eq_true hb
         obtain⟨e',he',hg⟩:=h
         have hg:newRow σ k t' l m d (Bjv t' e' off (σ.ev ch x) vc)=some σ':=hg
         cases hz:Bjv t' e' off (σ.ev ch x) vc with
         |none=>rw[hz] at hg;cases hg
         |some z=>
          rw[hz] at hg
          have:=fun cl=>A28 hI ha.symm hx.symm hk (Ai1 he').2 hX hv hn hb hz hg cl
          exact⟨Tn.one fun cl=>(this cl).1,(this Avp).2⟩
        ·cases h
       ·cases h
    ·cases h
def Bnj(ty:Ty):TO→Option (List ty.D)
 | .row t l=>if h:t=ty then some (h▸l) else none
 |_=>none
theorem Bpy{ty:Ty}{o:TO}{l:List ty.D}(h:Bnj ty o=some l):o.u= .row ty.sz (List.map ty.e l):=by
 unfold Bnj at h
 split at h
 ·split at h
  ·rename_i ht;subst ht;cases h;rfl
  ·cases h
 ·cases h
def elK(ty:Ty)(σ:TSt)(k:Key):Option (List ty.D):=match σ.look k with
 |some o=>Bnj ty o
 |none=>none
theorem Bsv{ty:Ty}{k:Key}{l:List ty.D}(h:elK ty σ k=some l):σ.u.look k=some (.row ty.sz (List.map ty.e l)):=by
 unfold elK at h
 split at h
 ·rename_i o ho;rw[A6 ho,Bpy h]
 ·cases h
def elT(ty:Ty)(σ:TSt):TV→Option (List ty.D)
 | .nils=>some []
 | .own k=>elK ty σ k
 | .v t x=>as1 (.sl ty) (.v t x)
 | .c p=>as1 (.sl ty) (.c p)
 |_=>none
theorem Bsw{ty:Ty}{w:TV}{l:List ty.D}(h:elT ty σ w=some l):σ.u.elems w.u=some (List.map ty.e l):=by
 unfold elT at h
 split at h
 ·have h:l=[]:=(Option.some.inj h).symm
  rw[h];rfl
 ·rename_i k
  simp only[TV.u,St.elems,Bsv h]
 ·obtain⟨h1,h2⟩:=Lg h
  rw[Oe h1,h2];rfl
 ·obtain⟨h1,h2⟩:=Lg h
  rw[Oe h1,h2];rfl
 ·rename_i g1 g2 g3 g4
  exfalso
  cases w<;>first|exact g1 rfl|exact g2 _ rfl|exact g3 _ _ rfl|exact g4 _ rfl|cases h
def Aqp(σ:TSt)(ks:List Key)(kd d:Nat)(ty:Ty)(r:List ty.D):Option TSt:=match σ.killAll ks with
 |some σ1=>(σ1.insAll [(.loc kd 0,.row ty r)]).put (some d) (.own (.loc kd 0))
 |none=>none
def Bcj(σ:TSt)(d:Option Nat)(ty:Ty)(kd sz bytes:Nat)(X Y:TV):An2:=match d with
 |none=> .no
 |some d=>match elT ty σ Y with
  |none=> .no
  |some ys=>match ty.sz==sz&&decide (1≤bytes) with
   |false=> .no
   |true=>match X with
    | .nils=> .par (List ty.D) (apO bytes [] ys) fun r=>Aqp σ [.loc kd 0] kd d ty r
    | .own k=>match σ.look k with
     |some (.row t l)=>if h:t=ty then .par (List ty.D) (apO bytes (h▸l) ys) fun r=>Aqp σ [k,.loc kd 0] kd d ty r else .no
     |_=> .no
    |_=> .no
theorem A8i{α:Type}{n:Nat}{xs ys r:List α}(h:apO n xs ys=some r):(xs.length+ys.length)*n≤140737488355328∧r=xs++ys:=by
 unfold apO at h
 split at h
 ·rename_i hb;cases h;exact⟨hb,rfl⟩
 ·cases h
theorem A91{ks:List Key}{kd d:Nat}{ty:Ty}{r:List ty.D}{σ':TSt}(hI:Inv σ)(h:Aqp σ ks kd d ty r=some σ'):σ'.u=((σ.u.killAll ks).insAll [(.loc kd 0,.row ty.sz (List.map ty.e r))]).put (some d) (.own (.loc kd 0))∧Inv σ':=by
 unfold Aqp at h
 split at h
 ·rename_i σ1 e1
  exact⟨by rw[Alr h,Au0,I2 e1];rfl,((hI.killAll e1).insAll _).put rfl h⟩
 ·cases h
theorem Bk6(hI:Inv σ)(hc:Bp σ ch){ty:Ty}{kd sz bytes:Nat}{x y:Opd}{d:Option Nat}{σ':TSt}(h:(Bcj σ d ty kd sz bytes (σ.ev ch x) (σ.ev ch y)).gives σ'):Tn P σ d (.append kd sz bytes x y) σ'∧Inv σ':=by
 have hx:=Dx hI hc x
 have hy:=Dx hI hc y
 unfold Bcj at h
 split at h
 ·cases h
 ·split at h
  ·cases h
  ·rename_i ys hys
   have hys:=Bsw hys
   rw[hy] at hys
   split at h
   ·cases h
   ·rename_i hcd
    simp only[Bool.and_eq_true,beq_iff_eq,decide_eq_true_eq] at hcd
    obtain⟨rfl,hb⟩:=hcd
    split at h
    ·rename_i e1
     rw[e1] at hx
     obtain⟨r,hr,hg⟩:=h
     obtain⟨h1,hre⟩:=A8i hr
     obtain⟨h2,h3⟩:=A91 hI hg
     rw[hre,List.nil_append] at h2
     refine⟨Tn.one fun cl=>?_,h3⟩
     have hx:SV.nils=σ.u.ev x:=hx
     have hcc:Hy ty.sz (List.map ty.e ys)=true∧1≤bytes∧(List.map ty.e ys).length*bytes≤140737488355328:=⟨Anw ys,hb,by simpa using h1⟩
     simp only[Fm,hys,←hx,if_pos hcc]
     rw[h2];rfl
    ·rename_i k e1
     rw[e1] at hx
     split at h
     ·rename_i t l hk
      split at h
      ·rename_i ht
       subst ht
       obtain⟨r,hr,hg⟩:=h
       have hr:apO bytes l ys=some r:=hr
       obtain⟨h1,hre⟩:=A8i hr
       obtain⟨h2,h3⟩:=A91 hI hg
       rw[hre,List.map_append] at h2
       refine⟨Tn.one fun cl=>?_,h3⟩
       have hx:SV.own k=σ.u.ev x:=hx
       have hcc:Hy t.sz (List.map t.e ys)=true∧True∧1≤bytes∧((List.map t.e l).length+(List.map t.e ys).length)*bytes≤140737488355328:=⟨Anw ys,trivial,hb,by simpa using h1⟩
       simp only[Fm,hys,←hx,A6 hk,TO.u,if_pos hcc]
       rw[h2];rfl
      ·cases h
     ·cases h
    ·cases h
def Ayq(σ:TSt)(d:Option Nat)(kk:KK)(X K V:TV):An2:=match X with
 | .mp key=>match σ.look key with
  |some (.map kt vt es)=>match as1 kt K,as1 vt V with
   |some k,some v=>match decide (kt.kk=kk)&&kt.key with
    |true=> .opt ((σ.over key (.map kt vt (msT es k v))).put d .dead)
    |false=> .no
   |_,_=> .no
  |_=> .no
 |_=> .no
theorem Bi8(hI:Inv σ)(hc:Bp σ ch){kk:KK}{x k v:Opd}{d:Option Nat}{σ':TSt}(h:(Ayq σ d kk (σ.ev ch x) (σ.ev ch k) (σ.ev ch v)).gives σ'):Tn P σ d (.mset kk x k v) σ'∧Inv σ':=by
 have hx:=Dx hI hc x
 have hk:=Dx hI hc k
 have hv:=Dx hI hc v
 unfold Ayq at h
 split at h
 ·rename_i key e1
  rw[e1] at hx
  split at h
  ·rename_i kt vt es hl
   split at h
   ·rename_i kv vv hkv hvv
    split at h
    ·rename_i hcc
     simp only[Bool.and_eq_true,decide_eq_true_eq] at hcc
     have h:=Iq h
     obtain⟨h1,h2⟩:=Lg hkv
     obtain⟨h3,h4⟩:=Lg hvv
     have hk':σ.u.ev k= .pv (kt.e kv):=by rw[←hk,Oe h1,h2]
     have hv':σ.u.ev v= .pv (vt.e vv):=by rw[←hv,Oe h3,h4]
     have hkk:(decide (kt.kk=kk)&&(kt.e kv).isKK kk)=true:=by rw[←hcc.1,Bmj hcc.2];simp
     refine⟨Tn.one fun cl=>?_,(hI.over _ _).put_dead h⟩
     have hkey:σ.u.ev x= .mp key:=hx.symm
     simp only[Fm,hkey,hk',hv',A6 hl,TO.u,hkk,cond_true,Bqs hcc.2]
     rw[Alr h,Amj,←hcc.1];rfl
    ·cases h
   ·cases h
  ·cases h
 ·cases h
theorem Bdx{f:TV→Option TV}(hf:Bkl f){sl:List (Nat×TV)}(h:Eh (onS f) σ.sl=some sl){t:Nat}{b q:Bool}(hg:σ.gv t b=some q)(hp:List (Key×TO)):TSt.gv ⟨sl,hp,σ.gs,σ.fr⟩ t b=some q:=by
 unfold TSt.gv at hg⊢
 show(match Gi sl t with| .v .bool c=>some (gtr b c)| .gd _ _ q (.v .bool c)=>some (q&&gtr b c)|_=>none)=some q
 have key: ∀w,Gi σ.sl t=w→(∀w',f w=some w'→w'=w)→w≠ .dead→Gi sl t=w:=by
  intro w e hw hd
  rcases Wt h t with⟨h4,h5⟩|h4
  ·exact absurd (e.symm.trans h4) hd
  ·rw[e] at h4;exact hw _ h4
 split at hg
 ·rename_i c e2
  rw[key _ e2 (fun w' hw=>hf.bool _ _ hw) (by intro e;cases e)];exact hg
 ·rename_i e2
  rw[key _ e2 (fun w' hw=>hf.gd _ _ _ _ _ hw) (by intro e;cases e)];exact hg
 ·cases hg
theorem Bp.kill{σ':TSt}{k:Key}(hc:Bp σ ch)(h:σ.kill k=some σ'):Bp σ' ch:=by
 unfold TSt.kill at h
 split at h
 ·rename_i sl e1
  split at h
  ·cases h;exact fun g hg=>Bdx (A2i k) e1 (hc g hg) _
  ·cases h
 ·cases h
theorem Bp.killAll: ∀{ks:List Key} {σ σ':TSt},Bp σ ch→σ.killAll ks=some σ'→Bp σ' ch
 |[],σ,σ',hc,h=>by cases h;exact hc
 |k::ks,σ,σ',hc,h=>by
  simp only[TSt.killAll] at h
  split at h
  ·rename_i σ1 e;exact(hc.kill e).killAll h
  ·cases h
theorem Bp.ice{σ':TSt}{k:Key}{I:Ice}(hw: ∀w,I.own=some w→ ∃t x,w= .v t x)(hc:Bp σ ch)(h:σ.ice k I=some σ'):Bp σ' ch:=by
 unfold TSt.ice at h
 split at h
 ·rename_i sl e1
  split at h
  ·cases h;exact fun g hg=>Bdx (A88 k I hw) e1 (hc g hg) _
  ·cases h
 ·cases h
theorem Bp.freeze{σ':TSt}{k:Key}(hc:Bp σ ch)(h:σ.freeze k=some σ'):Bp σ' ch:=by
 unfold TSt.freeze at h
 split at h
 ·exact hc.ice (fun w hw=>(by cases hw;exact⟨_,_,rfl⟩)) h
 ·split at h
  ·exact hc.ice (fun w hw=>(by cases hw)) h
  ·split at h
   ·cases h;exact hc
   ·cases h
 ·cases h;exact hc
theorem Bp.freezeAll: ∀{ks:List Key} {σ σ':TSt},Bp σ ch→σ.freezeAll ks=some σ'→Bp σ' ch
 |[],σ,σ',hc,h=>by cases h;exact hc
 |k::ks,σ,σ',hc,h=>by
  simp only[TSt.freezeAll] at h
  split at h
  ·rename_i σ1 e;exact(hc.freeze e).freezeAll h
  ·cases h
def A4a(σ:TSt)(ln:List Key)(d keep:Nat)(r:G4):Option TSt:=match Ayv ln d keep r with
 |some x=>match x.1.tame with
  |true=>match σ.killAll (Wu ln r.ext) with
   |some σ1=>match Ahh (G0 ln d keep) σ1 ln r.ext with
    |some σ2=>(σ2.insAll x.2).put (some d) x.1
    |none=>none
   |none=>none
  |false=>none
 |none=>none
def RAn.an2(a:RAn)(f:G4→Option TSt):An2:=match a with
 | .no=> .no
 | .tot r=> .opt (f r)
 | .par α dd o g=> .par α o fun a=>f (g a)
 | .alt α β o g h=> .alt α β o (fun a=>f (g a)) (fun b=>f (h b))
theorem Ax4{a:RAn}{f:G4→Option TSt}{σ':TSt}(h:(a.an2 f).gives σ'): ∃r,a.gives r∧f r=some σ':=by
 unfold RAn.an2 at h
 split at h
 ·cases h
 ·exact⟨_,rfl,Iq h⟩
 ·obtain⟨a,h1,h2⟩:=h
  exact⟨_,⟨a,h1,rfl⟩,h2⟩
 ·obtain⟨j,h1,h2⟩:=h
  cases j with
  |inl a=>exact⟨_,⟨_,h1,rfl⟩,h2⟩
  |inr b=>exact⟨_,⟨_,h1,rfl⟩,h2⟩
def Bot(m:Nat)(ln:List Key)(w:TV):Option TV:=match m with
 |2=>match w.tidy with
  |some w'=>w'.nm (toX ln)
  |none=>none
 |_=>w.nm (toX ln)
def Ai8(T:Tab)(σ:TSt)(ch:List (Nat×Bool))(d:Option Nat)(keep m:Nat)(f:Opd)(args:List Opd)(fz ln:List Key):An2:=match d with
 |none=> .no
 |some d=>match σ.freezeAll fz with
  |none=> .no
  |some σ1=>match σ1.killAll ((List.range keep).map (.loc d)) with
   |none=> .no
   |some σ2=>match callee σ2 ch f with
    |none=> .no
    |some c=>match A9c σ2 ln ln with
     |none=> .no
     |some ext=>match Eh (Bot m ln) (args.map (σ2.ev ch)++c.2.2) with
      |none=> .no
      |some vs=>(T.ask keep c vs ext).an2 (A4a σ2 ln d keep)
theorem Aum(hT:To P T)(hI:Inv σ)(hc:Bp σ ch){d:Option Nat}{keep m:Nat}{f:Opd}{args:List Opd}{fz ln:List Key}{σ':TSt}(h:(Ai8 T σ ch d keep m f args fz ln).gives σ'):Tn P σ d (.call keep m f args fz ln) σ'∧Inv σ':=by
 unfold Ai8 at h
 split at h
 ·cases h
 ·rename_i d
  split at h
  ·cases h
  ·rename_i σ1 e1
   split at h
   ·cases h
   ·rename_i σ2 e2
    obtain⟨u1,i1⟩:=Agz hI e1
    have u2:=I2 e2
    have i2:=i1.killAll e2
    have c2:Bp σ2 ch:=(hc.freezeAll e1).killAll e2
    split at h
    ·cases h
    ·rename_i c hcal
     split at h
     ·cases h
     ·rename_i ext hext
      split at h
      ·cases h
      ·rename_i vs hv
       obtain⟨r,hr,hf⟩:=Ax4 h
       have hcon:=A8j hT hr
       unfold A4a at hf
       split at hf
       ·rename_i x hx
        split at hf
        ·rename_i ht
         split at hf
         ·rename_i σ3 e3
          split at hf
          ·rename_i σ4 e4
           obtain⟨u4,i4⟩:=A43 (i2.killAll e3) e4
           refine⟨⟨some ⟨d,c.2.1,vs.map TV.u,ext.map TO.u,r.u⟩,fun k e=>(by cases e;exact⟨rfl,hcon,_,_,_,_,_,_,rfl⟩),fun cl hcl=>?_⟩,(i4.insAll _).put ht hf⟩
           have hcl:cl d c.2.1 (vs.map TV.u) (ext.map TO.u)=some r.u:=hcl _ rfl
           have hF: ∀w w',Bot m ln w=some w'→w'.u=(fun v=>(Ayu m v).nm (toX ln)) w.u:=by
            intro w w' hw
            unfold Bot at hw
            split at hw
            ·split at hw
             ·rename_i w1 hw1
              rw[nm_u _ _ hw,tidy_u hw1];rfl
             ·cases hw
            ·rename_i hm
             have:(m==2)=false:=by simpa using hm
             simp only[Ayu,this,cond_false]
             exact nm_u _ _ hw
           have hargs:=Bms (F:=fun v=>(Ayu m v).nm (toX ln)) hF hv
           have e5:(args.map (σ2.ev ch)++c.2.2).map TV.u=args.map σ2.u.ev++c.2.2.map TV.u:=by
            rw[List.map_append,List.map_map]
            congr 1
            exact List.map_congr_left fun p _=>Dx i2 c2 p
           rw[e5] at hargs
           have u2':(σ.u.freezeAll fz).killAll ((List.range keep).map (.loc d))=σ2.u:=by rw[u2,u1]
           have u3:σ2.u.killAll (C0 ln r.u.ext)=σ3.u:=by
            rw[I2 e3]
            congr 1
            exact A4e ln r.ext
           have u4':C8 (G0 ln d keep) σ3.u ln r.u.ext=some σ4.u:=u4
           simp only[Fm,u2',A8u i2 c2 hcal,Bhb hext,←hargs,hcl,Bia hx,u3,u4']
           rw[Alr hf,Au0]
          ·cases hf
         ·cases hf
        ·cases hf
       ·cases hf
def tb(T:Tab)(σ:TSt)(ch:List (Nat×Bool))(d:Option Nat)(ty:Ty):AOp→An2
 | .store n a x=>Aps σ d n (σ.ev ch a) (σ.ev ch x)
 | .append kd sz bytes x y=>Bcj σ d ty kd sz bytes (σ.ev ch x) (σ.ev ch y)
 | .mset kk x k v=>Ayq σ d kk (σ.ev ch x) (σ.ev ch k) (σ.ev ch v)
 | .call keep m f args fz ln=>Ai8 T σ ch d keep m f args fz ln
 |_=> .no
theorem Bck(hT:To P T)(hI:Inv σ)(hc:Bp σ ch){d:Option Nat}{ty:Ty}{op:AOp}{σ':TSt}(h:(tb T σ ch d ty op).gives σ'):Tn P σ d op σ'∧Inv σ':=by
 cases op<;>simp only[tb] at h
 case store=>exact Bf7 hI hc h
 case append=>exact Bk6 hI hc h
 case mset=>exact Bi8 hI hc h
 case call=>exact Aum hT hI hc h
 all_goals cases h
end
end Go.Av
end
section
namespace Go.Av
section
variable [Dic] {σ σ':TSt} {ch:List (Nat×Bool)} {P:Program} {T:Tab}
def TV.still:TV→Bool
 | .v _ _=>true
 | .c _=>true
 | .iv _ _ _=>true
 | .ic _ _=>true
 | .dead=>true
 | .tup cs=>stillL cs
 | .fn _ cs=> !cs.isEmpty&&stillL cs
 |_=>false
where
 stillL:List TV→Bool
  |[]=>true
  |a::cs=>a.still&&stillL cs
theorem Aq7{w:TV}(h:w.still=true):w.dem=w:=by cases w<;>first|rfl|cases h
theorem Bnx{w:TV}(h:w.still=true):w.tame=true:=by cases w<;>first|rfl|cases h
mutual
theorem still_nmd(k:Key): ∀w:TV,w.still=true→w.nmd k=some false
 | .v _ _,_| .c _,_| .iv _ _ _,_| .ic _ _,_| .dead,_=>rfl
 | .tup cs,h=>stillL_nmd k cs h
 | .fn _ cs,h=>by
  simp only[TV.still,Bool.and_eq_true] at h
  exact stillL_nmd k cs h.2
 | .nils,h| .ptr _ _,h| .own _,h| .mp _,h| .iown _ _ _ _ _ _,h| .agg _ _,h| .gd _ _ _ _,h=>by cases h
theorem stillL_nmd(k:Key): ∀cs:List TV,TV.still.stillL cs=true→TV.nmd.nmdL k cs=some false
 |[],_=>rfl
 |a::cs,h=>by
  simp only[TV.still.stillL,Bool.and_eq_true] at h
  simp only[TV.nmd.nmdL,still_nmd k a h.1,stillL_nmd k cs h.2,Bool.or_self]
end
theorem Ayn{k:Key}{w:TV}(h:w.still=true):w.kill k=some w:=by
 unfold TV.kill
 split
 ·cases h
 ·unfold TV.kill0
  rw[still_nmd k _ h]
  simp only[Aq7 h]
mutual
theorem still_frz(k:Key)(I:Ice): ∀w:TV,w.still=true→w.frz k I=some w
 | .v _ _,_| .c _,_| .iv _ _ _,_| .ic _ _,_| .dead,_=>rfl
 | .tup cs,h=>by simp only[TV.frz,stillL_frz k I cs h]
 | .fn _ cs,h=>by
  simp only[TV.still,Bool.and_eq_true] at h
  simp only[TV.frz,stillL_frz k I cs h.2]
 | .nils,h| .ptr _ _,h| .own _,h| .mp _,h| .iown _ _ _ _ _ _,h| .agg _ _,h| .gd _ _ _ _,h=>by cases h
theorem stillL_frz(k:Key)(I:Ice): ∀cs:List TV,TV.still.stillL cs=true→TV.frz.frzL k I cs=some cs
 |[],_=>rfl
 |a::cs,h=>by
  simp only[TV.still.stillL,Bool.and_eq_true] at h
  simp only[TV.frz.frzL,still_frz k I a h.1,stillL_frz k I cs h.2]
end
theorem Ayo{w:TV}(h:w.still=true):w.tidy=some w:=by
 cases w with
 |fn f cs=>
  cases cs with
  |nil=>cases h
  |cons a cs=>rfl
 |_=>first|rfl|cases h
mutual
theorem still_nm(f:Key→Option Key): ∀w:TV,w.still=true→w.nm f=some w
 | .v _ _,_| .c _,_| .iv _ _ _,_| .ic _ _,_| .dead,_=>rfl
 | .tup cs,h=>by simp only[TV.nm,stillL_nm f cs h]
 | .fn _ cs,h=>by
  simp only[TV.still,Bool.and_eq_true] at h
  simp only[TV.nm,stillL_nm f cs h.2]
 | .nils,h| .ptr _ _,h| .own _,h| .mp _,h| .iown _ _ _ _ _ _,h| .agg _ _,h| .gd _ _ _ _,h=>by cases h
theorem stillL_nm(f:Key→Option Key): ∀cs:List TV,TV.still.stillL cs=true→TV.nm.nmL f cs=some cs
 |[],_=>rfl
 |a::cs,h=>by
  simp only[TV.still.stillL,Bool.and_eq_true] at h
  simp only[TV.nm.nmL,still_nm f a h.1,stillL_nm f cs h.2]
end
def Gz(o o':Option TO):Prop:=o'=none∨o'=o∨ ∃cs cs',o=some (.box cs)∧o'=some (.box cs')∧cs'.length=cs.length∧ ∀(i:Nat) (w:TV),cs[i]? =some w→w.still=true→cs'[i]? =some w
theorem Gz.trans{a b c:Option TO}(h1:Gz a b)(h2:Gz b c):Gz a c:=by
 rcases h2 with rfl|rfl|⟨cs,cs',rfl,rfl,hl,h⟩
 ·exact .inl rfl
 ·exact h1
 ·rcases h1 with h1|h1|⟨ds,ds',rfl,e,hl',h'⟩
  ·cases h1
  ·exact .inr (.inr ⟨cs,cs',h1.symm,rfl,hl,h⟩)
  ·cases e
   exact .inr (.inr ⟨ds,cs',rfl,rfl,hl.trans hl',fun i w hi hw=>h i w (h' i w hi hw) hw⟩)
structure Frm (σ σ':TSt):Prop where
 fr:σ'.fr=σ.fr
 s: ∀t∈σ.fr.s,(σ.get t).still=true→σ'.get t=σ.get t∨σ'.get t= .dead
 k: ∀k∈σ.fr.k,Gz (σ.look k) (σ'.look k)
theorem Frm.refl(σ:TSt):Frm σ σ:=⟨rfl,fun _ _ _=> .inl rfl,fun _ _=> .inr (.inl rfl)⟩
theorem Frm.trans{a b c:TSt}(h1:Frm a b)(h2:Frm b c):Frm a c where
 fr:=h2.fr.trans h1.fr
 s t ht hs:=by
  rcases h1.s t ht hs with e|e
  ·rcases h2.s t (by rw[h1.fr];exact ht) (by rw[e];exact hs) with e2|e2
   ·exact .inl (e2.trans e)
   ·exact .inr e2
  ·rcases h2.s t (by rw[h1.fr];exact ht) (by rw[e];rfl) with e2|e2
   ·exact .inr (e2.trans e)
   ·exact .inr e2
 k k hk:=(h1.k k hk).trans (h2.k k (by rw[h1.fr];exact hk))
theorem A4u(l:List (Key×TO))(k k':Key)(h:k'≠k):B5 (l.filter fun p=>decide (p.1≠k)) k'=B5 l k':=by
 induction l with
 |nil=>rfl
 |cons p l ih=>
  simp only[List.filter_cons]
  by_cases e:p.1=k
  ·simp only[ne_eq,e,not_true_eq_false,decide_false,Bool.false_eq_true,if_false,B5,if_neg (Ne.symm h)]
   exact ih
  ·simp only[ne_eq,e,not_false_eq_true,decide_true,if_true,B5,ih]
theorem A2m{G:TO→Option TO}{k:Key}: ∀{l r:List (Key×TO)},Eh (onH G) l=some r→(B5 l k=none∧B5 r k=none)∨ ∃o o',B5 l k=some o∧B5 r k=some o'∧G o=some o'
 |[],_,h=>by cases h;exact .inl ⟨rfl,rfl⟩
 |a::l,r,h=>by
  obtain⟨b,r',h1,h2,rfl⟩:=Gr h
  unfold onH at h1
  split at h1
  ·rename_i o' ho
   cases h1
   simp only[B5]
   by_cases e:a.1=k
   ·rw[if_pos e,if_pos e];exact .inr ⟨a.2,o',rfl,rfl,ho⟩
   ·rw[if_neg e,if_neg e];exact A2m h2
  ·cases h1
theorem Bl2{f:TV→Option TV}(hf: ∀w,w.still=true→f w=some w){G:TO→Option TO}(hG: ∀o o',G o=some o'→Gz (some o) (some o')){k:Key}(hk:k∉σ.fr.k){sl:List (Nat×TV)}{hp:List (Key×TO)}(h1:Eh (onS f) σ.sl=some sl)(h2:Eh (onH G) (σ.hp.filter fun p=>decide (p.1≠k))=some hp)(gs:List Nat):Frm σ ⟨sl,hp,gs,σ.fr⟩ where
 fr:=rfl
 s t ht hs:=by
  rcases Wt h1 t with⟨e1,e2⟩|e
  ·exact .inr e2
  ·have:f (σ.get t)=some (σ.get t):=hf _ hs
   exact .inl (Option.some.inj (e.symm.trans this))
 k k' hk':=by
  have hne:k'≠k:=fun e=>hk (e▸hk')
  show Gz (B5 σ.hp k') (B5 hp k')
  rw[←A4u σ.hp k k' hne]
  rcases A2m (k:=k') h2 with⟨e1,e2⟩|⟨o,o',e1,e2,e3⟩
  ·rw[e1,e2];exact .inl rfl
  ·rw[e1,e2];exact hG _ _ e3
theorem Bhl{f:TV→Option TV}: ∀{cs cs':List TV},Eh f cs=some cs'→cs'.length=cs.length∧ ∀(i:Nat) (w:TV),cs[i]? =some w→f w=some w→cs'[i]? =some w
 |[],_,h=>by cases h;exact⟨rfl,fun i w e=>by simp at e⟩
 |a::cs,r,h=>by
  obtain⟨b,r',h1,h2,rfl⟩:=Gr h
  obtain⟨h3,h4⟩:=Bhl h2
  refine⟨by simp[h3],fun i w e hw=>?_⟩
  cases i with
  |zero=>
   simp only[List.getElem?_cons_zero,Option.some.injEq] at e⊢
   subst e
   exact Option.some.inj (h1.symm.trans hw)
  |succ i=>
   simp only[List.getElem?_cons_succ] at e⊢
   exact h4 i w e hw
theorem Aoe{f:TV→Option TV}(hf: ∀w,w.still=true→f w=some w){cs cs':List TV}(h:Eh f cs=some cs'):Gz (some (.box cs)) (some (.box cs')):=by
 obtain⟨h1,h2⟩:=Bhl h
 exact .inr (.inr ⟨cs,cs',rfl,rfl,h1,fun i w hi hw=>h2 i w hi (hf w hw)⟩)
theorem Bpf{f:Key→Option Key}{o o':TO}(h:o.nm f=some o'):Gz (some o) (some o'):=by
 unfold TO.nm at h
 split at h
 ·split at h
  ·rename_i cs' e;cases h;exact Aoe (fun w hw=>still_nm f w hw) e
  ·cases h
 ·cases h;exact .inr (.inl rfl)
theorem Blz{k:Key}(hk:k∉σ.fr.k)(h:σ.kill k=some σ'):Frm σ σ':=by
 unfold TSt.kill at h
 split at h
 ·rename_i sl e1
  split at h
  ·rename_i hp e2
   cases h
   refine Bl2 (fun w hw=>Ayn hw) (fun o o' e=>?_) hk e1 e2 _
   unfold TO.kill at e
   split at e
   ·split at e
    ·rename_i cs' e3;cases e;exact Aoe (fun w hw=>Ayn hw) e3
    ·cases e
   ·cases e;exact .inr (.inl rfl)
  ·cases h
 ·cases h
theorem F0: ∀{ks:List Key} {σ σ':TSt},(∀k∈ks,k∉σ.fr.k)→σ.killAll ks=some σ'→Frm σ σ'
 |[],σ,σ',_,h=>by cases h;exact .refl _
 |k::ks,σ,σ',hk,h=>by
  simp only[TSt.killAll] at h
  split at h
  ·rename_i σ1 e
   have h1:=Blz (hk k (by simp)) e
   exact h1.trans (F0 (fun k' hk'=>by rw[h1.fr];exact hk k' (by simp[hk'])) h)
  ·cases h
theorem Bg6{k:Key}{I:Ice}(hk:k∉σ.fr.k)(h:σ.ice k I=some σ'):Frm σ σ':=by
 unfold TSt.ice at h
 split at h
 ·rename_i sl e1
  split at h
  ·rename_i hp e2
   cases h
   refine Bl2 (fun w hw=>still_frz k I w hw) (fun o o' e=>?_) hk e1 e2 _
   unfold TO.frz at e
   split at e
   ·split at e
    ·rename_i cs' e3;cases e;exact Aoe (fun w hw=>still_frz k I w hw) e3
    ·cases e
   ·cases e;exact .inr (.inl rfl)
  ·cases h
 ·cases h
theorem Bdu{k:Key}(hk:k∉σ.fr.k)(h:σ.freeze k=some σ'):Frm σ σ':=by
 unfold TSt.freeze at h
 split at h
 ·exact Bg6 hk h
 ·split at h
  ·exact Bg6 hk h
  ·split at h
   ·cases h;exact .refl _
   ·cases h
 ·cases h;exact .refl _
theorem Ue: ∀{ks:List Key} {σ σ':TSt},(∀k∈ks,k∉σ.fr.k)→σ.freezeAll ks=some σ'→Frm σ σ'
 |[],σ,σ',_,h=>by cases h;exact .refl _
 |k::ks,σ,σ',hk,h=>by
  simp only[TSt.freezeAll] at h
  split at h
  ·rename_i σ1 e
   have h1:=Bdu (hk k (by simp)) e
   exact h1.trans (Ue (fun k' hk'=>by rw[h1.fr];exact hk k' (by simp[hk'])) h)
  ·cases h
theorem On{d:Option Nat}{w:TV}(hd: ∀t,d=some t→t∉σ.fr.s)(h:σ.put d w=some σ'):Frm σ σ':=by
 unfold TSt.put at h
 split at h
 ·rename_i d
  split at h
  ·cases h
   refine⟨rfl,fun t ht _=> .inl ?_,fun k _=> .inr (.inl rfl)⟩
   show(bif d==t then w else σ.get t)=σ.get t
   have:(d==t)=false:=by
    have:=hd d rfl
    simp only[beq_eq_false_iff_ne]
    intro e;subst e;exact this ht
   rw[this];rfl
  ·cases h
 ·cases h;exact .refl _
theorem Bo9(t:Nat)(hp:List (Key×TO))(gs:List Nat)(fr:Fr):(TSt.get ⟨σ.dem.sl,hp,gs,fr⟩ t)=(σ.get t).dem:=by
 show Gi (σ.sl.map fun p=>(p.1,p.2.dem)) t=(Gi σ.sl t).dem
 generalize σ.sl=l
 induction l with
 |nil=>rfl
 |cons p l ih=>
  simp only[List.map_cons,Gi]
  cases p.1==t with
  |true=>rfl
  |false=>exact ih
theorem At1{hp:List (Key×TO)}(gs:List Nat)(h: ∀k∈σ.fr.k,Gz (σ.look k) (B5 hp k)):Frm σ ⟨σ.dem.sl,hp,gs,σ.fr⟩:=⟨rfl,fun t _ hs=> .inl (by rw[Bo9,Aq7 hs]),h⟩
theorem Avd(l:List (Key×TO))(k k':Key)(o:TO)(h:k'≠k):B5 (l.map fun p=>if p.1=k then(k,o) else p) k'=B5 l k':=by
 induction l with
 |nil=>rfl
 |cons p l ih=>
  simp only[List.map_cons,B5]
  by_cases e:p.1=k
  ·simp[e,ih,Ne.symm h]
  ·simp[e,ih]
theorem Ag0{k:Key}(hk:k∉σ.fr.k)(o:TO):Frm σ (σ.over k o):=
 At1 σ.gs (fun k' hk'=> .inr (.inl (Avd σ.hp k k' o (fun e=>hk (e▸hk')))))
theorem A4t{l l':List (Key×TO)}{k:Key}(h: ∀p∈l,p.1≠k):B5 (l++l') k=B5 l' k:=by
 induction l with
 |nil=>rfl
 |cons p l ih=>
  simp only[List.cons_append,B5,if_neg (h p (by simp))]
  exact ih (fun q hq=>h q (by simp[hq]))
theorem A4d{l:List (Key×TO)}(hk: ∀p∈l,p.1∉σ.fr.k):Frm σ (σ.insAll l):=by
 cases l with
 |nil=>exact .refl _
 |cons a l=>exact At1 σ.gs (fun k hk'=> .inr (.inl (A4t (fun p hp e=>hk p hp (e▸hk')))))
theorem Bh2: ∀{sl:List (Nat×Bool)} {l:List (Nat×TV)},Bb0 σ sl=some l→ ∀t,Gi l t= .dead∨((σ.get t).still=true→Gi l t=σ.get t)
 |[],_,h,t=>by cases h;exact .inl rfl
 |p::r,l,h,t=>by
  simp only[Bb0] at h
  split at h
  ·rename_i w e
   split at h
   ·split at h
    ·rename_i l' e2
     cases h
     simp only[Gi]
     cases hp:p.1==t with
     |true=>
      refine .inr fun hs=>?_
      have hp:=eq_of_beq hp
      subst hp
      have:w=σ.get p.1:=by
       cases hb:p.2 with
       |true=>rw[hb] at e;exact(Option.some.inj ((Ayo hs).symm.trans e)).symm
       |false=>rw[hb] at e;exact(Option.some.inj e).symm
      simp only[cond_true,this,Aq7 hs]
     |false=>exact Bh2 e2 t
    ·cases h
   ·cases h
  ·cases h
theorem Bg7{sl:List (Nat×Bool)}{l:List (Nat×TV)}(h:Bb0 σ sl=some l){hp:List (Key×TO)}(gs:List Nat)(hk: ∀k∈σ.fr.k,Gz (σ.look k) (B5 hp k)):Frm σ ⟨l,hp,gs,σ.fr⟩ where
 fr:=rfl
 s t _ hs:=by
  rcases Bh2 h t with e|e
  ·exact .inr e
  ·exact .inl (e hs)
 k:=hk
theorem Bdt{keep:List Nat}(h:σ.forget keep=some σ'):Frm σ σ':=by
 unfold TSt.forget at h
 split at h
 ·rename_i l e;cases h;exact Bg7 e [] (fun k _=> .inr (.inl rfl))
 ·cases h
theorem Bi1{o o':TO}(h:o.tidy=some o'):Gz (some o) (some o'):=by
 unfold TO.tidy at h
 split at h
 ·split at h
  ·rename_i cs' e;cases h;exact Aoe (fun w hw=>Ayo hw) e
  ·cases h
 ·cases h;exact .inr (.inl rfl)
theorem A97{k:Key}: ∀{bx:List (Key×Bool)} {l:List (Key×TO)},A21 σ bx=some l→(B5 l k=none∧(σ.look k=none∨bx.any (fun p=>decide (p.1=k))=false))∨ ∃o,B5 l k=some o∧Gz (σ.look k) (some o)
 |[],_,h=>by cases h;exact .inl ⟨rfl,.inr rfl⟩
 |p::r,l,h=>by
  simp only[A21] at h
  split at h
  ·rename_i l' e
   have ih:=A97 (k:=k) e
   split at h
   ·rename_i e2
    cases h
    rcases ih with⟨h1,h2⟩|h1
    ·refine .inl ⟨h1,?_⟩
     rcases h2 with h2|h2
     ·exact .inl h2
     ·by_cases hp:p.1=k
      ·subst hp;exact .inl e2
      ·exact .inr (by simp[hp,h2])
    ·exact .inr h1
   ·rename_i o e2
    split at h
    ·rename_i o' e3
     cases h
     by_cases hp:p.1=k
     ·subst hp
      refine .inr ⟨o',by simp[B5],?_⟩
      rw[e2]
      cases hb:p.2 with
      |true=>rw[hb] at e3;exact Bi1 e3
      |false=>rw[hb] at e3;cases e3;exact .inr (.inl rfl)
     ·simp only[B5,if_neg hp]
      rcases ih with⟨h1,h2⟩|h1
      ·refine .inl ⟨h1,?_⟩
       rcases h2 with h2|h2
       ·exact .inl h2
       ·exact .inr (by simp[hp,h2])
      ·exact .inr h1
    ·cases h
  ·cases h
theorem Bmq(l l':List (Key×TO))(k:Key):B5 (l++l') k=match B5 l k with|some o=>some o|none=>B5 l' k:=by
 induction l with
 |nil=>rfl
 |cons p l ih=>
  simp only[List.cons_append,B5]
  by_cases e:p.1=k
  ·simp[e]
  ·simp[e,ih]
theorem Bec(l:List (Key×TO))(bx:List (Key×Bool))(k:Key)(h:bx.any (fun p=>decide (p.1=k))=false):B5 (l.filter fun q=> !(bx.any fun p=>decide (p.1=q.1))) k=B5 l k:=by
 induction l with
 |nil=>rfl
 |cons q l ih=>
  simp only[List.filter_cons]
  by_cases e:q.1=k
  ·subst e
   rw[h];simp[B5]
  ·split
   ·simp[B5,e,ih]
   ·simp[B5,e,ih]
theorem Beb(l:List (Key×TO))(f:Key→Bool)(k:Key)(h:B5 l k=none):B5 (l.filter fun q=>f q.1) k=none:=by
 induction l with
 |nil=>rfl
 |cons q l ih=>
  simp only[B5] at h
  split at h
  ·cases h
  ·rename_i e
   simp only[List.filter_cons]
   split
   ·simp only[B5,if_neg e];exact ih h
   ·exact ih h
theorem Bl0{sl:List (Nat×Bool)}{bx:List (Key×Bool)}(h:σ.laid sl bx=some σ'):Frm σ σ':=by
 unfold TSt.laid at h
 split at h
 ·rename_i l e
  split at h
  ·rename_i hh e2
   cases h
   refine Bg7 e [] (fun k _=>?_)
   rw[Bmq]
   rcases A97 (k:=k) e2 with⟨h1,h2⟩|⟨o,h1,h2⟩
   ·rw[h1]
    simp only
    rcases h2 with h2|h2
    ·exact .inl (Beb σ.hp (fun q=> !(bx.any fun p=>decide (p.1=q))) k h2)
    ·rw[Bec _ _ _ h2];exact .inr (.inl rfl)
   ·rw[h1];exact h2
  ·cases h
 ·cases h
def Up.keys:Up→List Key
 | .slot _ k _=>[k]
 | .cell kb _ k _=>[kb,k]
def Up.slots:Up→List Nat
 | .slot t _ _=>[t]
 | .cell _ _ _ _=>[]
theorem Bo7{p:Up×Ty}(hk: ∀k∈p.1.keys,k∉σ.fr.k)(ht: ∀t∈p.1.slots,t∉σ.fr.s)(h:σ.up1 p=some σ'):Frm σ σ':=by
 obtain⟨up,ty⟩:=p
 unfold TSt.up1 at h
 cases up with
 |slot t k sz=>
  simp only at h
  split at h
  ·split at h
   ·split at h
    ·cases h
     have h1:Frm σ ⟨σ.dem.sl,(k,.row ty [])::σ.hp,σ.gs,σ.fr⟩:=At1 σ.gs (fun k' hk'=> .inr (.inl (by
      have:k≠k':=fun e=>hk k (by simp[Up.keys]) (e▸hk')
      simp[B5,this];rfl)))
     refine h1.trans ⟨rfl,fun s hs hst=> .inl ?_,fun k' _=> .inr (.inl rfl)⟩
     have hne:(t==s)=false:=by
      simp only[beq_eq_false_iff_ne]
      intro e;subst e
      exact ht t (by simp[Up.slots]) hs
     show(bif t==s then TV.own k else Gi σ.dem.sl s)=Gi σ.dem.sl s
     rw[hne];rfl
    ·cases h
   ·cases h;exact .refl _
  ·cases h
  ·cases h;exact .refl _
 |cell kb i k sz=>
  simp only at h
  split at h
  ·split at h
   ·split at h
    ·split at h
     ·cases h
      refine At1 σ.gs (fun k' hk'=> .inr (.inl ?_))
      have h1:k≠k':=fun e=>hk k (by simp[Up.keys]) (e▸hk')
      have h2:k'≠kb:=fun e=>hk kb (by simp[Up.keys]) (e▸hk')
      simp only[B5,if_neg h1]
      exact Avd σ.hp kb k' _ h2
     ·cases h
    ·cases h
    ·cases h;exact .refl _
   ·cases h;exact .refl _
  ·cases h;exact .refl _
theorem A2d: ∀{l:List (Up×Ty)} {σ σ':TSt},(∀p∈l,(∀k∈p.1.keys,k∉σ.fr.k)∧ ∀t∈p.1.slots,t∉σ.fr.s)→σ.upAll l=some σ'→Frm σ σ'
 |[],σ,σ',_,h=>by cases h;exact .refl _
 |p::r,σ,σ',hk,h=>by
  simp only[TSt.upAll] at h
  split at h
  ·rename_i σ1 e
   have h1:=Bo7 (hk p (by simp)).1 (hk p (by simp)).2 e
   exact h1.trans (A2d (fun q hq=>by rw[h1.fr];exact hk q (by simp[hq])) h)
  ·cases h
def Kp.free(k:Kp)(fr:Fr):Bool:=k.fz.all (fun q=> !fr.k.contains q)&&k.dead.all (fun q=> !fr.k.contains q)&&k.up.all (fun p=>p.1.keys.all (fun q=> !fr.k.contains q)&&p.1.slots.all (fun t=> !fr.s.contains t))
theorem N7{α:Type} [DecidableEq α]{l:List α}{a:α}(h:(!l.contains a)=true):a∉l:=by
 intro hm
 rw[List.contains_iff_mem.2 hm] at h;cases h
theorem Auw{k:Kp}(hk:k.free σ.fr=true)(h:σ.tidy k=some σ'):Frm σ σ':=by
 simp only[Kp.free,Bool.and_eq_true,List.all_eq_true] at hk
 obtain⟨⟨h1,h2⟩,h3⟩:=hk
 unfold TSt.tidy at h
 split at h
 ·rename_i σ1 e1
  split at h
  ·rename_i σ2 e2
   split at h
   ·rename_i σ3 e3
    have f1:=Ue (fun q hq=>N7 (h1 q hq)) e1
    have f2:=F0 (fun q hq=>by rw[f1.fr];exact N7 (h2 q hq)) e2
    have f12:=f1.trans f2
    have f3:=A2d (fun p hp=>by
     rw[f12.fr]
     exact⟨fun q hq=>N7 ((h3 p hp).1 q hq),fun t ht=>N7 ((h3 p hp).2 t ht)⟩) e3
    exact(f12.trans f3).trans (Bl0 h)
   ·cases h
  ·cases h
 ·cases h
end
end Go.Av
end
section
namespace Go.Av
section
variable [Dic] {σ σ':TSt} {ch:List (Nat×Bool)} {P:Program} {T:Tab}
def touch(σ:TSt)(ch:List (Nat×Bool))(d:Nat):AOp→List Key
 | .store _ a _=>match σ.ev ch a with
  | .ptr k _=>[k]
  | .iown k .. =>[k]
  |_=>[]
 | .append kd _ _ x _=> .loc kd 0::match σ.ev ch x with
  | .own k=>[k]
  |_=>[]
 | .mset _ x _ _=>match σ.ev ch x with
  | .mp k=>[k]
  |_=>[]
 | .call keep m f args fz ln=>(List.range keep).map (.loc d)++(fz++ln)
 |op=>op.keys d
def clear(σ:TSt)(ch:List (Nat×Bool))(d:Option Nat)(op:AOp):Bool:=(match d with
 |some d=> !σ.fr.s.contains d
 |none=>true)&&(touch σ ch (d.getD 0) op).all fun k=> !σ.fr.k.contains k
theorem An3{d:Option Nat}{op:AOp}(h:clear σ ch d op=true): ∀t,d=some t→t∉σ.fr.s:=by
 intro t e
 subst e
 simp only[clear,Bool.and_eq_true] at h
 exact N7 h.1
theorem Atz{d:Option Nat}{op:AOp}(h:clear σ ch d op=true): ∀k∈touch σ ch (d.getD 0) op,k∉σ.fr.k:=by
 simp only[clear,Bool.and_eq_true,List.all_eq_true] at h
 exact fun k hk=>N7 (h.2 k hk)
theorem Auv{k:Key}(hk:k∉σ.fr.k){t:Ty}{l:List t.D}{m:Int}{d:Option Nat}(hd: ∀t,d=some t→t∉σ.fr.s){z:Option t.D}(h:newRow σ k t l m d z=some σ'):Frm σ σ':=by
 unfold newRow at h
 split at h
 ·exact(Ag0 hk _).trans (On hd h)
 ·cases h
theorem Biz{d:Option Nat}{n:Nat}{a x:Opd}(hd: ∀t,d=some t→t∉σ.fr.s)(hk: ∀k∈touch σ ch (d.getD 0) (.store n a x),k∉σ.fr.k)(h:(Aps σ d n (σ.ev ch a) (σ.ev ch x)).gives σ'):Frm σ σ':=by
 simp only[touch] at hk
 unfold Aps at h
 split at h
 ·cases h
 ·split at h
  ·cases h
  ·split at h
   ·cases h
   ·split at h
    ·rename_i k off e1
     rw[e1] at hk
     split at h
     ·split at h
      ·exact(Ag0 (hk k (by simp)) _).trans (On hd (Iq h))
      ·cases h
     ·cases h
    ·rename_i k m off t e ok e1
     rw[e1] at hk
     have hkk:k∉σ.fr.k:=hk k (by simp)
     split at h
     ·cases h
     ·split at h
      ·split at h
       ·split at h
        ·split at h
         ·split at h
          ·exact Auv hkk hd (Iq h)
          ·cases h
         ·cases h
        ·cases h
       ·cases h
      ·split at h
       ·split at h
        ·obtain⟨e',_,hg⟩:=h
         exact Auv hkk hd hg
        ·cases h
       ·cases h
    ·cases h
theorem Auu{ks:List Key}{kd d:Nat}{ty:Ty}{r:List ty.D}(hks: ∀k∈ks,k∉σ.fr.k)(hkd:Key.loc kd 0∉σ.fr.k)(hd:d∉σ.fr.s)(h:Aqp σ ks kd d ty r=some σ'):Frm σ σ':=by
 unfold Aqp at h
 split at h
 ·rename_i σ1 e1
  have f1:=F0 hks e1
  have f2:=A4d (σ:=σ1) (l:=[(.loc kd 0,.row ty r)]) (fun p hp=>by
   rw[List.mem_singleton.1 hp,f1.fr];exact hkd)
  have f12:=f1.trans f2
  exact f12.trans (On (fun t e=>by cases e;rw[f12.fr];exact hd) h)
 ·cases h
theorem Bo6{d:Option Nat}{ty:Ty}{kd sz bytes:Nat}{x y:Opd}(hd: ∀t,d=some t→t∉σ.fr.s)(hk: ∀k∈touch σ ch (d.getD 0) (.append kd sz bytes x y),k∉σ.fr.k)(h:(Bcj σ d ty kd sz bytes (σ.ev ch x) (σ.ev ch y)).gives σ'):Frm σ σ':=by
 simp only[touch] at hk
 unfold Bcj at h
 split at h
 ·cases h
 ·rename_i d
  have hd:=hd d rfl
  split at h
  ·cases h
  ·split at h
   ·cases h
   ·split at h
    ·obtain⟨r,_,hg⟩:=h
     have hkd:=hk (.loc kd 0) (by simp)
     exact Auu (fun k hk'=>by rw[List.mem_singleton.1 hk'];exact hkd) hkd hd hg
    ·rename_i k e1
     rw[e1] at hk
     split at h
     ·split at h
      ·obtain⟨r,_,hg⟩:=h
       have hkd:=hk (.loc kd 0) (by simp)
       refine Auu (fun k' hk'=>?_) hkd hd hg
       rcases List.mem_cons.1 hk' with rfl|hk'
       ·exact hk _ (by simp)
       ·rw[List.mem_singleton.1 hk'];exact hkd
      ·cases h
     ·cases h
    ·cases h
theorem Bl1{d:Option Nat}{kk:KK}{x k v:Opd}(hd: ∀t,d=some t→t∉σ.fr.s)(hk: ∀q∈touch σ ch (d.getD 0) (.mset kk x k v),q∉σ.fr.k)(h:(Ayq σ d kk (σ.ev ch x) (σ.ev ch k) (σ.ev ch v)).gives σ'):Frm σ σ':=by
 simp only[touch] at hk
 unfold Ayq at h
 split at h
 ·rename_i key e1
  rw[e1] at hk
  split at h
  ·split at h
   ·split at h
    ·exact(Ag0 (hk key (by simp)) _).trans (On hd (Iq h))
    ·cases h
   ·cases h
  ·cases h
 ·cases h
theorem Anj{f:Key→Option Key}{d:Nat}: ∀{r:List (Option TO)} {i:Nat} {l:List (Key×TO)},Aph f d i r=some l→ ∀p∈l,∃j,j<i+r.length∧p.1= .loc d j
 |[],_,_,h,p,hp=>by cases h;simp at hp
 |none::r,i,l,h,p,hp=>by
  simp only[Aph] at h
  obtain⟨j,h1,h2⟩:=Anj h p hp
  exact⟨j,by simp;omega,h2⟩
 |some o::r,i,l,h,p,hp=>by
  simp only[Aph] at h
  split at h
  ·split at h
   ·rename_i l' e2
    cases h
    rcases List.mem_cons.1 hp with rfl|hp
    ·exact⟨i,by simp,rfl⟩
    ·obtain⟨j,h1,h2⟩:=Anj e2 p hp
     exact⟨j,by simp;omega,h2⟩
   ·cases h
  ·cases h
theorem Bgl{ks:List Key}{d keep:Nat}{r:G4}{x:TV×List (Key×TO)}(h:Ayv ks d keep r=some x): ∀p∈x.2,p.1∈(List.range keep).map (Key.loc d):=by
 unfold Ayv at h
 split at h
 ·split at h
  ·cases h;intro p hp;simp at hp
  ·cases h
 ·split at h
  ·rename_i hl
   have hl:=of_decide_eq_true hl
   split at h
   ·split at h
    ·rename_i l e2
     cases h
     intro p hp
     obtain⟨j,h1,h2⟩:=Anj e2 p hp
     rw[h2]
     exact List.mem_map_of_mem (List.mem_range.2 (by omega))
    ·cases h
   ·cases h
  ·cases h
theorem Aqd: ∀(ks:List Key) (r:List (Option TO)),∀k∈Wu ks r,k∈ks
 |[],r,k,h=>by cases r<;>simp[Wu] at h
 |a::ks,[],k,h=>by simp[Wu] at h
 |a::ks,none::r,k,h=>by
  simp only[Wu] at h
  rcases List.mem_cons.1 h with rfl|h
  ·exact List.mem_cons_self
  ·exact List.mem_cons_of_mem _ (Aqd ks r k h)
 |a::ks,some o::r,k,h=>by
  simp only[Wu] at h
  exact List.mem_cons_of_mem _ (Aqd ks r k h)
theorem Aqc{f:Key→Option Key}: ∀{ks:List Key} {r:List (Option TO)} {σ σ':TSt},(∀k∈ks,k∉σ.fr.k)→Ahh f σ ks r=some σ'→Frm σ σ'
 |[],[],σ,σ',_,h=>by cases h;exact .refl _
 |[],_::_,σ,σ',_,h=>by cases h
 |_::_,[],σ,σ',_,h=>by cases h
 |k::ks,none::r,σ,σ',hk,h=>by
  simp only[Ahh] at h
  exact Aqc (fun k' hk'=>hk k' (by simp[hk'])) h
 |k::ks,some o::r,σ,σ',hk,h=>by
  simp only[Ahh] at h
  split at h
  ·rename_i o' e
   exact(Ag0 (hk k (by simp)) o').trans (Aqc (fun k' hk'=>hk k' (by simp[hk'])) h)
  ·cases h
theorem Bly{ln:List Key}{d keep:Nat}{r:G4}(hln: ∀k∈ln,k∉σ.fr.k)(hkeep: ∀k∈(List.range keep).map (Key.loc d),k∉σ.fr.k)(hd:d∉σ.fr.s)(h:A4a σ ln d keep r=some σ'):Frm σ σ':=by
 unfold A4a at h
 split at h
 ·rename_i x hx
  split at h
  ·split at h
   ·rename_i σ1 e1
    split at h
    ·rename_i σ2 e2
     have f1:=F0 (fun k hk=>hln k (Aqd _ _ k hk)) e1
     have f2:=Aqc (fun k hk=>by rw[f1.fr];exact hln k hk) e2
     have f12:=f1.trans f2
     have f3:=A4d (σ:=σ2) (l:=x.2) (fun p hp=>by rw[f12.fr];exact hkeep _ (Bgl hx p hp))
     have f123:=f12.trans f3
     exact f123.trans (On (fun t e=>by cases e;rw[f123.fr];exact hd) h)
    ·cases h
   ·cases h
  ·cases h
 ·cases h
theorem Blx{d:Option Nat}{keep m:Nat}{f:Opd}{args:List Opd}{fz ln:List Key}(hd: ∀t,d=some t→t∉σ.fr.s)(hk: ∀q∈touch σ ch (d.getD 0) (.call keep m f args fz ln),q∉σ.fr.k)(h:(Ai8 T σ ch d keep m f args fz ln).gives σ'):Frm σ σ':=by
 unfold Ai8 at h
 split at h
 ·cases h
 ·rename_i d
  have hd:=hd d rfl
  simp only[touch,Option.getD_some,List.mem_append] at hk
  split at h
  ·cases h
  ·rename_i σ1 e1
   split at h
   ·cases h
   ·rename_i σ2 e2
    have f1:=Ue (fun k hq=>hk k (.inr (.inl hq))) e1
    have f2:=F0 (fun k hq=>by rw[f1.fr];exact hk k (.inl hq)) e2
    have f12:=f1.trans f2
    split at h
    ·cases h
    ·split at h
     ·cases h
     ·split at h
      ·cases h
      ·obtain⟨r,_,hf⟩:=Ax4 h
       exact f12.trans (Bly (fun k hq=>by rw[f12.fr];exact hk k (.inr (.inr hq))) (fun k hq=>by rw[f12.fr];exact hk k (.inl hq)) (by rw[f12.fr];exact hd) hf)
theorem Bl3{d:Option Nat}{ty:Ty}{op:AOp}(hc:clear σ ch d op=true)(h:(tb T σ ch d ty op).gives σ'):Frm σ σ':=by
 have hd:=An3 hc
 have hk:=Atz hc
 cases op<;>simp only[tb] at h
 case store=>exact Biz hd hk h
 case append=>exact Bo6 hd hk h
 case mset=>exact Bl1 hd hk h
 case call=>exact Blx hd hk h
 all_goals cases h
theorem Bd9{l:List (Key×TO)}{p:Key×TO}(h:p∈l): ∃o,Ay (l.map hpU) p.1=some o:=by
 induction l with
 |nil=>cases h
 |cons q l ih=>
  simp only[List.map_cons,Ay,show(hpU q).1=q.1 from rfl]
  by_cases e:q.1=p.1
  ·exact⟨_,by rw[if_pos e]⟩
  ·rw[if_neg e]
   rcases List.mem_cons.1 h with rfl|h
   ·exact absurd rfl e
   ·exact ih h
end
end Go.Av
end
section
namespace Go.Av
section
variable [Dic] {σ:TSt} {ch:List (Nat×Bool)} {P:Program} {T:Tab}
theorem Inv.gs(hI:Inv σ)(t:Nat):Inv ⟨σ.sl,σ.hp,t::σ.gs,σ.fr⟩ where
 gd s t' b q x e:=by
  obtain⟨h1,h2⟩:=hI.gd s t' b q x e
  exact⟨List.mem_cons_of_mem _ h1,h2⟩
 io:=hI.io
def Ble(w:Bool)(a b:TV):Option TV:=match a with
 | .v t x=>match as1 t b with
  |some x'=>some (.v t (bif w then x else x'))
  |none=>none
 | .c p=>match b with
  | .v t x'=>match as1 t (.c p) with
   |some x=>some (.v t (bif w then x else x'))
   |none=>none
  |_=>none
 | .nils=>match b with
  | .nils=>some .nils
  |_=>none
 | .ptr k n=>match b with
  | .ptr k' n'=>match decide (k=k')&&decide (n=n') with
   |true=>some (.ptr k n)
   |false=>none
  |_=>none
 | .own k=>match b with
  | .own k'=>match decide (k=k') with
   |true=>some (.own k)
   |false=>none
  |_=>none
 | .mp k=>match b with
  | .mp k'=>match decide (k=k') with
   |true=>some (.mp k)
   |false=>none
  |_=>none
 | .dead=>match b with
  | .dead=>some .dead
  |_=>none
 |_=>none
theorem Boy{w:Bool}{a b c:TV}(h:Ble w a b=some c):c.u=bif w then a.u else b.u:=by
 unfold Ble at h
 split at h
 ·split at h
  ·rename_i t x x' e
   cases h
   have hb:=Lg e
   cases w
   ·rw[cond_false,Oe hb.1,hb.2];rfl
   ·rfl
  ·cases h
 ·split at h
  ·split at h
   ·rename_i p t x' x e
    cases h
    have hb:=Lg e
    cases w
    ·rfl
    ·rw[cond_true,Oe hb.1,hb.2];rfl
   ·cases h
  ·cases h
 ·split at h<;>cases h
  cases w<;>rfl
 ·split at h
  ·split at h
   ·rename_i hc
    simp only[Bool.and_eq_true,decide_eq_true_eq] at hc
    obtain⟨rfl,rfl⟩:=hc
    cases h;cases w<;>rfl
   ·cases h
  ·cases h
 ·split at h
  ·split at h
   ·rename_i hc
    have:=of_decide_eq_true hc
    subst this
    cases h;cases w<;>rfl
   ·cases h
  ·cases h
 ·split at h
  ·split at h
   ·rename_i hc
    have:=of_decide_eq_true hc
    subst this
    cases h;cases w<;>rfl
   ·cases h
  ·cases h
 ·split at h<;>cases h
  cases w<;>rfl
 ·cases h
def Bgw(w:Bool):List TV→List TV→Option (List TV)
 |[],[]=>some []
 |a::l,b::l'=>match Ble w a b with
  |some c=>match Bgw w l l' with
   |some r=>some (c::r)
   |none=>none
  |none=>none
 |_,_=>none
theorem Bgx{w:Bool}: ∀{l l' r:List TV},Bgw w l l'=some r→r.map TV.u=bif w then l.map TV.u else l'.map TV.u
 |[],[],r,h=>by cases h;cases w<;>rfl
 |[],_::_,r,h=>by cases h
 |_::_,[],r,h=>by cases h
 |a::l,b::l',r,h=>by
  simp only[Bgw] at h
  split at h
  ·rename_i c e1
   split at h
   ·rename_i r' e2
    cases h
    have h1:=Boy e1
    have h2:=Bgx e2
    cases w
    ·simp only[cond_false] at h1 h2⊢;simp[h1,h2]
    ·simp only[cond_true] at h1 h2⊢;simp[h1,h2]
   ·cases h
  ·cases h
def Bld(w:Bool)(a b:TO):Option TO:=match a,b with
 | .box cs,.box cs'=>match Bgw w cs cs' with
  |some r=>some (.box r)
  |none=>none
 | .row t l,.row t' l'=>if h:t=t' then some (.row t' (bif w then h▸l else l')) else none
 | .map kt vt l,.map kt' vt' l'=>if h:kt=kt'∧vt=vt' then some (.map kt' vt' (bif w then h.1▸h.2▸l else l')) else none
 |_,_=>none
theorem Bgy{w:Bool}{a b c:TO}(h:Bld w a b=some c):c.u=bif w then a.u else b.u:=by
 unfold Bld at h
 split at h
 ·split at h
  ·rename_i e
   cases h
   have:=Bgx e
   cases w
   ·exact congrArg Ah.box this
   ·exact congrArg Ah.box this
  ·cases h
 ·split at h
  ·rename_i e
   subst e;cases h;cases w<;>rfl
  ·cases h
 ·split at h
  ·rename_i e
   obtain⟨rfl,rfl⟩:=e
   cases h;cases w<;>rfl
  ·cases h
 ·cases h
def Bhv(k:Key):List (Key×TO)→Bool
 |[]=>true
 |p::l=>if p.1=k then l.all fun q=> !decide (q.1=k) else Bhv k l
theorem A2u{k:Key}{o o':TO}(hu:o'.u=o.u): ∀{l:List (Key×TO)},Bhv k l=true→B5 l k=some o→(l.map fun p=>if p.1=k then(k,o') else p).map hpU=l.map hpU
 |[],_,h=>by cases h
 |p::l,hn,h=>by
  simp only[Bhv] at hn
  simp only[B5] at h
  by_cases e:p.1=k
  ·rw[if_pos e] at hn h
   cases h
   simp only[List.map_cons,if_pos e]
   congr 1
   ·simp only[hpU,hu,e]
   ·rw[List.map_map]
    refine List.map_congr_left fun q hq=>?_
    have:=List.all_eq_true.1 hn q hq
    have hqk: ¬q.1=k:=by simpa using this
    simp only[Function.comp,if_neg hqk]
  ·rw[if_neg e] at hn h
   simp only[List.map_cons,if_neg e,A2u hu hn h]
def Adt(f:Key→Option Key)(w:Bool):TSt→List Key→List (Option TO)→Option TSt
 |σ,[],[]=>some σ
 |σ,k::ks,some o::r=>match o.nm f with
  |some o'=>match σ.look k with
   |some o0=>match Bld w o' o0 with
    |some o1=>match Bhv k σ.hp with
     |true=>Adt f w (σ.over k o1) ks r
     |false=>none
    |none=>none
   |none=>none
  |none=>none
 |_,_,_=>none
theorem A94{f:Key→Option Key}: ∀{ks:List Key} {r:List (Option TO)} {σ σ':TSt},Adt f false σ ks r=some σ'→σ'.u=σ.u
 |[],[],σ,σ',h=>by cases h;rfl
 |[],_::_,σ,σ',h=>by cases h
 |_::_,[],σ,σ',h=>by cases h
 |k::ks,none::r,σ,σ',h=>by cases h
 |k::ks,some o::r,σ,σ',h=>by
  simp only[Adt] at h
  split at h
  ·split at h
   ·rename_i o0 e0
    split at h
    ·rename_i o1 e1
     split at h
     ·rename_i hn
      rw[A94 h]
      have hu:o1.u=o0.u:=Bgy e1
      have h1:=congrArg St.sl σ.dem_u
      show(⟨_,_⟩:St)=⟨_,_⟩
      congr 1
      ·exact A2u hu hn e0
     ·cases h
    ·cases h
   ·cases h
  ·cases h
theorem A2x{f:Key→Option Key}: ∀{ks:List Key} {r:List (Option TO)} {σ τ σ':TSt},σ.u=τ.u→σ.gs=τ.gs→Adt f true σ ks r=some σ'→ ∃τ',Ahh f τ ks r=some τ'∧τ'.u=σ'.u∧τ'.gs=σ'.gs∧Wu ks r=[]
 |[],[],σ,τ,σ',hu,hg,h=>by cases h;exact⟨τ,rfl,hu.symm,hg.symm,rfl⟩
 |[],_::_,σ,τ,σ',hu,hg,h=>by cases h
 |_::_,[],σ,τ,σ',hu,hg,h=>by cases h
 |k::ks,none::r,σ,τ,σ',hu,hg,h=>by cases h
 |k::ks,some o::r,σ,τ,σ',hu,hg,h=>by
  simp only[Adt] at h
  split at h
  ·rename_i o' e'
   split at h
   ·split at h
    ·rename_i o0 _ o1 e1
     split at h
     ·have hu1:o1.u=o'.u:=Bgy e1
      have:(σ.over k o1).u=(τ.over k o').u:=by rw[Amj,Amj,hu,hu1]
      obtain⟨τ',h1,h2,h3,h4⟩:=A2x (τ:=τ.over k o') this hg h
      exact⟨τ',by simp only[Ahh,e',h1],h2,h3,by simp only[Wu,h4]⟩
     ·cases h
    ·cases h
   ·cases h
  ·cases h
theorem A2w{f:Key→Option Key}{w:Bool}: ∀{ks:List Key} {r:List (Option TO)} {σ σ':TSt},Inv σ→Adt f w σ ks r=some σ'→Inv σ'
 |[],[],σ,σ',hI,h=>by cases h;exact hI
 |[],_::_,σ,σ',hI,h=>by cases h
 |_::_,[],σ,σ',hI,h=>by cases h
 |k::ks,none::r,σ,σ',hI,h=>by cases h
 |k::ks,some o::r,σ,σ',hI,h=>by
  simp only[Adt] at h
  split at h
  ·split at h
   ·split at h
    ·split at h
     ·exact A2w (hI.over _ _) h
     ·cases h
    ·cases h
   ·cases h
  ·cases h
theorem Bpb{k:Key}{o:TO}{t:Nat}{b q:Bool}(h:σ.gv t b=some q):(σ.over k o).gv t b=some q:=by
 exact Bdx A8z (Blf σ.sl) h _
theorem A93{f:Key→Option Key}{w:Bool}{t:Nat}{b q:Bool}: ∀{ks:List Key} {r:List (Option TO)} {σ σ':TSt},σ.gv t b=some q→Adt f w σ ks r=some σ'→σ'.gv t b=some q
 |[],[],σ,σ',hI,h=>by cases h;exact hI
 |[],_::_,σ,σ',hI,h=>by cases h
 |_::_,[],σ,σ',hI,h=>by cases h
 |k::ks,none::r,σ,σ',hI,h=>by cases h
 |k::ks,some o::r,σ,σ',hI,h=>by
  simp only[Adt] at h
  split at h
  ·split at h
   ·split at h
    ·split at h
     ·exact A93 (Bpb hI) h
     ·cases h
    ·cases h
   ·cases h
  ·cases h
theorem A2c{f:Key→Option Key}{w:Bool}: ∀{ks:List Key} {r:List (Option TO)} {σ σ':TSt},(∀k∈ks,k∉σ.fr.k)→Adt f w σ ks r=some σ'→Frm σ σ'
 |[],[],σ,σ',hI,h=>by cases h;exact .refl _
 |[],_::_,σ,σ',hI,h=>by cases h
 |_::_,[],σ,σ',hI,h=>by cases h
 |k::ks,none::r,σ,σ',hI,h=>by cases h
 |k::ks,some o::r,σ,σ',hI,h=>by
  simp only[Adt] at h
  split at h
  ·split at h
   ·split at h
    ·rename_i o1 _
     split at h
     ·exact(Ag0 (hI k (by simp)) o1).trans (A2c (fun k' hk'=>hI k' (by simp[hk'])) h)
     ·cases h
    ·cases h
   ·cases h
  ·cases h
def Brs(σ:TSt)(ln:List Key)(d t:Nat)(b w:Bool)(r:G4):Option TSt:=match Ayv ln d 0 r with
 |some (x,[])=>match x.tame&&x.noGd with
  |true=>match Adt (G0 ln d 0) w σ ln r.ext with
   |some σ2=>TSt.put ⟨σ2.sl,σ2.hp,t::σ2.gs,σ2.fr⟩ (some d) (.gd t b w x.dem)
   |none=>none
  |false=>none
 |_=>none
def RAn.gog{β:Type}(w:Bool)(a:RAn)(K:G4→Option β):Option β:=match a with
 | .tot r=>K r
 | .par _ d o g=>(gdO w o d).bind fun a=>K (g a)
 |_=>none
theorem Bjq{β:Type}{w:Bool}{a:RAn}{K:G4→Option β}{r:β}(h:a.gog w K=some r): ∃x,K x=some r∧(w=true→a.gives x):=by
 cases a with
 |no=>cases h
 |tot v=>exact⟨v,h,fun _=>rfl⟩
 |par α d o g=>
  obtain⟨a,h1,h2⟩:=Wn h
  exact⟨_,h2,fun hw=>⟨a,Bl5 hw h1,rfl⟩⟩
 |alt=>cases h
def Blb{β:Type}(T:Tab)(σ:TSt)(ch:List (Nat×Bool))(d:Option Nat)(t:Nat)(b w:Bool)(op:AOp)(K:TSt→Option β):Option β:=match op,d with
 | .call 0 m f args [] ln,some d=>match callee σ ch f with
  |none=>none
  |some c=>match A9c σ ln ln with
   |none=>none
   |some ext=>match Eh (Bot m ln) (args.map (σ.ev ch)++c.2.2) with
    |none=>none
    |some vs=>(T.ask 0 c vs ext).gog w fun r=>match Brs σ ln d t b w r with
     |some σ'=>K σ'
     |none=>none
 |_,_=>none
theorem Bdf(hT:To P T)(hI:Inv σ){β:Type}{d:Option Nat}{t:Nat}{b w:Bool}{op:AOp}{K:TSt→Option β}{r:β}(hw:σ.gv t b=some w)(hs:w=true→Bp σ ch)(h:Blb T σ ch d t b w op K=some r):
  ∃(σ':TSt) (d' m:Nat) (f:Opd) (args:List Opd) (ln:List Key),K σ'=some r∧Inv σ'∧d=some d'∧op= .call 0 m f args [] ln∧((∀k∈ln,k∉σ.fr.k)→d'∉σ.fr.s→Frm σ σ')∧
   (w=false→σ'.u=σ.u.put (some d') (.tup []))∧(w=true→ ∃τ,Tn P σ (some d') op τ∧τ.u=σ'.u):=by
 unfold Blb at h
 split at h
 ·rename_i m f args ln d
  split at h
  ·cases h
  ·rename_i c hcal
   split at h
   ·cases h
   ·rename_i ext hext
    split at h
    ·cases h
    ·rename_i vs hv
     obtain⟨x,hx,hg⟩:=Bjq h
     split at hx
     ·rename_i σ' hf
      have hfin:Brs σ ln d t b w x=some σ':=hf
      unfold Brs at hf
      split at hf
      ·rename_i xv hxv
       split at hf
       ·rename_i htn
        simp only[Bool.and_eq_true] at htn
        split at hf
        ·rename_i σ2 e2
         have hu:=Alr hf
         refine⟨σ',d,m,f,args,ln,hx,?_,rfl,rfl,fun h1 h2=>?_,fun hwf=>?_,fun hwt=>?_⟩
         ·refine((A2w hI e2).gs t).put' (fun t' b' q y e=>?_) (fun k n off t' e' he=>by cases he) hf
          cases e
          refine⟨List.mem_cons_self,(A93 hw e2:σ2.gv t b=some w),?_⟩
          have:=htn.2
          cases xv<;>first|rfl|cases this
         ·have f1:=A2c h1 e2
          refine f1.trans (Frm.trans (b:=⟨σ2.sl,σ2.hp,t::σ2.gs,σ2.fr⟩) ⟨rfl,fun _ _ _=> .inl rfl,fun _ _=> .inr (.inl rfl)⟩ (On (fun t' e=>?_) hf))
          cases e
          show d∉σ2.fr.s
          rw[f1.fr];exact h2
         ·subst hwf
          rw[hu]
          have:(⟨σ2.sl,σ2.hp,t::σ2.gs,σ2.fr⟩:TSt).u=σ.u:=(A94 e2:σ2.u=σ.u)
          rw[this];rfl
         ·subst hwt
          obtain⟨τ2,h1,h2,h3,h4⟩:=A2x (τ:=σ) rfl rfl e2
          have hput: ∃τ,τ2.put (some d) xv=some τ:=by
           unfold TSt.put at hf⊢
           rw[h3]
           simp only at hf⊢
           split at hf
           ·rename_i hng
            have:σ2.gs.contains d=false:=by
             simp only[List.contains_cons,Bool.or_eq_false_iff] at hng
             exact hng.2
            rw[this];exact⟨_,rfl⟩
           ·cases hf
          obtain⟨τ,hτ⟩:=hput
          have hfin2:A4a σ ln d 0 x=some τ:=by
           unfold A4a
           simp only[hxv,htn.1,h4,TSt.killAll,h1]
           exact hτ
          have htb:(Ai8 T σ ch (some d) 0 m f args [] ln).gives τ:=by
           have e:Ai8 T σ ch (some d) 0 m f args [] ln=(T.ask 0 c vs ext).an2 (A4a σ ln d 0):=by
            simp only[Ai8,TSt.freezeAll,List.range_zero,List.map_nil,TSt.killAll,hcal,hext,hv]
           rw[e]
           have hgi:=hg rfl
           unfold RAn.an2
           cases hA:T.ask 0 c vs ext with
           |no=>rw[hA] at hgi;cases hgi
           |tot r0=>
            rw[hA] at hgi
            have hgi:x=r0:=hgi
            subst hgi
            show(An2.opt (A4a σ ln d 0 x)).gives τ;rw[hfin2];rfl
           |par α dd o g=>
            rw[hA] at hgi
            obtain⟨a,ha,hga⟩:=hgi
            exact⟨a,ha,by show A4a σ ln d 0 (g a)=some τ;rw[hga];exact hfin2⟩
           |alt α β o f' g=>
            rw[hA] at h
            cases h
          refine⟨τ,(Aum hT hI (hs rfl) htb).1,?_⟩
          rw[Alr hτ,hu,h2]
          show St.put _ _ _=St.put σ2.u _ _
          simp only[TV.u,cond_true,dem_u]
        ·cases hf
       ·cases hf
      ·cases hf
     ·cases hx
 ·cases h
end
end Go.Av
end
section
namespace Go.Av
section
variable [Dic] {σ:TSt} {ch:List (Nat×Bool)} {P:Program} {T:Tab}
structure TOp where
 g:GOp
 t:Ty
 t2:Ty
def An2.go{β:Type}(a:An2)(K:TSt→Option β):Option β:=match a with
 | .no=>none
 | .tot σ=>K σ
 | .par _ o g=>o.bind fun a=>match g a with
  |some σ=>K σ
  |none=>none
 | .alt _ _ o f g=>o.bind fun j=>match j with
  | .inl a=>match f a with
   |some σ=>K σ
   |none=>none
  | .inr b=>match g b with
   |some σ=>K σ
   |none=>none
def An.go{β:Type}(a:An)(K:TV→List (Key×TO)→Option β):Option β:=match a with
 | .no=>none
 | .tot v l=>K v l
 | .par _ _ o g=>o.bind fun a=>match g a with
  |some x=>K x.1 x.2
  |none=>none
 | .alt _ _ o f g=>o.bind fun j=>match j with
  | .inl a=>match f a with
   |some x=>K x.1 x.2
   |none=>none
  | .inr b=>match g b with
   |some x=>K x.1 x.2
   |none=>none
def An.gog{β:Type}(w:Bool)(a:An)(K:TV→Option β):Option β:=match a with
 | .tot v []=>K v
 | .par _ d o g=>(gdO w o d).bind fun a=>match g a with
  |some (v,[])=>K v
  |_=>none
 |_=>none
theorem A9a{β:Type}{a:An2}{K:TSt→Option β}{r:β}(h:a.go K=some r): ∃σ',a.gives σ'∧K σ'=some r:=by
 cases a with
 |no=>cases h
 |tot σ=>exact⟨σ,rfl,h⟩
 |par α o g=>
  obtain⟨a,h1,h2⟩:=Wn h
  cases e:g a with
  |none=>simp only[e] at h2;cases h2
  |some σ=>simp only[e] at h2;exact⟨σ,⟨a,h1,e⟩,h2⟩
 |alt α β o f g=>
  obtain⟨j,h1,h2⟩:=Wn h
  cases j with
  |inl a=>
   simp only at h2
   split at h2
   ·rename_i σ e;exact⟨σ,⟨_,h1,e⟩,h2⟩
   ·cases h2
  |inr a=>
   simp only at h2
   split at h2
   ·rename_i σ e;exact⟨σ,⟨_,h1,e⟩,h2⟩
   ·cases h2
theorem Bpa{β:Type}{a:An}{K:TV→List (Key×TO)→Option β}{r:β}(h:a.go K=some r): ∃e,a.gives e∧K e.1 e.2=some r:=by
 cases a with
 |no=>cases h
 |tot v l=>exact⟨(v,l),rfl,h⟩
 |par α d o g=>
  obtain⟨a,h1,h2⟩:=Wn h
  cases e:g a with
  |none=>simp only[e] at h2;cases h2
  |some x=>simp only[e] at h2;exact⟨x,⟨a,h1,e⟩,h2⟩
 |alt α β o f g=>
  obtain⟨j,h1,h2⟩:=Wn h
  cases j with
  |inl a=>
   simp only at h2
   split at h2
   ·rename_i σ e;exact⟨σ,⟨_,h1,e⟩,h2⟩
   ·cases h2
  |inr a=>
   simp only at h2
   split at h2
   ·rename_i σ e;exact⟨σ,⟨_,h1,e⟩,h2⟩
   ·cases h2
theorem Bl9{β:Type}{w:Bool}{a:An}{K:TV→Option β}{r:β}(h:a.gog w K=some r): ∃v,K v=some r∧(w=true→a.gives (v,[])):=by
 cases a with
 |no=>cases h
 |tot v l=>
  cases l with
  |nil=>exact⟨v,h,fun _=>rfl⟩
  |cons a l=>cases h
 |par α d o g=>
  obtain⟨a,h1,h2⟩:=Wn h
  split at h2
  ·rename_i v e
   refine⟨v,h2,fun hw=>⟨a,Bl5 hw h1,e⟩⟩
  ·cases h2
 |alt α β o f g=>cases h
def AOp.isCall:AOp→Bool
 | .call .. =>true
 |_=>false
def Bta{β:Type}(σ:TSt)(t:Nat)(b w:Bool)(d:Option Nat)(v:TV)(K:TSt→Option β):Option β:=match v.noGd with
 |true=>match TSt.put ⟨σ.sl,σ.hp,t::σ.gs,σ.fr⟩ d (.gd t b w v.dem) with
  |some σ'=>K σ'
  |none=>none
 |false=>none
def Bpu{β:Type}(σ:TSt)(d:Option Nat)(v:TV)(K:TSt→Option β):Option β:=match σ.put d v with
 |some σ'=>K σ'
 |none=>none
def Boj{β:Type}(T:Tab)(draw:Bool)(σ:TSt)(o:TOp)(K:TSt→Option β):Option β:=match o.g.g with
 |none=>match clear σ [] o.g.d o.g.op with
  |false=>none
  |true=>match o.g.op.isB with
   |true=>(tb T σ [] o.g.d o.t o.g.op).go K
   |false=>match (match draw with
     |true=>some σ
     |false=>σ.killAll (o.g.op.keys (o.g.d.getD 0))) with
    |some σ=>(Bka T σ [] (o.g.d.getD 0) o.t o.t2 o.g.op).go fun v ins=>Bpu (σ.insAll ins) o.g.d v K
    |none=>none
 |some (t,b)=>match σ.gv t b with
  |none=>none
  |some w=>match clear σ (chain σ 4 t b) o.g.d o.g.op with
   |false=>none
   |true=>match o.g.op.isB with
    |true=>match o.g.op.isCall with
     |true=>Blb T σ (chain σ 4 t b) o.g.d t b w o.g.op K
     |false=>if w=true then(tb T σ (chain σ 4 t b) o.g.d o.t o.g.op).go K else Bpu σ o.g.d .dead K
    |false=>match (o.g.op.keys (o.g.d.getD 0)).isEmpty with
     |true=>(Bka T σ (chain σ 4 t b) (o.g.d.getD 0) o.t o.t2 o.g.op).gog w fun v=>Bta σ t b w o.g.d v K
     |false=>none
theorem Zp:Bp σ []:=fun _ h=>by cases h
theorem Blr(hI:Inv σ){w:TV}{d:Option Nat}{ins:List (Key×TO)}{σ':TSt}(hw:Bik σ w)(hio:ins=[]∨w.tame=true)(h:(σ.insAll ins).put d w=some σ'):Inv σ':=by
 rcases hio with rfl|ht
 ·refine hI.put' (fun t b q x e=>?_) hw.2 h
  subst e;cases hw.1
 ·exact(hI.insAll _).put ht h
theorem Bod{d:Nat}{ty ty2:Ty}{op:AOp}{e:TV×List (Key×TO)}(hT:To P T)(hI:Inv σ)(hc:Bp σ ch)(h:(Bka T σ ch d ty ty2 op).gives e):e.2=[]∨e.1.tame=true:=by
 cases op<;>simp only[Bka] at h
 case fld=>
  unfold Bh7 at h
  split at h<;>cases h<;>exact .inl rfl
 case idx=>
  unfold Bh8 at h
  split at h
  ·split at h
   ·split at h
    ·obtain⟨a,_,rfl⟩:=Ea h;exact .inl rfl
    ·cases h
   ·split at h
    ·split at h
     ·obtain⟨a,_,rfl⟩:=Ea h;exact .inl rfl
     ·cases h
    ·cases h
   ·cases h
  ·cases h
 case mov=>exact .inr (A90 (d:=d) hI hc h).2
 case pick=>exact .inr (A22 (d:=d) hI hc h).2
 case alloc=>exact .inr (Aug (σ:=σ) h).2
 case box=>exact .inr (A8s hI hc h).2
 case load=>exact .inr (Aqk (d:=d) hI hc h).2
 case bin=>exact .inr (A8q (d:=d) hI hc h).2
 case eqs=>exact .inr (A83 (d:=d) hI hc h).2
 case un=>exact .inr (Bie (d:=d) hI hc h).2
 case conv=>exact .inr (A16 (d:=d) hI hc h).2
 case part=>exact .inr (A2z (d:=d) hI hc h).2
 case sidx=>exact .inr (A3e (d:=d) hI hc h).2
 case aidx=>exact .inr (A1v (d:=d) hI hc h).2
 case b2s=>exact .inr (A8k (d:=d) hI hc h).2
 case ext=>exact .inr (A84 (d:=d) hI hc h).2
 case build=>exact .inr (Aul (d:=d) hI hc h).2
 case lit=>exact .inr (A9p hI hc h).2
 case mk=>exact .inr (Bho hI hc h).2
 case slc=>exact .inr (Bb4 (d:=d) hI hc h).2
 case len=>exact .inr (A9j (d:=d) hI hc h).2
 case mm=>exact .inr (Bhp (d:=d) hI hc h).2
 case mkfn=>exact .inr (A2q (d:=d) hI hc h).2
 case call=>exact .inr (A13 hT hI hc h).2
 case mkmap=>exact .inr (Avl (σ:=σ) h).2
 case mlook=>exact .inr (Avm (d:=d) hI hc h).2
 case mlen=>exact .inr (A2r (d:=d) hI hc h).2
 case mkI=>exact .inr (A9y (d:=d) hI hc h).2
 case nchk=>exact .inr (A2t (d:=d) hI hc h).2
 case isNil=>exact .inr (Au1 (d:=d) hI hc h).2
 all_goals cases h
def Bsq(P:Program)(draw:Bool)(σ:TSt)(o:GOp)(σ':TSt):Prop:= ∃q:Option Ask,(∀k,q=some k→k.d=o.d.getD 0∧k.good P∧o.op.isCall=true)∧ ∀cl,(∀k,q=some k→k.told cl)→step cl draw σ.u o=some σ'.u
theorem Ayw{d:Nat}{op:AOp}(hB:op.isB=false): ∀k∈op.keys d,k∈touch σ ch d op:=by
 intro k hk
 cases op<;>first|(cases hB;done)|exact hk|skip
 exact List.mem_append_left _ hk
theorem Biv{d:Nat}{op:AOp}{e:TV×List (Key×TO)}(h:A8a P σ d op e): ∀p∈e.2,p.1∈op.keys d:=by
 obtain⟨q,h1,h2⟩:=h
 have hcl: ∃cl:Callee,∀k,q=some k→k.told cl:=by
  cases q with
  |none=>exact⟨Avp,fun k e=>by cases e⟩
  |some k=>exact⟨fun d g a x=>some k.r,fun k' e=>by cases e;rfl⟩
 obtain⟨cl,hcl⟩:=hcl
 intro p hp
 obtain⟨o,ho⟩:=Bd9 hp
 exact A8f (h2 cl hcl) ho
theorem Ar9(hT:To P T)(hI:Inv σ){β:Type}{draw:Bool}{o:TOp}{K:TSt→Option β}{r:β}(h:Boj T draw σ o K=some r): ∃σ',K σ'=some r∧Inv σ'∧Frm σ σ'∧Bsq P draw σ o.g σ':=by
 obtain⟨⟨d,g,op⟩,ty,ty2⟩:=o
 unfold Boj at h
 simp only at h
 cases g with
 |none=>
  simp only at h
  split at h
  ·cases h
  ·rename_i hclear
   split at h
   ·rename_i hB
    obtain⟨σ',h1,h2⟩:=A9a h
    obtain⟨⟨q,h3,h4⟩,h5⟩:=Bck hT hI Zp h1
    refine⟨σ',h2,h5,Bl3 hclear h1,q,fun k e=>?_,fun cl hcl=>?_⟩
    ·obtain⟨g1,g2,keep,m,f,args,fz,ln,rfl⟩:=h3 k e
     exact⟨by rw[g1];rfl,g2,rfl⟩
    ·simp only[step,St.wants,hB,cond_true]
     exact h4 cl hcl
   ·rename_i hB
    split at h
    ·rename_i σ1 e1
     obtain⟨e,h1,h2⟩:=Bpa h
     unfold Bpu at h2
     split at h2
     ·rename_i σ' e2
      have i1:Inv σ1:=by
       cases draw with
       |true=>cases e1;exact hI
       |false=>exact hI.killAll e1
      have f1:Frm σ σ1:=by
       cases draw with
       |true=>cases e1;exact .refl _
       |false=>exact F0 (fun k hk=>Atz hclear k (Ayw hB k hk)) e1
      have hd:=Ays hT i1 Zp h1
      have f2:Frm σ1 (σ1.insAll e.2):=A4d (fun p hp=>by
       rw[f1.fr]
       exact Atz hclear _ (Ayw hB _ (Biv hd.1 p hp)))
      have f12:=f1.trans f2
      have f3:=f12.trans (On (fun t ht=>by rw[f12.fr];exact An3 hclear t ht) e2)
      obtain⟨⟨q,h3,h4⟩,h5⟩:=hd
      refine⟨σ',h2,Blr i1 h5 (Bod hT i1 Zp h1) e2,f3,q,fun k e=>?_,fun cl hcl=>?_⟩
      ·obtain⟨g1,g2,keep,m,f,args,fz,ln,rfl⟩:=h3 k e
       exact⟨g1,g2,rfl⟩
      ·have hu:(bif draw then Alt cl σ.u ⟨d,none,op⟩ else Alt cl (σ.u.killAll (op.keys (d.getD 0))) ⟨d,none,op⟩)=Alt cl σ1.u ⟨d,none,op⟩:=by
        cases draw with
        |true=>cases e1;rfl
        |false=>rw[I2 e1];rfl
       simp only[step,St.wants,hB,cond_false]
       rw[hu]
       simp only[Alt,h4 cl hcl]
       rw[Alr e2,Au0]
     ·cases h2
    ·cases h
 |some tb'=>
  obtain⟨t,b⟩:=tb'
  simp only at h
  split at h
  ·cases h
  ·rename_i w hw
   have hwu:=Bmb hw
   split at h
   ·cases h
   ·rename_i hclear
    split at h
    ·rename_i hB
     split at h
     ·obtain⟨σ',d',m,f,args,ln,hK,i2,rfl,rfl,hfrm,hno,hyes⟩:=Bdf hT hI hw (fun e=>Tu hI 4 t b (e▸hw)) h
      have hd:=An3 hclear
      have hk:=Atz hclear
      refine⟨σ',hK,i2,hfrm (fun k hk'=>hk k (by simp[touch,hk'])) (hd d' rfl),?_⟩
      cases w with
      |true=>
       obtain⟨τ,⟨q,h3,h4⟩,h5⟩:=hyes rfl
       refine⟨q,fun k e=>?_,fun cl hcl=>?_⟩
       ·obtain⟨g1,g2,g3⟩:=h3 k e
        exact⟨by cases g1;rfl,g2,rfl⟩
       ·simp only[step,hwu,hB,cond_true]
        rw[h4 cl hcl,h5]
      |false=>
       refine⟨none,fun k e=>(by cases e),fun cl _=>?_⟩
       simp only[step,hwu,AOp.skipV]
       rw[hno rfl]
     ·rename_i hnc
      split at h
      ·rename_i hwt
       subst hwt
       obtain⟨σ',h1,h2⟩:=A9a h
       obtain⟨⟨q,h3,h4⟩,h5⟩:=Bck hT hI (Tu hI 4 t b hw) h1
       refine⟨σ',h2,h5,Bl3 hclear h1,q,fun k e=>?_,fun cl hcl=>?_⟩
       ·obtain⟨g1,g2,keep,m,f,args,fz,ln,rfl⟩:=h3 k e
        exact⟨by rw[g1];rfl,g2,rfl⟩
       ·simp only[step,hwu,hB,cond_true]
        exact h4 cl hcl
      ·rename_i hwf
       have hwf:w=false:=by simpa using hwf
       subst hwf
       unfold Bpu at h
       split at h
       ·rename_i σ' e2
        refine⟨σ',h,hI.put_dead e2,On (An3 hclear) e2,none,fun k e=>(by cases e),fun cl _=>?_⟩
        have hsk:op.skipV= .dead:=by
         cases op<;>first|rfl|(cases hnc;done)|(cases hB;done)
        simp only[step,hwu,hsk]
        rw[Alr e2];rfl
       ·cases h
    ·rename_i hB
     split at h
     ·rename_i hk
      have hk:op.keys (d.getD 0)=[]:=by simpa using hk
      obtain⟨v,h1,h2⟩:=Bl9 h
      unfold Bta at h1
      split at h1
      ·rename_i hv
       split at h1
       ·rename_i σ' e2
        have hu:=Alr e2
        have i2:Inv σ':=by
         refine(hI.gs t).put' (fun t' b' q x e=>?_) (fun k n off t' e' he=>by cases he) e2
         cases e
         refine⟨List.mem_cons_self,hw,?_⟩
         cases v<;>first|rfl|cases hv
        have f2:Frm σ σ':=Frm.trans (b:=⟨σ.sl,σ.hp,t::σ.gs,σ.fr⟩) ⟨rfl,fun _ _ _=> .inl rfl,fun _ _=> .inr (.inl rfl)⟩ (On (An3 hclear) e2)
        cases w with
        |true=>
         obtain⟨⟨q,h3,h4⟩,h5⟩:=Ays hT hI (Tu hI 4 t b hw) (h2 rfl)
         refine⟨σ',h1,i2,f2,q,fun k e=>?_,fun cl hcl=>?_⟩
         ·obtain⟨g1,g2,keep,m,f,args,fz,ln,rfl⟩:=h3 k e
          exact⟨g1,g2,rfl⟩
         ·simp only[step,hwu,hB,cond_false,hk,St.killAll,Alt,h4 cl hcl]
          rw[hu]
          cases draw<;>simp[St.insAll,TV.u,dem_u]<;>rfl
        |false=>
         refine⟨σ',h1,i2,f2,none,fun k e=>(by cases e),fun cl _=>?_⟩
         have hsk:op.skipV= .tup []:=by
          cases op<;>first|rfl|(cases hB;done)
         simp only[step,hwu,hsk]
         rw[hu];rfl
       ·cases h1
      ·cases h1
     ·cases h
def Bkb{β:Type}(T:Tab)(draw:Bool):List TOp→TSt→(TSt→Option β)→Option β
 |[],σ,K=>K σ
 |o::os,σ,K=>Boj T draw σ o fun σ'=>Bkb T draw os σ' K
noncomputable def Bir(L:List Ask):Callee:=fun d g args ext=>open Classical in if h: ∃k,k∈L∧k.d=d∧k.g=g∧k.args=args∧k.ext=ext then some h.choose.r else none
theorem Aun{L:List Ask}(h: ∀k∈L,k.good P):Oc P (Bir L):=by
 intro d g args ext r hr
 unfold Bir at hr
 split at hr
 ·rename_i hx
  cases hr
  obtain⟨h1,h2,h3,h4,h5⟩:=hx.choose_spec
  have:=h _ h1
  unfold Ask.good at this
  rw[h3,h4,h5] at this
  exact this
 ·cases hr
theorem A15{L:List Ask}(hd: ∀k∈L,∀k'∈L,k.d=k'.d→k=k'): ∀k∈L,k.told (Bir L):=by
 intro k hk
 have hx: ∃k',k'∈L∧k'.d=k.d∧k'.g=k.g∧k'.args=k.args∧k'.ext=k.ext:=⟨k,hk,rfl,rfl,rfl,rfl⟩
 unfold Ask.told Bir
 rw[dif_pos hx]
 obtain⟨h1,h2,_⟩:=hx.choose_spec
 rw[hd _ h1 _ hk h2]
theorem Bcp(hT:To P T){β:Type}{K:TSt→Option β}{r:β}: ∀{l:List TOp} {σ:TSt},Inv σ→Bkb T false l σ K=some r→ ∃σ',K σ'=some r∧Inv σ'∧Frm σ σ'∧A3r P (l.map (·.g)) σ.u σ'.u
 |[],σ,hI,h=>⟨σ,h,hI,.refl _,.nil _⟩
 |o::os,σ,hI,h=>by
  obtain⟨σ1,h1,i1,f1,q,h2,h3⟩:=Ar9 hT hI h
  obtain⟨σ',h4,i',f2,h5⟩:=Bcp hT i1 h1
  refine⟨σ',h4,i',f1.trans f2,?_⟩
  have hS: ∃cl,Oc P cl∧step cl false σ.u o.g=some σ1.u:=by
   cases q with
   |none=>exact⟨Avp,Beg,h3 Avp (fun k e=>by cases e)⟩
   |some k=>
    refine⟨Bir [k],Aun (fun k' hk'=>?_),h3 _ (fun k' e=>?_)⟩
    ·rw[List.mem_singleton.1 hk'];exact(h2 k rfl).2.1
    ·cases e
     exact A15 (fun a ha b hb _=>(by rw[List.mem_singleton.1 ha,List.mem_singleton.1 hb])) k (by simp)
  obtain⟨cl,hs,hst⟩:=hS
  exact .cons hs hst h5
def Ap6(l:List TOp):List Nat:=l.filterMap fun o=>match o.g.op.isCall with
 |true=>some (o.g.d.getD 0)
 |false=>none
def Ahg:List Nat→Bool
 |[]=>true
 |a::l=> !l.contains a&&Ahg l
theorem Beh{l:List Nat}(h:Ahg l=true):l.Nodup:=by
 induction l with
 |nil=>exact List.nodup_nil
 |cons a l ih=>
  simp only[Ahg,Bool.and_eq_true,Bool.not_eq_true'] at h
  refine List.nodup_cons.2 ⟨fun hm=>?_,ih h.2⟩
  rw[List.contains_iff_mem.2 hm] at h;cases h.1
theorem Ayy(hT:To P T){β:Type}{K:TSt→Option β}{r:β}: ∀{l:List TOp} {σ:TSt},Inv σ→Bkb T true l σ K=some r→ ∃(σ':TSt) (L:List Ask),K σ'=some r∧Inv σ'∧Frm σ σ'∧(∀k∈L,k.good P)∧(L.map Ask.d).Sublist (Ap6 l)∧ ∀cl,(∀k∈L,k.told cl)→Md cl true (l.map (·.g)) σ.u=some σ'.u
 |[],σ,hI,h=>⟨σ,[],h,hI,.refl _,by simp,.slnil,fun cl _=>rfl⟩
 |o::os,σ,hI,h=>by
  obtain⟨σ1,h1,i1,f1,q,h2,h3⟩:=Ar9 hT hI h
  obtain⟨σ',L,h4,i',f2,h5,h6,h7⟩:=Ayy hT i1 h1
  have hcd:Ap6 (o::os)=(match o.g.op.isCall with|true=>[o.g.d.getD 0]|false=>[])++Ap6 os:=by
   unfold Ap6
   rw[List.filterMap_cons]
   cases o.g.op.isCall<;>rfl
  cases q with
  |none=>
   refine⟨σ',L,h4,i',f1.trans f2,h5,?_,fun cl hcl=>?_⟩
   ·rw[hcd];exact h6.trans (List.sublist_append_right _ _)
   ·simp only[List.map_cons,Md,h3 cl (fun k e=>by cases e)]
    exact h7 cl hcl
  |some k=>
   obtain⟨g1,g2,g3⟩:=h2 k rfl
   refine⟨σ',k::L,h4,i',f1.trans f2,fun k' hk'=>?_,?_,fun cl hcl=>?_⟩
   ·rcases List.mem_cons.1 hk' with rfl|hk'
    ·exact g2
    ·exact h5 k' hk'
   ·rw[hcd,g3,List.map_cons,g1]
    exact h6.cons_cons _
   ·simp only[List.map_cons,Md,h3 cl (fun k' e=>by cases e;exact hcl k (by simp))]
    exact h7 cl (fun k' hk'=>hcl k' (by simp[hk']))
theorem Bkc(hT:To P T){β:Type}{K:TSt→Option β}{r:β}{l:List TOp}(hI:Inv σ)(hn:Ahg (Ap6 l)=true)(h:Bkb T true l σ K=some r): ∃(σ':TSt) (cl:Callee),K σ'=some r∧Inv σ'∧Frm σ σ'∧Oc P cl∧Md cl true (l.map (·.g)) σ.u=some σ'.u:=by
 obtain⟨σ',L,h4,i',f,h5,h6,h7⟩:=Ayy hT hI h
 refine⟨σ',Bir L,h4,i',f,Aun h5,h7 _ (A15 ?_)⟩
 have hnd:(L.map Ask.d).Nodup:=h6.nodup (Beh hn)
 clear h4 h5 h6 h7 hn
 induction L with
 |nil=>simp
 |cons a L ih=>
  rw[List.map_cons,List.nodup_cons] at hnd
  intro k hk k' hk' e
  rcases List.mem_cons.1 hk with h1|h1<;>rcases List.mem_cons.1 hk' with h2|h2
  ·rw[h1,h2]
  ·exact absurd ((h1▸e)▸List.mem_map_of_mem (f:=Ask.d) h2) hnd.1
  ·exact absurd ((h2▸e)▸List.mem_map_of_mem (f:=Ask.d) h1) hnd.1
  ·exact ih hnd.2 k h1 k' h2 e
end
end Go.Av
end
section
namespace Go.Av
def Alo{α:Type}(p:List Nat)(l:List α):Option (List α):=match p with
 |[]=>some l
 |p=>Eh (fun i=>l[i]?) p
theorem A9w{α β:Type}(f:α→β)(l:List α): ∀p:List Nat,Eh (fun i=>(l.map f)[i]?) p=(Eh (fun i=>l[i]?) p).map (List.map f)
 |[]=>rfl
 |i::p=>by
  simp only[Eh]
  rw[A9w f l p,List.getElem?_map]
  cases l[i]? with
  |none=>rfl
  |some a=>
   simp only[Option.map_some]
   cases Eh (fun i=>l[i]?) p<;>rfl
theorem A20{α β:Type}(f:α→β)(p:List Nat)(l:List α):Alo p (l.map f)=(Alo p l).map (List.map f):=by
 cases p with
 |nil=>rfl
 |cons i p=>exact A9w f l (i::p)
def Bsn(p q:List Nat)(n:Nat):Bool:=match Alo p (List.range n) with
 |some r=>match Alo q r with
  |some s=>s==List.range n
  |none=>false
 |none=>false
theorem Bkf{α:Type}(d:α){p q:List Nat}{l r:List α}(h:Bsn p q l.length=true)(hp:Alo p l=some r):Alo q r=some l:=by
 have e:l=(List.range l.length).map (fun i=>l.getD i d):=by
  apply List.ext_getElem?
  intro i
  rw[List.getElem?_map]
  by_cases hi:i<l.length
  ·rw[List.getElem?_range hi,List.getElem?_eq_getElem hi]
   simp[List.getD,List.getElem?_eq_getElem hi]
  ·rw[List.getElem?_eq_none (by omega),List.getElem?_eq_none (by simp;omega)];rfl
 rw[e,A20] at hp
 unfold Bsn at h
 split at h
 ·rename_i r' e1
  split at h
  ·rename_i s e2
   rw[e1] at hp
   simp only[Option.map_some,Option.some.injEq] at hp
   subst hp
   rw[A20,e2]
   have:s=List.range l.length:=by simpa using h
   rw[this,Option.map_some,←e]
  ·cases h
 ·cases h
section
variable [Dic]
def Ed:List Ty→Type
 |[]=>Unit
 |t::ts=>match ts with
  |[]=>t.D
  |_::_=>t.D×Ed ts
def Bgz(t:Ty):(ts:List Ty)→t.D→Ed ts→Ed (t::ts)
 |[],x,_=>x
 |_::_,x,r=>(x,r)
def hdX(t:Ty):(ts:List Ty)→Ed (t::ts)→t.D
 |[],x=>x
 |_::_,x=>x.1
def tlX(t:Ty):(ts:List Ty)→Ed (t::ts)→Ed ts
 |[],_=>()
 |_::_,x=>x.2
theorem Bpc(t:Ty)(ts:List Ty)(x:t.D)(r:Ed ts):hdX t ts (Bgz t ts x r)=x:=by cases ts<;>rfl
theorem Bqd(t:Ty)(ts:List Ty)(x:t.D)(r:Ed ts):tlX t ts (Bgz t ts x r)=r:=by cases ts<;>rfl
def toN:(ts:List Ty)→List TV→Option (Ed ts)
 |[],[]=>some ()
 |t::ts,w::ws=>match as0 t w with
  |some x=>match toN ts ws with
   |some r=>some (Bgz t ts x r)
   |none=>none
  |none=>none
 |_,_=>none
def ofN:(ts:List Ty)→Ed ts→List TV
 |[],_=>[]
 |t::ts,x=> .v t (hdX t ts x)::ofN ts (tlX t ts x)
def Bst:(ts:List Ty)→Ed ts
 |[]=>()
 |t::ts=>Bgz t ts t.dfl (Bst ts)
def TV.isV:TV→Bool
 | .v _ _=>true
 |_=>false
theorem Bgs{t:Ty}{w:TV}{x:t.D}(hv:w.isV=true)(h:as0 t w=some x):w= .v t x:=by
 cases w<;>first|(cases hv;done)|skip
 simp only[as0] at h
 split at h
 ·rename_i ht;subst ht;cases h;rfl
 ·cases h
theorem Bof: ∀{ts:List Ty} {ws:List TV} {p:Ed ts},ws.all TV.isV=true→toN ts ws=some p→ofN ts p=ws:=by
 intro ts
 induction ts with
 |nil=>
  intro ws p hv h
  cases ws with
  |nil=>rfl
  |cons w ws=>simp only[toN] at h;cases h
 |cons t ts ih=>
  intro ws p hv h
  cases ws with
  |nil=>simp only[toN] at h;cases h
  |cons w ws=>
   simp only[List.all_cons,Bool.and_eq_true] at hv
   simp only[toN] at h
   split at h
   ·rename_i x hx
    split at h
    ·rename_i r hr
     have h:=(Option.some.inj h).symm
     subst h
     rw[Bgs hv.1 hx,ofN,Bpc,Bqd,ih hv.2 hr]
    ·cases h
   ·cases h
inductive VS where
 |ty (t:Ty)
 |nils
 |ptr (k:Key) (off:Nat)
 |own (k:Key)
 |mp (k:Key)
 |agg (t:Ty) (cs:List VS)
 |tup (cs:List VS)
 |fn (f:FuncId) (cs:List VS)
 |fnc (f:FuncId)
 |nilFn
 |iv (t:Ty) (off:Nat)
 |ic (cs:List VS) (off:Nat)
 |dead
mutual
def VS.flat:VS→TV→Option (List TV)
 | .ty t,w=>match as1 t w with
  |some x=>some [.v t x]
  |none=>none
 | .nils,.nils=>some []
 | .ptr k o,.ptr k' o'=>match decide (k=k')&&o==o' with
  |true=>some []
  |false=>none
 | .own k,.own k'=>match decide (k=k') with
  |true=>some []
  |false=>none
 | .mp k,.mp k'=>match decide (k=k') with
  |true=>some []
  |false=>none
 | .agg _ cs,.agg _ ws=>flatL cs ws
 | .tup cs,.tup ws=>flatL cs ws
 | .fn f cs,.fn f' ws=>match f==f' with
  |true=>flatL cs ws
  |false=>none
 | .fnc f,.c (.fn f')=>match f==f' with
  |true=>some []
  |false=>none
 | .nilFn,.c .nilFn=>some []
 | .iv t o,.iv t' x o'=>match o==o' with
  |true=>match as0 t (.v t' x) with
   |some x=>some [.v t x]
   |none=>none
  |false=>none
 | .ic cs o,.ic ws o'=>match o==o'&&ws.all TV.isP with
  |true=>flatL cs ws
  |false=>none
 | .dead,.dead=>some []
 |_,_=>none
def flatL:List VS→List TV→Option (List TV)
 |[],[]=>some []
 |c::cs,w::ws=>match c.flat w with
  |some l=>match flatL cs ws with
   |some r=>some (l++r)
   |none=>none
  |none=>none
 |_,_=>none
end
mutual
def VS.mk':VS→List TV→TV×List TV
 | .ty _,w::r=>(w,r)
 | .ty _,[]=>(.dead,[])
 | .nils,r=>(.nils,r)
 | .ptr k o,r=>(.ptr k o,r)
 | .own k,r=>(.own k,r)
 | .mp k,r=>(.mp k,r)
 | .agg t cs,r=>(.agg t (mkL cs r).1,(mkL cs r).2)
 | .tup cs,r=>(.tup (mkL cs r).1,(mkL cs r).2)
 | .fn f cs,r=>(.fn f (mkL cs r).1,(mkL cs r).2)
 | .fnc f,r=>(.c (.fn f),r)
 | .nilFn,r=>(.c .nilFn,r)
 | .iv _ o,w::r=>(match w with
  | .v t x=> .iv t x o
  |_=> .dead,r)
 | .iv _ _,[]=>(.dead,[])
 | .ic cs o,r=>(.ic (mkL cs r).1 o,(mkL cs r).2)
 | .dead,r=>(.dead,r)
def mkL:List VS→List TV→List TV×List TV
 |[],r=>([],r)
 |c::cs,r=>((c.mk' r).1::(mkL cs (c.mk' r).2).1,(mkL cs (c.mk' r).2).2)
end
theorem Blu{f:FuncId}{w:TV}{l:List TV}(h:(VS.fnc f).flat w=some l):l=[]∧w= .c (.fn f):=by
 cases w with
 |c p=>
  cases p with
  |fn f'=>
   simp only[VS.flat] at h
   split at h
   ·rename_i hf;rw[eq_of_beq hf];cases h;exact⟨rfl,rfl⟩
   ·cases h
  |_=>simp only[VS.flat] at h;cases h
 |_=>simp only[VS.flat] at h;cases h
theorem Bds{w:TV}{l:List TV}(h:VS.nilFn.flat w=some l):l=[]∧w= .c .nilFn:=by
 cases w with
 |c p=>cases p<;>simp only[VS.flat] at h<;>cases h;exact⟨rfl,rfl⟩
 |_=>simp only[VS.flat] at h;cases h
def SV.pv':SV→PV
 | .pv x=>x
 |_=> .nilI
def TV.pv'(w:TV):PV:=w.u.pv'
mutual
theorem flatS_spec: ∀(s:VS) (w:TV) (l:List TV),s.flat w=some l→l.all TV.isV=true∧ ∀r,(s.mk' (l++r)).1.u=w.u∧(s.mk' (l++r)).2=r∧(s.mk' (l++r)).1.tame=true
 | .ty t,w,l,h=>by
  simp only[VS.flat] at h
  split at h
  ·rename_i x hx
   cases h
   refine⟨rfl,fun r=>⟨?_,rfl,rfl⟩⟩
   obtain⟨h1,h2⟩:=Lg hx
   rw[Oe h1,h2];rfl
  ·cases h
 | .nils,w,l,h=>by
  cases w<;>simp only[VS.flat] at h<;>cases h
  exact⟨rfl,fun r=>⟨rfl,rfl,rfl⟩⟩
 | .ptr k o,w,l,h=>by
  cases w<;>simp only[VS.flat] at h<;>try cases h
  split at h
  ·rename_i hc
   cases h
   simp only[Bool.and_eq_true,decide_eq_true_eq,beq_iff_eq] at hc
   refine⟨rfl,fun r=>⟨?_,rfl,rfl⟩⟩
   simp only[VS.mk',TV.u,hc.1,hc.2]
  ·cases h
 | .own k,w,l,h=>by
  cases w<;>simp only[VS.flat] at h<;>try cases h
  split at h
  ·rename_i hc
   cases h
   simp only[decide_eq_true_eq] at hc
   exact⟨rfl,fun r=>⟨by simp only[VS.mk',TV.u,hc],rfl,rfl⟩⟩
  ·cases h
 | .mp k,w,l,h=>by
  cases w<;>simp only[VS.flat] at h<;>try cases h
  split at h
  ·rename_i hc
   cases h
   simp only[decide_eq_true_eq] at hc
   exact⟨rfl,fun r=>⟨by simp only[VS.mk',TV.u,hc],rfl,rfl⟩⟩
  ·cases h
 | .agg t cs,w,l,h=>by
  cases w<;>simp only[VS.flat] at h<;>try cases h
  rename_i t' ws
  obtain⟨h1,h2,_⟩:=flatV_spec cs ws l h
  exact⟨h1,fun r=>⟨by simp only[VS.mk',TV.u,Ix,(h2 r).1],by simp only[VS.mk',(h2 r).2],rfl⟩⟩
 | .tup cs,w,l,h=>by
  cases w<;>simp only[VS.flat] at h<;>try cases h
  rename_i ws
  obtain⟨h1,h2,_⟩:=flatV_spec cs ws l h
  exact⟨h1,fun r=>⟨by simp only[VS.mk',TV.u,Ix,(h2 r).1],by simp only[VS.mk',(h2 r).2],rfl⟩⟩
 | .fn f cs,w,l,h=>by
  cases w<;>simp only[VS.flat] at h<;>try cases h
  rename_i f' ws
  split at h
  ·rename_i hf
   have hf:=eq_of_beq hf
   obtain⟨h1,h2,_⟩:=flatV_spec cs ws l h
   exact⟨h1,fun r=>⟨by simp only[VS.mk',TV.u,Ix,(h2 r).1,hf],by simp only[VS.mk',(h2 r).2],rfl⟩⟩
  ·cases h
 | .fnc f,w,l,h=>by
  obtain⟨rfl,rfl⟩:=Blu h
  exact⟨rfl,fun r=>⟨rfl,rfl,rfl⟩⟩
 | .nilFn,w,l,h=>by
  obtain⟨rfl,rfl⟩:=Bds h
  exact⟨rfl,fun r=>⟨rfl,rfl,rfl⟩⟩
 | .iv t o,w,l,h=>by
  cases w<;>simp only[VS.flat] at h<;>try cases h
  split at h
  ·rename_i ho
   have ho:=eq_of_beq ho
   split at h
   ·rename_i x hx
    cases h
    have:=Bgs rfl hx
    cases this
    exact⟨rfl,fun r=>⟨by simp only[List.cons_append,VS.mk',TV.u,ho],rfl,rfl⟩⟩
   ·cases h
  ·cases h
 | .ic cs o,w,l,h=>by
  cases w<;>simp only[VS.flat] at h<;>try cases h
  rename_i ws o'
  split at h
  ·rename_i ho
   simp only[Bool.and_eq_true] at ho
   have ho1:=eq_of_beq ho.1
   obtain⟨h1,h2,h3⟩:=flatV_spec cs ws l h
   refine⟨h1,fun r=>⟨?_,(h2 r).2,rfl⟩⟩
   have e: ∀l:List TV,l.map TV.u=ws.map TV.u→l.map TV.pv'=ws.map TV.pv:=fun l hl=>by
    have h5:=congrArg (List.map SV.pv') hl
    rw[List.map_map,List.map_map] at h5
    have h6:ws.map (SV.pv'∘TV.u)=ws.map TV.pv:=List.map_congr_left fun w hw=>by simp only[Function.comp,Oe (List.all_eq_true.1 ho.2 w hw)];rfl
    rw[h6] at h5
    exact h5
   simp only[VS.mk',TV.u,ho1]
   have h7:=e _ (h2 r).1
   have h8:(mkL cs (l++r)).1.map TV.pv=(mkL cs (l++r)).1.map TV.pv':=List.map_congr_left fun w hw=>by
    have h9:w.u∈ws.map TV.u:=by rw[←(h2 r).1];exact List.mem_map_of_mem hw
    obtain⟨w',hw',e9⟩:=List.mem_map.1 h9
    rw[Oe (List.all_eq_true.1 ho.2 w' hw')] at e9
    have ht:=(h3 r) w hw
    unfold TV.pv'
    rw[←e9]
    cases w<;>first|exact(SV.pv.inj e9).symm|(cases ht;done)|(cases e9;done)
   rw[h8,h7]
  ·cases h
 | .dead,w,l,h=>by
  cases w<;>simp only[VS.flat] at h<;>cases h
  exact⟨rfl,fun r=>⟨rfl,rfl,rfl⟩⟩
theorem flatV_spec: ∀(cs:List VS) (ws l:List TV),flatL cs ws=some l→l.all TV.isV=true∧(∀r,(mkL cs (l++r)).1.map TV.u=ws.map TV.u∧(mkL cs (l++r)).2=r)∧ ∀r,∀w∈(mkL cs (l++r)).1,w.tame=true
 |[],[],l,h=>by cases h;exact⟨rfl,fun r=>⟨rfl,rfl⟩,by simp[mkL]⟩
 |[],_::_,l,h=>by cases h
 |_::_,[],l,h=>by cases h
 |c::cs,w::ws,l,h=>by
  simp only[flatL] at h
  split at h
  ·rename_i l1 e1
   split at h
   ·rename_i l2 e2
    cases h
    obtain⟨h1,h2⟩:=flatS_spec c w l1 e1
    obtain⟨h3,h4,h5⟩:=flatV_spec cs ws l2 e2
    refine⟨by rw[List.all_append,h1,h3];rfl,fun r=>?_,fun r w' hw'=>?_⟩
    ·rw[List.append_assoc]
     obtain⟨g1,g2,g3⟩:=h2 (l2++r)
     obtain⟨g4,g5⟩:=h4 r
     simp only[mkL,g2,List.map_cons,g1,g4,g5,and_self]
    ·rw[List.append_assoc] at hw'
     obtain⟨g1,g2,g3⟩:=h2 (l2++r)
     simp only[mkL,g2] at hw'
     rcases List.mem_cons.1 hw' with rfl|hw'
     ·exact g3
     ·exact h5 r w' hw'
   ·cases h
  ·cases h
end
inductive OS where
 |same
 |box (cs:List (Option VS))
 |row (t:Ty)
 |map (kt vt:Ty)
 |st (i:Nat)
def TO.still:TO→Bool
 | .box cs=>cs.all TV.still
 |_=>true
def Ajd:Option TO→List TV
 |some (.box cs)=>cs
 |_=>[]
def Alc:List TV→List (Option VS)→List TV→Option (List TV)
 |_,[],[]=>some []
 |b::bs,none::cs,_::ws=>match b.still with
  |true=>Alc bs cs ws
  |false=>none
 |bs,some c::cs,w::ws=>match c.flat w with
  |some l=>match Alc bs.tail cs ws with
   |some r=>some (l++r)
   |none=>none
  |none=>none
 |_,_,_=>none
def mkC:List TV→List (Option VS)→List TV→List TV×List TV
 |_,[],r=>([],r)
 |b::bs,none::cs,r=>(b::(mkC bs cs r).1,(mkC bs cs r).2)
 |[],none::cs,r=>(.dead::(mkC [] cs r).1,(mkC [] cs r).2)
 |bs,some c::cs,r=>((c.mk' r).1::(mkC bs.tail cs (c.mk' r).2).1,(mkC bs.tail cs (c.mk' r).2).2)
theorem Al8: ∀(cs:List (Option VS)) (bs ws l:List TV),Alc bs cs ws=some l→(∀i:Nat,cs[i]? =some none→ ∀w,bs[i]? =some w→w.still=true→ws[i]? =some w)→l.all TV.isV=true∧ ∀r,(mkC bs cs (l++r)).1.map TV.u=ws.map TV.u∧(mkC bs cs (l++r)).2=r
 |[],bs,[],l,h,_=>by cases bs<;>(simp only[Alc] at h;cases h;exact⟨rfl,fun r=>⟨rfl,rfl⟩⟩)
 |[],bs,_::_,l,h,_=>by cases bs<;>(simp only[Alc] at h;cases h)
 |c::cs,bs,[],l,h,_=>by cases bs<;>cases c<;>(simp only[Alc] at h;cases h)
 |none::cs,[],w::ws,l,h,_=>by simp only[Alc] at h;cases h
 |none::cs,b::bs,w::ws,l,h,H=>by
  simp only[Alc] at h
  split at h
  ·rename_i hb
   have hw:w=b:=by
    have:=H 0 rfl b rfl hb
    simpa using this
   subst hw
   obtain⟨h1,h2⟩:=Al8 cs bs ws l h (fun i hi w' hw' hs=>by have:=H (i+1) (by simpa using hi) w' (by simpa using hw') hs;simpa using this)
   exact⟨h1,fun r=>⟨by simp only[mkC,List.map_cons,(h2 r).1],by simp only[mkC,(h2 r).2]⟩⟩
  ·cases h
 |some c::cs,bs,w::ws,l,h,H=>by
  simp only[Alc] at h
  split at h
  ·rename_i l1 e1
   split at h
   ·rename_i l2 e2
    cases h
    obtain⟨h1,h2⟩:=flatS_spec c w l1 e1
    obtain⟨h3,h4⟩:=Al8 cs bs.tail ws l2 e2 (fun i hi w' hw' hs=>by
     have:=H (i+1) (by simpa using hi) w' (by cases bs<;>simpa using hw') hs
     simpa using this)
    refine⟨by rw[List.all_append,h1,h3];rfl,fun r=>?_⟩
    rw[List.append_assoc]
    obtain⟨g1,g2,g3⟩:=h2 (l2++r)
    obtain⟨g4,g5⟩:=h4 r
    simp only[mkC,g2,List.map_cons,g1,g4,g5,and_self]
   ·cases h
  ·cases h
def A4g:List (Option VS)→Bool
 |[]=>false
 |none::_=>true
 |some _::cs=>A4g cs
theorem Bdy{cs:List (Option VS)}{i:Nat}(h:cs[i]? =some none):A4g cs=true:=by
 induction cs generalizing i with
 |nil=>simp at h
 |cons c cs ih=>
  cases i with
  |zero=>simp at h;subst h;rfl
  |succ i=>
   cases c with
   |none=>rfl
   |some c=>exact ih (by simpa using h)
def OS.old:OS→Bool
 | .same=>true
 | .box cs=>A4g cs
 |_=>false
def OS.flat(b:Option TO):OS→TO→Option (List TV)
 | .same,_=>match b with
  |some o=>match o.still with
   |true=>some []
   |false=>none
  |none=>none
 | .box cs,.box ws=>Alc (Ajd b) cs ws
 | .row t,.row t' l=>match as0 (.sl t) (.v (.sl t') l) with
  |some x=>some [.v (.sl t) x]
  |none=>none
 | .map kt vt,.map kt' vt' es=>match as0 (.mp kt vt) (.v (.mp kt' vt') es) with
  |some x=>some [.v (.mp kt vt) x]
  |none=>none
 | .st i,.box ws=>match gather (.st i) ws with
  |some x=>some [.v (.st i) x]
  |none=>none
 |_,_=>none
def OS.mk'(b:Option TO):OS→List TV→TO×List TV
 | .same,r=>(match b with
  |some o=>o
  |none=> .box [],r)
 | .box cs,r=>(.box (mkC (Ajd b) cs r).1,(mkC (Ajd b) cs r).2)
 | .row t,w::r=>(match w with
  | .v (.sl t) l=> .row t l
  |_=> .box [],r)
 | .map _ _,w::r=>(match w with
  | .v (.mp kt vt) es=> .map kt vt es
  |_=> .box [],r)
 | .st _,w::r=>(match w with
  | .v (.st i) x=> .box (Q7 (.st i) x)
  |_=> .box [],r)
 |_,[]=>(.box [],[])
theorem Bd2{o o':TO}(h:Gz (some o) (some o'))(hs:o.still=true):o'=o:=by
 rcases h with h|h|⟨cs,cs',e1,e2,hl,h⟩
 ·cases h
 ·exact Option.some.inj h
 ·cases e1;cases e2
  congr 1
  apply List.ext_getElem?
  intro i
  by_cases hi:i<cs.length
  ·have h1:=List.getElem?_eq_getElem hi
   rw[h1]
   exact h i _ h1 (List.all_eq_true.1 hs _ (List.getElem_mem hi))
  ·rw[List.getElem?_eq_none (by omega),List.getElem?_eq_none (by omega)]
theorem Zs{b:Option TO}{s:OS}{o:TO}{l:List TV}(h:s.flat b o=some l)(hb:s.old=true→Gz b (some o)):l.all TV.isV=true∧ ∀r,(s.mk' b (l++r)).1.u=o.u∧(s.mk' b (l++r)).2=r:=by
 cases s with
 |same=>
  simp only[OS.flat] at h
  split at h
  ·split at h
   ·rename_i o' hs
    cases h
    have:=Bd2 (hb rfl) hs
    subst this
    exact⟨rfl,fun r=>⟨rfl,rfl⟩⟩
   ·cases h
  ·cases h
 |box cs=>
  cases o<;>simp only[OS.flat] at h<;>try cases h
  rename_i ws
  obtain⟨h1,h2⟩:=Al8 _ _ _ _ h (fun i hi w hw hs=>by
   have hk:=hb (Bdy hi)
   rcases hk with hk|hk|⟨ds,ds',e1,e2,hl,hk⟩
   ·cases hk
   ·subst hk;simpa [Ajd] using hw
   ·subst e1;cases e2;exact hk i w hw hs)
  exact⟨h1,fun r=>⟨by simp only[OS.mk',TO.u,(h2 r).1],by simp only[OS.mk',(h2 r).2]⟩⟩
 |row t=>
  cases o<;>simp only[OS.flat] at h<;>try cases h
  split at h
  ·rename_i x hx
   cases h
   have:=Bgs rfl hx
   cases this
   exact⟨rfl,fun r=>⟨rfl,rfl⟩⟩
  ·cases h
 |map kt vt=>
  cases o<;>simp only[OS.flat] at h<;>try cases h
  split at h
  ·rename_i x hx
   cases h
   have:=Bgs rfl hx
   cases this
   exact⟨rfl,fun r=>⟨rfl,rfl⟩⟩
  ·cases h
 |st i=>
  cases o<;>simp only[OS.flat] at h<;>try cases h
  rename_i ws
  split at h
  ·rename_i x hx
   cases h
   obtain⟨h1,h2⟩:=Qo hx
   obtain⟨h3,h4⟩:=Gq (.st i) x
   refine⟨rfl,fun r=>⟨?_,rfl⟩⟩
   show Ah.box ((Q7 (.st i) x).map TV.u)=Ah.box (ws.map TV.u)
   rw[Avk h1,Avk h3,h2,h4]
  ·cases h
structure Sig where
 sl:List (Nat×Option VS)
 hp:List (Key×OS)
 ts:List Ty
 p:List Nat
 q:List Nat
def TV.live:TV→Bool
 | .dead=>false
 |_=>true
def N6(σ:TSt):List (Nat×Option VS)→List (Nat×TV)→Option (List TV)
 |[],[]=>some []
 |c::cs,w::ws=>match c.1==w.1 with
  |true=>match c.2 with
   |none=>match (σ.get c.1).still&&w.2.live with
    |true=>N6 σ cs ws
    |false=>none
   |some s=>match s.flat w.2 with
    |some l=>match N6 σ cs ws with
     |some r=>some (l++r)
     |none=>none
    |none=>none
  |false=>none
 |_,_=>none
def Uc(σ:TSt):List (Key×OS)→List (Key×TO)→Option (List TV)
 |[],[]=>some []
 |c::cs,w::ws=>match decide (c.1=w.1) with
  |true=>match c.2.flat (σ.look c.1) w.2 with
   |some l=>match Uc σ cs ws with
    |some r=>some (l++r)
    |none=>none
   |none=>none
  |false=>none
 |_,_=>none
def Aah(σ:TSt):List (Nat×Option VS)→List TV→List (Nat×TV)×List TV
 |[],r=>([],r)
 |c::cs,r=>match c.2 with
  |none=>((c.1,σ.get c.1)::(Aah σ cs r).1,(Aah σ cs r).2)
  |some s=>((c.1,(s.mk' r).1)::(Aah σ cs (s.mk' r).2).1,(Aah σ cs (s.mk' r).2).2)
def Bi7(σ:TSt):List (Key×OS)→List TV→List (Key×TO)
 |[],_=>[]
 |c::cs,r=>(c.1,(c.2.mk' (σ.look c.1) r).1)::Bi7 σ cs (c.2.mk' (σ.look c.1) r).2
theorem Agv{σ:TSt}: ∀{cs:List (Nat×Option VS)} {ws:List (Nat×TV)} {l:List TV},N6 σ cs ws=some l→(∀t w,(t,none)∈cs→(t,w)∈ws→(σ.get t).still=true→w.live=true→w=σ.get t)→l.all TV.isV=true∧ ∀r,(Aah σ cs (l++r)).1.map slU=ws.map slU∧(Aah σ cs (l++r)).2=r∧ ∀p∈(Aah σ cs (l++r)).1,p.2.tame=true
 |[],[],l,h,_=>by cases h;exact⟨rfl,fun r=>⟨rfl,rfl,by simp[Aah]⟩⟩
 |[],_::_,l,h,_=>by simp only[N6] at h;cases h
 |_::_,[],l,h,_=>by simp only[N6] at h;cases h
 |(t,none)::cs,w::ws,l,h,H=>by
  simp only[N6] at h
  split at h
  ·rename_i hc
   have hc:=eq_of_beq hc
   split at h
   ·rename_i hs
    simp only[Bool.and_eq_true] at hs
    have hw:w.2=σ.get t:=H t w.2 (by simp) (by simp[hc]) hs.1 hs.2
    obtain⟨h1,h2⟩:=Agv h (fun t' w' h1 h2=>H t' w' (by simp[h1]) (by simp[h2]))
    refine⟨h1,fun r=>?_⟩
    obtain⟨g1,g2,g3⟩:=h2 r
    refine⟨?_,by simp only[Aah,g2],fun q hq=>?_⟩
    ·simp only[Aah,List.map_cons,g1,slU,←hw]
     rw[hc]
    ·simp only[Aah] at hq
     rcases List.mem_cons.1 hq with rfl|hq
     ·exact Bnx hs.1
     ·exact g3 q hq
   ·cases h
  ·cases h
 |(t,some s)::cs,w::ws,l,h,H=>by
  simp only[N6] at h
  split at h
  ·rename_i hc
   have hc:=eq_of_beq hc
   split at h
   ·rename_i l1 e1
    split at h
    ·rename_i l2 e2
     cases h
     obtain⟨h1,h2⟩:=flatS_spec s w.2 l1 e1
     obtain⟨h3,h4⟩:=Agv e2 (fun t' w' h1 h2=>H t' w' (by simp[h1]) (by simp[h2]))
     refine⟨by rw[List.all_append,h1,h3];rfl,fun r=>?_⟩
     rw[List.append_assoc]
     obtain⟨g1,g2,g3⟩:=h2 (l2++r)
     obtain⟨g4,g5,g6⟩:=h4 r
     refine⟨?_,by simp only[Aah,g2,g5],fun q hq=>?_⟩
     ·simp only[Aah,g2,List.map_cons,slU,g1,g4]
      rw[hc]
     ·simp only[Aah,g2] at hq
      rcases List.mem_cons.1 hq with rfl|hq
      ·exact g3
      ·exact g6 q hq
    ·cases h
   ·cases h
  ·cases h
theorem Arr{σ:TSt}: ∀{cs:List (Key×OS)} {ws:List (Key×TO)} {l:List TV},Uc σ cs ws=some l→(∀k s o,(k,s)∈cs→(k,o)∈ws→s.old=true→Gz (σ.look k) (some o))→l.all TV.isV=true∧ ∀r,(Bi7 σ cs (l++r)).map hpU=ws.map hpU
 |[],[],l,h,_=>by cases h;exact⟨rfl,fun r=>rfl⟩
 |[],_::_,l,h,_=>by simp only[Uc] at h;cases h
 |_::_,[],l,h,_=>by simp only[Uc] at h;cases h
 |c::cs,w::ws,l,h,H=>by
  simp only[Uc] at h
  split at h
  ·rename_i hc
   have hc:=of_decide_eq_true hc
   split at h
   ·rename_i l1 e1
    split at h
    ·rename_i l2 e2
     cases h
     obtain⟨h1,h2⟩:=Zs e1 (fun ho=>H c.1 c.2 w.2 (by simp) (by simp[hc]) ho)
     obtain⟨h3,h4⟩:=Arr e2 (fun k s o h1 h2=>H k s o (by simp[h1]) (by simp[h2]))
     refine⟨by rw[List.all_append,h1,h3];rfl,fun r=>?_⟩
     rw[List.append_assoc]
     obtain⟨g1,g2⟩:=h2 (l2++r)
     simp only[Bi7,g2,List.map_cons,hpU,g1]
     rw[hc]
     congr 1
     exact h4 r
    ·cases h
   ·cases h
  ·cases h
def Bid(ts:List Ty)(p q:List Nat)(l:List TV):Option (Ed ts):=match Bsn p q l.length with
 |true=>match Alo p l with
  |some l'=>toN ts l'
  |none=>none
 |false=>none
def Avq(ts:List Ty)(q:List Nat)(x:Ed ts):List TV:=match Alo q (ofN ts x) with
 |some l=>l
 |none=>[]
theorem A9v{p:TV→Bool}{l:List TV}(h:l.all p=true): ∀{q:List Nat} {r:List TV},Eh (fun i=>l[i]?) q=some r→r.all p=true
 |[],r,e=>by cases e;rfl
 |i::q,r,e=>by
  obtain⟨b,r',h1,h2,rfl⟩:=Gr e
  rw[List.all_cons,A9v h h2,List.all_eq_true.1 h b (List.mem_of_getElem? h1)];rfl
theorem Bjc{p:TV→Bool}{l r:List TV}{q:List Nat}(h:l.all p=true)(e:Alo q l=some r):r.all p=true:=by
 unfold Alo at e
 split at e
 ·cases e;exact h
 ·exact A9v h e
theorem Ay0{ts:List Ty}{p q:List Nat}{l:List TV}{x:Ed ts}(hv:l.all TV.isV=true)(h:Bid ts p q l=some x):Avq ts q x=l:=by
 unfold Bid at h
 split at h
 ·rename_i hu
  split at h
  ·rename_i l' e
   unfold Avq
   rw[Bof (Bjc hv e) h,Bkf .dead hu e]
  ·cases h
 ·cases h
def Sig.fr(s:Sig):Fr:=⟨s.sl.filterMap fun c=>match c.2 with
 |none=>some c.1
 |some _=>none,s.hp.filterMap fun c=>match c.2.old with
 |true=>some c.1
 |false=>none⟩
def A41:List Key→Bool
 |[]=>true
 |a::l=> !l.contains a&&A41 l
def pack(s:Sig)(b σ:TSt):Option (Ed s.ts):=match Ahg (s.sl.map (·.1))&&A41 (s.hp.map (·.1)) with
 |true=>match N6 b s.sl σ.sl with
  |some x=>match Uc b s.hp σ.hp with
   |some y=>Bid s.ts s.p s.q (x++y)
   |none=>none
  |none=>none
 |false=>none
def unpack(s:Sig)(b:TSt)(x:Ed s.ts):TSt:=⟨(Aah b s.sl (Avq s.ts s.q x)).1,Bi7 b s.hp (Aah b s.sl (Avq s.ts s.q x)).2,[],b.fr⟩
theorem Bg8: ∀{l:List (Nat×TV)} {t:Nat} {w:TV},Ahg (l.map (·.1))=true→(t,w)∈l→Gi l t=w
 |[],_,_,_,h=>by cases h
 |p::l,t,w,hn,h=>by
  simp only[List.map_cons,Ahg,Bool.and_eq_true] at hn
  simp only[Gi]
  rcases List.mem_cons.1 h with e|h
  ·rw[←e];simp
  ·have hne:p.1≠t:=by
    intro e
    have:=N7 hn.1
    rw[e] at this
    exact this (List.mem_map.2 ⟨_,h,rfl⟩)
   have:(p.1==t)=false:=by simpa using hne
   rw[this]
   exact Bg8 hn.2 h
theorem A9q: ∀{l:List (Key×TO)} {k:Key} {o:TO},A41 (l.map (·.1))=true→(k,o)∈l→B5 l k=some o
 |[],_,_,_,h=>by cases h
 |p::l,k,o,hn,h=>by
  simp only[List.map_cons,A41,Bool.and_eq_true] at hn
  simp only[B5]
  rcases List.mem_cons.1 h with e|h
  ·rw[←e];simp
  ·have hne:p.1≠k:=by
    intro e
    have:=N7 hn.1
    rw[e] at this
    exact this (List.mem_map.2 ⟨_,h,rfl⟩)
   rw[if_neg hne]
   exact A9q hn.2 h
def Dk(fr:Fr)(b σ:TSt):Prop:=(∀t∈fr.s,(b.get t).still=true→σ.get t=b.get t∨σ.get t= .dead)∧ ∀k∈fr.k,Gz (b.look k) (σ.look k)
theorem Dk.refl(fr:Fr)(b:TSt):Dk fr b b:=⟨fun _ _ _=> .inl rfl,fun _ _=> .inr (.inl rfl)⟩
theorem Dk.trans{fr:Fr}{a b c:TSt}(h1:Dk fr a b)(h2:Dk fr b c):Dk fr a c:=by
 refine⟨fun t ht hs=>?_,fun k hk=>(h1.2 k hk).trans (h2.2 k hk)⟩
 rcases h1.1 t ht hs with e|e
 ·rcases h2.1 t ht (by rw[e];exact hs) with e2|e2
  ·exact .inl (e2.trans e)
  ·exact .inr e2
 ·rcases h2.1 t ht (by rw[e];rfl) with e2|e2
  ·exact .inr (e2.trans e)
  ·exact .inr e2
theorem Frm.stays{a b:TSt}(h:Frm a b):Dk a.fr a b:=⟨h.s,h.k⟩
theorem Bfo{b:TSt}: ∀{cs:List (Nat×Option VS)} {ws:List (Nat×TV)} {l:List TV},N6 b cs ws=some l→cs.map (·.1)=ws.map (·.1)
 |[],[],_,_=>rfl
 |[],_::_,l,h=>by simp only[N6] at h;cases h
 |_::_,[],l,h=>by simp only[N6] at h;cases h
 |c::cs,w::ws,l,h=>by
  simp only[N6] at h
  split at h
  ·rename_i hc
   have hc:=eq_of_beq hc
   rw[List.map_cons,List.map_cons,hc]
   congr 1
   split at h
   ·split at h
    ·exact Bfo h
    ·cases h
   ·split at h
    ·split at h
     ·rename_i e;exact Bfo e
     ·cases h
    ·cases h
  ·cases h
theorem Bmf{b:TSt}: ∀{cs:List (Key×OS)} {ws:List (Key×TO)} {l:List TV},Uc b cs ws=some l→cs.map (·.1)=ws.map (·.1)
 |[],[],_,_=>rfl
 |[],_::_,l,h=>by simp only[Uc] at h;cases h
 |_::_,[],l,h=>by simp only[Uc] at h;cases h
 |c::cs,w::ws,l,h=>by
  simp only[Uc] at h
  split at h
  ·rename_i hc
   have hc:=of_decide_eq_true hc
   rw[List.map_cons,List.map_cons,hc]
   congr 1
   split at h
   ·split at h
    ·rename_i e;exact Bmf e
    ·cases h
   ·cases h
  ·cases h
theorem Aqs{s:Sig}{b σ:TSt}{x:Ed s.ts}(hs:Dk s.fr b σ)(h:pack s b σ=some x):(unpack s b x).u=σ.u∧Inv (unpack s b x):=by
 unfold pack at h
 split at h
 ·rename_i hn
  simp only[Bool.and_eq_true] at hn
  split at h
  ·rename_i l e1
   split at h
   ·rename_i m e2
    obtain⟨h1,h2⟩:=Agv e1 (fun t w ht hw hst hlv=>by
     have hg:=Bg8 (by rw[←Bfo e1];exact hn.1) hw
     have hm:t∈s.fr.s:=List.mem_filterMap.2 ⟨(t,none),ht,rfl⟩
     rcases hs.1 t hm hst with e|e
     ·exact hg.symm.trans e
     ·have:w= .dead:=hg.symm.trans e
      subst this;cases hlv)
    obtain⟨h3,h4⟩:=Arr e2 (fun k c o hc ho hold=>by
     have hg:σ.look k=some o:=A9q (by rw[←Bmf e2];exact hn.2) ho
     have hm:k∈s.fr.k:=List.mem_filterMap.2 ⟨(k,c),hc,by simp[hold]⟩
     rw[←hg]
     exact hs.2 k hm)
    have hl:=Ay0 (by rw[List.all_append,h1,h3];rfl) h
    obtain⟨g1,g2,g3⟩:=h2 m
    have g4:=h4 []
    rw[List.append_nil] at g4
    unfold unpack
    rw[hl,g2]
    exact⟨by simp only[TSt.u,g1,g4],Tp g3 _ _ _⟩
   ·cases h
  ·cases h
 ·cases h
def Au2:List TV→List (Option VS)→Bool
 |[],[]=>true
 |b::bs,c::cs=>(match c with
  |none=>true
  |some _=> !b.still)&&Au2 bs cs
 |_,_=>false
def OS.keeps(b:Option TO):OS→Bool
 | .same=>b.isSome
 | .box cs=>match b with
  |some (.box bs)=>Au2 bs cs
  |_=>false
 |_=>false
def Sig.keeps(s:Sig)(fr:Fr)(b:TSt):Bool:=s.sl.all (fun c=>match c.2 with
 |none=>true
 |some _=> !fr.s.contains c.1)&&s.hp.all (fun c=> !fr.k.contains c.1||c.2.keeps (b.look c.1))
theorem Aqf: ∀{bs:List TV} {cs:List (Option VS)} {r:List TV},Au2 bs cs=true→(mkC bs cs r).1.length=bs.length∧ ∀(i:Nat) (w:TV),bs[i]? =some w→w.still=true→(mkC bs cs r).1[i]? =some w
 |[],[],r,h=>⟨rfl,fun i w e=>by simp at e⟩
 |[],_::_,r,h=>by cases h
 |_::_,[],r,h=>by cases h
 |b::bs,none::cs,r,h=>by
  simp only[Au2,Bool.true_and] at h
  obtain⟨h1,h2⟩:=Aqf (r:=r) h
  refine⟨by simp only[mkC,List.length_cons,h1],fun i w e hs=>?_⟩
  cases i with
  |zero=>simpa [mkC] using e
  |succ i=>simp only[mkC,List.getElem?_cons_succ] at e⊢;exact h2 i w e hs
 |b::bs,some c::cs,r,h=>by
  simp only[Au2,Bool.and_eq_true,Bool.not_eq_true'] at h
  obtain⟨h1,h2⟩:=Aqf (r:=(c.mk' r).2) h.2
  refine⟨by simp only[mkC,List.length_cons,List.tail_cons,h1],fun i w e hs=>?_⟩
  cases i with
  |zero=>
   simp only[List.getElem?_cons_zero,Option.some.injEq] at e
   subst e
   rw[h.1] at hs;cases hs
  |succ i=>simp only[mkC,List.getElem?_cons_succ,List.tail_cons] at e⊢;exact h2 i w e hs
theorem Bml{b:Option TO}{s:OS}{r:List TV}(h:s.keeps b=true):Gz b (some (s.mk' b r).1):=by
 unfold OS.keeps at h
 split at h
 ·cases b with
  |none=>cases h
  |some o=>exact .inr (.inl rfl)
 ·split at h
  ·rename_i cs bs
   obtain⟨h1,h2⟩:=Aqf (r:=r) h
   exact .inr (.inr ⟨bs,_,rfl,rfl,h1,h2⟩)
  ·cases h
 ·cases h
theorem A4z{b:TSt}{t:Nat}: ∀{cs:List (Nat×Option VS)} {r:List TV},(∀c∈cs,c.1=t→c.2=none)→Gi (Aah b cs r).1 t=b.get t∨Gi (Aah b cs r).1 t= .dead
 |[],r,_=> .inr rfl
 |c::cs,r,h=>by
  simp only[Aah]
  by_cases e:c.1=t
  ·have:=h c (by simp) e
   subst e
   rw[this]
   exact .inl (by simp[Gi])
  ·have hne:(c.1==t)=false:=by simpa using e
   cases hc:c.2 with
   |none=>simp only[Gi,hne,cond_false];exact A4z (fun c' hc'=>h c' (by simp[hc']))
   |some s=>simp only[Gi,hne,cond_false];exact A4z (fun c' hc'=>h c' (by simp[hc']))
theorem Bhn{b:TSt}{k:Key}: ∀{cs:List (Key×OS)} {r:List TV},(∀c∈cs,c.1=k→c.2.keeps (b.look k)=true)→Gz (b.look k) (B5 (Bi7 b cs r) k)
 |[],r,_=> .inl rfl
 |c::cs,r,h=>by
  simp only[Bi7,B5]
  by_cases e:c.1=k
  ·have:=h c (by simp) e
   subst e
   rw[if_pos rfl]
   exact Bml this
  ·rw[if_neg e]
   exact Bhn (fun c' hc'=>h c' (by simp[hc']))
theorem Ag4{s:Sig}{fr:Fr}{b:TSt}(h:s.keeps fr b=true)(x:Ed s.ts):Dk fr b (unpack s b x):=by
 simp only[Sig.keeps,Bool.and_eq_true,List.all_eq_true,Bool.or_eq_true] at h
 refine⟨fun t ht _=>A4z (fun c hc e=>?_),fun k hk=>Bhn (fun c hc e=>?_)⟩
 ·have h1:=h.1 c hc
  split at h1
  ·rename_i e2;exact e2
  ·subst e;exact absurd ht (N7 h1)
 ·subst e
  rcases h.2 c hc with h1|h1
  ·exact absurd hk (N7 h1)
  ·exact h1
end
end Go.Av
end
section
namespace Go.Av
inductive DC where
 |skip
 |ops (l:List TOp)
 |draw (ks:List Key) (l:List TOp)
 |seq (a b:DC)
 |join (k:Kp) (s:Sig) (a:DC)
 |joinO (k:Kp) (s:Sig) (a:DC)
 |cond (c:Opd) (a b:DC)
 |block (id:Nat) (a:DC)
 |loop (keep:List Nat) (ks:List Key) (k:Kp) (s:Sig) (a:DC)
 |exit (id:Nat)
 |ret
 |keep (k:Kp) (a:DC)
 |pass (id:Nat) (a:DC)
 |free (a:DC)
 |stuck
def Kp.ac(k:Kp)(a:AC):AC:= .keep k.fz k.sl k.bx k.dead (k.up.map (·.1)) a
def Kp.po(k:Kp)(a:AC):AC:= .post k.fz k.sl k.bx k.dead (k.up.map (·.1)) a
def DC.ac:DC→AC
 | .skip=> .skip
 | .ops l=> .ops (l.map (·.g))
 | .draw ks l=> .draw ks (l.map (·.g))
 | .seq a b=> .seq a.ac b.ac
 | .join k _ a=>k.po a.ac
 | .joinO k _ a=>k.po a.ac
 | .cond c a b=> .cond c a.ac b.ac
 | .block id a=> .block id a.ac
 | .loop l ks k _ a=> .loop l ks (k.ac a.ac)
 | .exit id=> .exit id
 | .ret=> .ret
 | .keep k a=>k.ac a.ac
 | .pass id a=> .pass id a.ac
 | .free a=>a.ac
 | .stuck=> .stuck
section
variable [Dic] {P:Program} {T:Tab}
def TSt.wr(σ:TSt)(fr:Fr):TSt:=⟨σ.sl,σ.hp,σ.gs,⟨fr.s++σ.fr.s,fr.k++σ.fr.k⟩⟩
def TSt.ref(σ:TSt)(fr:Fr):TSt:=⟨σ.sl,σ.hp,σ.gs,fr⟩
theorem Inv.ref{σ:TSt}(hI:Inv σ)(fr:Fr):Inv (σ.ref fr):=⟨hI.gd,hI.io⟩
theorem Inv.wr{σ:TSt}(hI:Inv σ)(fr:Fr):Inv (σ.wr fr):=⟨hI.gd,hI.io⟩
theorem A77{σ σ':TSt}{fr:Fr}(h:Dk (σ.wr fr).fr (σ.wr fr) σ'):Dk fr σ σ':=⟨fun t ht=>h.1 t (List.mem_append_left _ ht),fun k hk=>h.2 k (List.mem_append_left _ hk)⟩
theorem Ay4{σ σ':TSt}{fr:Fr}(h:Dk (σ.wr fr).fr (σ.wr fr) σ'):Dk σ.fr σ σ':=⟨fun t ht=>h.1 t (List.mem_append_right _ ht),fun k hk=>h.2 k (List.mem_append_right _ hk)⟩
def Bsy:Key→Bool
 | .ext _=>true
 |_=>false
def Alb(fr:Fr):Fr:=⟨[],fr.k.filter Bsy⟩
def Bln(ex:Ex)(fr:Fr):Fr:=match ex with
 | .ret=>Alb fr
 |_=>fr
theorem A3j{σ σ':TSt}{fr:Fr}(h:Dk fr σ σ'):Dk (Alb fr) σ σ':=⟨fun t ht=>(by cases ht),fun k hk=>h.2 k (List.mem_filter.1 hk).1⟩
theorem Bcg{σ σ':TSt}{fr:Fr}(ex:Ex)(h:Dk fr σ σ'):Dk (Bln ex fr) σ σ':=by
 cases ex with
 |ret=>exact A3j h
 |_=>exact h
theorem A3p{σ σ':TSt}{fr:Fr}(h:Dk (Alb (σ.wr fr).fr) (σ.wr fr) σ'):Dk (Alb σ.fr) σ σ':=⟨fun t ht=>(by cases ht),fun k hk=>h.2 k (List.mem_filter.2 ⟨List.mem_append_right _ (List.mem_filter.1 hk).1,(List.mem_filter.1 hk).2⟩)⟩
theorem Bo2{σ σ':TSt}{fr:Fr}{ex:Ex}(h:Dk (Bln ex fr) σ σ'){i:Nat}(hm:Key.ext i∈fr.k):Key.ext i∈(Bln ex fr).k:=by
 cases ex with
 |ret=>exact List.mem_filter.2 ⟨hm,rfl⟩
 |_=>exact hm
def Bib(k:Kp)(s:Sig)(b σ:TSt):Option (Ed s.ts):=match k.free σ.fr with
 |true=>match σ.tidy k with
  |some σ'=>pack s b σ'
  |none=>none
 |false=>none
def Bha(keep:List Nat)(ks:List Key)(k:Kp)(σ:TSt):Option TSt:=match ks.all (fun q=> !σ.fr.k.contains q)&&k.free σ.fr with
 |true=>match σ.forget keep with
  |some σ1=>match σ1.killAll ks with
   |some σ2=>σ2.tidy k
   |none=>none
  |none=>none
 |false=>none
def Bmg(keep:List Nat)(ks:List Key)(k:Kp)(s:Sig)(b σ:TSt):Option (Ed s.ts):=match Bha keep ks k σ with
 |some σ'=>pack s b σ'
 |none=>none
theorem Ayx{b σ:TSt}(hI:Inv σ){k:Kp}{s:Sig}{x:Ed s.ts}(hs:Dk s.fr b σ)(hf: ∀{σ':TSt},Dk σ.fr σ σ'→Dk s.fr σ σ')(h:Bib k s b σ=some x):(unpack s b x).u=σ.u.tidy k.fz k.sl k.bx k.dead (k.up.map (·.1))∧Inv (unpack s b x):=by
 unfold Bib at h
 split at h
 ·rename_i hk
  split at h
  ·rename_i σ' e
   obtain⟨h1,h2⟩:=Aqs (hs.trans (hf (Auw hk e).stays)) h
   exact⟨by rw[h1,(TSt.tidy_u hI e).1],h2⟩
  ·cases h
 ·cases h
theorem Auz{keep:List Nat}{ks:List Key}{k:Kp}{σ σ':TSt}(h:Bha keep ks k σ=some σ'):σ'.u=((σ.u.forget keep).killAll ks).tidy k.fz k.sl k.bx k.dead (k.up.map (·.1))∧Inv σ'∧Frm σ σ':=by
 unfold Bha at h
 split at h
 ·rename_i hc
  simp only[Bool.and_eq_true,List.all_eq_true] at hc
  split at h
  ·rename_i σ1 e1
   split at h
   ·rename_i σ2 e2
    obtain⟨h1,i1⟩:=Blw e1
    have h2:=I2 e2
    obtain⟨h3,i3⟩:=TSt.tidy_u (i1.killAll e2) h
    have f1:=Bdt e1
    have f2:=f1.trans (F0 (fun q hq=>by rw[f1.fr];exact N7 (hc.1 q hq)) e2)
    exact⟨by rw[h3,h2,h1],i3,f2.trans (Auw (by rw[f2.fr];exact hc.2) h)⟩
   ·cases h
  ·cases h
 ·cases h
noncomputable def den(T:Tab):DC→{β:Type}→TSt→(Ex→TSt→Option β)→Option β
 | .skip,_,σ,K=>K .norm σ
 | .ops l,_,σ,K=>Bkb T false l σ (K .norm)
 | .draw ks l,_,σ,K=>match ks.all (fun q=> !σ.fr.k.contains q)&&Ahg (Ap6 l) with
  |true=>match σ.killAll ks with
   |some σ'=>Bkb T true l σ' (K .norm)
   |none=>none
  |false=>none
 | .seq a b,_,σ,K=>den T a σ fun ex σ'=>match ex with
  | .norm=>den T b σ' K
  | .exit j=>K (.exit j) σ'
  | .ret=>K .ret σ'
 | .join k s a,_,σ,K=>match s.keeps σ.fr σ with
  |true=>(den T a (β:=Ed s.ts) (σ.wr s.fr) fun ex σ'=>match ex with
   | .norm=>Bib k s σ σ'
   |_=>none).bind fun p=>K .norm (unpack s σ p)
  |false=>none
 | .joinO k s a,β,σ,K=>match s.keeps σ.fr σ with
  |true=>(den T a (β:=Ed s.ts⊕β) (σ.wr s.fr) fun ex σ'=>match ex with
   | .norm=>(Bib k s σ σ').map .inl
   | .exit j=>(K (.exit j) (σ'.ref σ.fr)).map .inr
   | .ret=>(K .ret (σ'.ref σ.fr)).map .inr).bind fun j=>match j with
    | .inr o=>some o
    | .inl p=>K .norm (unpack s σ p)
  |false=>none
 | .cond c a b,_,σ,K=>match σ.ev [] c with
  | .v .bool (q:Bool)=>if q=true then den T a σ K else den T b σ K
  |_=>none
 | .block id a,_,σ,K=>den T a σ fun ex σ'=>match ex with
  | .norm=>K .norm σ'
  | .ret=>K .ret σ'
  | .exit j=>match j==id with
   |true=>K .norm σ'
   |false=>K (.exit j) σ'
 | .loop keep ks k s a,β,σ,K=>match Bha keep ks k σ with
  |some b=>match s.keeps ⟨s.fr.s++b.fr.s,s.fr.k++b.fr.k⟩ b with
   |true=>match pack s b b with
    |some x=>A3 (fun q:Ed s.ts=>den T a (β:=Ed s.ts⊕β) ((unpack s b q).wr s.fr) fun ex σ'=>match ex with
     | .norm=>(Bmg keep ks k s b σ').map .inl
     | .exit j=>(K (.exit j) (σ'.ref σ.fr)).map .inr
     | .ret=>(K .ret (σ'.ref σ.fr)).map .inr) x
    |none=>none
   |false=>none
  |none=>none
 | .exit id,_,σ,K=>K (.exit id) σ
 | .ret,_,σ,K=>K .ret σ
 | .keep k a,_,σ,K=>match k.free σ.fr with
  |true=>match σ.tidy k with
   |some σ'=>den T a σ' K
   |none=>none
  |false=>none
 | .pass _ a,_,σ,K=>den T a σ K
 | .free a,_,σ,K=>den T a (σ.ref (Alb σ.fr)) fun ex σ'=>match ex with
  | .ret=>K .ret (σ'.ref σ.fr)
  |_=>none
 | .stuck,_,_,_=>none
structure Got (P:Program) {β:Type} (ac:AC) (σ:TSt) (K:Ex→TSt→Option β) (r:β) (ex:Ex) (σ':TSt):Prop where
 ev:Ev P ac σ.u ex σ'.u
 inv:Inv σ'
 fr:σ'.fr=σ.fr
 st:Dk (Bln ex σ.fr) σ σ'
 k:K ex σ'=some r
def Comes(P:Program){β:Type}(ac:AC)(σ:TSt)(K:Ex→TSt→Option β)(r:β):Prop:= ∃ex σ',Got P ac σ K r ex σ'
theorem map_some{α β:Type}{o:Option α}{f:α→β}{y:β}(h:o.map f=some y): ∃x,o=some x∧f x=y:=by
 cases o with
 |none=>cases h
 |some x=>exact⟨x,rfl,by simpa using h⟩
theorem Biu(hT:To P T): ∀(c:DC) {β:Type} {σ:TSt} {K:Ex→TSt→Option β} {r:β},Inv σ→den T c σ K=some r→Comes P c.ac σ K r:=by
 intro c
 induction c with
 |skip=>intro β σ K r hI h;exact⟨.norm,σ,.skip _,hI,rfl,.refl _ _,h⟩
 |ops l=>
  intro β σ K r hI h
  obtain⟨σ',h1,h2,f,h3⟩:=Bcp hT hI h
  exact⟨.norm,σ',.ops h3,h2,f.fr,f.stays,h1⟩
 |draw ks l=>
  intro β σ K r hI h
  simp only[den] at h
  split at h
  ·rename_i hc
   simp only[Bool.and_eq_true,List.all_eq_true] at hc
   split at h
   ·rename_i σ1 e1
    obtain⟨σ',cl,h1,h2,f,h3,h4⟩:=Bkc hT (hI.killAll e1) hc.2 h
    have f':=(F0 (fun q hq=>N7 (hc.1 q hq)) e1).trans f
    exact⟨.norm,σ',.draw h3 (by rw[←I2 e1];exact h4),h2,f'.fr,f'.stays,h1⟩
   ·cases h
  ·cases h
 |seq a b iha ihb=>
  intro β σ K r hI h
  obtain⟨ex,σ1,g⟩:=iha hI h
  cases ex with
  |norm=>
   obtain⟨ex,σ2,g2⟩:=ihb g.inv g.k
   exact⟨ex,σ2,.seq g.ev g2.ev,g2.inv,g2.fr.trans g.fr,(Bcg ex (show Dk σ.fr σ σ1 from g.st)).trans (by rw[←g.fr];exact g2.st),g2.k⟩
  |exit j=>exact⟨_,σ1,.seq_out g.ev (by simp),g.inv,g.fr,g.st,g.k⟩
  |ret=>exact⟨_,σ1,.seq_out g.ev (by simp),g.inv,g.fr,g.st,g.k⟩
 |join k s a iha=>
  intro β σ K r hI h
  simp only[den] at h
  split at h
  ·rename_i hkp
   obtain⟨p,hp,h⟩:=Wn h
   obtain⟨ex,σ1,g⟩:=iha (hI.wr s.fr) hp
   cases ex with
   |norm=>
    obtain⟨h3,h4⟩:=Ayx g.inv (A77 g.st) (fun hs=>by rw[g.fr] at hs;exact⟨fun t ht=>hs.1 t (List.mem_append_left _ ht),fun q hq=>hs.2 q (List.mem_append_left _ hq)⟩) g.k
    exact⟨.norm,unpack s σ p,by rw[h3];exact .post g.ev,h4,rfl,Ag4 hkp p,h⟩
   |exit j=>exact absurd g.k (by simp)
   |ret=>exact absurd g.k (by simp)
  ·cases h
 |joinO k s a iha=>
  intro β σ K r hI h
  simp only[den] at h
  split at h
  ·rename_i hkp
   obtain⟨p,hp,h⟩:=Wn h
   obtain⟨ex,σ1,g⟩:=iha (hI.wr s.fr) hp
   cases ex with
   |norm=>
    obtain⟨x,hx,rfl⟩:=map_some g.k
    obtain⟨h3,h4⟩:=Ayx g.inv (A77 g.st) (fun hs=>by rw[g.fr] at hs;exact⟨fun t ht=>hs.1 t (List.mem_append_left _ ht),fun q hq=>hs.2 q (List.mem_append_left _ hq)⟩) hx
    exact⟨.norm,unpack s σ x,by rw[h3];exact .post g.ev,h4,rfl,Ag4 hkp x,h⟩
   |exit j=>
    obtain⟨x,hx,rfl⟩:=map_some g.k
    cases h
    exact⟨_,σ1.ref σ.fr,.post_out g.ev (by simp),g.inv.ref _,rfl,Ay4 g.st,hx⟩
   |ret=>
    obtain⟨x,hx,rfl⟩:=map_some g.k
    cases h
    exact⟨_,σ1.ref σ.fr,.post_out g.ev (by simp),g.inv.ref _,rfl,A3p g.st,hx⟩
  ·cases h
 |cond c a b iha ihb=>
  intro β σ K r hI h
  have hx:=Dx hI Zp c
  simp only[den] at h
  split at h
  ·rename_i q e
   rw[e] at hx
   have hx:σ.u.ev c= .pv (.bool q):=hx.symm
   split at h
   ·rename_i hq
    obtain⟨ex,σ1,g⟩:=iha hI h
    exact⟨ex,σ1,.cond hx (by rw[hq];exact g.ev),g.inv,g.fr,g.st,g.k⟩
   ·rename_i hq
    have hq:q=false:=by simpa using hq
    obtain⟨ex,σ1,g⟩:=ihb hI h
    exact⟨ex,σ1,.cond hx (by rw[hq];exact g.ev),g.inv,g.fr,g.st,g.k⟩
  ·cases h
 |block id a iha=>
  intro β σ K r hI h
  obtain⟨ex,σ1,g⟩:=iha hI h
  have h2:=g.k
  cases ex with
  |norm=>exact⟨.norm,σ1,.block g.ev,g.inv,g.fr,g.st,h2⟩
  |ret=>exact⟨.ret,σ1,.block_ret g.ev,g.inv,g.fr,g.st,h2⟩
  |exit j=>
   simp only at h2
   split at h2
   ·rename_i hj
    have hj:=eq_of_beq hj
    subst hj
    exact⟨.norm,σ1,.block_exit g.ev,g.inv,g.fr,g.st,h2⟩
   ·rename_i hj
    exact⟨.exit j,σ1,.block_out g.ev (by simpa using hj),g.inv,g.fr,g.st,h2⟩
 |loop keep ks k s a iha=>
  intro β σ K r hI h
  simp only[den] at h
  split at h
  ·rename_i b hb
   split at h
   ·rename_i hkp
    split at h
    ·rename_i x hx
     obtain⟨n,hn⟩:=Qu.1 h
     clear h
     obtain⟨hu0,i0,f0⟩:=Auz hb
     have key: ∀(n:Nat) (x:Ed s.ts) (τ:TSt),(unpack s b x).u=((τ.u.forget keep).killAll ks).tidy k.fz k.sl k.bx k.dead (k.up.map (·.1))→Inv (unpack s b x)→Dk σ.fr σ τ→
       My (fun q:Ed s.ts=>den T a (β:=Ed s.ts⊕β) ((unpack s b q).wr s.fr) fun ex σ'=>match ex with
        | .norm=>(Bmg keep ks k s b σ').map .inl
        | .exit j=>(K (.exit j) (σ'.ref σ.fr)).map .inr
        | .ret=>(K .ret (σ'.ref σ.fr)).map .inr) n x=some r→ ∃ex σ',Ev P (.loop keep ks (k.ac a.ac)) τ.u ex σ'.u∧Inv σ'∧σ'.fr=σ.fr∧Dk (Bln ex σ.fr) σ σ'∧K ex σ'=some r:=by
      intro n
      induction n with
      |zero=>intro x τ _ _ _ hn;cases hn
      |succ n ih=>
       intro x τ h3 i3 hst hn
       rw[My] at hn
       have hbq:Dk ⟨s.fr.s++b.fr.s,s.fr.k++b.fr.k⟩ b (unpack s b x):=Ag4 hkp x
       have hσq:Dk σ.fr σ (unpack s b x):=f0.stays.trans ⟨fun t ht=>hbq.1 t (List.mem_append_right _ (by rw[f0.fr];exact ht)),fun q hq=>hbq.2 q (List.mem_append_right _ (by rw[f0.fr];exact hq))⟩
       have hfr:(unpack s b x).fr=σ.fr:=f0.fr
       split at hn
       ·cases hn
       ·rename_i s' hf
        obtain⟨ex,σ1,g⟩:=iha (i3.wr s.fr) hf
        have hev:Ev P a.ac (unpack s b x).u ex σ1.u:=g.ev
        rw[h3] at hev
        cases ex with
        |norm=>
         have hs1:Dk σ.fr (unpack s b x) σ1:=by have:=Ay4 g.st;rw[hfr] at this;exact this
         obtain⟨y,hy,e⟩:=map_some g.k
         cases e
         unfold Bmg at hy
         split at hy
         ·rename_i σ2 e2
          obtain⟨hu2,i2,f2⟩:=Auz e2
          have hst2:Dk s.fr b σ2:=by
           have h5:Dk s.fr b (unpack s b x):=⟨fun t ht=>hbq.1 t (List.mem_append_left _ ht),fun q hq=>hbq.2 q (List.mem_append_left _ hq)⟩
           have h6:=A77 g.st
           have h7:=f2.stays
           rw[g.fr] at h7
           exact(h5.trans h6).trans ⟨fun t ht=>h7.1 t (List.mem_append_left _ ht),fun q hq=>h7.2 q (List.mem_append_left _ hq)⟩
          obtain⟨h8,i8⟩:=Aqs hst2 hy
          obtain⟨ex,σ3,h9,i9,r9,s9,k9⟩:=ih _ σ1 (h8.trans hu2) i8 (hσq.trans hs1) hn
          exact⟨ex,σ3,.loop (.keep hev) h9,i9,r9,s9,k9⟩
         ·cases hy
        |exit j=>obtain⟨y,hy,e⟩:=map_some g.k;cases e
        |ret=>obtain⟨y,hy,e⟩:=map_some g.k;cases e
       ·rename_i o hf
        cases hn
        obtain⟨ex,σ1,g⟩:=iha (i3.wr s.fr) hf
        have hev:Ev P a.ac (unpack s b x).u ex σ1.u:=g.ev
        rw[h3] at hev
        cases ex with
        |norm=>obtain⟨y,hy,e⟩:=map_some g.k;cases e
        |exit j=>
         have hs1:Dk σ.fr (unpack s b x) σ1:=by have:=Ay4 g.st;rw[hfr] at this;exact this
         obtain⟨y,hy,e⟩:=map_some g.k
         cases e
         exact⟨_,σ1.ref σ.fr,.loop_out (.keep hev) (by simp),g.inv.ref _,rfl,hσq.trans hs1,hy⟩
        |ret=>
         have hs1:Dk (Alb σ.fr) (unpack s b x) σ1:=by have:=A3p g.st;rw[hfr] at this;exact this
         obtain⟨y,hy,e⟩:=map_some g.k
         cases e
         exact⟨_,σ1.ref σ.fr,.loop_out (.keep hev) (by simp),g.inv.ref _,rfl,(A3j hσq).trans hs1,hy⟩
     obtain⟨h1,i1⟩:=Aqs (.refl _ _) hx
     obtain⟨ex,σ',h2,i2,r2,s2,k2⟩:=key n x σ (h1.trans hu0) i1 (.refl _ _) hn
     exact⟨ex,σ',h2,i2,r2,s2,k2⟩
    ·cases h
   ·cases h
  ·cases h
 |exit id=>intro β σ K r hI h;exact⟨.exit id,σ,.exit _ _,hI,rfl,.refl _ _,h⟩
 |ret=>intro β σ K r hI h;exact⟨.ret,σ,.ret _,hI,rfl,.refl _ _,h⟩
 |keep k a iha=>
  intro β σ K r hI h
  simp only[den] at h
  split at h
  ·rename_i hk
   split at h
   ·rename_i σ' e
    obtain⟨h1,i1⟩:=TSt.tidy_u hI e
    have f:=Auw hk e
    obtain⟨ex,σ1,g⟩:=iha i1 h
    have hev:=g.ev
    rw[h1] at hev
    exact⟨ex,σ1,.keep hev,g.inv,g.fr.trans f.fr,(Bcg ex f.stays).trans (by rw[←f.fr];exact g.st),g.k⟩
   ·cases h
  ·cases h
 |pass id a iha=>
  intro β σ K r hI h
  obtain⟨ex,σ1,g⟩:=iha hI h
  exact⟨ex,σ1,.pass g.ev,g.inv,g.fr,g.st,g.k⟩
 |free a iha=>
  intro β σ K r hI h
  obtain⟨ex,σ1,g⟩:=iha (hI.ref (Alb σ.fr)) h
  have h2:=g.k
  cases ex with
  |ret=>
   have hs:Dk (Alb (Alb σ.fr)) (σ.ref (Alb σ.fr)) σ1:=g.st
   exact⟨.ret,σ1.ref σ.fr,g.ev,g.inv.ref _,rfl,⟨fun t ht=>(by cases ht),fun k hk=>hs.2 k (List.mem_filter.2 ⟨hk,(List.mem_filter.1 hk).2⟩)⟩,h2⟩
  |norm=>cases h2
  |exit j=>cases h2
 |stuck=>intro β σ K r hI h;cases h
structure TFd where
 np:Nat
 res:List (RV×Ty)
 out:List Key
 body:DC
def TFd.fd(f:TFd):Fd:=⟨f.np,f.res.map (·.1),f.out,f.body.ac⟩
def Aq1:Nat→List TV→List (Nat×TV)
 |_,[]=>[]
 |i,v::vs=>(i,v)::Aq1 (i+1) vs
def Aus:Nat→List TO→List (Key×TO)
 |_,[]=>[]
 |i,o::r=>(.ext i,o)::Aus (i+1) r
def Ap8(fr:Fr)(args:List TV)(ext:List TO):TSt:=⟨Aq1 0 args,Aus 0 ext,[],fr⟩
theorem Bb5: ∀(l:List TV) (i:Nat),(Aq1 i l).map slU=slotsOf i (l.map TV.u)
 |[],_=>rfl
 |v::vs,i=>by simp only[Aq1,List.map_cons,slotsOf,slU,Bb5 vs (i+1)]
theorem Bg1: ∀(l:List TO) (i:Nat),(Aus i l).map hpU=N5 i (l.map TO.u)
 |[],_=>rfl
 |v::vs,i=>by simp only[Aus,List.map_cons,N5,hpU,Bg1 vs (i+1)]
theorem Ayk: ∀{l:List TV} {i:Nat} {p:Nat×TV},p∈Aq1 i l→p.2∈l
 |v::vs,i,p,h=>by
  simp only[Aq1] at h
  rcases List.mem_cons.1 h with rfl|h
  ·exact List.mem_cons_self
  ·exact List.mem_cons_of_mem _ (Ayk h)
theorem Blh(fr:Fr)(args:List TV)(ext:List TO):(Ap8 fr args ext).u=enter (args.map TV.u) (ext.map TO.u):=by
 simp only[Ap8,TSt.u,enter,Bb5,Bg1]
theorem Bdo(fr:Fr){args:List TV}(h: ∀w∈args,w.tame=true)(ext:List TO):Inv (Ap8 fr args ext):=Tp (fun p hp=>h _ (Ayk hp)) _ _ _
def Bpx(σ:TSt):RV×Ty→Option TV
 |(.tmp t,_)=>some (σ.get t)
 |(.cell t agg n,ty)=>match Ayr σ agg ty n (σ.ev [] (.tmp t)) with
  | .tot w []=>some w
  |_=>none
theorem Bse{σ:TSt}(hI:Inv σ){p:RV×Ty}{w:TV}(h:Bpx σ p=some w):Ani Avp σ.u p.1=some w.u:=by
 obtain⟨rv,ty⟩:=p
 cases rv with
 |tmp t=>cases h;simp only[Ani,A3n]
 |cell t agg n=>
  simp only[Bpx] at h
  split at h
  ·rename_i w' e
   cases h
   have hg:(Ayr σ agg ty n (σ.ev [] (.tmp t))).gives (w,[]):=by rw[e];rfl
   obtain⟨h1,_⟩:=Aqk (d:=0) hI Zp hg
   simp only[Ani,h1 Avp];rfl
  ·cases h
theorem Bnf{σ:TSt}(hI:Inv σ): ∀{l:List (RV×Ty)} {ws:List TV},Eh (Bpx σ) l=some ws→Adj Avp σ.u (l.map (·.1))=some (ws.map TV.u)
 |[],_,h=>by cases h;rfl
 |p::l,r,h=>by
  obtain⟨b,r',h1,h2,rfl⟩:=Gr h
  simp only[List.map_cons,Adj,Bse hI h1,Bnf hI h2]
def outT(f:Key→Option Key)(σ:TSt)(k:Key):Option (Option TO):=match σ.look k with
 |none=>some none
 |some o=>match o.nm f with
  |some o'=>some (some o')
  |none=>none
theorem Bm0{f:Key→Option Key}{σ:TSt}{k:Key}{o:Option TO}(h:outT f σ k=some o):o.map TO.u=(σ.u.look k).map (Ah.nm f):=by
 unfold outT at h
 split at h
 ·rename_i e;cases h;rw[Ho e];rfl
 ·rename_i o' e
  split at h
  ·rename_i o2 e2;cases h;rw[A6 e];simp only[Option.map_some,TO.nm_u e2]
  ·cases h
def Br1:List TV→TV
 |[w]=>w
 |ws=> .tup ws
def Aqg(f:TFd)(ne:Nat)(σ:TSt):Option G4:=match Eh (Bpx σ) f.res with
 |some ws=>match (Br1 ws).nm (toR f.out) with
  |some v=>match Eh (outT (toR f.out) σ) f.out with
   |some rows=>match Eh (outT (toR f.out) σ) ((List.range ne).map .ext) with
    |some ext=>some ⟨v,rows,ext⟩
    |none=>none
   |none=>none
  |none=>none
 |none=>none
theorem Br2(ws:List TV):(Br1 ws).u=Bbt (ws.map TV.u):=by
 cases ws with
 |nil=>rfl
 |cons w ws=>
  cases ws with
  |nil=>rfl
  |cons w' ws=>simp only[Br1,TV.u,Ix,List.map_cons,Bbt]
theorem Bmn{f:TFd}{ne:Nat}{σ:TSt}(hI:Inv σ){r:G4}(h:Aqg f ne σ=some r):A9h Avp f.fd ne σ.u=some r.u:=by
 unfold Aqg at h
 split at h
 ·rename_i ws e1
  split at h
  ·rename_i v e2
   split at h
   ·rename_i rows e3
    split at h
    ·rename_i ext e4
     cases h
     have h1:=Bnf hI e1
     have h2:=nm_u _ _ e2
     have h3:rows.map (Option.map TO.u)=f.out.map fun k=>(σ.u.look k).map (Ah.nm (toR f.out)):=by
      have:=H8 (g:=fun k:Key=>k) (g':=Option.map TO.u) (F:=fun k=>(σ.u.look k).map (Ah.nm (toR f.out))) (fun a b e=>Bm0 e) e3
      simpa using this
     have h4:ext.map (Option.map TO.u)=(List.range ne).map fun i=>(σ.u.look (.ext i)).map (Ah.nm (toR f.out)):=by
      have:=H8 (g:=fun k:Key=>k) (g':=Option.map TO.u) (F:=fun k=>(σ.u.look k).map (Ah.nm (toR f.out))) (fun a b e=>Bm0 e) e4
      rw[this,List.map_map,List.map_map];rfl
     simp only[A9h,TFd.fd,h1,G4.u,h2,h3,h4,Br2]
    ·cases h
   ·cases h
  ·cases h
 ·cases h
structure RS where
 v:VS
 rows:List (Option OS)
 ext:List (Option OS)
 ts:List Ty
 p:List Nat
 q:List Nat
def Adq:List TO→List (Option OS)→List (Option TO)→Option (List TV)
 |_,[],[]=>some []
 |bs,none::cs,none::ws=>Adq bs.tail cs ws
 |bs,some c::cs,some w::ws=>match c.flat bs.head? w with
  |some l=>match Adq bs.tail cs ws with
   |some r=>some (l++r)
   |none=>none
  |none=>none
 |_,_,_=>none
def Aqo:List TO→List (Option OS)→List TV→List (Option TO)×List TV
 |_,[],r=>([],r)
 |bs,none::cs,r=>(none::(Aqo bs.tail cs r).1,(Aqo bs.tail cs r).2)
 |bs,some c::cs,r=>(some (c.mk' bs.head? r).1::(Aqo bs.tail cs (c.mk' bs.head? r).2).1,(Aqo bs.tail cs (c.mk' bs.head? r).2).2)
theorem Bh6{α:Type}(l:List α)(i:Nat):l.tail[i]? =l[i+1]? :=by cases l<;>simp
theorem Aab: ∀{bs:List TO} {cs:List (Option OS)} {ws:List (Option TO)} {l:List TV},Adq bs cs ws=some l→(∀(i:Nat) (c:OS) (w:TO),cs[i]? =some (some c)→ws[i]? =some (some w)→c.old=true→Gz bs[i]? (some w))→l.all TV.isV=true∧ ∀r,(Aqo bs cs (l++r)).1.map (Option.map TO.u)=ws.map (Option.map TO.u)∧(Aqo bs cs (l++r)).2=r
 |bs,[],[],l,h,_=>by simp only[Adq] at h;cases h;exact⟨rfl,fun r=>⟨rfl,rfl⟩⟩
 |bs,[],_::_,l,h,_=>by simp only[Adq] at h;cases h
 |bs,c::cs,[],l,h,_=>by cases c<;>simp only[Adq] at h<;>cases h
 |bs,none::cs,none::ws,l,h,H=>by
  simp only[Adq] at h
  obtain⟨h1,h2⟩:=Aab h (fun i c w hc hw ho=>by rw[Bh6];exact H (i+1) c w (by simpa using hc) (by simpa using hw) ho)
  exact⟨h1,fun r=>⟨by simp only[Aqo,List.map_cons,(h2 r).1],by simp only[Aqo,(h2 r).2]⟩⟩
 |bs,none::cs,some w::ws,l,h,_=>by simp only[Adq] at h;cases h
 |bs,some c::cs,none::ws,l,h,_=>by simp only[Adq] at h;cases h
 |bs,some c::cs,some w::ws,l,h,H=>by
  simp only[Adq] at h
  split at h
  ·rename_i l1 e1
   split at h
   ·rename_i l2 e2
    cases h
    obtain⟨h1,h2⟩:=Zs e1 (fun ho=>by rw[List.head?_eq_getElem?];exact H 0 c w rfl rfl ho)
    obtain⟨h3,h4⟩:=Aab e2 (fun i c w hc hw ho=>by rw[Bh6];exact H (i+1) c w (by simpa using hc) (by simpa using hw) ho)
    refine⟨by rw[List.all_append,h1,h3];rfl,fun r=>?_⟩
    rw[List.append_assoc]
    obtain⟨g1,g2⟩:=h2 (l2++r)
    obtain⟨g3,g4⟩:=h4 r
    exact⟨by simp only[Aqo,g2,List.map_cons,Option.map_some,g1,g3],by simp only[Aqo,g2,g4]⟩
   ·cases h
  ·cases h
def A96(s:RS)(b:List TO)(r:G4):Option (Ed s.ts):=match s.rows.all (fun c=>match c with
 |some c=> !c.old
 |none=>true) with
 |true=>match s.v.flat r.v with
  |some x=>match Adq [] s.rows r.rows with
   |some y=>match Adq b s.ext r.ext with
    |some z=>Bid s.ts s.p s.q (x++(y++z))
    |none=>none
   |none=>none
  |none=>none
 |false=>none
def mkR(s:RS)(b:List TO)(x:Ed s.ts):G4:=⟨(s.v.mk' (Avq s.ts s.q x)).1,(Aqo [] s.rows (s.v.mk' (Avq s.ts s.q x)).2).1,(Aqo b s.ext (Aqo [] s.rows (s.v.mk' (Avq s.ts s.q x)).2).2).1⟩
theorem Aml{s:RS}{b:List TO}{r:G4}{x:Ed s.ts}(H: ∀(i:Nat) (c:OS) (w:TO),s.ext[i]? =some (some c)→r.ext[i]? =some (some w)→c.old=true→Gz b[i]? (some w))(h:A96 s b r=some x):(mkR s b x).u=r.u:=by
 unfold A96 at h
 split at h
 ·rename_i hrows
  split at h
  ·rename_i a e1
   split at h
   ·rename_i y e2
    split at h
    ·rename_i c e3
     obtain⟨h1,h2⟩:=flatS_spec _ _ _ e1
     obtain⟨h3,h4⟩:=Aab e2 (fun i c w hc _ ho=>by
      have:=List.all_eq_true.1 hrows _ (List.mem_of_getElem? hc)
      simp only[ho] at this;cases this)
     obtain⟨h5,h6⟩:=Aab e3 H
     have hl:=Ay0 (by rw[List.all_append,List.all_append,h1,h3,h5];rfl) h
     obtain⟨g1,g2,_⟩:=h2 (y++c)
     obtain⟨g3,g4⟩:=h4 c
     have g5:=(h6 []).1
     rw[List.append_nil] at g5
     simp only[mkR,hl,G4.u,g1,g2,g3,g4,g5]
    ·cases h
   ·cases h
  ·cases h
 ·cases h
def Bkm(s:RS):Option RS→Type
 |none=>Ed s.ts
 |some s'=>Ed s.ts⊕Ed s'.ts
def mkQ(s:RS):(s':Option RS)→List TO→Bkm s s'→G4
 |none,b,x=>mkR s b x
 |some s',b,x=>match x with
  | .inl x=>mkR s b x
  | .inr y=>mkR s' b y
def Bhw(s:RS):(s':Option RS)→List TO→G4→Option (Bkm s s')
 |none,b,r=>A96 s b r
 |some s',b,r=>match A96 s b r with
  |some x=>some (.inl x)
  |none=>match A96 s' b r with
   |some y=>some (.inr y)
   |none=>none
def RS.olds(s:RS)(s':Option RS)(i:Nat):Prop:=(∃c,s.ext[i]? =some (some c)∧c.old=true)∨ ∃s2,s'=some s2∧ ∃c,s2.ext[i]? =some (some c)∧c.old=true
theorem Bek{s:RS}{s':Option RS}{b:List TO}{r:G4}{x:Bkm s s'}(H: ∀(i:Nat) (w:TO),r.ext[i]? =some (some w)→s.olds s' i→Gz b[i]? (some w))(h:Bhw s s' b r=some x):(mkQ s s' b x).u=r.u:=by
 cases s' with
 |none=>exact Aml (fun i c w h1 h2 h3=>H i w h2 (.inl ⟨c,h1,h3⟩)) h
 |some s2=>
  simp only[Bhw] at h
  split at h
  ·rename_i y e
   cases h
   exact Aml (fun i c w h1 h2 h3=>H i w h2 (.inl ⟨c,h1,h3⟩)) e
  ·split at h
   ·rename_i y e
    cases h
    exact Aml (fun i c w h1 h2 h3=>H i w h2 (.inr ⟨s2,rfl,c,h1,h3⟩)) e
   ·cases h
structure Ent where
 ps:List VS
 xs:List OS
 ts:List Ty
 rs:RS
 alt:Option RS
 f:Ed ts→Option (Bkm rs alt)
def A2a:List OS→List TO→Option (List TV)
 |[],[]=>some []
 |c::cs,w::ws=>match (match c.old with
  |true=>none
  |false=>c.flat none w) with
  |some l=>match A2a cs ws with
   |some r=>some (l++r)
   |none=>none
  |none=>none
 |_,_=>none
def mkX:List OS→List TV→List TO
 |[],_=>[]
 |c::cs,r=>(c.mk' none r).1::mkX cs (c.mk' none r).2
theorem Aut: ∀{cs:List OS} {ws:List TO} {l:List TV},A2a cs ws=some l→l.all TV.isV=true∧ ∀r,(mkX cs (l++r)).map TO.u=ws.map TO.u
 |[],[],l,h=>by cases h;exact⟨rfl,fun r=>rfl⟩
 |[],_::_,l,h=>by simp only[A2a] at h;cases h
 |_::_,[],l,h=>by simp only[A2a] at h;cases h
 |c::cs,w::ws,l,h=>by
  simp only[A2a] at h
  split at h
  ·rename_i l1 e0
   have hold:c.old=false:=by cases ho:c.old with
    |false=>rfl
    |true=>rw[ho] at e0;cases e0
   have e1:c.flat none w=some l1:=by rw[hold] at e0;exact e0
   split at h
   ·rename_i l2 e2
    cases h
    obtain⟨h1,h2⟩:=Zs e1 (fun ho=>by rw[hold] at ho;cases ho)
    obtain⟨h3,h4⟩:=Aut e2
    refine⟨by rw[List.all_append,h1,h3];rfl,fun r=>?_⟩
    rw[List.append_assoc]
    obtain⟨g1,g2⟩:=h2 (l2++r)
    simp only[mkX,g2,List.map_cons,g1]
    congr 1
    exact h4 r
   ·cases h
  ·cases h
def Bm2(e:Ent)(args:List TV)(ext:List TO):Option (Ed e.ts):=match flatL e.ps args with
 |some a=>match A2a e.xs ext with
  |some b=>toN e.ts (a++b)
  |none=>none
 |none=>none
def A1y(e:Ent)(x:Ed e.ts):List TV:=(mkL e.ps (ofN e.ts x)).1
def Aj4(e:Ent)(x:Ed e.ts):List TO:=mkX e.xs (mkL e.ps (ofN e.ts x)).2
theorem Bej{e:Ent}{args:List TV}{ext:List TO}{x:Ed e.ts}(h:Bm2 e args ext=some x):(A1y e x).map TV.u=args.map TV.u∧(Aj4 e x).map TO.u=ext.map TO.u:=by
 unfold Bm2 at h
 split at h
 ·rename_i a e1
  split at h
  ·rename_i b e2
   obtain⟨h1,h2,_⟩:=flatV_spec _ _ _ e1
   obtain⟨h3,h4⟩:=Aut e2
   have hl:=Bof (by rw[List.all_append,h1,h3];rfl) h
   have g:=h2 b
   have g4:=h4 []
   rw[List.append_nil] at g4
   unfold A1y Aj4
   rw[hl,g.2]
   exact⟨g.1,g4⟩
  ·cases h
 ·cases h
def Ent.ok(P:Program)(g:FuncId)(e:Ent):Prop:= ∀x r,e.f x=some r→Bo P g ((A1y e x).map TV.u) ((Aj4 e x).map TO.u) (mkQ e.rs e.alt (Aj4 e x) r).u
def frX:Nat→List (Option OS)→List Key
 |_,[]=>[]
 |i,c::cs=>match (match c with
  |some c=>c.old
  |none=>false) with
  |true=> .ext i::frX (i+1) cs
  |false=>frX (i+1) cs
def Ent.fr(e:Ent):Fr:=⟨[],frX 0 e.rs.ext++match e.alt with
 |none=>[]
 |some s=>frX 0 s.ext⟩
noncomputable def Btn(T:Tab)(f:TFd)(e:Ent)(x:Ed e.ts):Option (Bkm e.rs e.alt):=
 den T f.body (Ap8 e.fr (A1y e x) (Aj4 e x)) fun ex σ=>match ex with
  | .exit _=>none
  |_=>match Aqg f (Aj4 e x).length σ with
   |some r=>Bhw e.rs e.alt (Aj4 e x) r
   |none=>none
theorem A4c: ∀{cs:List (Option OS)} {n i:Nat} {c:OS},cs[i]? =some (some c)→c.old=true→Key.ext (n+i)∈frX n cs
 |[],_,_,_,h,_=>by simp at h
 |c'::cs,n,0,c,h,ho=>by
  simp only[List.getElem?_cons_zero,Option.some.injEq] at h
  subst h
  simp only[frX,ho]
  exact List.mem_cons_self
 |c'::cs,n,i+1,c,h,ho=>by
  have ih:=A4c (n:=n+1) (cs:=cs) (i:=i) (by simpa using h) ho
  have e:n+(i+1)=n+1+i:=by omega
  rw[e]
  simp only[frX]
  split
  ·exact List.mem_cons_of_mem _ ih
  ·exact ih
theorem A85: ∀(l:List TO) (n i:Nat),B5 (Aus n l) (.ext (n+i))=l[i]?
 |[],_,_=>rfl
 |o::l,n,0=>by simp[Aus,B5]
 |o::l,n,i+1=>by
  have e:n+(i+1)=n+1+i:=by omega
  have hne: ¬(Key.ext n=Key.ext (n+(i+1))):=by intro h;injection h with h;omega
  simp only[Aus,B5,if_neg hne]
  rw[e,A85 l (n+1) i];simp
theorem A2p{α β:Type}{f:α→Option β}: ∀{l:List α} {r:List β} {i:Nat} {b:β},Eh f l=some r→r[i]? =some b→ ∃a,l[i]? =some a∧f a=some b
 |[],_,_,_,h,e=>by cases h;simp at e
 |a::l,r,i,b,h,e=>by
  obtain⟨b',r',h1,h2,rfl⟩:=Gr h
  cases i with
  |zero=>simp at e;subst e;exact⟨a,rfl,h1⟩
  |succ i=>simp at e;obtain⟨a',h3,h4⟩:=A2p h2 e;exact⟨a',by simpa using h3,h4⟩
theorem Bd3{f:TFd}{ne:Nat}{σ:TSt}{r:G4}(h:Aqg f ne σ=some r){i:Nat}{w:TO}(hw:r.ext[i]? =some (some w)): ∃o,σ.look (.ext i)=some o∧Gz (some o) (some w):=by
 unfold Aqg at h
 split at h
 ·split at h
  ·split at h
   ·split at h
    ·rename_i ext e4
     cases h
     obtain⟨k,hk,ho⟩:=A2p e4 hw
     simp only[List.getElem?_map,Option.map_eq_some_iff] at hk
     obtain⟨j,hj,rfl⟩:=hk
     have:j=i:=by
      rw[List.getElem?_range (by
       have:=(List.getElem?_eq_some_iff.1 hj).1
       simpa using this)] at hj
      exact(Option.some.inj hj).symm
     subst this
     unfold outT at ho
     split at ho
     ·cases ho
     ·rename_i o e
      split at ho
      ·rename_i o' e2
       cases ho
       exact⟨o,e,Bpf e2⟩
      ·cases ho
    ·cases h
   ·cases h
  ·cases h
 ·cases h
theorem Bpk: ∀(s:VS) (l:List TV),l.all TV.isV=true→(s.mk' l).1.tame=true
 | .ty _,[],_| .nils,_,_| .ptr _ _,_,_| .own _,_,_| .mp _,_,_| .agg _ _,_,_| .tup _,_,_| .fn _ _,_,_| .fnc _,_,_| .nilFn,_,_| .iv _ _,[],_| .ic _ _,_,_| .dead,_,_=>rfl
 | .ty _,w::r,h=>by
  simp only[List.all_cons,Bool.and_eq_true] at h
  simp only[VS.mk']
  cases w<;>first|rfl|cases h.1
 | .iv _ o,w::r,h=>by
  simp only[VS.mk']
  split<;>rfl
theorem Bpj: ∀(s:VS) (l:List TV),l.all TV.isV=true→(s.mk' l).2.all TV.isV=true:=by
 have key: ∀n:Nat,∀(l:List TV),l.all TV.isV=true→(l.drop n).all TV.isV=true:=fun n l h=>List.all_eq_true.2 fun x hx=>List.all_eq_true.1 h x (List.mem_of_mem_drop hx)
 intro s
 refine VS.rec (motive_1:=fun s=> ∀l:List TV,l.all TV.isV=true→(s.mk' l).2.all TV.isV=true) (motive_2:=fun cs=> ∀l:List TV,l.all TV.isV=true→(mkL cs l).2.all TV.isV=true) ?_ ?_ ?_ ?_ ?_ ?_ ?_ ?_ ?_ ?_ ?_ ?_ ?_ ?_ ?_ s
 ·intro t l h
  cases l with
  |nil=>rfl
  |cons w r=>simp only[List.all_cons,Bool.and_eq_true] at h;exact h.2
 ·exact fun l h=>h
 ·exact fun _ _ l h=>h
 ·exact fun _ l h=>h
 ·exact fun _ l h=>h
 ·exact fun t cs ih l h=>ih l h
 ·exact fun cs ih l h=>ih l h
 ·exact fun f cs ih l h=>ih l h
 ·exact fun _ l h=>h
 ·exact fun l h=>h
 ·intro t o l h
  cases l with
  |nil=>rfl
  |cons w r=>simp only[List.all_cons,Bool.and_eq_true] at h;exact h.2
 ·exact fun cs o ih l h=>ih l h
 ·exact fun l h=>h
 ·exact fun l h=>h
 ·intro c cs ih1 ih2 l h
  simp only[mkL]
  exact ih2 _ (ih1 l h)
theorem A9z: ∀(cs:List VS) (l:List TV),l.all TV.isV=true→ ∀w∈(mkL cs l).1,w.tame=true
 |[],_,_,w,hw=>by simp[mkL] at hw
 |c::cs,l,h,w,hw=>by
  simp only[mkL] at hw
  rcases List.mem_cons.1 hw with rfl|hw
  ·exact Bpk c l h
  ·exact A9z cs _ (Bpj c l h) w hw
theorem Bqt: ∀(ts:List Ty) (x:Ed ts),(ofN ts x).all TV.isV=true
 |[],_=>rfl
 |t::ts,x=>by simp only[ofN,List.all_cons,TV.isV,Bqt ts _,Bool.and_self]
theorem Aw(hm:P.follows .mixedOrders=true){g:FuncId}{fn:Func}(hf:P.funcs[g]? =some fn){fd:TFd}(hag:Bc7 P fn fd.fd=true)(hT:To P T){e:Ent}(hn:(e.ps.length==fd.np)=true)(h: ∀x,Btn T fd e x=e.f x):Ent.ok P g e:=by
 intro x r hr
 rw[←h] at hr
 obtain⟨ex,σ,g1⟩:=Biu hT fd.body (Bdo e.fr (A9z _ _ (Bqt _ _)) _) hr
 have h2:=g1.k
 have key:(ex= .norm∨ex= .ret)∧ ∃r',Aqg fd (Aj4 e x).length σ=some r'∧Bhw e.rs e.alt (Aj4 e x) r'=some r:=by
  cases ex with
  |exit j=>cases h2
  |norm=>
   simp only at h2
   split at h2
   ·rename_i r' e';exact⟨.inl rfl,r',e',h2⟩
   ·cases h2
  |ret=>
   simp only at h2
   split at h2
   ·rename_i r' e';exact⟨.inr rfl,r',e',h2⟩
   ·cases h2
 obtain⟨hex,r',h3,h4⟩:=key
 rw[Bek (fun i w hw ho=>by
  obtain⟨o,h5,h6⟩:=Bd3 h3 hw
  have hm:Key.ext i∈e.fr.k:=by
   rcases ho with⟨c,hc,ho⟩|⟨s2,e2,c,hc,ho⟩
   ·have:=A4c (n:=0) hc ho
    rw[Nat.zero_add] at this
    exact List.mem_append_left _ this
   ·have:=A4c (n:=0) hc ho
    rw[Nat.zero_add] at this
    unfold Ent.fr
    rw[e2]
    exact List.mem_append_right _ this
  have h7:=g1.st.2 (.ext i) (Bo2 g1.st hm)
  have h8:TSt.look (Ap8 e.fr (A1y e x) (Aj4 e x)) (.ext i)=(Aj4 e x)[i]? :=by have:=A85 (Aj4 e x) 0 i;rw[Nat.zero_add] at this;exact this
  have h7:Gz (TSt.look (Ap8 e.fr (A1y e x) (Aj4 e x)) (.ext i)) (σ.look (.ext i)):=h7
  rw[h8,h5] at h7
  exact h7.trans h6) h4]
 have hlen: ∀(cs:List VS) (l:List TV),(mkL cs l).1.length=cs.length:=by
  intro cs
  induction cs with
  |nil=>intro l;rfl
  |cons c cs ih=>intro l;simp only[mkL,List.length_cons,ih]
 refine A8w hm hf hag (by rw[List.length_map];exact(hlen _ _).trans (eq_of_beq hn)) (by rw[←Blh];exact g1.ev) hex ?_
 rw[List.length_map]
 exact Bmn g1.inv h3
def Ent.run(e:Ent)(args:List TV)(ext:List TO):Option RAn:=match Bm2 e args ext with
 |some x=>some (match e with
  |⟨ps,xs,ts,rs,none,f⟩=> .par (Ed rs.ts) (Bst rs.ts) (f x) (mkR rs (Aj4 ⟨ps,xs,ts,rs,none,f⟩ x))
  |⟨ps,xs,ts,rs,some s,f⟩=> .alt (Ed rs.ts) (Ed s.ts) (f x) (mkR rs (Aj4 ⟨ps,xs,ts,rs,some s,f⟩ x)) (mkR s (Aj4 ⟨ps,xs,ts,rs,some s,f⟩ x)))
 |none=>none
def Bnz(l:List (FuncId×Ent))(g:FuncId)(args:List TV)(ext:List TO):RAn:=match l with
 |[]=> .no
 |p::l=>match p.1==g with
  |true=>match p.2.run args ext with
   |some r=>r
   |none=>Bnz l g args ext
  |false=>Bnz l g args ext
structure Dyn where
 ps:List VS
 ts:List Ty
 rs:RS
 f:Nat→Ed ts→Option (Ed rs.ts)
def Dyn.ent(y:Dyn)(g:Nat):Ent:=⟨y.ps,[],y.ts,y.rs,none,y.f g⟩
def Bqc(l:List Dyn)(g:Nat)(args:List TV):RAn:=match l with
 |[]=> .no
 |y::l=>match (y.ent g).run args [] with
  |some r=>r
  |none=>Bqc l g args
def tab(l:List (FuncId×Ent))(y:List Dyn):Tab:=⟨fun b=>Bnz (l.filter (fun p=>p.2.rs.rows.isEmpty==b)++l),Bqc y⟩
theorem Bnm{g:FuncId}{e:Ent}(h:e.ok P g){args:List TV}{ext:List TO}{a:RAn}{r:G4}(hr:e.run args ext=some a)(hg:a.gives r):Bo P g (args.map TV.u) (ext.map TO.u) r.u:=by
 unfold Ent.run at hr
 split at hr
 ·rename_i x hx
  cases hr
  obtain⟨h2,h3⟩:=Bej hx
  rw[←h2,←h3]
  obtain⟨ps,xs,ts,rs,alt,f⟩:=e
  cases alt with
  |none=>
   obtain⟨y,h1,rfl⟩:=hg
   exact h x y h1
  |some s=>
   obtain⟨y,h1,h4⟩:=hg
   cases y with
   |inl y=>subst h4;exact h x _ h1
   |inr y=>subst h4;exact h x _ h1
 ·cases hr
def Ak2(P:Program):List (FuncId×Ent)→Prop
 |[]=>True
 |p::l=>p.2.ok P p.1∧Ak2 P l
def Bkh(P:Program):List Dyn→Prop
 |[]=>True
 |y::l=>(∀g,(y.ent g).ok P g)∧Bkh P l
theorem Ak2.mem: ∀{l:List (FuncId×Ent)},Ak2 P l→ ∀p∈l,p.2.ok P p.1
 |_::_,h,p,hp=>by
  rcases List.mem_cons.1 hp with rfl|hp
  ·exact h.1
  ·exact Ak2.mem h.2 p hp
theorem Ak2.of: ∀{l:List (FuncId×Ent)},(∀p∈l,p.2.ok P p.1)→Ak2 P l
 |[],_=>trivial
 |p::l,h=>⟨h p (by simp),Ak2.of fun q hq=>h q (by simp[hq])⟩
theorem Al{l:List (FuncId×Ent)}{y:List Dyn}(h:Ak2 P l)(hy:Bkh P y):To P (tab l y):=by
 constructor
 ·intro b g args ext r hr
  show Bo P g _ _ _
  have hr:(Bnz (l.filter (fun p=>p.2.rs.rows.isEmpty==b)++l) g args ext).gives r:=hr
  have h:Ak2 P (l.filter (fun p=>p.2.rs.rows.isEmpty==b)++l):=Ak2.of fun p hp=>by
   rcases List.mem_append.1 hp with hp|hp
   ·exact h.mem p (List.mem_filter.1 hp).1
   ·exact h.mem p hp
  generalize l.filter (fun p=>p.2.rs.rows.isEmpty==b)++l=l at h hr
  induction l with
  |nil=>cases hr
  |cons p l ih=>
   simp only[Bnz] at hr
   split at hr
   ·rename_i hg
    have hg:=eq_of_beq hg
    subst hg
    split at hr
    ·rename_i a ha;exact Bnm h.1 ha hr
    ·exact ih h.2 hr
   ·exact ih h.2 hr
 ·intro g args r hr
  have hr:(Bqc y g args).gives r:=hr
  induction y with
  |nil=>cases hr
  |cons p l ih=>
   simp only[Bqc] at hr
   split at hr
   ·rename_i a ha
    exact Bnm (ext:=[]) (hy.1 g) ha hr
   ·exact ih hy.2 hr hr
end
end Go.Av
end
section
namespace Go.Av
def oo(d:Nat)(op:AOp):TOp:=⟨⟨some d,none,op⟩,.bool,.bool⟩
def ot(d:Nat)(t:Ty)(op:AOp):TOp:=⟨⟨some d,none,op⟩,t,.bool⟩
def om(d:Nat)(t t2:Ty)(op:AOp):TOp:=⟨⟨some d,none,op⟩,t,t2⟩
def on(op:AOp):TOp:=⟨⟨none,none,op⟩,.bool,.bool⟩
def og(d g:Nat)(b:Bool)(t:Ty)(op:AOp):TOp:=⟨⟨some d,some (g,b),op⟩,t,.bool⟩
end Go.Av
end
