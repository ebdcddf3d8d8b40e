import Derived.Shelf.Spec.SlicesInsertGrow
import Derived.Laws.CopyRow
import Derived.Deep.WholeRow
import Derived.Test.YtkcilagjhieapaaGreatDoorC15
section
set_option linter.unusedVariables false
set_option linter.unusedSimpArgs false
namespace Go.Av
open Go Go.Proofs Go.Shelf Go.RowKit Go.Lib
section
variable {P:Program}
theorem Ky(w:World)(dT sT ty elem:TypeId)(i:TypeInfo)(g o dLen dCap:Nat)(a:Addr)(sLen sCap k:Nat)(cur:Array Value)(t:TypeId)(cs:List Value)
  (hu:P.underlying dT=some (.slice elem))(hs:P.info? elem=some i)
  (hg:w.heap[g]? =some (.cells cur t (0,0)))(hk:k=Nat.min sLen dLen)(hn:cs.length=k*i.size)
  (hsrc: ∀j v,cs[j]? =some v→w.cell? (a.add j)=some v)(hfit:o+cs.length≤cur.size)(h1: ∀v∈cs,v.oneCell'=true):
  (Builtin.copy_ #[dT,sT] ty #[.slice (some ⟨g,o,none⟩) dLen dCap,.slice (some a) sLen sCap]).run P w=
   .ok (goInt k) (w.setRow g (cur.toList.take o++cs++cur.toList.drop (o+cs.length)).toArray):=by
 have hl:=run_loadCells_list (P:=P) w a cs hsrc
 have hst:=run_storeCells_at P g o t cs 0 cur w hg (by simpa using hfit) h1
 rw[hn] at hl
 simp[Builtin.copy_,run_underlying hu,Builtin.lenOf,Builtin.firstCells,sizeOf,typeInfo,hs,←hk,hl,hst]
end
theorem Ru{α:Type}{L:List α}{i n z:Nat}{v:α}(h:i≤n)(hv:v∈(L.drop (i*z)).take ((n-i)*z)):v∈L.take (n*z):=by
 have e:(L.drop (i*z)).take ((n-i)*z)=(L.take (n*z)).drop (i*z):=by
  rw[List.drop_take,Nat.sub_mul]
 rw[e] at hv
 exact List.mem_of_mem_drop hv
theorem Aiw{α:Type}(L V S:List α)(p z e:Nat)(hz:p+z≤L.length)(hv:V.length=z)(he:e=p+z+S.length):
  (L.take (p+z)++S++L.drop (p+z+S.length)).take p++V++(L.take (p+z)++S++L.drop (p+z+S.length)).drop (p+V.length)=L.take p++V++S++L.drop e:=by
 have h1:(L.take (p+z)).length=p+z:=by simp;omega
 rw[List.append_assoc (L.take (p+z)),List.take_append_of_le_length (by omega),List.take_take,Nat.min_eq_left (by omega),hv,List.drop_left' h1,he]
 simp
theorem Agh{α:Type}(T M Z V S:List α)(p z:Nat)(hT:T.length=p)(hV:V.length=z)(hM:M.length=z+S.length):
  (((T++M++Z).take p++V++(T++M++Z).drop (p+z)).take (p+z)++S++((T++M++Z).take p++V++(T++M++Z).drop (p+z)).drop (p+z+S.length))=T++V++S++Z:=by
 have e1:(T++M++Z).take p=T:=by rw[List.append_assoc,List.take_left' hT]
 have e2:(T++M++Z).drop (p+z)=M.drop z++Z:=by
  rw[List.append_assoc,←List.drop_drop,List.drop_left' hT,List.drop_append_of_le_length (by omega)]
 have e3:(T++V).length=p+z:=by simp[hT,hV]
 rw[e1,e2,List.take_left' e3,←List.drop_drop (i:=S.length),List.drop_left' e3]
 have e4:(M.drop z).length=S.length:=by simp[hM]
 rw[List.drop_left' e4]
end Go.Av
end
section
set_option linter.unusedVariables false
set_option linter.unusedSimpArgs false
namespace Go.Av
open Go Go.Proofs Go.Shelf Go.RowKit Go.Lib
set_option maxHeartbeats 8000000 in
set_option maxRecDepth 100000 in
theorem Aby(w:World)(b vb n c i vc:Nat)(cur vcur:Array Value)(T T2:TypeId)(hg:w.heap[b]? =some (.cells cur T (0,0)))(hv:w.heap[vb]? =some (.cells vcur T2 (0,0)))(hne:vb≠b)
  (hs:cur.size=c*9)(hvs:9≤vcur.size)(hi:i<n)(hroom:n+1≤c)(hc93:n+1≤9223372036854775807)(h1c: ∀v∈cur.toList.take (n*9),v.oneCell'=true)(h1v: ∀v∈vcur.toList.take 9,v.oneCell'=true):
  Calls Tryz.prog 93 #[.slice (some ⟨b,0,none⟩) n c,.int .i64 i,.slice (some ⟨vb,0,none⟩) 1 vc] w fun e w'=>
   e= .returned (.slice (some ⟨b,0,none⟩) (n+1) c)∧ ∃W,W.heap=w.heap∧C8 w W∧w'=W.setRow b (cur.toList.take (i*9)++vcur.toList.take 9++(cur.toList.drop (i*9)).take ((n-i)*9)++cur.toList.drop ((n+1)*9)).toArray:=by
 have hz2: ¬((i:Int)=(n:Int)):=by omega
 have hov: ∀lb cb,(callFunc 128 #[.slice (some ⟨vb,0,none⟩) 1 vc,.slice (some ⟨b,(i+1)*9,none⟩) lb cb]).run Tryz.prog w= .ok (.value (.bool false)) w:=fun lb cb=>by
  rw[run_callFunc_extern Tryz.func128 (by kernel_rfl) (by kernel_rfl) (by kernel_rfl) (e:=Extern.SlicesOverlaps.overlaps #[27,27] #[4]) (by kernel_rfl),
   Lib.run_overlaps_apart w 27 4 52 Tryz.underlying27 9 Tryz.sizeOf52 ⟨vb,0,none⟩ ⟨b,(i+1)*9,none⟩ 1 vc lb cb hne T2 T vcur.size cur.size (by simp[World.shape?,hv]) (by simp[World.shape?,hg]) (by omega) (by simp[World.frozen?,hv]) (by simp[World.frozen?,hv])]
  rfl
 have hsz8:((Tryz.prog.info? 52).getD default).size=9:=by kernel_rfl
 obtain⟨src,hsrc⟩: ∃src:List Value,src=(cur.toList.drop (i*9)).take ((n-i)*9):=⟨_,rfl⟩
 obtain⟨A1,hA1⟩: ∃A:Array Value,A=(cur.toList.take ((i+1)*9)++src++cur.toList.drop ((i+1)*9+src.length)).toArray:=⟨_,rfl⟩
 have hsl:src.length=(n-i)*9:=by rw[hsrc];simp;omega
 have hcp1: ∀ty dc sc,(Builtin.copy_ #[27,27] ty #[.slice (some ⟨b,(i+1)*9,none⟩) (n-i) dc,.slice (some ⟨b,i*9,none⟩) (n+1-i) sc]).run Tryz.prog w.drew= .ok (goInt (n-i:Nat)) (w.drew.setRow b A1):=fun ty dc sc=>by
  rw[hA1]
  exact Ky w.drew 27 27 ty 52 _ b ((i+1)*9) _ _ ⟨b,i*9,none⟩ _ _ (n-i) cur T src Tryz.underlying27 (show Tryz.prog.info? 52=some ((Tryz.prog.info? 52).getD default) by kernel_rfl) hg (by simp only[Nat.min_def];split<;>omega) (by rw[hsl];congr 1) (fun j v hj=>by
   rw[Addr.add_lit]
   rw[hsrc,List.getElem?_take] at hj
   split at hj
   ·rw[List.getElem?_drop] at hj
    show World.cell? w _=_
    simp only[World.cell?,hg]
    simpa using hj
   ·cases hj) (by rw[hsl];omega) (fun v hv=>by rw[hsrc] at hv;exact h1c v (Ru (by omega) hv))
 have hw1:IntKind.i64.wrap ((i:Int)+1)=(i:Int)+1:=by rw[IntKind.wrap_i64];omega
 have hb1:(0:Int)≤(i:Int)+1:=by omega
 have hin:i≤n:=by omega
 have htn:((i:Int)+1).toNat=i+1:=by omega
 have hb2: ¬(c=i+1):=by omega
 have hb3:(i:Int)≤(n:Int)+1:=by omega
 have hb4: ¬(c=i):=by omega
 have hA1s:A1.size=cur.size:=by rw[hA1];simp[hsl];omega
 obtain⟨A2,hA2⟩: ∃A:Array Value,A=(A1.toList.take (i*9)++vcur.toList.take 9++A1.toList.drop (i*9+(vcur.toList.take 9).length)).toArray:=⟨_,rfl⟩
 have hcp2: ∀W:World,W.heap=(w.setRow b A1).heap→ ∀ty dc sc,(Builtin.copy_ #[27,27] ty #[.slice (some ⟨b,i*9,none⟩) (n+1-i) dc,.slice (some ⟨vb,0,none⟩) 1 sc]).run Tryz.prog W= .ok (goInt (1:Nat)) (W.setRow b A2):=fun W hW ty dc sc=>by
  rw[hA2]
  exact Ky W 27 27 ty 52 _ b (i*9) _ _ ⟨vb,0,none⟩ _ _ 1 A1 T (vcur.toList.take 9) Tryz.underlying27 (show Tryz.prog.info? 52=some ((Tryz.prog.info? 52).getD default) by kernel_rfl) (by rw[hW];exact setRow_heap w b cur A1 T _ hg) (by simp only[Nat.min_def];split<;>omega) (by rw[hsz8];simp;omega) (fun j v hj=>by
   rw[Addr.add_lit]
   rw[List.getElem?_take] at hj
   split at hj
   ·simp only[World.cell?,hW,World.setRow,Array.getElem?_modify,if_neg (Ne.symm hne),hv]
    simpa using hj
   ·cases hj) (by simp;omega) h1v
 have hfin:Hid (A2=(cur.toList.take (i*9)++vcur.toList.take 9++(cur.toList.drop (i*9)).take ((n-i)*9)++cur.toList.drop ((n+1)*9)).toArray):=by
  show A2=_
  rw[hA2,hA1]
  have e1:(i+1)*9=i*9+9:=by omega
  rw[e1]
  have:=Aiw cur.toList (vcur.toList.take 9) src (i*9) 9 ((n+1)*9) (by simp;omega) (by simp;omega) (by rw[hsl];omega)
  simp only[List.append_assoc] at this⊢
  rw[this,hsrc]
 clear hA1 hsrc hsl hA2
 have mixed:Tryz.prog.follows .mixedOrders=true:=by kernel_rfl
 go_enter Tryz.func93,Tryz.ntmps93
 go_wp2_with (simp only[hov])
 go_region_law_o (refine step_copy_runI rfl _ _ 27 27 rfl _ _ (by simp[Act.eval,Act.put]) (by simp[Act.eval,Act.put]) (hcp1 _ _ _) ?_)
 go_wp2_with (at_builtin;refine wpList_copy_runI _ rfl _ _ 27 27 rfl _ _ rfl rfl (hcp2 (w.drew.setRow b A1) rfl _ _ _) ?_)
 rw[hcp2 (w.drew.setRow b A1) rfl]
 go_wp2
 go_ret
 refine⟨rfl,w.drew,rfl,⟨rfl,rfl,rfl⟩,?_⟩
 rw[←hfin.out]
 exact setRow_setRow _ _ _ _
set_option maxHeartbeats 8000000 in
set_option maxRecDepth 100000 in
theorem Ad3(w:World)(b vb n c vc:Nat)(cur vcur:Array Value)(T T2:TypeId)(hg:w.heap[b]? =some (.cells cur T (0,0)))(hv:w.heap[vb]? =some (.cells vcur T2 (0,0)))
  (hs:cur.size=c*9)(hvs:9≤vcur.size)(hroom:n+1≤c)(hc93:n+1≤9223372036854775807)(h1v: ∀v∈vcur.toList.take 9,v.oneCell'=true):
  Calls Tryz.prog 93 #[.slice (some ⟨b,0,none⟩) n c,.int .i64 n,.slice (some ⟨vb,0,none⟩) 1 vc] w fun e w'=>
   e= .returned (.slice (some ⟨b,0,none⟩) (n+1) c)∧w'=w.setRow b (cur.toList.take (n*9)++vcur.toList.take 9++cur.toList.drop ((n+1)*9)).toArray:=by
 have hsz8:((Tryz.prog.info? 52).getD default).size=9:=by kernel_rfl
 have hl8:(vcur.toList.take 9).length=9:=by simp;omega
 obtain⟨A,hA⟩: ∃A:Array Value,Hid (A=(cur.toList.take (n*9)++vcur.toList.take 9++cur.toList.drop ((n+1)*9)).toArray):=⟨_,show _=_ from rfl⟩
 have hap: ∀ty,(Builtin.append_ #[27,27] ty #[.slice (some ⟨b,0,none⟩) n c,.slice (some ⟨vb,0,none⟩) 1 vc]).run Tryz.prog w= .ok (.slice (some ⟨b,0,none⟩) (n+1) c) (w.setRow b A):=fun ty=>by
  rw[hA.out]
  have h:=N0 (P:=Tryz.prog) (w:=w) 27 ty 52 T ((Tryz.prog.info? 52).getD default) Tryz.underlying27 (by kernel_rfl) b n c cur hg (some ⟨vb,0,none⟩) 1 vc (vcur.toList.take 9) (by rw[hsz8,hl8]) (fun _=>⟨_,rfl,fun j v hj=>by
   rw[Addr.add_lit]
   rw[List.getElem?_take] at hj
   split at hj
   ·simp only[World.cell?,hv]
    simpa using hj
   ·cases hj⟩) h1v hroom (by rw[hsz8,hl8,hs];omega)
  rw[hsz8,hl8] at h
  rw[h,show n*9+9=(n+1)*9 by omega]
 go_enter Tryz.func93,Tryz.ntmps93
 go_wp2_with (at_builtin;refine Lib.wpList_append_run _ rfl _ _ _ _ rfl _ _ rfl rfl _ _ (hap _) ?_)
 go_ret
 exact⟨rfl,by rw[hA.out]⟩
set_option maxHeartbeats 8000000 in
set_option maxRecDepth 100000 in
theorem Agl(w:World)(b vb n c vc:Nat)(cur vcur:Array Value)(T T2:TypeId)(hg:w.heap[b]? =some (.cells cur T (0,0)))(hv:w.heap[vb]? =some (.cells vcur T2 (0,0)))
  (hs:cur.size=c*9)(hvs:9≤vcur.size)(hnc:n≤c)(hroom:c<n+1)(hbig:(n+1)*64≤140737488355328)(h1v: ∀v∈vcur.toList.take 9,v.oneCell'=true):
  Calls Tryz.prog 93 #[.slice (some ⟨b,0,none⟩) n c,.int .i64 n,.slice (some ⟨vb,0,none⟩) 1 vc] w fun e w'=>
   ∃G zs,n+1≤G∧zs.length=(G-(n+1))*9∧e= .returned (.slice (some ⟨w.heap.size,0,none⟩) (n+1) G)∧w'=w.drew.alloc (.cells (cur.toList.take (n*9)++vcur.toList.take 9++zs).toArray 52):=by
 have hsz8:((Tryz.prog.info? 52).getD default).size=9:=by kernel_rfl
 have hby:((Tryz.prog.info? 52).getD default).bytes=64:=by kernel_rfl
 have hl8:(vcur.toList.take 9).length=9:=by simp;omega
 have hsrc:Src Tryz.prog ((Tryz.prog.info? 52).getD default).size 27 (.slice (some ⟨vb,0,none⟩) 1 vc) 1 (vcur.toList.take 9) w:=Src.ofSlice w Tryz.underlying27 ⟨vb,0,none⟩ 1 vc (vcur.toList.take 9) (by rw[hsz8,hl8]) (fun j u hj=>by
   rw[Addr.add_lit]
   rw[List.getElem?_take] at hj
   split at hj
   ·simp only[World.cell?,hv]
    simpa using hj
   ·cases hj) h1v
 have hold:(Builtin.firstCells ((Tryz.prog.info? 52).getD default).size n (.slice (some ⟨b,0,none⟩) n c)).run Tryz.prog w.drew= .ok (cur.toList.take (n*9)).toArray w.drew:=by
  exact run_firstCells_some w.drew _ n ⟨b,0,none⟩ n c (cur.toList.take (n*9)) (by rw[hsz8];simp;omega) (fun j v hj=>by
   rw[Addr.add_lit]
   rw[List.getElem?_take] at hj
   split at hj
   ·show World.cell? w _=_
    simp only[World.cell?,hg]
    simpa using hj
   ·cases hj)
 obtain⟨z,hz⟩: ∃z,((Tryz.prog.info? 52).getD default).zero=some z:=⟨_,show _=some ((((Tryz.prog.info? 52).getD default).zero).getD undef) by kernel_rfl⟩
 have hzs:Hid (z.cells.size=9):=by
  have h:(((Tryz.prog.info? 52).getD default).zero).getD undef=z:=by rw[hz];rfl
  show _=_
  rw[←h]
  kernel_rfl
 obtain⟨G,hG⟩: ∃G,G=grownCap w (n+1) c 52:=⟨_,rfl⟩
 obtain⟨zs,hzs'⟩: ∃zs:List Value,zs=(Builtin.zeroCells z.cells (G-(n+1))).toList:=⟨_,rfl⟩
 obtain⟨arr,harr⟩: ∃arr:Array Value,Hid (arr=(cur.toList.take (n*9)++vcur.toList.take 9++zs).toArray):=⟨_,show _=_ from rfl⟩
 have hGn:n+1≤G:=by rw[hG];exact grownCap_ge w _ _ _
 have hzl:zs.length=(G-(n+1))*9:=by rw[hzs',Array.length_toList,size_zeroCells,hzs.out]
 have hrun: ∀ty,(Builtin.append_ #[27,27] ty #[.slice (some ⟨b,0,none⟩) n c,.slice (some ⟨vb,0,none⟩) 1 vc]).run Tryz.prog w= .ok (.slice (some ⟨w.heap.size,0,none⟩) (n+1) G) (w.drew.alloc (.cells arr 52)):=fun ty=>by
  rw[run_append_grow_src w 27 27 ty 52 ((Tryz.prog.info? 52).getD default) z Tryz.underlying27 (by kernel_rfl) hz (some ⟨b,0,none⟩) n c _ hold _ 1 _ hsrc hroom (by omega) (by rw[hby];exact growslice_fits hroom hbig),harr.out,hzs',hG]
  congr 4
  apply Array.toList_inj.1
  simp
 clear hzs' hG hz hold hsrc hzs
 go_enter Tryz.func93,Tryz.ntmps93
 go_wp2_with (at_builtin;refine Lib.wpList_append_run _ rfl _ _ _ _ rfl _ _ rfl rfl _ _ (hrun _) ?_)
 all_goals (go_ret;exact⟨G,zs,hGn,hzl,rfl,by rw[←harr.out];rfl⟩)
set_option maxHeartbeats 8000000 in
set_option maxRecDepth 100000 in
theorem Agm(w:World)(ax:Option Addr)(vb vc:Nat)(vcur:Array Value)(T2:TypeId)(hv:w.heap[vb]? =some (.cells vcur T2 (0,0)))
  (hvs:9≤vcur.size)(hbig:64≤140737488355328)(h1v: ∀v∈vcur.toList.take 9,v.oneCell'=true):
  Calls Tryz.prog 93 #[.slice ax 0 0,.int .i64 0,.slice (some ⟨vb,0,none⟩) 1 vc] w fun e w'=>
   ∃G zs,1≤G∧zs.length=(G-1)*9∧e= .returned (.slice (some ⟨w.heap.size,0,none⟩) 1 G)∧w'=w.drew.alloc (.cells (vcur.toList.take 9++zs).toArray 52):=by
 have hsz8:((Tryz.prog.info? 52).getD default).size=9:=by kernel_rfl
 have hby:((Tryz.prog.info? 52).getD default).bytes=64:=by kernel_rfl
 have hl8:(vcur.toList.take 9).length=9:=by simp;omega
 have hsrc:Src Tryz.prog ((Tryz.prog.info? 52).getD default).size 27 (.slice (some ⟨vb,0,none⟩) 1 vc) 1 (vcur.toList.take 9) w:=Src.ofSlice w Tryz.underlying27 ⟨vb,0,none⟩ 1 vc (vcur.toList.take 9) (by rw[hsz8,hl8]) (fun j u hj=>by
   rw[Addr.add_lit]
   rw[List.getElem?_take] at hj
   split at hj
   ·simp only[World.cell?,hv]
    simpa using hj
   ·cases hj) h1v
 have hold:(Builtin.firstCells ((Tryz.prog.info? 52).getD default).size 0 (.slice ax 0 0)).run Tryz.prog w.drew= .ok ([]:List Value).toArray w.drew:=by
  cases ax with
  |none=>rfl
  |some a=>exact run_firstCells_some w.drew _ 0 a 0 0 [] (by simp) (fun j v hj=>by simp at hj)
 obtain⟨z,hz⟩: ∃z,((Tryz.prog.info? 52).getD default).zero=some z:=⟨_,show _=some ((((Tryz.prog.info? 52).getD default).zero).getD undef) by kernel_rfl⟩
 have hzs:Hid (z.cells.size=9):=by
  have h:(((Tryz.prog.info? 52).getD default).zero).getD undef=z:=by rw[hz];rfl
  show _=_
  rw[←h]
  kernel_rfl
 obtain⟨G,hG⟩: ∃G,G=grownCap w (0+1) 0 52:=⟨_,rfl⟩
 obtain⟨zs,hzs'⟩: ∃zs:List Value,zs=(Builtin.zeroCells z.cells (G-(0+1))).toList:=⟨_,rfl⟩
 obtain⟨arr,harr⟩: ∃arr:Array Value,Hid (arr=(vcur.toList.take 9++zs).toArray):=⟨_,show _=_ from rfl⟩
 have hGn:1≤G:=by rw[hG];exact grownCap_ge w _ _ _
 have hzl:zs.length=(G-1)*9:=by rw[hzs',Array.length_toList,size_zeroCells,hzs.out]
 have hrun: ∀ty,(Builtin.append_ #[27,27] ty #[.slice ax 0 0,.slice (some ⟨vb,0,none⟩) 1 vc]).run Tryz.prog w= .ok (.slice (some ⟨w.heap.size,0,none⟩) 1 G) (w.drew.alloc (.cells arr 52)):=fun ty=>by
  have hroom:0<0+1:=by omega
  rw[run_append_grow_src w 27 27 ty 52 ((Tryz.prog.info? 52).getD default) z Tryz.underlying27 (by kernel_rfl) hz ax 0 0 _ hold _ 1 _ hsrc hroom (by omega) (by rw[hby];exact growslice_fits hroom (by omega)),harr.out,hzs',hG]
  congr 4
  apply Array.toList_inj.1
  simp
 clear hzs' hG hz hold hsrc hzs
 cases ax with
 |none=>
  go_enter Tryz.func93,Tryz.ntmps93
  go_wp2_with (at_builtin;refine Lib.wpList_append_run _ rfl _ _ _ _ rfl _ _ rfl rfl _ _ (hrun _) ?_)
  all_goals (go_ret;exact⟨G,zs,hGn,hzl,rfl,by rw[←harr.out];rfl⟩)
 |some a=>
  go_enter Tryz.func93,Tryz.ntmps93
  go_wp2_with (at_builtin;refine Lib.wpList_append_run _ rfl _ _ _ _ rfl _ _ rfl rfl _ _ (hrun _) ?_)
  all_goals (go_ret;exact⟨G,zs,hGn,hzl,rfl,by rw[←harr.out];rfl⟩)
set_option maxHeartbeats 8000000 in
set_option maxRecDepth 100000 in
theorem Ad2(w:World)(b vb n c i vc:Nat)(cur vcur:Array Value)(T T2:TypeId)(hg:w.heap[b]? =some (.cells cur T (0,0)))(hv:w.heap[vb]? =some (.cells vcur T2 (0,0)))
  (hs:cur.size=c*9)(hvs:9≤vcur.size)(hi:i<n)(hnc:n≤c)(hroom:c<n+1)(hbig:(n+1)*64≤140737488355328)(h1c: ∀v∈cur.toList.take (n*9),v.oneCell'=true)(h1v: ∀v∈vcur.toList.take 9,v.oneCell'=true):
  Calls Tryz.prog 93 #[.slice (some ⟨b,0,none⟩) n c,.int .i64 i,.slice (some ⟨vb,0,none⟩) 1 vc] w fun e w'=>
   ∃G zs W,n+1≤G∧zs.length=(G-(n+1))*9∧e= .returned (.slice (some ⟨w.heap.size,0,none⟩) (n+1) G)∧W.heap=w.heap∧C8 w W∧w'=W.alloc (.cells (cur.toList.take (i*9)++vcur.toList.take 9++(cur.toList.drop (i*9)).take ((n-i)*9)++zs).toArray 52):=by
 have hsz8:((Tryz.prog.info? 52).getD default).size=9:=by kernel_rfl
 have hby:((Tryz.prog.info? 52).getD default).bytes=64:=by kernel_rfl
 have hi32:Tryz.prog.info? 52=some ((Tryz.prog.info? 52).getD default):=by kernel_rfl
 have hl8:(vcur.toList.take 9).length=9:=by simp;omega
 have hbw:b<w.heap.size:=(Array.getElem?_eq_some_iff.1 hg).1
 have hvw:vb<w.heap.size:=(Array.getElem?_eq_some_iff.1 hv).1
 have hz2: ¬((i:Int)=(n:Int)):=by omega
 have hz3:(c:Int)<(n:Int)+1:=by omega
 have hold:(Builtin.firstCells ((Tryz.prog.info? 52).getD default).size i (.slice (some ⟨b,0,none⟩) i c)).run Tryz.prog w.drew= .ok (cur.toList.take (i*9)).toArray w.drew:=by
  exact run_firstCells_some w.drew _ i ⟨b,0,none⟩ i c (cur.toList.take (i*9)) (by rw[hsz8];simp;omega) (fun j v hj=>by
   rw[Addr.add_lit]
   rw[List.getElem?_take] at hj
   split at hj
   ·show World.cell? w _=_
    simp only[World.cell?,hg]
    simpa using hj
   ·cases hj)
 obtain⟨z,hz⟩: ∃z,((Tryz.prog.info? 52).getD default).zero=some z:=⟨_,show _=some ((((Tryz.prog.info? 52).getD default).zero).getD undef) by kernel_rfl⟩
 have hzs:Hid (z.cells.size=9):=by
  have h:(((Tryz.prog.info? 52).getD default).zero).getD undef=z:=by rw[hz];rfl
  show _=_
  rw[←h]
  kernel_rfl
 obtain⟨G,hG⟩: ∃G,G=grownCap w (n+1) c 52:=⟨_,rfl⟩
 have hGn:n+1≤G:=by rw[hG];exact grownCap_ge w _ _ _
 obtain⟨zs,hzs'⟩: ∃zs:List Value,zs=(Builtin.zeroCells z.cells (G-(n+1))).toList:=⟨_,rfl⟩
 have hzl:zs.length=(G-(n+1))*9:=by rw[hzs',Array.length_toList,size_zeroCells,hzs.out]
 obtain⟨ms,hms'⟩: ∃zs:List Value,zs=(Builtin.zeroCells z.cells (n+1-i)).toList:=⟨_,rfl⟩
 have hml:ms.length=(n+1-i)*9:=by rw[hms',Array.length_toList,size_zeroCells,hzs.out]
 obtain⟨A0,hA0⟩: ∃A:Array Value,A=(cur.toList.take (i*9)++ms++zs).toArray:=⟨_,rfl⟩
 have hkk:(n:Int)+1-(i:Int)=((n+1-i:Nat):Int):=by omega
 have hik:i+(n+1-i)=n+1:=by omega
 have hrz: ∀ty,(Builtin.append_ #[27,3] ty #[.slice (some ⟨b,0,none⟩) i c,.int .i64 ((n:Int)+1-(i:Int))]).run Tryz.prog w= .ok (.slice (some ⟨w.heap.size,0,none⟩) (n+1) G) (w.drew.alloc (.cells A0 52)):=fun ty=>by
  have h:=Lib.run_append_grow_zeros w 27 3 ty 52 ((Tryz.prog.info? 52).getD default) z .i64 .i64 Tryz.underlying27 Tryz.underlying3 hi32 hz (some ⟨b,0,none⟩) i c (cur.toList.take (i*9)) hold (n+1-i) (by omega) (by rw[hsz8];omega) (by omega) (by omega) (by rw[hby];omega) (by rw[hby,hik];exact growslice_fits hroom hbig)
  rw[hik,←hG] at h
  rw[hkk,h,hA0,hzs',hms']
  congr 4
  apply Array.toList_inj.1
  simp
 obtain⟨src,hsrc⟩: ∃src:List Value,src=(cur.toList.drop (i*9)).take ((n-i)*9):=⟨_,rfl⟩
 have hsl:src.length=(n-i)*9:=by rw[hsrc];simp;omega
 have hA0s:A0.size=i*9+(n+1-i)*9+(G-(n+1))*9:=by rw[hA0];simp[hml,hzl];omega
 obtain⟨A1,hA1⟩: ∃A:Array Value,A=(A0.toList.take (i*9)++vcur.toList.take 9++A0.toList.drop (i*9+(vcur.toList.take 9).length)).toArray:=⟨_,rfl⟩
 have hA1s:A1.size=A0.size:=by rw[hA1];simp[hl8];omega
 obtain⟨A2,hA2⟩: ∃A:Array Value,A=(A1.toList.take ((i+1)*9)++src++A1.toList.drop ((i+1)*9+src.length)).toArray:=⟨_,rfl⟩
 have hcpA: ∀W:World,W.heap=(w.drew.alloc (.cells A0 52)).heap→ ∀ty dc sc,(Builtin.copy_ #[27,27] ty #[.slice (some ⟨w.heap.size,i*9,none⟩) (n+1-i) dc,.slice (some ⟨vb,0,none⟩) 1 sc]).run Tryz.prog W= .ok (goInt (1:Nat)) (W.setRow w.heap.size A1):=fun W hW ty dc sc=>by
  rw[hA1]
  exact Ky W 27 27 ty 52 _ w.heap.size (i*9) _ _ ⟨vb,0,none⟩ _ _ 1 A0 52 (vcur.toList.take 9) Tryz.underlying27 hi32 (by rw[hW];exact heap_alloc_new w.drew _) (by simp only[Nat.min_def];split<;>omega) (by rw[hsz8,hl8]) (fun j v hj=>by
   rw[Addr.add_lit]
   rw[List.getElem?_take] at hj
   split at hj
   ·have:W.heap[vb]? =w.heap[vb]? :=by rw[hW];exact heap_alloc_old (w:=w.drew) _ hvw
    simp only[World.cell?,this,hv]
    simpa using hj
   ·cases hj) (by rw[hl8,hA0s];omega) h1v
 have hcpB: ∀W:World,W.heap=((w.drew.alloc (.cells A0 52)).setRow w.heap.size A1).heap→ ∀ty dc sc,(Builtin.copy_ #[27,27] ty #[.slice (some ⟨w.heap.size,(i+1)*9,none⟩) (n-i) dc,.slice (some ⟨b,i*9,none⟩) (n-i) sc]).run Tryz.prog W= .ok (goInt (n-i:Nat)) (W.setRow w.heap.size A2):=fun W hW ty dc sc=>by
  rw[hA2]
  exact Ky W 27 27 ty 52 _ w.heap.size ((i+1)*9) _ _ ⟨b,i*9,none⟩ _ _ (n-i) A1 52 src Tryz.underlying27 hi32 (by rw[hW];exact setRow_heap (w.drew.alloc (.cells A0 52)) w.heap.size A0 A1 52 _ (heap_alloc_new w.drew _)) (by simp only[Nat.min_def];split<;>omega) (by rw[hsz8,hsl]) (fun j v hj=>by
   rw[Addr.add_lit]
   rw[hsrc,List.getElem?_take] at hj
   split at hj
   ·rw[List.getElem?_drop] at hj
    have:W.heap[b]? =w.heap[b]? :=by
     rw[hW]
     have hne': ¬w.heap.size=b:=by omega
     simp only[World.setRow,Array.getElem?_modify,if_neg hne']
     exact heap_alloc_old (w:=w.drew) _ hbw
    simp only[World.cell?,this,hg]
    simpa using hj
   ·cases hj) (by rw[hA1s,hA0s,hsl];omega) (fun v hv=>by rw[hsrc] at hv;exact h1c v (Ru (by omega) hv))
 have hfin:Hid (A2=(cur.toList.take (i*9)++vcur.toList.take 9++(cur.toList.drop (i*9)).take ((n-i)*9)++zs).toArray):=by
  show A2=_
  rw[hA2,hA1,hA0,←hsrc,hl8]
  have e1:(i+1)*9=i*9+9:=by omega
  rw[e1]
  have:=Agh (cur.toList.take (i*9)) ms zs (vcur.toList.take 9) src (i*9) 9 (by simp;omega) hl8 (by rw[hml,hsl];omega)
  rw[←this]
 have hG93:G≤9223372036854775807:=by
  have:=grownCap_le_maxLen w (n+1) c 52 (by unfold maxLen;omega)
  rw[←hG] at this
  unfold maxLen at this
  omega
 have hw1:IntKind.i64.wrap ((i:Int)+1)=(i:Int)+1:=by rw[IntKind.wrap_i64];omega
 have hb1:(0:Int)≤(i:Int)+1:=by omega
 have hin:i≤n:=by omega
 have htn:((i:Int)+1).toNat=i+1:=by omega
 have hb3:(i:Int)≤(n:Int):=by omega
 have hGi: ¬(G=i):=by omega
 have hGim: ¬(G=i+1):=by omega
 have hci: ¬(c=i):=by omega
 clear hold hz hzs hG hzs' hms' hA0 hkk hik hsrc hsl hA0s hA1 hA1s hA2 hml hl8
 have mixed:Tryz.prog.follows .mixedOrders=true:=by kernel_rfl
 go_enter Tryz.func93,Tryz.ntmps93
 go_wp2_with (at_builtin;refine Lib.wpList_append_run _ rfl _ _ _ _ rfl _ _ rfl rfl _ _ (hrz _) ?_)
 rw[hcpA ((w.alloc (.cells A0 52)).drew) rfl]
 go_wp2
 go_region_law_o (refine step_copy_runI rfl _ _ 27 27 rfl (.slice (some ⟨w.heap.size,(i+1)*9,none⟩) (n-i) (G-(i+1))) (.slice (some ⟨b,i*9,none⟩) (n-i) (c-i)) (by simp[Act.eval,Act.put]) (by simp[Act.eval,Act.put]) (hcpB (((w.alloc (.cells A0 52)).drew.setRow w.heap.size A1).drew) rfl _ _ _) ?_)
 go_wp2
 go_ret
 refine⟨G,zs,w.drew.drew,hGn,hzl,rfl,rfl,⟨rfl,rfl,rfl⟩,?_⟩
 rw[←hfin.out]
 have q1:(w.alloc (.cells A0 52)).drew.setRow w.heap.size A1=w.drew.alloc (.cells A1 52):=World.setRow_alloc_new w.drew A0 A1 52
 rw[q1]
 exact World.setRow_alloc_new w.drew.drew A1 A2 52
theorem Axo:T7 Tryz.prog 93 9 64:=by
 refine⟨⟨Tryz.f93,Tryz.func93,by kernel_rfl,by kernel_rfl⟩,?_,?_⟩
 rotate_left
 ·intro w ax vb vc vcur T2 hv hvs hbig h1v
  refine(Agm w ax vb vc vcur T2 hv hvs hbig h1v).mono ?_
  rintro e w' ⟨G,zs,hG,hz,rfl,rfl⟩
  refine⟨G,_,52,zs,rfl,heap_alloc_new w.drew _,hG,?_,?_,?_,fun k hk=>heap_alloc_old (w:=w.drew) _ hk,⟨rfl,rfl,rfl⟩⟩
  ·simp[hz];omega
  ·simp
  ·rw[World.size_alloc];exact Nat.le_succ _
 intro w b vb n c i vc cur vcur T T2 hg hv hne hs hvs hnc hin hbig h1c h1v
 have hbw:b<w.heap.size:=(Array.getElem?_eq_some_iff.1 hg).1
 by_cases hroom:n+1≤c
 ·have old: ∀(W:World) (A:Array Value),W.heap=w.heap→ ∀k,k<w.heap.size→k≠b→(W.setRow b A).heap[k]? =w.heap[k]? :=by
   intro W A hW k _ hk
   simp only[World.setRow,Array.getElem?_modify,if_neg (Ne.symm hk),hW]
  have new: ∀(W:World) (A:Array Value),W.heap=w.heap→(W.setRow b A).heap[b]? =some (.cells A T (0,0)):=by
   intro W A hW
   exact setRow_heap W b cur A T _ (by rw[hW];exact hg)
  by_cases hi:i<n
  ·refine(Aby w b vb n c i vc cur vcur T T2 hg hv hne hs hvs hi hroom (by omega) h1c h1v).mono ?_
   rintro e w' ⟨rfl,W,hW,hq,rfl⟩
   exact⟨b,c,_,T,_,rfl,new W _ hW,hroom,by simp;omega,rfl,.inl rfl,by rw[size_setRow,hW];exact Nat.le_refl _,old W _ hW,hq.trans (C8.setRow _ _ _)⟩
  ·obtain rfl:i=n:=by omega
   refine(Ad3 w b vb i c vc cur vcur T T2 hg hv hs hvs hroom (by omega) h1v).mono ?_
   rintro e w' ⟨rfl,rfl⟩
   refine⟨b,c,_,T,cur.toList.drop ((i+1)*9),rfl,new w _ rfl,hroom,by simp;omega,?_,.inl rfl,by rw[size_setRow];exact Nat.le_refl _,old w _ rfl,C8.setRow _ _ _⟩
   simp
 ·have hc:c<n+1:=by omega
  by_cases hi:i<n
  ·refine(Ad2 w b vb n c i vc cur vcur T T2 hg hv hs hvs hi hnc hc hbig h1c h1v).mono ?_
   rintro e w' ⟨G,zs,W,hG,hz,rfl,hW,hq,rfl⟩
   refine⟨w.heap.size,G,_,52,zs,rfl,?_,hG,?_,rfl,.inr rfl,?_,fun k hk _=>?_,hq.trans (C8.alloc _ _)⟩
   ·rw[←hW];exact heap_alloc_new W _
   ·simp[hz];omega
   ·rw[World.size_alloc,hW];exact Nat.le_succ _
   ·exact(heap_alloc_old (w:=W) _ (by rw[hW];exact hk)).trans (by rw[hW])
  ·obtain rfl:i=n:=by omega
   refine(Agl w b vb i c vc cur vcur T T2 hg hv hs hvs hnc hc hbig h1v).mono ?_
   rintro e w' ⟨G,zs,hG,hz,rfl,rfl⟩
   refine⟨w.heap.size,G,_,52,zs,rfl,heap_alloc_new w.drew _,hG,?_,?_,.inr rfl,?_,fun k hk _=>heap_alloc_old (w:=w.drew) _ hk,⟨rfl,rfl,rfl⟩⟩
   ·simp[hz];omega
   ·simp
   ·rw[World.size_alloc];exact Nat.le_succ _
end Go.Av
end
section
set_option linter.unusedVariables false
set_option linter.unusedSimpArgs false
set_option maxRecDepth 100000
set_option maxHeartbeats 8000000
namespace Go.Av.G
open Go Go.Av Go.Proofs
theorem Jx{l r:List Aa}(h:slices_Clone 64 l=some r):A3 Tryz.prog 94 [Vl Aa.pv l] [] ⟨.own (.res 0),[some (.row 9 (List.map Aa.pv r))],[]⟩:=by
 obtain⟨hb,rfl⟩:=Gu h
 exact Np (P:=Tryz.prog) Ua ((Tryz.prog.info? 52).getD default) ((((Tryz.prog.info? 52).getD default).zero).getD undef) 9 64 (by kernel_rfl) (by kernel_rfl) (by kernel_rfl) (by kernel_rfl) (by kernel_rfl) (by decide) Tryz.sizeOf52 ⟨Tryz.f94,Tryz.func94,by kernel_rfl,by kernel_rfl⟩ (fun _=>rfl) hb (by decide)
theorem Tv{l r:List Ac}(h:slices_Clone 32 l=some r):A3 Tryz.prog 95 [Vl Ac.pv l] [] ⟨.own (.res 0),[some (.row 3 (List.map Ac.pv r))],[]⟩:=by
 obtain⟨hb,rfl⟩:=Gu h
 exact Np (P:=Tryz.prog) Ub ((Tryz.prog.info? 123).getD default) ((((Tryz.prog.info? 123).getD default).zero).getD undef) 3 32 (by kernel_rfl) (by kernel_rfl) (by kernel_rfl) (by kernel_rfl) (by kernel_rfl) (by decide) Tryz.sizeOf123 ⟨Tryz.f95,Tryz.func95,by kernel_rfl,by kernel_rfl⟩ (fun _=>rfl) hb (by decide)
theorem Tx{l r:List Ad}(h:slices_Clone 56 l=some r):A3 Tryz.prog 96 [Vl Ad.pv l] [] ⟨.own (.res 0),[some (.row 8 (List.map Ad.pv r))],[]⟩:=by
 obtain⟨hb,rfl⟩:=Gu h
 exact Np (P:=Tryz.prog) Uc ((Tryz.prog.info? 87).getD default) ((((Tryz.prog.info? 87).getD default).zero).getD undef) 8 56 (by kernel_rfl) (by kernel_rfl) (by kernel_rfl) (by kernel_rfl) (by kernel_rfl) (by decide) Tryz.sizeOf87 ⟨Tryz.f96,Tryz.func96,by kernel_rfl,by kernel_rfl⟩ (fun _=>rfl) hb (by decide)
theorem Ty{l r:List Bj}(h:slices_Clone 24 l=some r):A3 Tryz.prog 97 [Vl Bj.pv l] [] ⟨.own (.res 0),[some (.row 3 (List.map Bj.pv r))],[]⟩:=by
 obtain⟨hb,rfl⟩:=Gu h
 exact Np (P:=Tryz.prog) Ud ((Tryz.prog.info? 136).getD default) ((((Tryz.prog.info? 136).getD default).zero).getD undef) 3 24 (by kernel_rfl) (by kernel_rfl) (by kernel_rfl) (by kernel_rfl) (by kernel_rfl) (by decide) Tryz.sizeOf136 ⟨Tryz.f97,Tryz.func97,by kernel_rfl,by kernel_rfl⟩ (fun _=>rfl) hb (by decide)
theorem T0{l r:List Al}(h:slices_Clone 16 l=some r):A3 Tryz.prog 98 [Vl Al.pv l] [] ⟨.own (.res 0),[some (.row 2 (List.map Al.pv r))],[]⟩:=by
 obtain⟨hb,rfl⟩:=Gu h
 exact Np (P:=Tryz.prog) Ue ((Tryz.prog.info? 79).getD default) ((((Tryz.prog.info? 79).getD default).zero).getD undef) 2 16 (by kernel_rfl) (by kernel_rfl) (by kernel_rfl) (by kernel_rfl) (by kernel_rfl) (by decide) Tryz.sizeOf79 ⟨Tryz.f98,Tryz.func98,by kernel_rfl,by kernel_rfl⟩ (fun _=>rfl) hb (by decide)
def A8g:List GOp:=[o0 1 (.box (.tmp 0)),o0 2 (.alloc [.nils,.nils,.nils,.nils,.nils])]
def A8h:List GOp:=[f0 7 0 1,t0 8 2 7,o0 3 (.alloc [.nils,.nils]),s0 2 3 8]
def A8i:List GOp:=[f0 9 0 3,l0 10 1 9,f0 11 0 3,l0 12 1 11,e0 13 12,o0 14 (.mm false (.tmp 13) [(.cst (.int .i64 20))]),o0 15 (.slc false 3 (.tmp 10) none (some (.tmp 14))),f0 16 1 3,l0 17 1 16,f0 18 1 3,l0 19 1 18,e0 20 19,o0 21 (.mm false (.tmp 20) [(.cst (.int .i64 30))]),o0 22 (.slc false 8 (.tmp 17) none (some (.tmp 21))),f0 23 0 3,s0 1 23 15,f0 24 1 3,s0 1 24 22]
def A8j:List GOp:=[t0 25 2 3,f0 26 0 1,s0 2 26 25]
def A8k:List GOp:=[f0 27 2 1,l0 28 1 27,e0 29 28,q0 30 .leq 29 2000]
def A8l:List GOp:=[o0 4 (.mov .nils)]
def A8m:List GOp:=[f0 31 2 1,l0 32 1 31,f0 33 2 1,l0 34 1 33,e0 35 34,o0 36 (.mm false (.tmp 35) [(.cst (.int .i64 40))]),o0 37 (.slc false 7 (.tmp 32) none (some (.tmp 36))),e0 38 37,k0 39 0]
def A8n:List GOp:=[p0 40 .lss 39 38]
def A8o:List GOp:=[i0 41 7 37 39,t0 42 7 41,o0 6 (.alloc [.pv (.int .i64 0),.pv (.int .i32 0),.pv (.int .i32 0),.nils,.pv (.int .i64 0),.pv (.int .i64 0),.pv (.str [])]),s0 7 6 42]
def A8p:List GOp:=[f0 43 3 6,l0 44 1 43,f0 45 3 6,l0 46 1 45,e0 47 46,o0 48 (.mm false (.tmp 47) [(.cst (.int .i64 6))]),o0 49 (.slc false 3 (.tmp 44) none (some (.tmp 48))),f0 50 3 6,s0 1 50 49]
def Aun:List GOp:=[m0 51 4,t0 52 7 6,o0 53 (.lit false 7 [(.tmp 52)]),o0 54 (.append 4 7 72 (.tmp 51) (.tmp 53)),m0 4 54]
def Auo:List GOp:=[q0 55 .add 39 1,m0 39 55]
def Aum:AC:=(.keep [] [(1,false),(2,false),(4,false),(37,false),(38,false),(39,false)] [(.loc 4 0,false),(.loc 1 0,false),(.loc 2 0,false)] [.loc 3 0,.loc 6 0] [.slot 4 (.loc 4 0) 7] (.seq (.ops A8n) (.seq (.cond (.tmp 40) .skip (.exit 0)) (.seq (.pass 1 (.seq (.ops A8o) (.seq (.ops A8p) (.ops Aun)))) (.ops Auo)))))
def Aup:List GOp:=[m0 56 4,f0 57 2 1,s0 1 57 56]
def Auq:List GOp:=[f0 58 3 1,l0 59 1 58,f0 60 3 1,l0 61 1 60,e0 62 61,o0 63 (.mm false (.tmp 62) [(.cst (.int .i64 40))]),o0 64 (.slc false 9 (.tmp 59) none (some (.tmp 63))),f0 65 4 1,l0 66 1 65,f0 67 4 1,l0 68 1 67,e0 69 68,o0 70 (.mm false (.tmp 69) [(.cst (.int .i64 40))]),o0 71 (.slc false 2 (.tmp 66) none (some (.tmp 70))),f0 72 3 1,s0 1 72 64,f0 73 4 1,s0 1 73 71]
def Aur:List GOp:=[t0 74 5 1,s0 5 2 74]
def Bhd:AC:=(.seq (.ops A8g) (.seq (.ops A8h) (.seq (.draw [] A8i) (.seq (.ops A8j) (.seq (.seq (.ops A8k) (.cond (.tmp 30) (.seq (.ops A8l) (.seq (.seq (.ops A8m) (.block 0 (.loop [1,2,4,37,38,39] [] Aum))) (.keep [.loc 4 0] [(1,false),(2,false),(4,true)] [(.loc 1 0,false),(.loc 2 0,false)] [.loc 3 0] [] (.ops Aup)))) .skip)) (.seq (.keep [] [(1,false),(2,false)] [(.loc 1 0,false),(.loc 2 0,false)] [.loc 3 0] [] (.draw [] Auq)) (.seq (.ops Aur) (.keep [] [(2,false)] [(.loc 2 0,false)] [.loc 1 0] [] .ret))))))))
def Q60:Fd:=⟨1,[.cell 2 true 5],[],Bhd⟩
theorem Aul:Bl Tryz.prog Tryz.f7 Q60=true:=by kernel_rfl
theorem Pv{t1:Ah}{r:Ah}(h:Gn t1=some r):A3 Tryz.prog 7 [.pv (Ah.pv t1)] [] ⟨.pv (Ah.pv r),[],[]⟩:=by
 refine Ap hm Tryz.func7 Aul (by kernel_rfl) ?_
 unfold Gn at h
 refine Ab Aw ?_
 refine Ab Aw ?_
 obtain⟨x2,hx2,h⟩:=Ag h
 obtain⟨x3,hx3,h⟩:=Ag h
 refine Bx Ax (Dw 4 (Run.dyn (Lw Ac.pv t1.Bk.As) (Dw 1 (Run.dyn (L6 (f:=Ac.pv) (l:=t1.Bk.As) (m:=x2) (a:=0) (b:=(if 20<(t1.Bk.As.length:Int) then 20 else(t1.Bk.As.length:Int))) (by kernel_rfl) (Bd.none rfl) (Bd.some (k:= .i64) (by kernel_rfl)) hx2 (fun _=>rfl)) (Dw 4 (Run.dyn (Lw Ad.pv t1.Bk.Au) (Dw 1 (Run.dyn (L6 (f:=Ad.pv) (l:=t1.Bk.Au) (m:=x3) (a:=0) (b:=(if 30<(t1.Bk.Au.length:Int) then 30 else(t1.Bk.Au.length:Int))) (by kernel_rfl) (Bd.none rfl) (Bd.some (k:= .i64) (by kernel_rfl)) hx3 (fun _=>rfl)) Cw)))))))) ?_
 refine Ab Aw ?_
 refine Ae ?_
 refine Ab (Bw 2 (Aj.dyn (Lw Af.pv t1.Fl) Aw)) ?_
 obtain⟨j4,hj4,h⟩:=Ag h
 refine W.join (j:=j4) (fun p σ=>σ.tidy [] [(1,false),(2,false)] [(.loc 1 0,false),(.loc 2 0,false)] [.loc 3 0] []=⟨[(1,.ptr (.loc 1 0) 0),(2,.ptr (.loc 2 0) 0)],[(.loc 1 0,.box [Vl Ac.pv x2,Vl Ad.pv x3,Vl Af.pv p,Vl Aa.pv t1.A7,Vl Al.pv t1.A6]),(.loc 2 0,.box [.nils,.nils,.nils,.nils,.nils])]⟩) ?_ (fun σj4 hsj4=>?_)
 ·replace h:=hj4
  refine De (t:=decide ((t1.Fl.length:Int)≤2000)) (by kernel_rfl) h (fun hc h'=>?_) (fun hc h'=>?_)
  ·replace h:=h'
   refine Ab Aw ?_
   refine Ae ?_
   obtain⟨x5,hx5,h⟩:=Ag h
   refine Ab (Bw 4 (Aj.dyn (Lw Af.pv t1.Fl) (Bw 1 (Aj.dyn (L6 (f:=Af.pv) (l:=t1.Fl) (m:=x5) (a:=0) (b:=(if 40<(t1.Fl.length:Int) then 40 else(t1.Fl.length:Int))) (by kernel_rfl) (Bd.none rfl) (Bd.some (k:= .i64) (by kernel_rfl)) hx5 (fun _=>rfl)) (Aj.dyn (Lw Af.pv x5) Aw))))) ?_
   obtain⟨j6,hj6,h⟩:=Ag h
   refine W.join (j:=j6) (fun p σ=>σ.tidy [.loc 4 0] [(1,false),(2,false),(4,true)] [(.loc 1 0,false),(.loc 2 0,false)] [.loc 3 0] []=⟨[(1,.ptr (.loc 1 0) 0),(2,.ptr (.loc 2 0) 0),(4,Vl Af.pv p)],[(.loc 1 0,.box [Vl Ac.pv x2,Vl Ad.pv x3,Vl Af.pv t1.Fl,Vl Aa.pv t1.A7,Vl Al.pv t1.A6]),(.loc 2 0,.box [.nils,.nils,.nils,.nils,.nils])]⟩) ?_ (fun σj6 hsj6=>?_)
   ·refine Ch (fun q σ=>((σ.forget [1,2,4,37,38,39]).killAll []).tidy [] [(1,false),(2,false),(4,false),(37,false),(38,false),(39,false)] [(.loc 4 0,false),(.loc 1 0,false),(.loc 2 0,false)] [.loc 3 0,.loc 6 0] [.slot 4 (.loc 4 0) 7]=⟨[(1,.ptr (.loc 1 0) 0),(2,.ptr (.loc 2 0) 0),(4,.own (.loc 4 0)),(37,Vl Af.pv x5),(38,Vi (x5.length:Int)),(39,Vi q.1)],[(.loc 4 0,.row 7 (List.map Af.pv q.2)),(.loc 1 0,.box [Vl Ac.pv x2,Vl Ad.pv x3,Vl Af.pv t1.Fl,Vl Aa.pv t1.A7,Vl Al.pv t1.A6]),(.loc 2 0,.box [.nils,.nils,.nils,.nils,.nils])]⟩) hj6 ?_ ?_
    ·show _=_
     kernel_rfl
    ·intro q σj6 oj6 hJj6 h
     obtain⟨x7,row8⟩:=q
     refine W.keep hJj6 ?_
     refine Ab Aw ?_
     refine Ar (t:=decide (x7<(x5.length:Int))) (by kernel_rfl) h (fun hc h'=>?_) (fun hc h'=>?_)
     ·replace h:=h'
      refine Ay ?_
      refine Bs ?_
      refine Ae ?_
      obtain⟨x9,hx9,h⟩:=Ag h
      refine Ab (Aj.dyn (Iw Af.pv x5 x7 x9 hx9) Aw) ?_
      refine Ae ?_
      obtain⟨x10,hx10,h⟩:=Ag h
      refine Ab (Bw 4 (Aj.dyn (Lw Bj.pv x9.B0) (Bw 1 (Aj.dyn (L6 (f:=Bj.pv) (l:=x9.B0) (m:=x10) (a:=0) (b:=(if 6<(x9.B0.length:Int) then 6 else(x9.B0.length:Int))) (by kernel_rfl) (Bd.none rfl) (Bd.some (k:= .i64) (by kernel_rfl)) hx10 (fun _=>rfl)) Aw)))) ?_
      obtain⟨x11,hx11,h⟩:=Ag h
      refine Ab (Bw 3 (Aj.dyn (C5 (k:= .loc 4 0) (f:=Af.pv) (l:=row8) (m:=[(⟨x9.Bc,x9.Cy,x9.Cp,x10,x9.Fg,x9.Ca,x9.Kf⟩:Af)]) (by kernel_rfl) (by kernel_rfl) (by kernel_rfl) hx11 (fun _=>rfl) (by kernel_rfl)) Aw)) ?_
      refine W.ops Aw ?_
      cases h
      exact Ow
     ·replace h:=h'
      cases h
      exact Bp ((Bh B6 (D3 (by(show _=_);kernel_rfl))))
   ·refine W.keep hsj6 ?_
    refine W.ops Aw ?_
    cases h
    exact Jw
  ·replace h:=h'
   cases h
   exact W.skip Jw
 ·refine An hsj4 ?_
  obtain⟨x14,hx14,h⟩:=Ag h
  obtain⟨x15,hx15,h⟩:=Ag h
  refine Bx Ax (Dw 4 (Run.dyn (Lw Aa.pv t1.A7) (Dw 1 (Run.dyn (L6 (f:=Aa.pv) (l:=t1.A7) (m:=x14) (a:=0) (b:=(if 40<(t1.A7.length:Int) then 40 else(t1.A7.length:Int))) (by kernel_rfl) (Bd.none rfl) (Bd.some (k:= .i64) (by kernel_rfl)) hx14 (fun _=>rfl)) (Dw 4 (Run.dyn (Lw Al.pv t1.A6) (Dw 1 (Run.dyn (L6 (f:=Al.pv) (l:=t1.A6) (m:=x15) (a:=0) (b:=(if 40<(t1.A6.length:Int) then 40 else(t1.A6.length:Int))) (by kernel_rfl) (Bd.none rfl) (Bd.some (k:= .i64) (by kernel_rfl)) hx15 (fun _=>rfl)) Cw)))))))) ?_
  refine Ab Aw ?_
  refine W.keep rfl ?_
  cases h
  exact W.ret Fw
def A93:List GOp:=[b0 6 false]
def A94:List GOp:=[m0 7 0,m0 8 1,p0 9 .geq 7 8,m0 10 9,g0 11 10 true (.mov (.tmp 0)),g0 12 10 true (.mov (.tmp 2)),g0 13 10 true (.bin false .leq (.tmp 11) (.tmp 12)),o0 14 (.pick (.tmp 10) (.tmp 13) (.cst (.bool false))),m0 6 14]
def Bhx:AC:=(.seq (.ops A93) (.seq (.ops A94) (.keep [] [(6,false)] [] [] [] .ret)))
def Q71:Fd:=⟨3,[.tmp 6],[],Bhx⟩
theorem Avh:Bl Tryz.prog Tryz.f33 Q71=true:=by kernel_rfl
theorem Rh{n1:Int}{low2:Int}{high3:Int}{r:Bool}(h:F2 n1 low2 high3=some r):A3 Tryz.prog 33 [Vi n1,Vi low2,Vi high3] [] ⟨Vb r,[],[]⟩:=by
 refine Ap hm Tryz.func33 Avh (by kernel_rfl) ?_
 unfold F2 at h
 refine Ab Aw ?_
 obtain⟨c4,hc4,h⟩:=Ag h
 refine Ab (Bw 3 (Aj.dyn (Nw (decide (n1≥low2)) c4 hc4) (Aj.puts 4 [(14,Vb (c4&&(decide (n1≤high3)))),(13,(Bf c4 (Vb (decide (n1≤high3))))),(12,(Bf c4 (Vi high3))),(11,(Bf c4 (Vi n1)))] (by cases c4<;>kernel_rfl) Aw))) ?_
 refine W.keep rfl ?_
 cases h
 exact W.ret Fw
def Bau:List GOp:=[b0 6 false]
def Bav:List GOp:=[m0 7 0,m0 8 1,p0 9 .geq 7 8,m0 10 9,g0 11 10 true (.mov (.tmp 0)),g0 12 10 true (.mov (.tmp 2)),g0 13 10 true (.bin false .leq (.tmp 11) (.tmp 12)),o0 14 (.pick (.tmp 10) (.tmp 13) (.cst (.bool false))),m0 6 14]
def Bh2:AC:=(.seq (.ops Bau) (.seq (.ops Bav) (.keep [] [(6,false)] [] [] [] .ret)))
def Q76:Fd:=⟨3,[.tmp 6],[],Bh2⟩
theorem Avq:Bl Tryz.prog Tryz.f32 Q76=true:=by kernel_rfl
theorem Sz{n1:Int}{low2:Int}{high3:Int}{r:Bool}(h:G6 n1 low2 high3=some r):A3 Tryz.prog 32 [Vi n1,Vi low2,Vi high3] [] ⟨Vb r,[],[]⟩:=by
 refine Ap hm Tryz.func32 Avq (by kernel_rfl) ?_
 unfold G6 at h
 refine Ab Aw ?_
 obtain⟨c4,hc4,h⟩:=Ag h
 refine Ab (Bw 3 (Aj.dyn (Nw (decide (n1≥low2)) c4 hc4) (Aj.puts 4 [(14,Vb (c4&&(decide (n1≤high3)))),(13,(Bf c4 (Vb (decide (n1≤high3))))),(12,(Bf c4 (Vi high3))),(11,(Bf c4 (Vi n1)))] (by cases c4<;>kernel_rfl) Aw))) ?_
 refine W.keep rfl ?_
 cases h
 exact W.ret Fw
def Ams:List GOp:=[o0 1 (.box (.tmp 0)),k0 2 0]
def Amt:List GOp:=[f0 3 0 1,l0 4 1 3,m0 2 4]
def Aye:AC:=(.seq (.ops Ams) (.seq (.ops Amt) (.keep [] [(2,false)] [] [.loc 1 0] [] .ret)))
def Bel:Fd:=⟨1,[.tmp 2],[],Aye⟩
theorem Ajv:Bl Tryz.prog Tryz.f73 Bel=true:=by kernel_rfl
theorem Nb{x1:Ac}{r:Int}(h:I7 x1=some r):A3 Tryz.prog 73 [.pv (Ac.pv x1)] [] ⟨Vi r,[],[]⟩:=by
 refine Ap hm Tryz.func73 Ajv (by kernel_rfl) ?_
 unfold I7 at h
 refine Ab Aw ?_
 refine Ab Aw ?_
 refine W.keep rfl ?_
 cases h
 exact W.ret Fw
def A1o:List GOp:=[b0 4 false]
def A1p:List GOp:=[k0 5 1]
def A1q:List GOp:=[m0 6 5,m0 7 0,e0 8 7,p0 9 .lss 6 8]
def A1r:List GOp:=[m0 12 1,m0 13 0,m0 14 5,q0 15 .sub 14 1,i0 16 3 13 15,t0 17 3 16,o0 18 (.call 0 0 (.tmp 12) [(.tmp 17)] [] []),m0 19 1,m0 20 0,m0 21 5,i0 22 3 20 21,t0 23 3 22,o0 24 (.call 0 0 (.tmp 19) [(.tmp 23)] [] []),p0 25 .geq 18 24]
def A1s:List GOp:=[b0 4 false]
def A1t:List GOp:=[m0 10 5,q0 11 .add 10 1,m0 5 11]
def A1n:AC:=(.keep [] [(0,false),(1,false),(5,false)] [] [] [] (.seq (.seq (.ops A1q) (.cond (.tmp 9) .skip (.exit 0))) (.seq (.pass 1 (.seq (.draw [] A1r) (.cond (.tmp 25) (.seq (.ops A1s) (.keep [] [(4,false)] [] [] [] .ret)) .skip))) (.ops A1t))))
def A1u:List GOp:=[b0 4 true]
def Bfr:AC:=(.seq (.ops A1o) (.seq (.seq (.ops A1p) (.block 0 (.loop [0,1,5] [] A1n))) (.seq (.keep [] [] [] [] [] (.ops A1u)) (.keep [] [(4,false)] [] [] [] .ret))))
def Q25:Fd:=⟨2,[.tmp 4],[],Bfr⟩
theorem Ar5:Bl Tryz.prog Tryz.f72 Q25=true:=by kernel_rfl
theorem Lr{l1:List Ac}{r:Bool}(h:Ef l1=some r):A3 Tryz.prog 72 [Vl Ac.pv l1,.pv (.fn 73)] [] ⟨Vb r,[],[]⟩:=by
 refine Ap hm Tryz.func72 Ar5 (by kernel_rfl) ?_
 unfold Ef at h
 refine Ab Aw ?_
 refine Ae ?_
 refine Ab Aw ?_
 obtain⟨j2,hj2,h⟩:=Ag h
 refine Ck (j:=j2) (o:=r) (fun p σ=>σ.tidy [] [] [] [] []=⟨[],[]⟩) ?_ (fun p σj2 hp hsj2=>?_) (fun p hp=>?_)
 ·refine B1 (fun q σ=>((σ.forget [0,1,5]).killAll []).tidy [] [(0,false),(1,false),(5,false)] [] [] []=⟨[(0,Vl Ac.pv l1),(1,.pv (.fn 73)),(5,Vi q)],[]⟩) hj2 ?_ ?_
  ·show _=_
   kernel_rfl
  ·intro i3 σj2 oj2 hJj2 h
   refine W.keep hJj2 ?_
   refine Ae ?_
   refine Ab (Bw 2 (Aj.dyn (Lw Ac.pv l1) Aw)) ?_
   refine Ar (t:=decide (i3<(l1.length:Int))) (by kernel_rfl) h (fun hc h'=>?_) (fun hc h'=>?_)
   ·replace h:=h'
    refine Ay ?_
    refine Bs ?_
    refine Ae ?_
    obtain⟨x4,hx4,h⟩:=Ag h
    obtain⟨x5,hx5,h⟩:=Ag h
    obtain⟨x6,hx6,h⟩:=Ag h
    obtain⟨x7,hx7,h⟩:=Ag h
    refine Bx (Tw (Nb hx5) (Tw (Nb hx7) Ax)) (Dw 4 (Run.dyn (Iw Ac.pv l1 (IntKind.wrap .i64 (i3-1)) x4 hx4) (Dw 1 (Run.dyn (Kw 73 [] (Vi x5) Hw) (Dw 3 (Run.dyn (Iw Ac.pv l1 i3 x6 hx6) (Dw 1 (Run.dyn (Kw 73 [] (Vi x7) (Ac0 (fun ho e=>congrArg (fun r=>(⟨Vi r,[],[]⟩:Res)) (Option.some.inj ((Eq.symm hx5).trans (Eq.trans (by first|rfl|(simp only[List.cons.injEq,SV.pv.injEq,PV.int.injEq,PV.bool.injEq,PV.str.injEq,PV.slice.injEq,and_true,true_and,E3,E4,D9,Ac.pv_inj,Ac.pv_maps,Ad.pv_inj,Ad.pv_maps,A4.pv_inj,A4.pv_maps,A5.pv_inj,A5.pv_maps,Bj.pv_inj,Bj.pv_maps,Af.pv_inj,Af.pv_maps,Aa.pv_inj,Aa.pv_maps,Al.pv_inj,Al.pv_maps,Ah.pv_inj,Ah.pv_maps,Bm.pv_inj,Bm.pv_maps,Ai.pv_inj,Ai.pv_maps,Be.pv_inj,Be.pv_maps,Aq.pv_inj,Aq.pv_maps,Am.pv_inj,Am.pv_maps] at e;simp only[e])) hx7)))) Hw)) Cw)))))))) ?_
    refine Ar (t:=decide (x5≥x7)) (by kernel_rfl) h (fun hc h'=>?_) (fun hc h'=>?_)
    ·replace h:=h'
     refine Ae ?_
     refine Ab Aw ?_
     refine An rfl ?_
     cases h
     exact A8 ((Bh Cd (Ed Cd Dh (fun e=>by subst e;exact Fw))))
    ·replace h:=h'
     refine Ay ?_
     refine W.ops Aw ?_
     cases h
     exact Ow
   ·replace h:=h'
    cases h
    exact Bp ((Bh B6 (Eh (by(show _=_);kernel_rfl))))
 ·subst hp
  obtain⟨⟩:=p
  refine An hsj2 ?_
  refine Ab Aw ?_
  refine W.keep rfl ?_
  cases h
  exact W.ret Fw
 ·subst hp
  exact Option.some.inj h
def Bcf:List GOp:=[o0 1 (.box (.tmp 0)),k0 2 0]
def Bcg:List GOp:=[f0 3 0 1,l0 4 1 3,m0 2 4]
def Bit:AC:=(.seq (.ops Bcf) (.seq (.ops Bcg) (.keep [] [(2,false)] [] [.loc 1 0] [] .ret)))
def Q93:Fd:=⟨1,[.tmp 2],[],Bit⟩
theorem Awo:Bl Tryz.prog Tryz.f75 Q93=true:=by kernel_rfl
theorem Mi{r1:Ad}{r:Int}(h:Ie r1=some r):A3 Tryz.prog 75 [.pv (Ad.pv r1)] [] ⟨Vi r,[],[]⟩:=by
 refine Ap hm Tryz.func75 Awo (by kernel_rfl) ?_
 unfold Ie at h
 refine Ab Aw ?_
 refine Ab Aw ?_
 refine W.keep rfl ?_
 cases h
 exact W.ret Fw
def Azz:List GOp:=[b0 4 false]
def Az0:List GOp:=[k0 5 1]
def Az1:List GOp:=[m0 6 5,m0 7 0,e0 8 7,p0 9 .lss 6 8]
def Az2:List GOp:=[m0 12 1,m0 13 0,m0 14 5,q0 15 .sub 14 1,i0 16 8 13 15,t0 17 8 16,o0 18 (.call 0 0 (.tmp 12) [(.tmp 17)] [] []),m0 19 1,m0 20 0,m0 21 5,i0 22 8 20 21,t0 23 8 22,o0 24 (.call 0 0 (.tmp 19) [(.tmp 23)] [] []),p0 25 .geq 18 24]
def Az3:List GOp:=[b0 4 false]
def Az4:List GOp:=[m0 10 5,q0 11 .add 10 1,m0 5 11]
def Azy:AC:=(.keep [] [(0,false),(1,false),(5,false)] [] [] [] (.seq (.seq (.ops Az1) (.cond (.tmp 9) .skip (.exit 0))) (.seq (.pass 1 (.seq (.draw [] Az2) (.cond (.tmp 25) (.seq (.ops Az3) (.keep [] [(4,false)] [] [] [] .ret)) .skip))) (.ops Az4))))
def Az5:List GOp:=[b0 4 true]
def Be9:AC:=(.seq (.ops Azz) (.seq (.seq (.ops Az0) (.block 0 (.loop [0,1,5] [] Azy))) (.seq (.keep [] [] [] [] [] (.ops Az5)) (.keep [] [(4,false)] [] [] [] .ret))))
def Q17:Fd:=⟨2,[.tmp 4],[],Be9⟩
theorem Aq2:Bl Tryz.prog Tryz.f74 Q17=true:=by kernel_rfl
theorem Lb{l1:List Ad}{r:Bool}(h:D0 l1=some r):A3 Tryz.prog 74 [Vl Ad.pv l1,.pv (.fn 75)] [] ⟨Vb r,[],[]⟩:=by
 refine Ap hm Tryz.func74 Aq2 (by kernel_rfl) ?_
 unfold D0 at h
 refine Ab Aw ?_
 refine Ae ?_
 refine Ab Aw ?_
 obtain⟨j2,hj2,h⟩:=Ag h
 refine Ck (j:=j2) (o:=r) (fun p σ=>σ.tidy [] [] [] [] []=⟨[],[]⟩) ?_ (fun p σj2 hp hsj2=>?_) (fun p hp=>?_)
 ·refine B1 (fun q σ=>((σ.forget [0,1,5]).killAll []).tidy [] [(0,false),(1,false),(5,false)] [] [] []=⟨[(0,Vl Ad.pv l1),(1,.pv (.fn 75)),(5,Vi q)],[]⟩) hj2 ?_ ?_
  ·show _=_
   kernel_rfl
  ·intro i3 σj2 oj2 hJj2 h
   refine W.keep hJj2 ?_
   refine Ae ?_
   refine Ab (Bw 2 (Aj.dyn (Lw Ad.pv l1) Aw)) ?_
   refine Ar (t:=decide (i3<(l1.length:Int))) (by kernel_rfl) h (fun hc h'=>?_) (fun hc h'=>?_)
   ·replace h:=h'
    refine Ay ?_
    refine Bs ?_
    refine Ae ?_
    obtain⟨x4,hx4,h⟩:=Ag h
    obtain⟨x5,hx5,h⟩:=Ag h
    obtain⟨x6,hx6,h⟩:=Ag h
    obtain⟨x7,hx7,h⟩:=Ag h
    refine Bx (Tw (Mi hx5) (Tw (Mi hx7) Ax)) (Dw 4 (Run.dyn (Iw Ad.pv l1 (IntKind.wrap .i64 (i3-1)) x4 hx4) (Dw 1 (Run.dyn (Kw 75 [] (Vi x5) Hw) (Dw 3 (Run.dyn (Iw Ad.pv l1 i3 x6 hx6) (Dw 1 (Run.dyn (Kw 75 [] (Vi x7) (Ac0 (fun ho e=>congrArg (fun r=>(⟨Vi r,[],[]⟩:Res)) (Option.some.inj ((Eq.symm hx5).trans (Eq.trans (by first|rfl|(simp only[List.cons.injEq,SV.pv.injEq,PV.int.injEq,PV.bool.injEq,PV.str.injEq,PV.slice.injEq,and_true,true_and,E3,E4,D9,Ac.pv_inj,Ac.pv_maps,Ad.pv_inj,Ad.pv_maps,A4.pv_inj,A4.pv_maps,A5.pv_inj,A5.pv_maps,Bj.pv_inj,Bj.pv_maps,Af.pv_inj,Af.pv_maps,Aa.pv_inj,Aa.pv_maps,Al.pv_inj,Al.pv_maps,Ah.pv_inj,Ah.pv_maps,Bm.pv_inj,Bm.pv_maps,Ai.pv_inj,Ai.pv_maps,Be.pv_inj,Be.pv_maps,Aq.pv_inj,Aq.pv_maps,Am.pv_inj,Am.pv_maps] at e;simp only[e])) hx7)))) Hw)) Cw)))))))) ?_
    refine Ar (t:=decide (x5≥x7)) (by kernel_rfl) h (fun hc h'=>?_) (fun hc h'=>?_)
    ·replace h:=h'
     refine Ae ?_
     refine Ab Aw ?_
     refine An rfl ?_
     cases h
     exact A8 ((Bh Cd (Ed Cd Dh (fun e=>by subst e;exact Fw))))
    ·replace h:=h'
     refine Ay ?_
     refine W.ops Aw ?_
     cases h
     exact Ow
   ·replace h:=h'
    cases h
    exact Bp ((Bh B6 (Eh (by(show _=_);kernel_rfl))))
 ·subst hp
  obtain⟨⟩:=p
  refine An hsj2 ?_
  refine Ab Aw ?_
  refine W.keep rfl ?_
  cases h
  exact W.ret Fw
 ·subst hp
  exact Option.some.inj h
def Bbe:List GOp:=[b0 6 false]
def Bbf:List GOp:=[m0 7 0,m0 8 1,p0 9 .geq 7 8,m0 10 9,g0 11 10 true (.mov (.tmp 0)),g0 12 10 true (.mov (.tmp 2)),g0 13 10 true (.bin false .leq (.tmp 11) (.tmp 12)),o0 14 (.pick (.tmp 10) (.tmp 13) (.cst (.bool false))),m0 6 14]
def Bii:AC:=(.seq (.ops Bbe) (.seq (.ops Bbf) (.keep [] [(6,false)] [] [] [] .ret)))
def Q83:Fd:=⟨3,[.tmp 6],[],Bii⟩
theorem Avx:Bl Tryz.prog Tryz.f119 Q83=true:=by kernel_rfl
theorem Fp{n1:Int}{low2:Int}{high3:Int}{r:Bool}(h:Et n1 low2 high3=some r):A3 Tryz.prog 119 [Vi n1,Vi low2,Vi high3] [] ⟨Vb r,[],[]⟩:=by
 refine Ap hm Tryz.func119 Avx (by kernel_rfl) ?_
 unfold Et at h
 refine Ab Aw ?_
 obtain⟨c4,hc4,h⟩:=Ag h
 refine Ab (Bw 3 (Aj.dyn (Nw (decide (n1≥low2)) c4 hc4) (Aj.puts 4 [(14,Vb (c4&&(decide (n1≤high3)))),(13,(Bf c4 (Vb (decide (n1≤high3))))),(12,(Bf c4 (Vi high3))),(11,(Bf c4 (Vi n1)))] (by cases c4<;>kernel_rfl) Aw))) ?_
 refine W.keep rfl ?_
 cases h
 exact W.ret Fw
def A5r:List GOp:=[b0 2 false]
def A5s:List GOp:=[m0 3 0,o0 4 (.bin false .lss (.tmp 3) (.cst (.int .i32 32))),m0 5 4,g0 6 5 false (.mov (.tmp 0)),g0 7 5 false (.bin false .gtr (.tmp 6) (.cst (.int .i32 126))),o0 8 (.pick (.tmp 5) (.cst (.bool true)) (.tmp 7)),m0 2 8]
def Bgo:AC:=(.seq (.ops A5r) (.seq (.ops A5s) (.keep [] [(2,false)] [] [] [] .ret)))
def Q46:Fd:=⟨1,[.tmp 2],[],Bgo⟩
theorem Ats:Bl Tryz.prog Tryz.f118 Q46=true:=by kernel_rfl
theorem Pk{r1:Int}{r:Bool}(h:Gd r1=some r):A3 Tryz.prog 118 [.pv (.int .i32 r1)] [] ⟨Vb r,[],[]⟩:=by
 refine Ap hm Tryz.func118 Ats (by kernel_rfl) ?_
 unfold Gd at h
 refine Ab Aw ?_
 obtain⟨c2,hc2,h⟩:=Ag h
 refine Ab (Bw 2 (Aj.dyn (Nw (decide (r1<32)) c2 hc2) (Aj.puts 3 [(8,Vb (c2||(decide (r1>126)))),(7,(Bf (!c2) (Vb (decide (r1>126))))),(6,(Bf (!c2) (.pv (.int .i32 r1))))] (by cases c2<;>kernel_rfl) Aw))) ?_
 refine W.keep rfl ?_
 cases h
 exact W.ret Fw
def A95:List GOp:=[o0 1 (.box (.tmp 0)),b0 2 false]
def A96:List GOp:=[o0 3 (.mov (.cst (.fn 118)))]
def A97:List GOp:=[f0 4 0 1,l0 5 1 4,o0 6 (.call 0 0 (.cst (.fn 119)) [(.tmp 5),(.cst (.int .i64 1)),(.cst (.int .i64 999))] [] []),m0 7 6,g0 8 7 true (.fld 1 (.tmp 1)),g0 9 7 true (.load false 1 (.tmp 8)),g0 10 7 true (.len true (.tmp 9)),g0 11 7 true (.call 0 0 (.cst (.fn 119)) [(.tmp 10),(.cst (.int .i64 1)),(.cst (.int .i64 32))] [] []),o0 12 (.pick (.tmp 7) (.tmp 11) (.cst (.bool false))),m0 13 12,g0 14 13 true (.fld 1 (.tmp 1)),g0 15 13 true (.load false 1 (.tmp 14)),g0 16 13 true (.mov (.tmp 3)),g0 17 13 true (.call 0 0 (.cst (.fn 120)) [(.tmp 15),(.tmp 16)] [] []),g0 18 13 true (.un .not (.tmp 17)),o0 19 (.pick (.tmp 13) (.tmp 18) (.cst (.bool false))),m0 20 19,g0 21 20 true (.fld 2 (.tmp 1)),g0 22 20 true (.load false 1 (.tmp 21)),g0 23 20 true (.call 0 0 (.cst (.fn 119)) [(.tmp 22),(.cst (.int .i64 0)),(.cst (.int .i64 3))] [] []),o0 24 (.pick (.tmp 20) (.tmp 23) (.cst (.bool false))),m0 2 24]
def Bhy:AC:=(.seq (.ops A95) (.seq (.ops A96) (.seq (.ops A97) (.keep [] [(2,false)] [] [.loc 1 0] [] .ret))))
def Q72:Fd:=⟨1,[.tmp 2],[],Bhy⟩
theorem Avi:Bl Tryz.prog Tryz.f78 Q72=true:=by kernel_rfl
theorem Rl{x1:Ac}{r:Bool}(h:G9 x1=some r):A3 Tryz.prog 78 [.pv (Ac.pv x1)] [] ⟨Vb r,[],[]⟩:=by
 refine Ap hm Tryz.func78 Avi (by kernel_rfl) ?_
 unfold G9 at h
 refine Ab Aw ?_
 refine Ab Aw ?_
 obtain⟨x2,hx2,h⟩:=Ag h
 obtain⟨x3,hx3,h⟩:=Ag h
 obtain⟨c4,hc4,h⟩:=Ag h
 obtain⟨x5,hx5,h⟩:=Ag h
 obtain⟨c6,hc6,h⟩:=Ag h
 obtain⟨x7,hx7,h⟩:=Ag h
 refine Ab (Bw 2 (Aj.cons (Tw (Fp hx2) Ax) (Kw 119 [] (Vb x2) Hw) (Bw 1 (Aj.puts 3 [(10,(Bf x2 (Vi (x1.Di.length:Int)))),(9,(Bf x2 (.pv (.str x1.Di)))),(8,(Bf x2 (.ptr (.loc 1 0) 1)))] (by cases x2<;>kernel_rfl) (Aj.cons (Ci (on:=x2) (fun hg=>Fp (Dj hg hx3)) Ax) (Bn x2 (by kernel_rfl) (by
    cases x2
    ·exact .inl ⟨by kernel_rfl,by kernel_rfl⟩
    ·exact .inr ⟨by kernel_rfl,by kernel_rfl,Kw 119 [] (Vb x3) Hw⟩)) (Aj.puts 1 [(12,Vb (x2&&x3))] (by cases x2<;>kernel_rfl) (Aj.dyn (Nw (x2&&x3) c4 hc4) (Aj.puts 3 [(16,(Bf c4 (.pv (.fn 118)))),(15,(Bf c4 (.pv (.str x1.Di)))),(14,(Bf c4 (.ptr (.loc 1 0) 1)))] (by cases c4<;>kernel_rfl) (Aj.cons (Ci (on:=c4) (fun hg=>Ms (fun x r h=>Pk h) (Dj hg hx5)) Ax) (Bn c4 (by kernel_rfl) (by
    cases c4
    ·exact .inl ⟨by kernel_rfl,by kernel_rfl⟩
    ·exact .inr ⟨by kernel_rfl,by kernel_rfl,Kw 120 [] (Vb x5) Hw⟩)) (Aj.puts 2 [(19,Vb (c4&&(!x5))),(18,(Bf c4 (Vb (!x5))))] (by cases c4<;>kernel_rfl) (Aj.dyn (Nw (c4&&(!x5)) c6 hc6) (Aj.puts 2 [(22,(Bf c6 (Vi x1.Ca))),(21,(Bf c6 (.ptr (.loc 1 0) 2)))] (by cases c6<;>kernel_rfl) (Aj.cons (Ci (on:=c6) (fun hg=>Fp (Dj hg hx7)) Ax) (Bn c6 (by kernel_rfl) (by
    cases c6
    ·exact .inl ⟨by kernel_rfl,by kernel_rfl⟩
    ·exact .inr ⟨by kernel_rfl,by kernel_rfl,Kw 119 [] (Vb x7) Hw⟩)) (Aj.puts 1 [(24,Vb (c6&&x7))] (by cases c6<;>kernel_rfl) Aw)))))))))))))) ?_
 refine W.keep rfl ?_
 cases h
 exact W.ret Fw
def Ba2:List GOp:=[o0 1 (.box (.tmp 0)),b0 2 false]
def Ba3:List GOp:=[t0 3 3 1,o0 4 (.call 0 0 (.cst (.fn 78)) [(.tmp 3)] [] []),o0 5 (.un .not (.tmp 4)),m0 2 5]
def Bh4:AC:=(.seq (.ops Ba2) (.seq (.ops Ba3) (.keep [] [(2,false)] [] [.loc 1 0] [] .ret)))
def Q78:Fd:=⟨1,[.tmp 2],[],Bh4⟩
theorem Avs:Bl Tryz.prog Tryz.f77 Q78=true:=by kernel_rfl
theorem Uk{x1:Ac}{r:Bool}(h:Ku x1=some r):A3 Tryz.prog 77 [.pv (Ac.pv x1)] [] ⟨Vb r,[],[]⟩:=by
 refine Ap hm Tryz.func77 Avs (by kernel_rfl) ?_
 unfold Ku at h
 refine Ab Aw ?_
 obtain⟨x2,hx2,h⟩:=Ag h
 refine Ab (Bw 1 (Aj.cons (Tw (Rl hx2) Ax) (Kw 78 [] (Vb x2) Hw) Aw)) ?_
 refine W.keep rfl ?_
 cases h
 exact W.ret Fw
def Bgt:List GOp:=[k0 4 0]
def Bgu:List GOp:=[m0 6 0,e0 7 6,k0 8 0]
def Bgv:List GOp:=[p0 9 .lss 8 7]
def Bgw:List GOp:=[m0 10 8,m0 5 10]
def Bgx:List GOp:=[m0 11 1,m0 12 0,m0 13 5,i0 14 3 12 13,t0 15 3 14,o0 16 (.call 0 0 (.tmp 11) [(.tmp 15)] [] [])]
def Bgy:List GOp:=[m0 17 5,m0 4 17]
def Bgz:List GOp:=[q0 18 .add 8 1,m0 8 18]
def Bgs:AC:=(.keep [] [(0,false),(1,false),(7,false),(8,false)] [] [] [] (.seq (.ops Bgv) (.seq (.cond (.tmp 9) .skip (.exit 0)) (.seq (.pass 1 (.seq (.ops Bgw) (.seq (.ops Bgx) (.cond (.tmp 16) (.seq (.ops Bgy) (.keep [] [(4,false)] [] [] [] .ret)) .skip)))) (.ops Bgz)))))
def Bg0:List GOp:=[k0 4 (-1)]
def Q4b:AC:=(.seq (.ops Bgt) (.seq (.seq (.ops Bgu) (.block 0 (.loop [0,1,7,8] [] Bgs))) (.seq (.keep [] [] [] [] [] (.ops Bg0)) (.keep [] [(4,false)] [] [] [] .ret))))
def Q4:Fd:=⟨2,[.tmp 4],[],Q4b⟩
theorem A6g:Bl Tryz.prog Tryz.f117 Q4=true:=by kernel_rfl
theorem Ip{s1:List Ac}{r:Int}(h:Dt s1=some r):A3 Tryz.prog 117 [Vl Ac.pv s1,.pv (.fn 77)] [] ⟨Vi r,[],[]⟩:=by
 refine Ap hm Tryz.func117 A6g (by kernel_rfl) ?_
 unfold Dt at h
 refine Ab Aw ?_
 refine Ae ?_
 refine Ab (Bw 1 (Aj.dyn (Lw Ac.pv s1) Aw)) ?_
 obtain⟨j2,hj2,h⟩:=Ag h
 refine Ck (j:=j2) (o:=r) (fun p σ=>σ.tidy [] [] [] [] []=⟨[],[]⟩) ?_ (fun p σj2 hp hsj2=>?_) (fun p hp=>?_)
 ·refine B1 (fun q σ=>((σ.forget [0,1,7,8]).killAll []).tidy [] [(0,false),(1,false),(7,false),(8,false)] [] [] []=⟨[(0,Vl Ac.pv s1),(1,.pv (.fn 77)),(7,Vi (s1.length:Int)),(8,Vi q)],[]⟩) hj2 ?_ ?_
  ·show _=_
   kernel_rfl
  ·intro x3 σj2 oj2 hJj2 h
   refine W.keep hJj2 ?_
   refine Ab Aw ?_
   refine Ar (t:=decide (x3<(s1.length:Int))) (by kernel_rfl) h (fun hc h'=>?_) (fun hc h'=>?_)
   ·replace h:=h'
    refine Ay ?_
    refine Bs ?_
    refine Ae ?_
    refine Ab Aw ?_
    refine Ae ?_
    obtain⟨x4,hx4,h⟩:=Ag h
    obtain⟨x5,hx5,h⟩:=Ag h
    refine Ab (Bw 3 (Aj.dyn (Iw Ac.pv s1 x3 x4 hx4) (Bw 1 (Aj.cons (Tw (Uk hx5) Ax) (Kw 77 [] (Vb x5) Hw) ((.nil _)))))) ?_
    refine Ar (t:=x5) (by kernel_rfl) h (fun hc h'=>?_) (fun hc h'=>?_)
    ·replace h:=h'
     refine Ae ?_
     refine Ab Aw ?_
     refine An rfl ?_
     cases h
     exact A8 ((Bh Cd (Ed Cd Dh (fun e=>by subst e;exact Fw))))
    ·replace h:=h'
     refine Ay ?_
     refine W.ops Aw ?_
     cases h
     exact Ow
   ·replace h:=h'
    cases h
    exact Bp ((Bh B6 (Eh (by(show _=_);kernel_rfl))))
 ·subst hp
  obtain⟨⟩:=p
  refine An hsj2 ?_
  refine Ab Aw ?_
  refine W.keep rfl ?_
  cases h
  exact W.ret Fw
 ·subst hp
  exact Option.some.inj h
def Bfw:List GOp:=[b0 4 false]
def Bfx:List GOp:=[m0 5 0,m0 6 1,o0 7 (.call 0 0 (.cst (.fn 117)) [(.tmp 5),(.tmp 6)] [] []),q0 8 .geq 7 0,m0 4 8]
def Q2b:AC:=(.seq (.ops Bfw) (.seq (.ops Bfx) (.keep [] [(4,false)] [] [] [] .ret)))
def Q2:Fd:=⟨2,[.tmp 4],[],Q2b⟩
theorem A2o:Bl Tryz.prog Tryz.f76 Q2=true:=by kernel_rfl
theorem H0{s1:List Ac}{r:Bool}(h:Cs s1=some r):A3 Tryz.prog 76 [Vl Ac.pv s1,.pv (.fn 77)] [] ⟨Vb r,[],[]⟩:=by
 refine Ap hm Tryz.func76 A2o (by kernel_rfl) ?_
 unfold Cs at h
 refine Ab Aw ?_
 obtain⟨x2,hx2,h⟩:=Ag h
 refine Ab (Bw 2 (Aj.cons (Tw (Ip hx2) Ax) (Kw 117 [] (Vi x2) Hw) Aw)) ?_
 refine W.keep rfl ?_
 cases h
 exact W.ret Fw
def Ba4:List GOp:=[b0 2 false]
def Ba5:List GOp:=[m0 3 0,m0 4 0,p0 5 .neq 3 4,m0 2 5]
def Bh5:AC:=(.seq (.ops Ba4) (.seq (.ops Ba5) (.keep [] [(2,false)] [] [] [] .ret)))
def Q79:Fd:=⟨1,[.tmp 2],[],Bh5⟩
theorem Avt:Bl Tryz.prog Tryz.f134 Q79=true:=by kernel_rfl
theorem Nq{x1:Int}{r:Bool}(h:Gx x1=some r):A3 Tryz.prog 134 [Vi x1] [] ⟨Vb r,[],[]⟩:=by
 refine Ap hm Tryz.func134 Avt (by kernel_rfl) ?_
 unfold Gx at h
 refine Ab Aw ?_
 refine Ab Aw ?_
 refine W.keep rfl ?_
 cases h
 exact W.ret Fw
def Bak:List GOp:=[k0 4 0]
def Bal:List GOp:=[m0 7 0,o0 8 (.call 0 0 (.cst (.fn 134)) [(.tmp 7)] [] []),m0 5 8]
def Bam:List GOp:=[m0 9 1,o0 10 (.call 0 0 (.cst (.fn 134)) [(.tmp 9)] [] []),m0 6 10]
def Ban:List GOp:=[m0 11 5]
def Bao:List GOp:=[m0 12 6]
def Bap:List GOp:=[k0 4 0]
def Baq:List GOp:=[k0 4 (-1)]
def Bar:List GOp:=[m0 13 6]
def Bas:List GOp:=[k0 4 1]
def Bat:List GOp:=[m0 14 0,m0 15 1,p0 16 .lss 14 15]
def Avm:List GOp:=[k0 4 (-1)]
def Avn:List GOp:=[m0 17 0,m0 18 1,p0 19 .gtr 17 18]
def Avo:List GOp:=[k0 4 1]
def Avp:List GOp:=[k0 4 0]
def Bh1:AC:=(.seq (.ops Bak) (.seq (.ops Bal) (.seq (.ops Bam) (.seq (.seq (.ops Ban) (.cond (.tmp 11) (.seq (.seq (.ops Bao) (.cond (.tmp 12) (.seq (.ops Bap) (.keep [] [(4,false)] [] [] [] .ret)) .skip)) (.seq (.ops Baq) (.keep [] [(4,false)] [] [] [] .ret))) .skip)) (.seq (.seq (.ops Bar) (.cond (.tmp 13) (.seq (.ops Bas) (.keep [] [(4,false)] [] [] [] .ret)) .skip)) (.seq (.seq (.ops Bat) (.cond (.tmp 16) (.seq (.ops Avm) (.keep [] [(4,false)] [] [] [] .ret)) .skip)) (.seq (.seq (.ops Avn) (.cond (.tmp 19) (.seq (.ops Avo) (.keep [] [(4,false)] [] [] [] .ret)) .skip)) (.seq (.ops Avp) (.keep [] [(4,false)] [] [] [] .ret)))))))))
def Q75:Fd:=⟨2,[.tmp 4],[],Bh1⟩
theorem Avl:Bl Tryz.prog Tryz.f104 Q75=true:=by kernel_rfl
theorem I8{x1:Int}{y2:Int}{r:Int}(h:E5 x1 y2=some r):A3 Tryz.prog 104 [Vi x1,Vi y2] [] ⟨Vi r,[],[]⟩:=by
 refine Ap hm Tryz.func104 Avl (by kernel_rfl) ?_
 unfold E5 at h
 refine Ab Aw ?_
 obtain⟨x3,hx3,h⟩:=Ag h
 refine Ab (Bw 1 (Aj.cons (Tw (Nq hx3) Ax) (Kw 134 [] (Vb x3) Hw) Aw)) ?_
 obtain⟨x4,hx4,h⟩:=Ag h
 refine Ab (Bw 1 (Aj.cons (Tw (Nq hx4) Ax) (Kw 134 [] (Vb x4) Hw) Aw)) ?_
 refine Ae ?_
 refine Ab Aw ?_
 refine Ar (t:=x3) (by kernel_rfl) h (fun hc h'=>?_) (fun hc h'=>?_)
 ·replace h:=h'
  refine Ae ?_
  refine Ae ?_
  refine Ab Aw ?_
  refine Ar (t:=x4) (by kernel_rfl) h (fun hc h'=>?_) (fun hc h'=>?_)
  ·replace h:=h'
   refine Ae ?_
   refine Ab Aw ?_
   refine An rfl ?_
   cases h
   exact A8 Fw
  ·replace h:=h'
   refine Ay ?_
   refine Ae ?_
   refine Ab Aw ?_
   refine An rfl ?_
   cases h
   exact A8 Fw
 ·replace h:=h'
  refine Ay ?_
  refine Ae ?_
  refine Ab Aw ?_
  refine Ar (t:=x4) (by kernel_rfl) h (fun hc h'=>?_) (fun hc h'=>?_)
  ·replace h:=h'
   refine Ae ?_
   refine Ab Aw ?_
   refine An rfl ?_
   cases h
   exact A8 Fw
  ·replace h:=h'
   refine Ay ?_
   refine Ae ?_
   refine Ab Aw ?_
   refine Ar (t:=decide (x1<y2)) (by kernel_rfl) h (fun hc h'=>?_) (fun hc h'=>?_)
   ·replace h:=h'
    refine Ae ?_
    refine Ab Aw ?_
    refine An rfl ?_
    cases h
    exact A8 Fw
   ·replace h:=h'
    refine Ay ?_
    refine Ae ?_
    refine Ab Aw ?_
    refine Ar (t:=decide (x1>y2)) (by kernel_rfl) h (fun hc h'=>?_) (fun hc h'=>?_)
    ·replace h:=h'
     refine Ae ?_
     refine Ab Aw ?_
     refine An rfl ?_
     cases h
     exact A8 Fw
    ·replace h:=h'
     refine Ay ?_
     refine Ab Aw ?_
     refine W.keep rfl ?_
     cases h
     exact W.ret Fw
def Az6:List GOp:=[o0 3 (.box (.tmp 0)),k0 5 0]
def Az7:List GOp:=[l0 6 1 2,t0 7 3 3,o0 8 (.call 0 0 (.tmp 6) [(.tmp 7)] [] []),m0 9 1,o0 10 (.call 0 0 (.cst (.fn 104)) [(.tmp 8),(.tmp 9)] [] []),m0 5 10]
def Bfa:AC:=(.seq (.ops Az6) (.seq (.ops Az7) (.keep [] [(5,false)] [(.ext 0,false)] [.loc 3 0] [] .ret)))
def Q18:Fd:=⟨3,[.tmp 5],[],Bfa⟩
theorem Aq3:Bl Tryz.prog Tryz.f123 Q18=true:=by kernel_rfl
theorem Hh{x1:Ac}{n2:Int}{r:Int}(h:C0 x1 n2=some r):A3 Tryz.prog 123 [.pv (Ac.pv x1),Vi n2,.ptr (.ext 0) 0] [.box [.pv (.fn 73)]] ⟨Vi r,[],[(some (.box [.pv (.fn 73)]))]⟩:=by
 refine Ap hm Tryz.func123 Aq3 (by kernel_rfl) ?_
 unfold C0 at h
 refine Ab Aw ?_
 obtain⟨x3,hx3,h⟩:=Ag h
 obtain⟨x4,hx4,h⟩:=Ag h
 refine Ab (Bw 2 (Aj.cons (Tw (Nb hx3) Ax) (Kw 73 [] (Vi x3) Hw) (Bw 1 (Aj.cons (Tw (I8 hx4) Ax) (Kw 104 [] (Vi x4) Hw) Aw)))) ?_
 refine W.keep rfl ?_
 cases h
 exact W.ret Fw
def Bea:List GOp:=[k0 6 0,b0 7 false]
def Beb:List GOp:=[m0 12 0,e0 13 12,m0 8 13]
def Bec:List GOp:=[m0 14 8,k0 9 0,m0 10 14]
def Bed:List GOp:=[m0 15 9,m0 16 10,p0 17 .lss 15 16]
def Bee:List GOp:=[m0 18 9,m0 19 10,p0 20 .add 18 19,o0 21 (.conv .u64 (.tmp 20)),o0 22 (.bin false .shr (.tmp 21) (.cst (.int .u64 1))),o0 23 (.conv .i64 (.tmp 22)),m0 11 23]
def Bef:List GOp:=[m0 24 2,m0 25 0,m0 26 11,i0 27 3 25 26,t0 28 3 27,m0 29 1,o0 30 (.call 0 2 (.tmp 24) [(.tmp 28),(.tmp 29)] [] [.ext 0]),q0 31 .lss 30 0]
def Beg:List GOp:=[m0 32 11,q0 33 .add 32 1,m0 9 33]
def Beh:List GOp:=[m0 34 11,m0 10 34]
def Bd9:AC:=(.keep [] [(0,false),(1,false),(2,false),(8,false),(9,false),(10,false)] [(.ext 0,false)] [] [] (.seq (.seq (.ops Bed) (.cond (.tmp 17) .skip (.exit 0))) (.pass 1 (.seq (.ops Bee) (.seq (.ops Bef) (.cond (.tmp 31) (.ops Beg) (.ops Beh)))))))
def Bei:List GOp:=[m0 35 9,m0 36 9,m0 37 8,p0 38 .lss 36 37,m0 39 38,g0 40 39 true (.mov (.tmp 2)),g0 41 39 true (.mov (.tmp 0)),g0 42 39 true (.mov (.tmp 9)),g0 43 39 true (.idx 3 (.tmp 41) (.tmp 42)),g0 44 39 true (.load true 3 (.tmp 43)),g0 45 39 true (.mov (.tmp 1)),g0 46 39 true (.call 0 2 (.tmp 40) [(.tmp 44),(.tmp 45)] [] [.ext 0]),g0 47 39 true (.bin false .eql (.tmp 46) (.cst (.int .i64 0))),o0 48 (.pick (.tmp 39) (.tmp 47) (.cst (.bool false))),m0 6 35,m0 7 48]
def Q0b:AC:=(.seq (.ops Bea) (.seq (.ops Beb) (.seq (.ops Bec) (.seq (.block 0 (.loop [0,1,2,8,9,10] [] Bd9)) (.seq (.keep [] [(0,false),(1,false),(2,false),(8,false),(9,false)] [(.ext 0,false)] [] [] (.ops Bei)) (.keep [] [(6,false),(7,false)] [(.ext 0,false)] [] [] .ret))))))
def Q0:Fd:=⟨3,[.tmp 6,.tmp 7],[],Q0b⟩
theorem Ayb:Bl Tryz.prog Tryz.f122 Q0=true:=by kernel_rfl
theorem Gj{x1:List Ac}{target2:Int}{r:Int×Bool}(h:Ce x1 target2=some r):A3 Tryz.prog 122 [Vl Ac.pv x1,Vi target2,.fn 123 [.ptr (.ext 0) 0]] [.box [.pv (.fn 73)]] ⟨.tup [Vi r.1,Vb r.2],[],[(some (.box [.pv (.fn 73)]))]⟩:=by
 refine Ap hm Tryz.func122 Ayb (by kernel_rfl) ?_
 unfold Ce at h
 refine Ab Aw ?_
 refine Ab (Bw 1 (Aj.dyn (Lw Ac.pv x1) Aw)) ?_
 refine Ab Aw ?_
 obtain⟨j3,hj3,h⟩:=Ag h
 refine W.join (j:=j3) (fun p σ=>σ.tidy [] [(0,false),(1,false),(2,false),(8,false),(9,false)] [(.ext 0,false)] [] []=⟨[(0,Vl Ac.pv x1),(1,Vi target2),(2,.fn 123 [.ptr (.ext 0) 0]),(8,Vi (x1.length:Int)),(9,Vi p)],[(.ext 0,.box [.pv (.fn 73)])]⟩) ?_ (fun σj3 hsj3=>?_)
 ·refine Ch (fun q σ=>((σ.forget [0,1,2,8,9,10]).killAll []).tidy [] [(0,false),(1,false),(2,false),(8,false),(9,false),(10,false)] [(.ext 0,false)] [] []=⟨[(0,Vl Ac.pv x1),(1,Vi target2),(2,.fn 123 [.ptr (.ext 0) 0]),(8,Vi (x1.length:Int)),(9,Vi q.1),(10,Vi q.2)],[(.ext 0,.box [.pv (.fn 73)])]⟩) hj3 ?_ ?_
  ·show _=_
   kernel_rfl
  ·intro q σj3 oj3 hJj3 h
   obtain⟨i4,j5⟩:=q
   refine W.keep hJj3 ?_
   refine Ae ?_
   refine Ab Aw ?_
   refine Ar (t:=decide (i4<j5)) (by kernel_rfl) h (fun hc h'=>?_) (fun hc h'=>?_)
   ·replace h:=h'
    refine Ay ?_
    refine W.pass ?_
    refine Ab Aw ?_
    obtain⟨x6,hx6,h⟩:=Ag h
    obtain⟨x7,hx7,h⟩:=Ag h
    refine Ab (Bw 3 (Aj.dyn (Iw Ac.pv x1 (IntKind.wrap .i64 (Int.fdiv (IntKind.wrap .u64 (IntKind.wrap .i64 (i4+j5))) 2)) x6 hx6) (Bw 2 (Aj.cons (Tw (Hh hx7) Ax) (Cx (g:=123) (caps:=[.ptr (.ext 0) 0]) (v:=Vi x7) (ins:=[]) rfl (by kernel_rfl) (by kernel_rfl) (by kernel_rfl) Hw (by kernel_rfl) (by kernel_rfl)) Aw)))) ?_
    refine De (t:=decide (x7<0)) (by kernel_rfl) h (fun hc h'=>?_) (fun hc h'=>?_)
    ·replace h:=h'
     refine W.ops Aw ?_
     cases h
     exact Ow
    ·replace h:=h'
     refine W.ops Aw ?_
     cases h
     exact Ow
   ·replace h:=h'
    cases h
    exact Bp ((Bh B6 (D3 (by(show _=_);kernel_rfl))))
 ·refine An hsj3 ?_
  obtain⟨c9,hc9,h⟩:=Ag h
  obtain⟨x10,hx10,h⟩:=Ag h
  obtain⟨x11,hx11,h⟩:=Ag h
  refine Ab (Bw 4 (Aj.dyn (Nw (decide (j3<(x1.length:Int))) c9 hc9) (Aj.puts 3 [(42,(Bf c9 (Vi j3))),(41,(Bf c9 (Vl Ac.pv x1))),(40,(Bf c9 (.fn 123 [.ptr (.ext 0) 0])))] (by cases c9<;>kernel_rfl) (Aj.dyn (Bn c9 (by kernel_rfl) (by
     cases c9
     ·exact .inl ⟨by kernel_rfl,by kernel_rfl⟩
     ·exact .inr ⟨by kernel_rfl,by kernel_rfl,Iw Ac.pv x1 j3 x10 hx10⟩)) (Aj.puts 2 [(45,(Bf c9 (Vi target2))),(44,(Bf c9 (.pv (Ac.pv x10))))] (by cases c9<;>kernel_rfl) (Aj.cons (Ci (on:=c9) (fun hg=>Hh (Dj hg hx11)) Ax) (Aaz c9 (by kernel_rfl) (by
     cases c9
     ·exact .inl ⟨by kernel_rfl,by kernel_rfl⟩
     ·exact .inr ⟨by kernel_rfl,by kernel_rfl,Uz (g:=123) (caps:=[.ptr (.ext 0) 0]) (v:=Vi x11) rfl (by kernel_rfl) (by kernel_rfl) (by kernel_rfl) Hw (by kernel_rfl) (by kernel_rfl)⟩)) (Aj.puts 2 [(48,Vb (c9&&(x11==0))),(47,(Bf c9 (Vb (x11==0))))] (by cases c9<;>kernel_rfl) Aw))))))) ?_
  refine W.keep rfl ?_
  cases h
  exact W.ret Fw
def A1v:List GOp:=[o0 5 (.box (.tmp 2)),k0 6 0,b0 7 false]
def A1w:List GOp:=[m0 8 0,m0 9 1,o0 10 (.mkfn 123 [(.tmp 5)]),o0 11 (.call 0 2 (.cst (.fn 122)) [(.tmp 8),(.tmp 9),(.tmp 10)] [] [.loc 5 0]),o0 12 (.ext 0 (.tmp 11)),o0 13 (.ext 1 (.tmp 11)),m0 6 12,m0 7 13]
def Bfs:AC:=(.seq (.ops A1v) (.seq (.ops A1w) (.keep [] [(6,false),(7,false)] [] [.loc 5 0] [] .ret)))
def Q26:Fd:=⟨3,[.tmp 6,.tmp 7],[],Bfs⟩
theorem Ar6:Bl Tryz.prog Tryz.f81 Q26=true:=by kernel_rfl
theorem Lq{l1:List Ac}{n2:Int}{r:Int×Bool}(h:Ee l1 n2=some r):A3 Tryz.prog 81 [Vl Ac.pv l1,Vi n2,.pv (.fn 73)] [] ⟨.tup [Vi r.1,Vb r.2],[],[]⟩:=by
 refine Ap hm Tryz.func81 Ar6 (by kernel_rfl) ?_
 unfold Ee at h
 refine Ab Aw ?_
 obtain⟨x3,hx3,h⟩:=Ag h
 refine Ab (Bw 3 (Aj.cons (Tw (Gj hx3) Ax) (Cx (g:=122) (caps:=[]) (v:= .tup [Vi x3.1,Vb x3.2]) (ins:=[]) rfl (by kernel_rfl) (by kernel_rfl) (by kernel_rfl) Hw (by kernel_rfl) (by kernel_rfl)) Aw)) ?_
 refine W.keep rfl ?_
 cases h
 exact W.ret Fw
def A98:List GOp:=[b0 6 false]
def A99:List GOp:=[m0 7 0,m0 8 1,p0 9 .geq 7 8,m0 10 9,g0 11 10 true (.mov (.tmp 0)),g0 12 10 true (.mov (.tmp 2)),g0 13 10 true (.bin false .leq (.tmp 11) (.tmp 12)),o0 14 (.pick (.tmp 10) (.tmp 13) (.cst (.bool false))),m0 6 14]
def Bhz:AC:=(.seq (.ops A98) (.seq (.ops A99) (.keep [] [(6,false)] [] [] [] .ret)))
def Q73:Fd:=⟨3,[.tmp 6],[],Bhz⟩
theorem Avj:Bl Tryz.prog Tryz.f124 Q73=true:=by kernel_rfl
theorem Rk{n1:Int}{low2:Int}{high3:Int}{r:Bool}(h:Im n1 low2 high3=some r):A3 Tryz.prog 124 [Vi n1,Vi low2,Vi high3] [] ⟨Vb r,[],[]⟩:=by
 refine Ap hm Tryz.func124 Avj (by kernel_rfl) ?_
 unfold Im at h
 refine Ab Aw ?_
 obtain⟨c4,hc4,h⟩:=Ag h
 refine Ab (Bw 3 (Aj.dyn (Nw (decide (n1≥low2)) c4 hc4) (Aj.puts 4 [(14,Vb (c4&&(decide (n1≤high3)))),(13,(Bf c4 (Vb (decide (n1≤high3))))),(12,(Bf c4 (Vi high3))),(11,(Bf c4 (Vi n1)))] (by cases c4<;>kernel_rfl) Aw))) ?_
 refine W.keep rfl ?_
 cases h
 exact W.ret Fw
def A8q:List GOp:=[b0 6 false]
def A8r:List GOp:=[m0 7 0,m0 8 1,p0 9 .geq 7 8,m0 10 9,g0 11 10 true (.mov (.tmp 0)),g0 12 10 true (.mov (.tmp 2)),g0 13 10 true (.bin false .leq (.tmp 11) (.tmp 12)),o0 14 (.pick (.tmp 10) (.tmp 13) (.cst (.bool false))),m0 6 14]
def Bhe:AC:=(.seq (.ops A8q) (.seq (.ops A8r) (.keep [] [(6,false)] [] [] [] .ret)))
def Q61:Fd:=⟨3,[.tmp 6],[],Bhe⟩
theorem Aus:Bl Tryz.prog Tryz.f125 Q61=true:=by kernel_rfl
theorem P3{n1:Int}{low2:Int}{high3:Int}{r:Bool}(h:H2 n1 low2 high3=some r):A3 Tryz.prog 125 [Vi n1,Vi low2,Vi high3] [] ⟨Vb r,[],[]⟩:=by
 refine Ap hm Tryz.func125 Aus (by kernel_rfl) ?_
 unfold H2 at h
 refine Ab Aw ?_
 obtain⟨c4,hc4,h⟩:=Ag h
 refine Ab (Bw 3 (Aj.dyn (Nw (decide (n1≥low2)) c4 hc4) (Aj.puts 4 [(14,Vb (c4&&(decide (n1≤high3)))),(13,(Bf c4 (Vb (decide (n1≤high3))))),(12,(Bf c4 (Vi high3))),(11,(Bf c4 (Vi n1)))] (by cases c4<;>kernel_rfl) Aw))) ?_
 refine W.keep rfl ?_
 cases h
 exact W.ret Fw
def Amu:List GOp:=[b0 2 false]
def Amv:List GOp:=[m0 3 0,o0 4 (.bin false .geq (.tmp 3) (.cst (.int .i32 (-50000)))),m0 5 4,g0 6 5 true (.mov (.tmp 0)),g0 7 5 true (.bin false .leq (.tmp 6) (.cst (.int .i32 50000))),o0 8 (.pick (.tmp 5) (.tmp 7) (.cst (.bool false))),m0 2 8]
def Ayf:AC:=(.seq (.ops Amu) (.seq (.ops Amv) (.keep [] [(2,false)] [] [] [] .ret)))
def Bem:Fd:=⟨1,[.tmp 2],[],Ayf⟩
theorem Ajw:Bl Tryz.prog Tryz.f107 Bem=true:=by kernel_rfl
theorem Ht{d1:Int}{r:Bool}(h:Fq d1=some r):A3 Tryz.prog 107 [.pv (.int .i32 d1)] [] ⟨Vb r,[],[]⟩:=by
 refine Ap hm Tryz.func107 Ajw (by kernel_rfl) ?_
 unfold Fq at h
 refine Ab Aw ?_
 obtain⟨c2,hc2,h⟩:=Ag h
 refine Ab (Bw 2 (Aj.dyn (Nw (decide (d1≥(-50000))) c2 hc2) (Aj.puts 3 [(8,Vb (c2&&(decide (d1≤50000)))),(7,(Bf c2 (Vb (decide (d1≤50000))))),(6,(Bf c2 (.pv (.int .i32 d1))))] (by cases c2<;>kernel_rfl) Aw))) ?_
 refine W.keep rfl ?_
 cases h
 exact W.ret Fw
def Baw:List GOp:=[o0 1 (.box (.tmp 0)),b0 2 false]
def Bax:List GOp:=[f0 3 0 1,l0 4 1 3,o0 5 (.call 0 0 (.cst (.fn 124)) [(.tmp 4),(.cst (.int .i64 1)),(.cst (.int .i64 999))] [] []),o0 6 (.un .not (.tmp 5)),m0 7 6,g0 8 7 false (.fld 1 (.tmp 1)),g0 9 7 false (.load false 1 (.tmp 8)),g0 10 7 false (.call 0 0 (.cst (.fn 119)) [(.tmp 9),(.cst (.int .i64 0)),(.cst (.int .i64 3))] [] []),g0 11 7 false (.un .not (.tmp 10)),o0 12 (.pick (.tmp 7) (.cst (.bool true)) (.tmp 11)),m0 13 12,g0 14 13 false (.fld 2 (.tmp 1)),g0 15 13 false (.load false 1 (.tmp 14)),g0 16 13 false (.call 0 0 (.cst (.fn 125)) [(.tmp 15),(.cst (.int .i64 0)),(.cst (.int .i64 3))] [] []),g0 17 13 false (.un .not (.tmp 16)),o0 18 (.pick (.tmp 13) (.cst (.bool true)) (.tmp 17)),m0 19 18,g0 20 19 false (.fld 3 (.tmp 1)),g0 21 19 false (.load false 1 (.tmp 20)),g0 22 19 false (.call 0 0 (.cst (.fn 119)) [(.tmp 21),(.cst (.int .i64 0)),(.cst (.int .i64 999))] [] []),g0 23 19 false (.un .not (.tmp 22)),o0 24 (.pick (.tmp 19) (.cst (.bool true)) (.tmp 23))]
def Bay:List GOp:=[b0 2 false]
def Baz:List GOp:=[f0 25 1 1,l0 26 1 25,q0 27 .geq 26 2,m0 28 27,g0 29 28 true (.fld 3 (.tmp 1)),g0 30 28 true (.load false 1 (.tmp 29)),g0 31 28 true (.bin false .neq (.tmp 30) (.cst (.int .i64 0))),g0 32 28 true (.mov (.tmp 31)),g0 33 32 false (.fld 4 (.tmp 1)),g0 34 32 false (.load false 1 (.tmp 33)),g0 35 32 false (.bin false .neq (.tmp 34) (.cst (.int .i64 0))),g0 36 28 true (.pick (.tmp 32) (.cst (.bool true)) (.tmp 35)),o0 37 (.pick (.tmp 28) (.tmp 36) (.cst (.bool false)))]
def Ba0:List GOp:=[b0 2 false]
def Ba1:List GOp:=[f0 38 4 1,l0 39 1 38,o0 40 (.call 0 0 (.cst (.fn 119)) [(.tmp 39),(.cst (.int .i64 0)),(.cst (.int .i64 20))] [] []),m0 41 40,g0 42 41 true (.fld 5 (.tmp 1)),g0 43 41 true (.load false 1 (.tmp 42)),g0 44 41 true (.call 0 0 (.cst (.fn 119)) [(.tmp 43),(.cst (.int .i64 0)),(.cst (.int .i64 3))] [] []),o0 45 (.pick (.tmp 41) (.tmp 44) (.cst (.bool false))),m0 46 45,g0 47 46 true (.fld 6 (.tmp 1)),g0 48 46 true (.load false 1 (.tmp 47)),g0 49 46 true (.call 0 0 (.cst (.fn 107)) [(.tmp 48)] [] []),o0 50 (.pick (.tmp 46) (.tmp 49) (.cst (.bool false))),m0 51 50,g0 52 51 true (.fld 7 (.tmp 1)),g0 53 51 true (.load false 1 (.tmp 52)),g0 54 51 true (.call 0 0 (.cst (.fn 107)) [(.tmp 53)] [] []),o0 55 (.pick (.tmp 51) (.tmp 54) (.cst (.bool false))),m0 56 55,g0 57 56 true (.fld 6 (.tmp 1)),g0 58 56 true (.load false 1 (.tmp 57)),g0 59 56 true (.fld 7 (.tmp 1)),g0 60 56 true (.load false 1 (.tmp 59)),g0 61 56 true (.bin false .leq (.tmp 58) (.tmp 60)),o0 62 (.pick (.tmp 56) (.tmp 61) (.cst (.bool false))),m0 2 62]
def Bh3:AC:=(.seq (.ops Baw) (.seq (.seq (.ops Bax) (.cond (.tmp 24) (.seq (.ops Bay) (.keep [] [(2,false)] [] [.loc 1 0] [] .ret)) .skip)) (.seq (.seq (.ops Baz) (.cond (.tmp 37) (.seq (.ops Ba0) (.keep [] [(2,false)] [] [.loc 1 0] [] .ret)) .skip)) (.seq (.ops Ba1) (.keep [] [(2,false)] [] [.loc 1 0] [] .ret)))))
def Q77:Fd:=⟨1,[.tmp 2],[],Bh3⟩
theorem Avr:Bl Tryz.prog Tryz.f82 Q77=true:=by kernel_rfl
theorem S0{r1:Ad}{r:Bool}(h:Ig r1=some r):A3 Tryz.prog 82 [.pv (Ad.pv r1)] [] ⟨Vb r,[],[]⟩:=by
 refine Ap hm Tryz.func82 Avr (by kernel_rfl) ?_
 unfold Ig at h
 refine Ab Aw ?_
 refine Ae ?_
 obtain⟨x2,hx2,h⟩:=Ag h
 obtain⟨c3,hc3,h⟩:=Ag h
 obtain⟨x4,hx4,h⟩:=Ag h
 obtain⟨c5,hc5,h⟩:=Ag h
 obtain⟨x6,hx6,h⟩:=Ag h
 obtain⟨c7,hc7,h⟩:=Ag h
 obtain⟨x8,hx8,h⟩:=Ag h
 refine Ab (Bw 2 (Aj.cons (Tw (Rk hx2) Ax) (Kw 124 [] (Vb x2) Hw) (Bw 1 (Aj.dyn (Nw (!x2) c3 hc3) (Aj.puts 2 [(9,(Bf (!c3) (Vi r1.Ca))),(8,(Bf (!c3) (.ptr (.loc 1 0) 1)))] (by cases c3<;>kernel_rfl) (Aj.cons (Ci (on:=(!c3)) (fun hg=>Fp (Dj hg hx4)) Ax) (Bn (!c3) (by kernel_rfl) (by
    cases c3
    ·exact .inr ⟨by kernel_rfl,by kernel_rfl,Kw 119 [] (Vb x4) Hw⟩
    ·exact .inl ⟨by kernel_rfl,by kernel_rfl⟩)) (Aj.puts 2 [(12,Vb (c3||(!x4))),(11,(Bf (!c3) (Vb (!x4))))] (by cases c3<;>kernel_rfl) (Aj.dyn (Nw (c3||(!x4)) c5 hc5) (Aj.puts 2 [(15,(Bf (!c5) (Vi r1.Bb))),(14,(Bf (!c5) (.ptr (.loc 1 0) 2)))] (by cases c5<;>kernel_rfl) (Aj.cons (Ci (on:=(!c5)) (fun hg=>P3 (Dj hg hx6)) Ax) (Bn (!c5) (by kernel_rfl) (by
    cases c5
    ·exact .inr ⟨by kernel_rfl,by kernel_rfl,Kw 125 [] (Vb x6) Hw⟩
    ·exact .inl ⟨by kernel_rfl,by kernel_rfl⟩)) (Aj.puts 2 [(18,Vb (c5||(!x6))),(17,(Bf (!c5) (Vb (!x6))))] (by cases c5<;>kernel_rfl) (Aj.dyn (Nw (c5||(!x6)) c7 hc7) (Aj.puts 2 [(21,(Bf (!c7) (Vi r1.Bt))),(20,(Bf (!c7) (.ptr (.loc 1 0) 3)))] (by cases c7<;>kernel_rfl) (Aj.cons (Ci (on:=(!c7)) (fun hg=>Fp (Dj hg hx8)) Ax) (Bn (!c7) (by kernel_rfl) (by
    cases c7
    ·exact .inr ⟨by kernel_rfl,by kernel_rfl,Kw 119 [] (Vb x8) Hw⟩
    ·exact .inl ⟨by kernel_rfl,by kernel_rfl⟩)) (Aj.puts 2 [(24,Vb (c7||(!x8))),(23,(Bf (!c7) (Vb (!x8))))] (by cases c7<;>kernel_rfl) ((.nil _))))))))))))))))) ?_
 refine Ar (t:=(c7||(!x8))) (by kernel_rfl) h (fun hc h'=>?_) (fun hc h'=>?_)
 ·replace h:=h'
  refine Ae ?_
  refine Ab Aw ?_
  refine An rfl ?_
  cases h
  exact A8 Fw
 ·replace h:=h'
  refine Ay ?_
  refine Ae ?_
  obtain⟨c9,hc9,h⟩:=Ag h
  obtain⟨c10,hc10,h⟩:=Ag h
  refine Ab (Bw 3 (Aj.dyn (Nw (decide (r1.Ca≥2)) c9 hc9) (Aj.puts 3 [(31,(Bf c9 (Vb (r1.Bt !=0)))),(30,(Bf c9 (Vi r1.Bt))),(29,(Bf c9 (.ptr (.loc 1 0) 3)))] (by cases c9<;>kernel_rfl) (Aj.dyn (Bn c9 (by kernel_rfl) (by
     cases c9
     ·exact .inl ⟨by kernel_rfl,by kernel_rfl⟩
     ·exact .inr ⟨by kernel_rfl,by kernel_rfl,Nw (r1.Bt !=0) c10 hc10⟩)) (Aj.puts 5 [(37,Vb (c9&&(c10||(r1.Cq !=0)))),(36,(Bf c9 (Vb (c10||(r1.Cq !=0))))),(35,(Bf (c9&&(!c10)) (Vb (r1.Cq !=0)))),(34,(Bf (c9&&(!c10)) (Vi r1.Cq))),(33,(Bf (c9&&(!c10)) (.ptr (.loc 1 0) 4)))] (by cases c9<;>cases c10<;>kernel_rfl) ((.nil _))))))) ?_
  refine Ar (t:=(c9&&(c10||(r1.Cq !=0)))) (by kernel_rfl) h (fun hc h'=>?_) (fun hc h'=>?_)
  ·replace h:=h'
   refine Ae ?_
   refine Ab Aw ?_
   refine An rfl ?_
   cases h
   exact A8 Fw
  ·replace h:=h'
   refine Ay ?_
   obtain⟨x11,hx11,h⟩:=Ag h
   obtain⟨x12,hx12,h⟩:=Ag h
   obtain⟨c13,hc13,h⟩:=Ag h
   obtain⟨x14,hx14,h⟩:=Ag h
   obtain⟨c15,hc15,h⟩:=Ag h
   obtain⟨x16,hx16,h⟩:=Ag h
   obtain⟨c17,hc17,h⟩:=Ag h
   refine Ab (Bw 2 (Aj.cons (Tw (Fp hx11) Ax) (Kw 119 [] (Vb x11) Hw) (Bw 1 (Aj.puts 2 [(43,(Bf x11 (Vi r1.Dc))),(42,(Bf x11 (.ptr (.loc 1 0) 5)))] (by cases x11<;>kernel_rfl) (Aj.cons (Ci (on:=x11) (fun hg=>Fp (Dj hg hx12)) Ax) (Bn x11 (by kernel_rfl) (by
      cases x11
      ·exact .inl ⟨by kernel_rfl,by kernel_rfl⟩
      ·exact .inr ⟨by kernel_rfl,by kernel_rfl,Kw 119 [] (Vb x12) Hw⟩)) (Aj.puts 1 [(45,Vb (x11&&x12))] (by cases x11<;>kernel_rfl) (Aj.dyn (Nw (x11&&x12) c13 hc13) (Aj.puts 2 [(48,(Bf c13 (.pv (.int .i32 r1.Eu)))),(47,(Bf c13 (.ptr (.loc 1 0) 6)))] (by cases c13<;>kernel_rfl) (Aj.cons (Ci (on:=c13) (fun hg=>Ht (Dj hg hx14)) Ax) (Bn c13 (by kernel_rfl) (by
      cases c13
      ·exact .inl ⟨by kernel_rfl,by kernel_rfl⟩
      ·exact .inr ⟨by kernel_rfl,by kernel_rfl,Kw 107 [] (Vb x14) Hw⟩)) (Aj.puts 1 [(50,Vb (c13&&x14))] (by cases c13<;>kernel_rfl) (Aj.dyn (Nw (c13&&x14) c15 hc15) (Aj.puts 2 [(53,(Bf c15 (.pv (.int .i32 r1.Iu)))),(52,(Bf c15 (.ptr (.loc 1 0) 7)))] (by cases c15<;>kernel_rfl) (Aj.cons (Ci (on:=c15) (fun hg=>Ht (Dj hg hx16)) Ax) (Bn c15 (by kernel_rfl) (by
      cases c15
      ·exact .inl ⟨by kernel_rfl,by kernel_rfl⟩
      ·exact .inr ⟨by kernel_rfl,by kernel_rfl,Kw 107 [] (Vb x16) Hw⟩)) (Aj.puts 1 [(55,Vb (c15&&x16))] (by cases c15<;>kernel_rfl) (Aj.dyn (Nw (c15&&x16) c17 hc17) (Aj.puts 6 [(62,Vb (c17&&(decide (r1.Eu≤r1.Iu)))),(61,(Bf c17 (Vb (decide (r1.Eu≤r1.Iu))))),(60,(Bf c17 (.pv (.int .i32 r1.Iu)))),(59,(Bf c17 (.ptr (.loc 1 0) 7))),(58,(Bf c17 (.pv (.int .i32 r1.Eu)))),(57,(Bf c17 (.ptr (.loc 1 0) 6)))] (by cases c17<;>kernel_rfl) Aw)))))))))))))))) ?_
   refine W.keep rfl ?_
   cases h
   exact W.ret Fw
def Ba7:List GOp:=[o0 2 (.box (.tmp 0)),b0 3 false]
def Ba8:List GOp:=[f0 7 0 1,l0 8 1 7,f0 9 3 2,l0 10 1 9,o0 11 (.call 0 0 (.cst (.fn 81)) [(.tmp 8),(.tmp 10),(.cst (.fn 73))] [] []),m0 6 11,o0 12 (.ext 0 (.tmp 6)),o0 13 (.ext 1 (.tmp 6)),m0 4 12,m0 5 13]
def Ba9:List GOp:=[t0 14 8 2,o0 15 (.call 0 0 (.cst (.fn 82)) [(.tmp 14)] [] []),o0 16 (.un .not (.tmp 15)),m0 17 16,g0 18 17 false (.fld 3 (.tmp 2)),g0 19 17 false (.load false 1 (.tmp 18)),g0 20 17 false (.bin false .gtr (.tmp 19) (.cst (.int .i64 0))),g0 21 17 false (.mov (.tmp 20)),g0 22 21 true (.mov (.tmp 5)),g0 23 21 true (.un .not (.tmp 22)),g0 24 17 false (.pick (.tmp 21) (.tmp 23) (.cst (.bool false))),o0 25 (.pick (.tmp 17) (.cst (.bool true)) (.tmp 24)),m0 3 25]
def Bif:AC:=(.seq (.ops Ba7) (.seq (.ops Ba8) (.seq (.ops Ba9) (.keep [] [(3,false)] [(.ext 0,false)] [.loc 2 0] [] .ret))))
def Q80:Fd:=⟨2,[.tmp 3],[],Bif⟩
theorem Avu:Bl Tryz.prog Tryz.f80 Q80=true:=by kernel_rfl
theorem Ul{r1:Ad}{e2:A4}{r:Bool}(h:I0 r1 e2=some r):A3 Tryz.prog 80 [.pv (Ad.pv r1),.ptr (.ext 0) 0] [.box [Vl Ac.pv e2.As,Vl Ad.pv e2.Au]] ⟨Vb r,[],[(some (.box [Vl Ac.pv e2.As,Vl Ad.pv e2.Au]))]⟩:=by
 refine Ap hm Tryz.func80 Avu (by kernel_rfl) ?_
 unfold I0 at h
 refine Ab Aw ?_
 obtain⟨x3,hx3,h⟩:=Ag h
 refine Ab (Bw 4 (Aj.cons (Tw (Lq hx3) Ax) (Kw 81 [] (.tup [Vi x3.1,Vb x3.2]) Hw) Aw)) ?_
 obtain⟨x4,hx4,h⟩:=Ag h
 obtain⟨c5,hc5,h⟩:=Ag h
 obtain⟨c6,hc6,h⟩:=Ag h
 refine Ab (Bw 1 (Aj.cons (Tw (S0 hx4) Ax) (Kw 82 [] (Vb x4) Hw) (Bw 1 (Aj.dyn (Nw (!x4) c5 hc5) (Aj.puts 3 [(20,(Bf (!c5) (Vb (decide (r1.Bt>0))))),(19,(Bf (!c5) (Vi r1.Bt))),(18,(Bf (!c5) (.ptr (.loc 2 0) 3)))] (by cases c5<;>kernel_rfl) (Aj.dyn (Bn (!c5) (by kernel_rfl) (by
    cases c5
    ·exact .inr ⟨by kernel_rfl,by kernel_rfl,Nw (decide (r1.Bt>0)) c6 hc6⟩
    ·exact .inl ⟨by kernel_rfl,by kernel_rfl⟩)) (Aj.puts 4 [(25,Vb (c5||(c6&&(!x3.2)))),(24,(Bf (!c5) (Vb (c6&&(!x3.2))))),(23,(Bf ((!c5)&&c6) (Vb (!x3.2)))),(22,(Bf ((!c5)&&c6) (Vb x3.2)))] (by cases c5<;>cases c6<;>kernel_rfl) Aw))))))) ?_
 refine W.keep rfl ?_
 cases h
 exact W.ret Fw
def Bi1:List GOp:=[k0 4 0]
def Bi2:List GOp:=[m0 6 0,e0 7 6,k0 8 0]
def Bi3:List GOp:=[p0 9 .lss 8 7]
def Bi4:List GOp:=[m0 10 8,m0 5 10]
def Bi5:List GOp:=[m0 11 1,m0 12 0,m0 13 5,i0 14 8 12 13,t0 15 8 14,o0 16 (.call 0 2 (.tmp 11) [(.tmp 15)] [] [.ext 0])]
def Bi6:List GOp:=[m0 17 5,m0 4 17]
def Bi7:List GOp:=[q0 18 .add 8 1,m0 8 18]
def Bi0:AC:=(.keep [] [(0,false),(1,false),(7,false),(8,false)] [(.ext 0,false)] [] [] (.seq (.ops Bi3) (.seq (.cond (.tmp 9) .skip (.exit 0)) (.seq (.pass 1 (.seq (.ops Bi4) (.seq (.ops Bi5) (.cond (.tmp 16) (.seq (.ops Bi6) (.keep [] [(4,false)] [(.ext 0,false)] [] [] .ret)) .skip)))) (.ops Bi7)))))
def Bi8:List GOp:=[k0 4 (-1)]
def Q9b:AC:=(.seq (.ops Bi1) (.seq (.seq (.ops Bi2) (.block 0 (.loop [0,1,7,8] [] Bi0))) (.seq (.keep [] [] [(.ext 0,false)] [] [] (.ops Bi8)) (.keep [] [(4,false)] [(.ext 0,false)] [] [] .ret))))
def Q9:Fd:=⟨2,[.tmp 4],[],Q9b⟩
theorem Bdj:Bl Tryz.prog Tryz.f121 Q9=true:=by kernel_rfl
theorem Jk{s1:List Ad}{e2:A4}{r:Int}(h:D5 s1 e2=some r):A3 Tryz.prog 121 [Vl Ad.pv s1,.fn 80 [.ptr (.ext 0) 0]] [.box [Vl Ac.pv e2.As,Vl Ad.pv e2.Au]] ⟨Vi r,[],[(some (.box [Vl Ac.pv e2.As,Vl Ad.pv e2.Au]))]⟩:=by
 refine Ap hm Tryz.func121 Bdj (by kernel_rfl) ?_
 unfold D5 at h
 refine Ab Aw ?_
 refine Ae ?_
 refine Ab (Bw 1 (Aj.dyn (Lw Ad.pv s1) Aw)) ?_
 obtain⟨j3,hj3,h⟩:=Ag h
 refine Ck (j:=j3) (o:=r) (fun p σ=>σ.tidy [] [] [(.ext 0,false)] [] []=⟨[],[(.ext 0,.box [Vl Ac.pv e2.As,Vl Ad.pv e2.Au])]⟩) ?_ (fun p σj3 hp hsj3=>?_) (fun p hp=>?_)
 ·refine B1 (fun q σ=>((σ.forget [0,1,7,8]).killAll []).tidy [] [(0,false),(1,false),(7,false),(8,false)] [(.ext 0,false)] [] []=⟨[(0,Vl Ad.pv s1),(1,.fn 80 [.ptr (.ext 0) 0]),(7,Vi (s1.length:Int)),(8,Vi q)],[(.ext 0,.box [Vl Ac.pv e2.As,Vl Ad.pv e2.Au])]⟩) hj3 ?_ ?_
  ·show _=_
   kernel_rfl
  ·intro x4 σj3 oj3 hJj3 h
   refine W.keep hJj3 ?_
   refine Ab Aw ?_
   refine Ar (t:=decide (x4<(s1.length:Int))) (by kernel_rfl) h (fun hc h'=>?_) (fun hc h'=>?_)
   ·replace h:=h'
    refine Ay ?_
    refine Bs ?_
    refine Ae ?_
    refine Ab Aw ?_
    refine Ae ?_
    obtain⟨x5,hx5,h⟩:=Ag h
    obtain⟨x6,hx6,h⟩:=Ag h
    refine Ab (Bw 3 (Aj.dyn (Iw Ad.pv s1 x4 x5 hx5) (Bw 1 (Aj.cons (Tw (Ul hx6) Ax) (Cx (g:=80) (caps:=[.ptr (.ext 0) 0]) (v:=Vb x6) (ins:=[]) rfl (by kernel_rfl) (by kernel_rfl) (by kernel_rfl) Hw (by kernel_rfl) (by kernel_rfl)) ((.nil _)))))) ?_
    refine Ar (t:=x6) (by kernel_rfl) h (fun hc h'=>?_) (fun hc h'=>?_)
    ·replace h:=h'
     refine Ae ?_
     refine Ab Aw ?_
     refine An rfl ?_
     cases h
     exact A8 ((Bh Cd (Ed Cd Dh (fun e=>by subst e;exact Fw))))
    ·replace h:=h'
     refine Ay ?_
     refine W.ops Aw ?_
     cases h
     exact Ow
   ·replace h:=h'
    cases h
    exact Bp ((Bh B6 (Eh (by(show _=_);kernel_rfl))))
 ·subst hp
  obtain⟨⟩:=p
  refine An hsj3 ?_
  refine Ab Aw ?_
  refine W.keep rfl ?_
  cases h
  exact W.ret Fw
 ·subst hp
  exact Option.some.inj h
def Bhb:List GOp:=[b0 4 false]
def Bhc:List GOp:=[m0 5 0,m0 6 1,o0 7 (.call 0 2 (.cst (.fn 121)) [(.tmp 5),(.tmp 6)] [] [.ext 0]),q0 8 .geq 7 0,m0 4 8]
def Q5b:AC:=(.seq (.ops Bhb) (.seq (.ops Bhc) (.keep [] [(4,false)] [(.ext 0,false)] [] [] .ret)))
def Q5:Fd:=⟨2,[.tmp 4],[],Q5b⟩
theorem A8f:Bl Tryz.prog Tryz.f79 Q5=true:=by kernel_rfl
theorem Ix{s1:List Ad}{e2:A4}{r:Bool}(h:C3 s1 e2=some r):A3 Tryz.prog 79 [Vl Ad.pv s1,.fn 80 [.ptr (.ext 0) 0]] [.box [Vl Ac.pv e2.As,Vl Ad.pv e2.Au]] ⟨Vb r,[],[(some (.box [Vl Ac.pv e2.As,Vl Ad.pv e2.Au]))]⟩:=by
 refine Ap hm Tryz.func79 A8f (by kernel_rfl) ?_
 unfold C3 at h
 refine Ab Aw ?_
 obtain⟨x3,hx3,h⟩:=Ag h
 refine Ab (Bw 2 (Aj.cons (Tw (Jk hx3) Ax) (Cx (g:=121) (caps:=[]) (v:=Vi x3) (ins:=[]) rfl (by kernel_rfl) (by kernel_rfl) (by kernel_rfl) Hw (by kernel_rfl) (by kernel_rfl)) Aw)) ?_
 refine W.keep rfl ?_
 cases h
 exact W.ret Fw
def Bch:List GOp:=[o0 1 (.box (.tmp 0)),b0 2 false]
def Bci:List GOp:=[f0 3 0 1,l0 4 1 3,e0 5 4,q0 6 .gtr 5 100,m0 7 6,g0 8 7 false (.fld 1 (.tmp 1)),g0 9 7 false (.load false 1 (.tmp 8)),g0 10 7 false (.len false (.tmp 9)),g0 11 7 false (.bin false .gtr (.tmp 10) (.cst (.int .i64 200))),o0 12 (.pick (.tmp 7) (.cst (.bool true)) (.tmp 11)),m0 13 12,g0 14 13 false (.fld 0 (.tmp 1)),g0 15 13 false (.load false 1 (.tmp 14)),g0 16 13 false (.call 0 0 (.cst (.fn 72)) [(.tmp 15),(.cst (.fn 73))] [] []),g0 17 13 false (.un .not (.tmp 16)),o0 18 (.pick (.tmp 13) (.cst (.bool true)) (.tmp 17)),m0 19 18,g0 20 19 false (.fld 1 (.tmp 1)),g0 21 19 false (.load false 1 (.tmp 20)),g0 22 19 false (.call 0 0 (.cst (.fn 74)) [(.tmp 21),(.cst (.fn 75))] [] []),g0 23 19 false (.un .not (.tmp 22)),o0 24 (.pick (.tmp 19) (.cst (.bool true)) (.tmp 23))]
def Bcj:List GOp:=[b0 2 false]
def Bck:List GOp:=[f0 25 0 1,l0 26 1 25,o0 27 (.call 0 0 (.cst (.fn 76)) [(.tmp 26),(.cst (.fn 77))] [] [])]
def Bcl:List GOp:=[b0 2 false]
def Bcm:List GOp:=[f0 28 1 1,l0 29 1 28,o0 30 (.mkfn 80 [(.tmp 1)]),o0 31 (.call 0 2 (.cst (.fn 79)) [(.tmp 29),(.tmp 30)] [] [.loc 1 0]),o0 32 (.un .not (.tmp 31)),m0 2 32]
def Biu:AC:=(.seq (.ops Bch) (.seq (.seq (.ops Bci) (.cond (.tmp 24) (.seq (.ops Bcj) (.keep [] [(2,false)] [] [.loc 1 0] [] .ret)) .skip)) (.seq (.seq (.ops Bck) (.cond (.tmp 27) (.seq (.ops Bcl) (.keep [] [(2,false)] [] [.loc 1 0] [] .ret)) .skip)) (.seq (.ops Bcm) (.keep [] [(2,false)] [] [.loc 1 0] [] .ret)))))
def Q94:Fd:=⟨1,[.tmp 2],[],Biu⟩
theorem Awp:Bl Tryz.prog Tryz.f34 Q94=true:=by kernel_rfl
theorem P0{c1:A4}{r:Bool}(h:Ic c1=some r):A3 Tryz.prog 34 [.pv (A4.pv c1)] [] ⟨Vb r,[],[]⟩:=by
 refine Ap hm Tryz.func34 Awp (by kernel_rfl) ?_
 unfold Ic at h
 refine Ab Aw ?_
 refine Ae ?_
 obtain⟨c2,hc2,h⟩:=Ag h
 obtain⟨c3,hc3,h⟩:=Ag h
 obtain⟨x4,hx4,h⟩:=Ag h
 obtain⟨c5,hc5,h⟩:=Ag h
 obtain⟨x6,hx6,h⟩:=Ag h
 refine Ab (Bw 2 (Aj.dyn (Lw Ac.pv c1.As) (Bw 1 (Aj.dyn (Nw (decide ((c1.As.length:Int)>100)) c2 hc2) (Aj.puts 2 [(9,(Bf (!c2) (Vl Ad.pv c1.Au))),(8,(Bf (!c2) (.ptr (.loc 1 0) 1)))] (by cases c2<;>kernel_rfl) (Aj.dyn (Bn (!c2) (by kernel_rfl) (by
    cases c2
    ·exact .inr ⟨by kernel_rfl,by kernel_rfl,Lw Ad.pv c1.Au⟩
    ·exact .inl ⟨by kernel_rfl,by kernel_rfl⟩)) (Aj.puts 2 [(12,Vb (c2||(decide ((c1.Au.length:Int)>200)))),(11,(Bf (!c2) (Vb (decide ((c1.Au.length:Int)>200)))))] (by cases c2<;>kernel_rfl) (Aj.dyn (Nw (c2||(decide ((c1.Au.length:Int)>200))) c3 hc3) (Aj.puts 2 [(15,(Bf (!c3) (Vl Ac.pv c1.As))),(14,(Bf (!c3) (.ptr (.loc 1 0) 0)))] (by cases c3<;>kernel_rfl) (Aj.cons (Ci (on:=(!c3)) (fun hg=>Lr (Dj hg hx4)) Ax) (Bn (!c3) (by kernel_rfl) (by
    cases c3
    ·exact .inr ⟨by kernel_rfl,by kernel_rfl,Kw 72 [] (Vb x4) Hw⟩
    ·exact .inl ⟨by kernel_rfl,by kernel_rfl⟩)) (Aj.puts 2 [(18,Vb (c3||(!x4))),(17,(Bf (!c3) (Vb (!x4))))] (by cases c3<;>kernel_rfl) (Aj.dyn (Nw (c3||(!x4)) c5 hc5) (Aj.puts 2 [(21,(Bf (!c5) (Vl Ad.pv c1.Au))),(20,(Bf (!c5) (.ptr (.loc 1 0) 1)))] (by cases c5<;>kernel_rfl) (Aj.cons (Ci (on:=(!c5)) (fun hg=>Lb (Dj hg hx6)) Ax) (Bn (!c5) (by kernel_rfl) (by
    cases c5
    ·exact .inr ⟨by kernel_rfl,by kernel_rfl,Kw 74 [] (Vb x6) Hw⟩
    ·exact .inl ⟨by kernel_rfl,by kernel_rfl⟩)) (Aj.puts 2 [(24,Vb (c5||(!x6))),(23,(Bf (!c5) (Vb (!x6))))] (by cases c5<;>kernel_rfl) ((.nil _))))))))))))))))) ?_
 refine Ar (t:=(c5||(!x6))) (by kernel_rfl) h (fun hc h'=>?_) (fun hc h'=>?_)
 ·replace h:=h'
  refine Ae ?_
  refine Ab Aw ?_
  refine An rfl ?_
  cases h
  exact A8 Fw
 ·replace h:=h'
  refine Ay ?_
  refine Ae ?_
  obtain⟨x7,hx7,h⟩:=Ag h
  refine Ab (Bw 2 (Aj.cons (Tw (H0 hx7) Ax) (Kw 76 [] (Vb x7) Hw) ((.nil _)))) ?_
  refine Ar (t:=x7) (by kernel_rfl) h (fun hc h'=>?_) (fun hc h'=>?_)
  ·replace h:=h'
   refine Ae ?_
   refine Ab Aw ?_
   refine An rfl ?_
   cases h
   exact A8 Fw
  ·replace h:=h'
   refine Ay ?_
   obtain⟨x8,hx8,h⟩:=Ag h
   refine Ab (Bw 3 (Aj.cons (Tw (Ix hx8) Ax) (Cx (g:=79) (caps:=[]) (v:=Vb x8) (ins:=[]) rfl (by kernel_rfl) (by kernel_rfl) (by kernel_rfl) Hw (by kernel_rfl) (by kernel_rfl)) Aw)) ?_
   refine W.keep rfl ?_
   cases h
   exact W.ret Fw
def Ao9:List GOp:=[b0 2 false]
def Apa:List GOp:=[m0 3 0,q0 4 .geq 3 0,m0 5 4,g0 6 5 true (.mov (.tmp 0)),g0 7 5 true (.bin false .lss (.tmp 6) (.cst (.int .i64 4))),o0 8 (.pick (.tmp 5) (.tmp 7) (.cst (.bool false))),m0 2 8]
def Ayu:AC:=(.seq (.ops Ao9) (.seq (.ops Apa) (.keep [] [(2,false)] [] [] [] .ret)))
def Be0:Fd:=⟨1,[.tmp 2],[],Ayu⟩
theorem Ak0:Bl Tryz.prog Tryz.f130 Be0=true:=by kernel_rfl
theorem Ab7{cur1:Int}{r:Bool}(h:Tm cur1=some r):A3 Tryz.prog 130 [Vi cur1] [] ⟨Vb r,[],[]⟩:=by
 refine Ap hm Tryz.func130 Ak0 (by kernel_rfl) ?_
 unfold Tm at h
 refine Ab Aw ?_
 obtain⟨c2,hc2,h⟩:=Ag h
 refine Ab (Bw 2 (Aj.dyn (Nw (decide (cur1≥0)) c2 hc2) (Aj.puts 3 [(8,Vb (c2&&(decide (cur1<4)))),(7,(Bf c2 (Vb (decide (cur1<4))))),(6,(Bf c2 (Vi cur1)))] (by cases c2<;>kernel_rfl) Aw))) ?_
 refine W.keep rfl ?_
 cases h
 exact W.ret Fw
def Bcn:List GOp:=[o0 1 (.box (.tmp 0)),b0 2 false]
def Bco:List GOp:=[f0 3 0 1,l0 4 1 3,o0 5 (.call 0 0 (.cst (.fn 130)) [(.tmp 4)] [] []),m0 6 5,g0 7 6 true (.fld 1 (.tmp 1)),g0 8 6 true (.load false 1 (.tmp 7)),g0 9 6 true (.bin false .geq (.tmp 8) (.cst (.int .i64 (-1000000000000000)))),o0 10 (.pick (.tmp 6) (.tmp 9) (.cst (.bool false))),m0 11 10,g0 12 11 true (.fld 1 (.tmp 1)),g0 13 11 true (.load false 1 (.tmp 12)),g0 14 11 true (.bin false .leq (.tmp 13) (.cst (.int .i64 1000000000000000))),o0 15 (.pick (.tmp 11) (.tmp 14) (.cst (.bool false))),m0 2 15]
def Biv:AC:=(.seq (.ops Bcn) (.seq (.ops Bco) (.keep [] [(2,false)] [] [.loc 1 0] [] .ret)))
def Q95:Fd:=⟨1,[.tmp 2],[],Biv⟩
theorem Awq:Bl Tryz.prog Tryz.f99 Q95=true:=by kernel_rfl
theorem Qh{m1:A5}{r:Bool}(h:Jg m1=some r):A3 Tryz.prog 99 [.pv (A5.pv m1)] [] ⟨Vb r,[],[]⟩:=by
 refine Ap hm Tryz.func99 Awq (by kernel_rfl) ?_
 unfold Jg at h
 refine Ab Aw ?_
 obtain⟨x2,hx2,h⟩:=Ag h
 obtain⟨c3,hc3,h⟩:=Ag h
 refine Ab (Bw 2 (Aj.cons (Tw (Ab7 hx2) Ax) (Kw 130 [] (Vb x2) Hw) (Bw 1 (Aj.puts 4 [(10,Vb (x2&&(decide (m1.Ao≥(-1000000000000000))))),(9,(Bf x2 (Vb (decide (m1.Ao≥(-1000000000000000)))))),(8,(Bf x2 (Vi m1.Ao))),(7,(Bf x2 (.ptr (.loc 1 0) 1)))] (by cases x2<;>kernel_rfl) (Aj.dyn (Nw (x2&&(decide (m1.Ao≥(-1000000000000000)))) c3 hc3) (Aj.puts 4 [(15,Vb (c3&&(decide (m1.Ao≤1000000000000000)))),(14,(Bf c3 (Vb (decide (m1.Ao≤1000000000000000))))),(13,(Bf c3 (Vi m1.Ao))),(12,(Bf c3 (.ptr (.loc 1 0) 1)))] (by cases c3<;>kernel_rfl) Aw)))))) ?_
 refine W.keep rfl ?_
 cases h
 exact W.ret Fw
def Amw:List GOp:=[o0 1 (.box (.tmp 0)),b0 2 false]
def Amx:List GOp:=[f0 5 0 1,l0 6 1 5,q0 7 .geq 6 1,m0 8 7,g0 9 8 true (.fld 0 (.tmp 1)),g0 10 8 true (.load false 1 (.tmp 9)),g0 11 8 true (.bin false .leq (.tmp 10) (.cst (.int .i64 1000000))),o0 12 (.pick (.tmp 8) (.tmp 11) (.cst (.bool false))),m0 13 12,g0 14 13 true (.fld 1 (.tmp 1)),g0 15 13 true (.load false 1 (.tmp 14)),g0 16 13 true (.bin false .geq (.tmp 15) (.cst (.int .i64 1))),o0 17 (.pick (.tmp 13) (.tmp 16) (.cst (.bool false))),m0 18 17,g0 19 18 true (.fld 1 (.tmp 1)),g0 20 18 true (.load false 1 (.tmp 19)),g0 21 18 true (.bin false .leq (.tmp 20) (.cst (.int .i64 999))),o0 22 (.pick (.tmp 18) (.tmp 21) (.cst (.bool false))),m0 23 22,g0 24 23 true (.fld 4 (.tmp 1)),g0 25 23 true (.load false 1 (.tmp 24)),g0 26 23 true (.bin false .geq (.tmp 25) (.cst (.int .i64 0))),o0 27 (.pick (.tmp 23) (.tmp 26) (.cst (.bool false))),m0 28 27,g0 29 28 true (.fld 4 (.tmp 1)),g0 30 28 true (.load false 1 (.tmp 29)),g0 31 28 true (.bin false .leq (.tmp 30) (.cst (.int .i64 9))),o0 32 (.pick (.tmp 28) (.tmp 31) (.cst (.bool false))),m0 3 32]
def Amy:List GOp:=[f0 33 2 1,t0 34 2 33,o0 35 (.call 0 0 (.cst (.fn 99)) [(.tmp 34)] [] []),m0 36 35,g0 37 36 true (.fld 2 (.tmp 1)),g0 38 36 true (.fld 1 (.tmp 37)),g0 39 36 true (.load false 1 (.tmp 38)),g0 40 36 true (.bin false .gtr (.tmp 39) (.cst (.int .i64 0))),o0 41 (.pick (.tmp 36) (.tmp 40) (.cst (.bool false))),m0 42 41,g0 43 42 true (.fld 7 (.tmp 1)),g0 44 42 true (.load false 1 (.tmp 43)),g0 45 42 true (.bin false .geq (.tmp 44) (.cst (.int .i64 0))),o0 46 (.pick (.tmp 42) (.tmp 45) (.cst (.bool false))),m0 47 46,g0 48 47 true (.fld 7 (.tmp 1)),g0 49 47 true (.load false 1 (.tmp 48)),g0 50 47 true (.fld 2 (.tmp 1)),g0 51 47 true (.fld 1 (.tmp 50)),g0 52 47 true (.load false 1 (.tmp 51)),g0 53 47 true (.bin false .leq (.tmp 49) (.tmp 52)),o0 54 (.pick (.tmp 47) (.tmp 53) (.cst (.bool false))),m0 4 54]
def Amz:List GOp:=[m0 55 3,m0 56 55,g0 57 56 true (.mov (.tmp 4)),o0 58 (.pick (.tmp 56) (.tmp 57) (.cst (.bool false))),m0 59 58,g0 60 59 true (.fld 5 (.tmp 1)),g0 61 59 true (.load false 1 (.tmp 60)),g0 62 59 true (.call 0 0 (.cst (.fn 107)) [(.tmp 61)] [] []),o0 63 (.pick (.tmp 59) (.tmp 62) (.cst (.bool false))),m0 64 63,g0 65 64 true (.fld 6 (.tmp 1)),g0 66 64 true (.load false 1 (.tmp 65)),g0 67 64 true (.call 0 0 (.cst (.fn 107)) [(.tmp 66)] [] []),o0 68 (.pick (.tmp 64) (.tmp 67) (.cst (.bool false))),m0 69 68,g0 70 69 true (.fld 5 (.tmp 1)),g0 71 69 true (.load false 1 (.tmp 70)),g0 72 69 true (.fld 6 (.tmp 1)),g0 73 69 true (.load false 1 (.tmp 72)),g0 74 69 true (.bin false .leq (.tmp 71) (.tmp 73)),o0 75 (.pick (.tmp 69) (.tmp 74) (.cst (.bool false))),m0 2 75]
def Ayg:AC:=(.seq (.ops Amw) (.seq (.ops Amx) (.seq (.ops Amy) (.seq (.ops Amz) (.keep [] [(2,false)] [] [.loc 1 0] [] .ret)))))
def Ben:Fd:=⟨1,[.tmp 2],[],Ayg⟩
theorem Ajx:Bl Tryz.prog Tryz.f84 Ben=true:=by kernel_rfl
theorem Nd{h1:Aa}{r:Bool}(h:Ja h1=some r):A3 Tryz.prog 84 [.pv (Aa.pv h1)] [] ⟨Vb r,[],[]⟩:=by
 refine Ap hm Tryz.func84 Ajx (by kernel_rfl) ?_
 unfold Ja at h
 refine Ab Aw ?_
 obtain⟨c2,hc2,h⟩:=Ag h
 obtain⟨c3,hc3,h⟩:=Ag h
 obtain⟨c4,hc4,h⟩:=Ag h
 obtain⟨c5,hc5,h⟩:=Ag h
 obtain⟨c6,hc6,h⟩:=Ag h
 refine Ab (Bw 3 (Aj.dyn (Nw (decide (h1.Bc≥1)) c2 hc2) (Aj.puts 4 [(12,Vb (c2&&(decide (h1.Bc≤1000000)))),(11,(Bf c2 (Vb (decide (h1.Bc≤1000000))))),(10,(Bf c2 (Vi h1.Bc))),(9,(Bf c2 (.ptr (.loc 1 0) 0)))] (by cases c2<;>kernel_rfl) (Aj.dyn (Nw (c2&&(decide (h1.Bc≤1000000))) c3 hc3) (Aj.puts 4 [(17,Vb (c3&&(decide (h1.Az≥1)))),(16,(Bf c3 (Vb (decide (h1.Az≥1))))),(15,(Bf c3 (Vi h1.Az))),(14,(Bf c3 (.ptr (.loc 1 0) 1)))] (by cases c3<;>kernel_rfl) (Aj.dyn (Nw (c3&&(decide (h1.Az≥1))) c4 hc4) (Aj.puts 4 [(22,Vb (c4&&(decide (h1.Az≤999)))),(21,(Bf c4 (Vb (decide (h1.Az≤999))))),(20,(Bf c4 (Vi h1.Az))),(19,(Bf c4 (.ptr (.loc 1 0) 1)))] (by cases c4<;>kernel_rfl) (Aj.dyn (Nw (c4&&(decide (h1.Az≤999))) c5 hc5) (Aj.puts 4 [(27,Vb (c5&&(decide (h1.A9≥0)))),(26,(Bf c5 (Vb (decide (h1.A9≥0))))),(25,(Bf c5 (Vi h1.A9))),(24,(Bf c5 (.ptr (.loc 1 0) 4)))] (by cases c5<;>kernel_rfl) (Aj.dyn (Nw (c5&&(decide (h1.A9≥0))) c6 hc6) (Aj.puts 4 [(32,Vb (c6&&(decide (h1.A9≤9)))),(31,(Bf c6 (Vb (decide (h1.A9≤9))))),(30,(Bf c6 (Vi h1.A9))),(29,(Bf c6 (.ptr (.loc 1 0) 4)))] (by cases c6<;>kernel_rfl) Aw))))))))))) ?_
 obtain⟨x7,hx7,h⟩:=Ag h
 obtain⟨c8,hc8,h⟩:=Ag h
 obtain⟨c9,hc9,h⟩:=Ag h
 refine Ab (Bw 2 (Aj.cons (Tw (Qh hx7) Ax) (Kw 99 [] (Vb x7) Hw) (Bw 1 (Aj.puts 5 [(41,Vb (x7&&(decide (h1.Ak.Ao>0)))),(40,(Bf x7 (Vb (decide (h1.Ak.Ao>0))))),(39,(Bf x7 (Vi h1.Ak.Ao))),(38,(Bf x7 (.ptr (.loc 1 0) 3))),(37,(Bf x7 (.ptr (.loc 1 0) 2)))] (by cases x7<;>kernel_rfl) (Aj.dyn (Nw (x7&&(decide (h1.Ak.Ao>0))) c8 hc8) (Aj.puts 4 [(46,Vb (c8&&(decide (h1.Bo≥0)))),(45,(Bf c8 (Vb (decide (h1.Bo≥0))))),(44,(Bf c8 (Vi h1.Bo))),(43,(Bf c8 (.ptr (.loc 1 0) 7)))] (by cases c8<;>kernel_rfl) (Aj.dyn (Nw (c8&&(decide (h1.Bo≥0))) c9 hc9) (Aj.puts 7 [(54,Vb (c9&&(decide (h1.Bo≤h1.Ak.Ao)))),(53,(Bf c9 (Vb (decide (h1.Bo≤h1.Ak.Ao))))),(52,(Bf c9 (Vi h1.Ak.Ao))),(51,(Bf c9 (.ptr (.loc 1 0) 3))),(50,(Bf c9 (.ptr (.loc 1 0) 2))),(49,(Bf c9 (Vi h1.Bo))),(48,(Bf c9 (.ptr (.loc 1 0) 7)))] (by cases c9<;>kernel_rfl) Aw)))))))) ?_
 obtain⟨c10,hc10,h⟩:=Ag h
 obtain⟨c11,hc11,h⟩:=Ag h
 obtain⟨x12,hx12,h⟩:=Ag h
 obtain⟨c13,hc13,h⟩:=Ag h
 obtain⟨x14,hx14,h⟩:=Ag h
 obtain⟨c15,hc15,h⟩:=Ag h
 refine Ab (Bw 1 (Aj.dyn (Nw (c6&&(decide (h1.A9≤9))) c10 hc10) (Aj.puts 2 [(58,Vb (c10&&(c9&&(decide (h1.Bo≤h1.Ak.Ao))))),(57,(Bf c10 (Vb (c9&&(decide (h1.Bo≤h1.Ak.Ao))))))] (by cases c10<;>kernel_rfl) (Aj.dyn (Nw (c10&&(c9&&(decide (h1.Bo≤h1.Ak.Ao)))) c11 hc11) (Aj.puts 2 [(61,(Bf c11 (.pv (.int .i32 h1.B5)))),(60,(Bf c11 (.ptr (.loc 1 0) 5)))] (by cases c11<;>kernel_rfl) (Aj.cons (Ci (on:=c11) (fun hg=>Ht (Dj hg hx12)) Ax) (Bn c11 (by kernel_rfl) (by
    cases c11
    ·exact .inl ⟨by kernel_rfl,by kernel_rfl⟩
    ·exact .inr ⟨by kernel_rfl,by kernel_rfl,Kw 107 [] (Vb x12) Hw⟩)) (Aj.puts 1 [(63,Vb (c11&&x12))] (by cases c11<;>kernel_rfl) (Aj.dyn (Nw (c11&&x12) c13 hc13) (Aj.puts 2 [(66,(Bf c13 (.pv (.int .i32 h1.Cb)))),(65,(Bf c13 (.ptr (.loc 1 0) 6)))] (by cases c13<;>kernel_rfl) (Aj.cons (Ci (on:=c13) (fun hg=>Ht (Dj hg hx14)) Ax) (Bn c13 (by kernel_rfl) (by
    cases c13
    ·exact .inl ⟨by kernel_rfl,by kernel_rfl⟩
    ·exact .inr ⟨by kernel_rfl,by kernel_rfl,Kw 107 [] (Vb x14) Hw⟩)) (Aj.puts 1 [(68,Vb (c13&&x14))] (by cases c13<;>kernel_rfl) (Aj.dyn (Nw (c13&&x14) c15 hc15) (Aj.puts 6 [(75,Vb (c15&&(decide (h1.B5≤h1.Cb)))),(74,(Bf c15 (Vb (decide (h1.B5≤h1.Cb))))),(73,(Bf c15 (.pv (.int .i32 h1.Cb)))),(72,(Bf c15 (.ptr (.loc 1 0) 6))),(71,(Bf c15 (.pv (.int .i32 h1.B5)))),(70,(Bf c15 (.ptr (.loc 1 0) 5)))] (by cases c15<;>kernel_rfl) Aw))))))))))))) ?_
 refine W.keep rfl ?_
 cases h
 exact W.ret Fw
def Bbg:List GOp:=[o0 1 (.box (.tmp 0)),b0 2 false]
def Bbh:List GOp:=[t0 3 9 1,o0 4 (.call 0 0 (.cst (.fn 84)) [(.tmp 3)] [] []),o0 5 (.un .not (.tmp 4)),m0 2 5]
def Bij:AC:=(.seq (.ops Bbg) (.seq (.ops Bbh) (.keep [] [(2,false)] [] [.loc 1 0] [] .ret)))
def Q84:Fd:=⟨1,[.tmp 2],[],Bij⟩
theorem Avy:Bl Tryz.prog Tryz.f83 Q84=true:=by kernel_rfl
theorem Vr{h1:Aa}{r:Bool}(h:Lu h1=some r):A3 Tryz.prog 83 [.pv (Aa.pv h1)] [] ⟨Vb r,[],[]⟩:=by
 refine Ap hm Tryz.func83 Avy (by kernel_rfl) ?_
 unfold Lu at h
 refine Ab Aw ?_
 obtain⟨x2,hx2,h⟩:=Ag h
 refine Ab (Bw 1 (Aj.cons (Tw (Nd hx2) Ax) (Kw 84 [] (Vb x2) Hw) Aw)) ?_
 refine W.keep rfl ?_
 cases h
 exact W.ret Fw
def Az9:List GOp:=[k0 4 0]
def A0a:List GOp:=[m0 6 0,e0 7 6,k0 8 0]
def A0b:List GOp:=[p0 9 .lss 8 7]
def A0c:List GOp:=[m0 10 8,m0 5 10]
def A0d:List GOp:=[m0 11 1,m0 12 0,m0 13 5,i0 14 9 12 13,t0 15 9 14,o0 16 (.call 0 0 (.tmp 11) [(.tmp 15)] [] [])]
def A0e:List GOp:=[m0 17 5,m0 4 17]
def A0f:List GOp:=[q0 18 .add 8 1,m0 8 18]
def Az8:AC:=(.keep [] [(0,false),(1,false),(7,false),(8,false)] [] [] [] (.seq (.ops A0b) (.seq (.cond (.tmp 9) .skip (.exit 0)) (.seq (.pass 1 (.seq (.ops A0c) (.seq (.ops A0d) (.cond (.tmp 16) (.seq (.ops A0e) (.keep [] [(4,false)] [] [] [] .ret)) .skip)))) (.ops A0f)))))
def A0g:List GOp:=[k0 4 (-1)]
def Bfb:AC:=(.seq (.ops Az9) (.seq (.seq (.ops A0a) (.block 0 (.loop [0,1,7,8] [] Az8))) (.seq (.keep [] [] [] [] [] (.ops A0g)) (.keep [] [(4,false)] [] [] [] .ret))))
def Q19:Fd:=⟨2,[.tmp 4],[],Bfb⟩
theorem Aq4:Bl Tryz.prog Tryz.f50 Q19=true:=by kernel_rfl
theorem Lh{s1:List Aa}{r:Int}(h:Ez s1=some r):A3 Tryz.prog 50 [Vl Aa.pv s1,.pv (.fn 83)] [] ⟨Vi r,[],[]⟩:=by
 refine Ap hm Tryz.func50 Aq4 (by kernel_rfl) ?_
 unfold Ez at h
 refine Ab Aw ?_
 refine Ae ?_
 refine Ab (Bw 1 (Aj.dyn (Lw Aa.pv s1) Aw)) ?_
 obtain⟨j2,hj2,h⟩:=Ag h
 refine Ck (j:=j2) (o:=r) (fun p σ=>σ.tidy [] [] [] [] []=⟨[],[]⟩) ?_ (fun p σj2 hp hsj2=>?_) (fun p hp=>?_)
 ·refine B1 (fun q σ=>((σ.forget [0,1,7,8]).killAll []).tidy [] [(0,false),(1,false),(7,false),(8,false)] [] [] []=⟨[(0,Vl Aa.pv s1),(1,.pv (.fn 83)),(7,Vi (s1.length:Int)),(8,Vi q)],[]⟩) hj2 ?_ ?_
  ·show _=_
   kernel_rfl
  ·intro x3 σj2 oj2 hJj2 h
   refine W.keep hJj2 ?_
   refine Ab Aw ?_
   refine Ar (t:=decide (x3<(s1.length:Int))) (by kernel_rfl) h (fun hc h'=>?_) (fun hc h'=>?_)
   ·replace h:=h'
    refine Ay ?_
    refine Bs ?_
    refine Ae ?_
    refine Ab Aw ?_
    refine Ae ?_
    obtain⟨x4,hx4,h⟩:=Ag h
    obtain⟨x5,hx5,h⟩:=Ag h
    refine Ab (Bw 3 (Aj.dyn (Iw Aa.pv s1 x3 x4 hx4) (Bw 1 (Aj.cons (Tw (Vr hx5) Ax) (Kw 83 [] (Vb x5) Hw) ((.nil _)))))) ?_
    refine Ar (t:=x5) (by kernel_rfl) h (fun hc h'=>?_) (fun hc h'=>?_)
    ·replace h:=h'
     refine Ae ?_
     refine Ab Aw ?_
     refine An rfl ?_
     cases h
     exact A8 ((Bh Cd (Ed Cd Dh (fun e=>by subst e;exact Fw))))
    ·replace h:=h'
     refine Ay ?_
     refine W.ops Aw ?_
     cases h
     exact Ow
   ·replace h:=h'
    cases h
    exact Bp ((Bh B6 (Eh (by(show _=_);kernel_rfl))))
 ·subst hp
  obtain⟨⟩:=p
  refine An hsj2 ?_
  refine Ab Aw ?_
  refine W.keep rfl ?_
  cases h
  exact W.ret Fw
 ·subst hp
  exact Option.some.inj h
def Aym:List GOp:=[b0 4 false]
def Ayn:List GOp:=[m0 5 0,m0 6 1,o0 7 (.call 0 0 (.cst (.fn 50)) [(.tmp 5),(.tmp 6)] [] []),q0 8 .geq 7 0,m0 4 8]
def Bet:AC:=(.seq (.ops Aym) (.seq (.ops Ayn) (.keep [] [(4,false)] [] [] [] .ret)))
def Q10:Fd:=⟨2,[.tmp 4],[],Bet⟩
theorem An1:Bl Tryz.prog Tryz.f85 Q10=true:=by kernel_rfl
theorem Jz{s1:List Aa}{r:Bool}(h:Dm s1=some r):A3 Tryz.prog 85 [Vl Aa.pv s1,.pv (.fn 83)] [] ⟨Vb r,[],[]⟩:=by
 refine Ap hm Tryz.func85 An1 (by kernel_rfl) ?_
 unfold Dm at h
 refine Ab Aw ?_
 obtain⟨x2,hx2,h⟩:=Ag h
 refine Ab (Bw 2 (Aj.cons (Tw (Lh hx2) Ax) (Kw 50 [] (Vi x2) Hw) Aw)) ?_
 refine W.keep rfl ?_
 cases h
 exact W.ret Fw
def Am1:List GOp:=[k0 2 0]
def Am2:List GOp:=[o0 3 (.mov (.cst (.fn 83)))]
def Am3:List GOp:=[m0 5 0,m0 6 3,o0 7 (.call 0 0 (.cst (.fn 85)) [(.tmp 5),(.tmp 6)] [] [])]
def Am4:List GOp:=[k0 2 1]
def Am5:List GOp:=[k0 4 1]
def Am6:List GOp:=[m0 8 4,m0 9 0,e0 10 9,p0 11 .lss 8 10]
def Am7:List GOp:=[m0 14 0,m0 15 4,q0 16 .sub 15 1,i0 17 9 14 16,f0 18 0 17,l0 19 1 18,m0 20 0,m0 21 4,i0 22 9 20 21,f0 23 0 22,l0 24 1 23,p0 25 .geq 19 24]
def Am8:List GOp:=[k0 2 20]
def Am9:List GOp:=[m0 12 4,q0 13 .add 12 1,m0 4 13]
def Am0:AC:=(.keep [] [(0,false),(4,false)] [] [] [] (.seq (.seq (.ops Am6) (.cond (.tmp 11) .skip (.exit 0))) (.seq (.pass 1 (.seq (.draw [] Am7) (.cond (.tmp 25) (.seq (.ops Am8) (.keep [] [(2,false)] [] [] [] .ret)) .skip))) (.ops Am9))))
def Ajz:List GOp:=[m0 26 0,e0 27 26,q0 28 .gtr 27 200]
def Aj0:List GOp:=[k0 2 6]
def Aj1:List GOp:=[k0 2 0]
def Ayh:AC:=(.seq (.ops Am1) (.seq (.ops Am2) (.seq (.seq (.ops Am3) (.cond (.tmp 7) (.seq (.ops Am4) (.keep [] [(2,false)] [] [] [] .ret)) .skip)) (.seq (.seq (.ops Am5) (.block 0 (.loop [0,4] [] Am0))) (.seq (.seq (.keep [] [(0,false)] [] [] [] (.ops Ajz)) (.cond (.tmp 28) (.seq (.ops Aj0) (.keep [] [(2,false)] [] [] [] .ret)) .skip)) (.seq (.ops Aj1) (.keep [] [(2,false)] [] [] [] .ret)))))))
def Beo:Fd:=⟨1,[.tmp 2],[],Ayh⟩
theorem Ajy:Bl Tryz.prog Tryz.f35 Beo=true:=by kernel_rfl
theorem Hv{l1:List Aa}{r:Int}(h:Ho l1=some r):A3 Tryz.prog 35 [Vl Aa.pv l1] [] ⟨Vi r,[],[]⟩:=by
 refine Ap hm Tryz.func35 Ajy (by kernel_rfl) ?_
 unfold Ho at h
 refine Ab Aw ?_
 refine Ab Aw ?_
 refine Ae ?_
 obtain⟨x2,hx2,h⟩:=Ag h
 refine Ab (Bw 2 (Aj.cons (Tw (Jz hx2) Ax) (Kw 85 [] (Vb x2) Hw) ((.nil _)))) ?_
 refine Ar (t:=x2) (by kernel_rfl) h (fun hc h'=>?_) (fun hc h'=>?_)
 ·replace h:=h'
  refine Ae ?_
  refine Ab Aw ?_
  refine An rfl ?_
  cases h
  exact A8 Fw
 ·replace h:=h'
  refine Ay ?_
  refine Ae ?_
  refine Ab Aw ?_
  obtain⟨j3,hj3,h⟩:=Ag h
  refine Ck (j:=j3) (o:=r) (fun p σ=>σ.tidy [] [(0,false)] [] [] []=⟨[(0,Vl Aa.pv l1)],[]⟩) ?_ (fun p σj3 hp hsj3=>?_) (fun p hp=>?_)
  ·refine B1 (fun q σ=>((σ.forget [0,4]).killAll []).tidy [] [(0,false),(4,false)] [] [] []=⟨[(0,Vl Aa.pv l1),(4,Vi q)],[]⟩) hj3 ?_ ?_
   ·show _=_
    kernel_rfl
   ·intro i4 σj3 oj3 hJj3 h
    refine W.keep hJj3 ?_
    refine Ae ?_
    refine Ab (Bw 2 (Aj.dyn (Lw Aa.pv l1) Aw)) ?_
    refine Ar (t:=decide (i4<(l1.length:Int))) (by kernel_rfl) h (fun hc h'=>?_) (fun hc h'=>?_)
    ·replace h:=h'
     refine Ay ?_
     refine Bs ?_
     refine Ae ?_
     obtain⟨x5,hx5,h⟩:=Ag h
     obtain⟨x6,hx6,h⟩:=Ag h
     refine Bx Ax (Dw 3 (Run.dyn (Iw Aa.pv l1 (IntKind.wrap .i64 (i4-1)) x5 hx5) (Dw 4 (Run.dyn (Iw Aa.pv l1 i4 x6 hx6) Cw)))) ?_
     refine Ar (t:=decide (x5.Bc≥x6.Bc)) (by kernel_rfl) h (fun hc h'=>?_) (fun hc h'=>?_)
     ·replace h:=h'
      refine Ae ?_
      refine Ab Aw ?_
      refine An rfl ?_
      cases h
      exact A8 ((Bh Cd (Ed Cd Dh (fun e=>by subst e;exact Fw))))
     ·replace h:=h'
      refine Ay ?_
      refine W.ops Aw ?_
      cases h
      exact Ow
    ·replace h:=h'
     cases h
     exact Bp ((Bh B6 (Eh (by(show _=_);kernel_rfl))))
  ·subst hp
   obtain⟨⟩:=p
   refine Ae ?_
   refine An hsj3 ?_
   refine Ab (Bw 1 (Aj.dyn (Lw Aa.pv l1) Aw)) ?_
   refine Ar (t:=decide ((l1.length:Int)>200)) (by kernel_rfl) h (fun hc h'=>?_) (fun hc h'=>?_)
   ·replace h:=h'
    refine Ae ?_
    refine Ab Aw ?_
    refine An rfl ?_
    cases h
    exact A8 Fw
   ·replace h:=h'
    refine Ay ?_
    refine Ab Aw ?_
    refine W.keep rfl ?_
    cases h
    exact W.ret Fw
  ·subst hp
   exact Option.some.inj h
def Bcq:List GOp:=[o0 1 (.box (.tmp 0)),b0 2 false]
def Bcr:List GOp:=[f0 5 4 1,l0 6 1 5,e0 7 6,k0 8 0]
def Bcs:List GOp:=[p0 9 .lss 8 7]
def Bct:List GOp:=[m0 10 8,i0 11 2 6 8,t0 12 2 11,o0 4 (.alloc [.pv (.int .i64 0),.pv (.int .i64 0)]),m0 3 10,s0 2 4 12]
def Bcu:List GOp:=[f0 13 0 4,l0 14 1 13,o0 15 (.call 0 0 (.cst (.fn 33)) [(.tmp 14),(.cst (.int .i64 1)),(.cst (.int .i64 999))] [] []),o0 16 (.un .not (.tmp 15)),m0 17 16,g0 18 17 false (.fld 1 (.tmp 4)),g0 19 17 false (.load false 1 (.tmp 18)),g0 20 17 false (.call 0 0 (.cst (.fn 32)) [(.tmp 19),(.cst (.int .i64 0)),(.cst (.int .i64 1000000000000000))] [] []),g0 21 17 false (.un .not (.tmp 20)),o0 22 (.pick (.tmp 17) (.cst (.bool true)) (.tmp 21)),m0 23 22,g0 24 23 false (.mov (.tmp 3)),g0 25 23 false (.bin false .gtr (.tmp 24) (.cst (.int .i64 0))),g0 26 23 false (.mov (.tmp 25)),g0 27 26 true (.fld 4 (.tmp 1)),g0 28 26 true (.load false 1 (.tmp 27)),g0 29 26 true (.mov (.tmp 3)),g0 30 26 true (.bin false .sub (.tmp 29) (.cst (.int .i64 1))),g0 31 26 true (.idx 2 (.tmp 28) (.tmp 30)),g0 32 26 true (.fld 0 (.tmp 31)),g0 33 26 true (.load false 1 (.tmp 32)),g0 34 26 true (.fld 0 (.tmp 4)),g0 35 26 true (.load false 1 (.tmp 34)),g0 36 26 true (.bin false .geq (.tmp 33) (.tmp 35)),g0 37 23 false (.pick (.tmp 26) (.tmp 36) (.cst (.bool false))),o0 38 (.pick (.tmp 23) (.cst (.bool true)) (.tmp 37))]
def Bcv:List GOp:=[b0 2 false]
def Bcw:List GOp:=[q0 39 .add 8 1,m0 8 39]
def Bcp:AC:=(.keep [] [(1,false),(6,false),(7,false),(8,false)] [(.loc 1 0,false)] [.loc 4 0] [] (.seq (.ops Bcs) (.seq (.cond (.tmp 9) .skip (.exit 0)) (.seq (.pass 1 (.seq (.ops Bct) (.seq (.draw [] Bcu) (.cond (.tmp 38) (.seq (.ops Bcv) (.keep [] [(2,false)] [] [.loc 1 0,.loc 4 0] [] .ret)) .skip)))) (.ops Bcw)))))
def Bcx:List GOp:=[f0 40 0 1,t0 41 2 40,o0 42 (.call 0 0 (.cst (.fn 34)) [(.tmp 41)] [] []),m0 43 42,g0 44 43 true (.fld 2 (.tmp 1)),g0 45 43 true (.load false 1 (.tmp 44)),g0 46 43 true (.len false (.tmp 45)),g0 47 43 true (.bin false .leq (.tmp 46) (.cst (.int .i64 2000))),o0 48 (.pick (.tmp 43) (.tmp 47) (.cst (.bool false))),m0 49 48,g0 50 49 true (.fld 3 (.tmp 1)),g0 51 49 true (.load false 1 (.tmp 50)),g0 52 49 true (.call 0 0 (.cst (.fn 35)) [(.tmp 51)] [] []),g0 53 49 true (.bin false .eql (.tmp 52) (.cst (.int .i64 0))),o0 54 (.pick (.tmp 49) (.tmp 53) (.cst (.bool false))),m0 55 54,g0 56 55 true (.fld 4 (.tmp 1)),g0 57 55 true (.load false 1 (.tmp 56)),g0 58 55 true (.len false (.tmp 57)),g0 59 55 true (.bin false .leq (.tmp 58) (.cst (.int .i64 200))),o0 60 (.pick (.tmp 55) (.tmp 59) (.cst (.bool false))),m0 2 60]
def Biw:AC:=(.seq (.ops Bcq) (.seq (.seq (.ops Bcr) (.block 0 (.loop [1,6,7,8] [] Bcp))) (.seq (.keep [] [(1,false)] [(.loc 1 0,false)] [] [] (.ops Bcx)) (.keep [] [(2,false)] [] [.loc 1 0,.loc 4 0] [] .ret))))
def Q96:Fd:=⟨1,[.tmp 2],[],Biw⟩
theorem Awr:Bl Tryz.prog Tryz.f11 Q96=true:=by kernel_rfl
theorem Me{t1:Ah}{r:Bool}(h:Gm t1=some r):A3 Tryz.prog 11 [.pv (Ah.pv t1)] [] ⟨Vb r,[],[]⟩:=by
 refine Ap hm Tryz.func11 Awr (by kernel_rfl) ?_
 unfold Gm at h
 refine Ab Aw ?_
 refine Ae ?_
 refine Ab (Bw 2 (Aj.dyn (Lw Al.pv t1.A6) Aw)) ?_
 obtain⟨j2,hj2,h⟩:=Ag h
 refine Ck (j:=j2) (o:=r) (fun p σ=>σ.tidy [] [(1,false)] [(.loc 1 0,false)] [] []=⟨[(1,.ptr (.loc 1 0) 0)],[(.loc 1 0,.box [Vl Ac.pv t1.Bk.As,Vl Ad.pv t1.Bk.Au,Vl Af.pv t1.Fl,Vl Aa.pv t1.A7,Vl Al.pv t1.A6])]⟩) ?_ (fun p σj2 hp hsj2=>?_) (fun p hp=>?_)
 ·refine B1 (fun q σ=>((σ.forget [1,6,7,8]).killAll []).tidy [] [(1,false),(6,false),(7,false),(8,false)] [(.loc 1 0,false)] [.loc 4 0] []=⟨[(1,.ptr (.loc 1 0) 0),(6,Vl Al.pv t1.A6),(7,Vi (t1.A6.length:Int)),(8,Vi q)],[(.loc 1 0,.box [Vl Ac.pv t1.Bk.As,Vl Ad.pv t1.Bk.Au,Vl Af.pv t1.Fl,Vl Aa.pv t1.A7,Vl Al.pv t1.A6])]⟩) hj2 ?_ ?_
  ·show _=_
   kernel_rfl
  ·intro x3 σj2 oj2 hJj2 h
   refine W.keep hJj2 ?_
   refine Ab Aw ?_
   refine Ar (t:=decide (x3<(t1.A6.length:Int))) (by kernel_rfl) h (fun hc h'=>?_) (fun hc h'=>?_)
   ·replace h:=h'
    refine Ay ?_
    refine Bs ?_
    refine Ae ?_
    obtain⟨x4,hx4,h⟩:=Ag h
    refine Ab (Bw 1 (Aj.dyn (Iw Al.pv t1.A6 x3 x4 hx4) Aw)) ?_
    refine Ae ?_
    obtain⟨x5,hx5,h⟩:=Ag h
    obtain⟨c6,hc6,h⟩:=Ag h
    obtain⟨x7,hx7,h⟩:=Ag h
    obtain⟨c8,hc8,h⟩:=Ag h
    obtain⟨c9,hc9,h⟩:=Ag h
    obtain⟨x10,hx10,h⟩:=Ag h
    refine Bx (Tw (Rh hx5) (Ci (on:=(!c6)) (fun hg=>Sz (Dj hg hx7)) Ax)) (Dw 2 (Run.dyn (Kw 33 [] (Vb x5) Hw) (Dw 1 (Run.dyn (Nw (!x5) c6 hc6) (Run.puts 2 [(19,(Bf (!c6) (Vi x4.Ao))),(18,(Bf (!c6) (.ptr (.loc 4 0) 1)))] (by cases c6<;>kernel_rfl) (Run.dyn (Bn (!c6) (by kernel_rfl) (by
       cases c6
       ·exact .inr ⟨by kernel_rfl,by kernel_rfl,Kw 32 [] (Vb x7) (Ek rfl Hw)⟩
       ·exact .inl ⟨by kernel_rfl,by kernel_rfl⟩)) (Run.puts 2 [(22,Vb (c6||(!x7))),(21,(Bf (!c6) (Vb (!x7))))] (by cases c6<;>kernel_rfl) (Run.dyn (Nw (c6||(!x7)) c8 hc8) (Run.puts 2 [(25,(Bf (!c8) (Vb (decide (x3>0))))),(24,(Bf (!c8) (Vi x3)))] (by cases c8<;>kernel_rfl) (Run.dyn (Bn (!c8) (by kernel_rfl) (by
       cases c8
       ·exact .inr ⟨by kernel_rfl,by kernel_rfl,Nw (decide (x3>0)) c9 hc9⟩
       ·exact .inl ⟨by kernel_rfl,by kernel_rfl⟩)) (Run.puts 4 [(30,(Bf ((!c8)&&c9) (Vi (IntKind.wrap .i64 (x3-1))))),(29,(Bf ((!c8)&&c9) (Vi x3))),(28,(Bf ((!c8)&&c9) (Vl Al.pv t1.A6))),(27,(Bf ((!c8)&&c9) (.ptr (.loc 1 0) 4)))] (by cases c8<;>cases c9<;>kernel_rfl) (Run.dyn (Bn ((!c8)&&c9) (by kernel_rfl) (by
       cases c8
       ·cases c9
        ·exact .inl ⟨by kernel_rfl,by kernel_rfl⟩
        ·exact .inr ⟨by kernel_rfl,by kernel_rfl,Iw Al.pv t1.A6 (IntKind.wrap .i64 (x3-1)) x10 hx10⟩
       ·cases c9
        ·exact .inl ⟨by kernel_rfl,by kernel_rfl⟩
        ·exact .inl ⟨by kernel_rfl,by kernel_rfl⟩)) (Run.puts 7 [(38,Vb (c8||(c9&&(decide (x10.Az≥x4.Az))))),(37,(Bf (!c8) (Vb (c9&&(decide (x10.Az≥x4.Az)))))),(36,(Bf ((!c8)&&c9) (Vb (decide (x10.Az≥x4.Az))))),(35,(Bf ((!c8)&&c9) (Vi x4.Az))),(34,(Bf ((!c8)&&c9) (.ptr (.loc 4 0) 0))),(33,(Bf ((!c8)&&c9) (Vi x10.Az))),(32,(Bf ((!c8)&&c9) (.ipv (Al.pv x10) 0)))] (by cases c8<;>cases c9<;>kernel_rfl) ((Run.nil))))))))))))))) ?_
    refine Ar (t:=(c8||(c9&&(decide (x10.Az≥x4.Az))))) (by kernel_rfl) h (fun hc h'=>?_) (fun hc h'=>?_)
    ·replace h:=h'
     refine Ae ?_
     refine Ab Aw ?_
     refine An rfl ?_
     cases h
     exact A8 ((Bh Cd (Ed Cd Dh (fun e=>by subst e;exact Fw))))
    ·replace h:=h'
     refine Ay ?_
     refine W.ops Aw ?_
     cases h
     exact Ow
   ·replace h:=h'
    cases h
    exact Bp ((Bh B6 (Eh (by(show _=_);kernel_rfl))))
 ·subst hp
  obtain⟨⟩:=p
  refine An hsj2 ?_
  obtain⟨x11,hx11,h⟩:=Ag h
  obtain⟨c12,hc12,h⟩:=Ag h
  obtain⟨x13,hx13,h⟩:=Ag h
  obtain⟨c14,hc14,h⟩:=Ag h
  refine Ab (Bw 2 (Aj.cons (Tw (P0 hx11) Ax) (Kw 34 [] (Vb x11) Hw) (Bw 1 (Aj.puts 2 [(45,(Bf x11 (Vl Af.pv t1.Fl))),(44,(Bf x11 (.ptr (.loc 1 0) 2)))] (by cases x11<;>kernel_rfl) (Aj.dyn (Bn x11 (by kernel_rfl) (by
     cases x11
     ·exact .inl ⟨by kernel_rfl,by kernel_rfl⟩
     ·exact .inr ⟨by kernel_rfl,by kernel_rfl,Lw Af.pv t1.Fl⟩)) (Aj.puts 2 [(48,Vb (x11&&(decide ((t1.Fl.length:Int)≤2000)))),(47,(Bf x11 (Vb (decide ((t1.Fl.length:Int)≤2000)))))] (by cases x11<;>kernel_rfl) (Aj.dyn (Nw (x11&&(decide ((t1.Fl.length:Int)≤2000))) c12 hc12) (Aj.puts 2 [(51,(Bf c12 (Vl Aa.pv t1.A7))),(50,(Bf c12 (.ptr (.loc 1 0) 3)))] (by cases c12<;>kernel_rfl) (Aj.cons (Ci (on:=c12) (fun hg=>Hv (Dj hg hx13)) Ax) (Bn c12 (by kernel_rfl) (by
     cases c12
     ·exact .inl ⟨by kernel_rfl,by kernel_rfl⟩
     ·exact .inr ⟨by kernel_rfl,by kernel_rfl,Kw 35 [] (Vi x13) Hw⟩)) (Aj.puts 2 [(54,Vb (c12&&(x13==0))),(53,(Bf c12 (Vb (x13==0))))] (by cases c12<;>kernel_rfl) (Aj.dyn (Nw (c12&&(x13==0)) c14 hc14) (Aj.puts 2 [(57,(Bf c14 (Vl Al.pv t1.A6))),(56,(Bf c14 (.ptr (.loc 1 0) 4)))] (by cases c14<;>kernel_rfl) (Aj.dyn (Bn c14 (by kernel_rfl) (by
     cases c14
     ·exact .inl ⟨by kernel_rfl,by kernel_rfl⟩
     ·exact .inr ⟨by kernel_rfl,by kernel_rfl,Lw Al.pv t1.A6⟩)) (Aj.puts 2 [(60,Vb (c14&&(decide ((t1.A6.length:Int)≤200)))),(59,(Bf c14 (Vb (decide ((t1.A6.length:Int)≤200)))))] (by cases c14<;>kernel_rfl) Aw)))))))))))))) ?_
  refine W.keep rfl ?_
  cases h
  exact W.ret Fw
 ·subst hp
  exact Option.some.inj h
def Bbi:List GOp:=[o0 2 (.box (.tmp 0)),k0 4 0]
def Bbj:List GOp:=[f0 5 0 2,l0 6 1 5,m0 7 1,o0 8 (.call 0 0 (.cst (.fn 104)) [(.tmp 6),(.tmp 7)] [] []),m0 4 8]
def Bik:AC:=(.seq (.ops Bbi) (.seq (.ops Bbj) (.keep [] [(4,false)] [] [.loc 2 0] [] .ret)))
def Q85:Fd:=⟨2,[.tmp 4],[],Bik⟩
theorem Avz:Bl Tryz.prog Tryz.f127 Q85=true:=by kernel_rfl
theorem O7{h1:Aa}{id2:Int}{r:Int}(h:Hp h1 id2=some r):A3 Tryz.prog 127 [.pv (Aa.pv h1),Vi id2] [] ⟨Vi r,[],[]⟩:=by
 refine Ap hm Tryz.func127 Avz (by kernel_rfl) ?_
 unfold Hp at h
 refine Ab Aw ?_
 obtain⟨x3,hx3,h⟩:=Ag h
 refine Ab (Bw 3 (Aj.cons (Tw (I8 hx3) Ax) (Kw 104 [] (Vi x3) Hw) Aw)) ?_
 refine W.keep rfl ?_
 cases h
 exact W.ret Fw
def Bf9:List GOp:=[k0 6 0,b0 7 false]
def Bga:List GOp:=[m0 12 0,e0 13 12,m0 8 13]
def Bgb:List GOp:=[m0 14 8,k0 9 0,m0 10 14]
def Bgc:List GOp:=[m0 15 9,m0 16 10,p0 17 .lss 15 16]
def Bgd:List GOp:=[m0 18 9,m0 19 10,p0 20 .add 18 19,o0 21 (.conv .u64 (.tmp 20)),o0 22 (.bin false .shr (.tmp 21) (.cst (.int .u64 1))),o0 23 (.conv .i64 (.tmp 22)),m0 11 23]
def Bge:List GOp:=[m0 24 2,m0 25 0,m0 26 11,i0 27 9 25 26,t0 28 9 27,m0 29 1,o0 30 (.call 0 0 (.tmp 24) [(.tmp 28),(.tmp 29)] [] []),q0 31 .lss 30 0]
def Bgf:List GOp:=[m0 32 11,q0 33 .add 32 1,m0 9 33]
def Bgg:List GOp:=[m0 34 11,m0 10 34]
def Bf8:AC:=(.keep [] [(0,false),(1,false),(2,false),(8,false),(9,false),(10,false)] [] [] [] (.seq (.seq (.ops Bgc) (.cond (.tmp 17) .skip (.exit 0))) (.pass 1 (.seq (.ops Bgd) (.seq (.ops Bge) (.cond (.tmp 31) (.ops Bgf) (.ops Bgg)))))))
def Bgh:List GOp:=[m0 35 9,m0 36 9,m0 37 8,p0 38 .lss 36 37,m0 39 38,g0 40 39 true (.mov (.tmp 2)),g0 41 39 true (.mov (.tmp 0)),g0 42 39 true (.mov (.tmp 9)),g0 43 39 true (.idx 9 (.tmp 41) (.tmp 42)),g0 44 39 true (.load true 9 (.tmp 43)),g0 45 39 true (.mov (.tmp 1)),g0 46 39 true (.call 0 0 (.tmp 40) [(.tmp 44),(.tmp 45)] [] []),g0 47 39 true (.bin false .eql (.tmp 46) (.cst (.int .i64 0))),o0 48 (.pick (.tmp 39) (.tmp 47) (.cst (.bool false))),m0 6 35,m0 7 48]
def Q3b:AC:=(.seq (.ops Bf9) (.seq (.ops Bga) (.seq (.ops Bgb) (.seq (.block 0 (.loop [0,1,2,8,9,10] [] Bf8)) (.seq (.keep [] [(0,false),(1,false),(2,false),(8,false),(9,false)] [] [] [] (.ops Bgh)) (.keep [] [(6,false),(7,false)] [] [] [] .ret))))))
def Q3:Fd:=⟨3,[.tmp 6,.tmp 7],[],Q3b⟩
theorem A4i:Bl Tryz.prog Tryz.f126 Q3=true:=by kernel_rfl
theorem Hz{x1:List Aa}{target2:Int}{r:Int×Bool}(h:Cr x1 target2=some r):A3 Tryz.prog 126 [Vl Aa.pv x1,Vi target2,.pv (.fn 127)] [] ⟨.tup [Vi r.1,Vb r.2],[],[]⟩:=by
 refine Ap hm Tryz.func126 A4i (by kernel_rfl) ?_
 unfold Cr at h
 refine Ab Aw ?_
 refine Ab (Bw 1 (Aj.dyn (Lw Aa.pv x1) Aw)) ?_
 refine Ab Aw ?_
 obtain⟨j3,hj3,h⟩:=Ag h
 refine W.join (j:=j3) (fun p σ=>σ.tidy [] [(0,false),(1,false),(2,false),(8,false),(9,false)] [] [] []=⟨[(0,Vl Aa.pv x1),(1,Vi target2),(2,.pv (.fn 127)),(8,Vi (x1.length:Int)),(9,Vi p)],[]⟩) ?_ (fun σj3 hsj3=>?_)
 ·refine Ch (fun q σ=>((σ.forget [0,1,2,8,9,10]).killAll []).tidy [] [(0,false),(1,false),(2,false),(8,false),(9,false),(10,false)] [] [] []=⟨[(0,Vl Aa.pv x1),(1,Vi target2),(2,.pv (.fn 127)),(8,Vi (x1.length:Int)),(9,Vi q.1),(10,Vi q.2)],[]⟩) hj3 ?_ ?_
  ·show _=_
   kernel_rfl
  ·intro q σj3 oj3 hJj3 h
   obtain⟨i4,j5⟩:=q
   refine W.keep hJj3 ?_
   refine Ae ?_
   refine Ab Aw ?_
   refine Ar (t:=decide (i4<j5)) (by kernel_rfl) h (fun hc h'=>?_) (fun hc h'=>?_)
   ·replace h:=h'
    refine Ay ?_
    refine W.pass ?_
    refine Ab Aw ?_
    obtain⟨x6,hx6,h⟩:=Ag h
    obtain⟨x7,hx7,h⟩:=Ag h
    refine Ab (Bw 3 (Aj.dyn (Iw Aa.pv x1 (IntKind.wrap .i64 (Int.fdiv (IntKind.wrap .u64 (IntKind.wrap .i64 (i4+j5))) 2)) x6 hx6) (Bw 2 (Aj.cons (Tw (O7 hx7) Ax) (Kw 127 [] (Vi x7) Hw) Aw)))) ?_
    refine De (t:=decide (x7<0)) (by kernel_rfl) h (fun hc h'=>?_) (fun hc h'=>?_)
    ·replace h:=h'
     refine W.ops Aw ?_
     cases h
     exact Ow
    ·replace h:=h'
     refine W.ops Aw ?_
     cases h
     exact Ow
   ·replace h:=h'
    cases h
    exact Bp ((Bh B6 (D3 (by(show _=_);kernel_rfl))))
 ·refine An hsj3 ?_
  obtain⟨c9,hc9,h⟩:=Ag h
  obtain⟨x10,hx10,h⟩:=Ag h
  obtain⟨x11,hx11,h⟩:=Ag h
  refine Ab (Bw 4 (Aj.dyn (Nw (decide (j3<(x1.length:Int))) c9 hc9) (Aj.puts 3 [(42,(Bf c9 (Vi j3))),(41,(Bf c9 (Vl Aa.pv x1))),(40,(Bf c9 (.pv (.fn 127))))] (by cases c9<;>kernel_rfl) (Aj.dyn (Bn c9 (by kernel_rfl) (by
     cases c9
     ·exact .inl ⟨by kernel_rfl,by kernel_rfl⟩
     ·exact .inr ⟨by kernel_rfl,by kernel_rfl,Iw Aa.pv x1 j3 x10 hx10⟩)) (Aj.puts 2 [(45,(Bf c9 (Vi target2))),(44,(Bf c9 (.pv (Aa.pv x10))))] (by cases c9<;>kernel_rfl) (Aj.cons (Ci (on:=c9) (fun hg=>O7 (Dj hg hx11)) Ax) (Bn c9 (by kernel_rfl) (by
     cases c9
     ·exact .inl ⟨by kernel_rfl,by kernel_rfl⟩
     ·exact .inr ⟨by kernel_rfl,by kernel_rfl,Kw 127 [] (Vi x11) Hw⟩)) (Aj.puts 2 [(48,Vb (c9&&(x11==0))),(47,(Bf c9 (Vb (x11==0))))] (by cases c9<;>kernel_rfl) Aw))))))) ?_
  refine W.keep rfl ?_
  cases h
  exact W.ret Fw
def Ana:List GOp:=[k0 4 0,b0 5 false]
def Anb:List GOp:=[m0 6 0,m0 7 1,o0 8 (.call 0 0 (.cst (.fn 126)) [(.tmp 6),(.tmp 7),(.cst (.fn 127))] [] []),o0 9 (.ext 0 (.tmp 8)),o0 10 (.ext 1 (.tmp 8)),m0 4 9,m0 5 10]
def Ayi:AC:=(.seq (.ops Ana) (.seq (.ops Anb) (.keep [] [(4,false),(5,false)] [] [] [] .ret)))
def Bep:Fd:=⟨2,[.tmp 4,.tmp 5],[],Ayi⟩
theorem Aj2:Bl Tryz.prog Tryz.f92 Bep=true:=by kernel_rfl
theorem Ry{l1:List Aa}{id2:Int}{r:Int×Bool}(h:Ih l1 id2=some r):A3 Tryz.prog 92 [Vl Aa.pv l1,Vi id2] [] ⟨.tup [Vi r.1,Vb r.2],[],[]⟩:=by
 refine Ap hm Tryz.func92 Aj2 (by kernel_rfl) ?_
 unfold Ih at h
 refine Ab Aw ?_
 obtain⟨x3,hx3,h⟩:=Ag h
 refine Ab (Bw 2 (Aj.cons (Tw (Hz hx3) Ax) (Kw 126 [] (.tup [Vi x3.1,Vb x3.2]) Hw) Aw)) ?_
 refine W.keep rfl ?_
 cases h
 exact W.ret Fw
def Apb:List GOp:=[o0 3 (.box (.tmp 1)),o0 4 (.mov .nils),k0 5 0]
def Apc:List GOp:=[m0 9 0,o0 10 (.call 0 0 (.cst (.fn 35)) [(.tmp 9)] [] []),m0 6 10]
def Apd:List GOp:=[m0 11 6,q0 12 .neq 11 0]
def Ape:List GOp:=[m0 13 6,o0 4 (.mov .nils),m0 5 13]
def Apf:List GOp:=[m0 15 0,f0 16 0 3,l0 17 1 16,o0 18 (.call 0 0 (.cst (.fn 92)) [(.tmp 15),(.tmp 17)] [] []),m0 14 18,o0 19 (.ext 0 (.tmp 14)),o0 20 (.ext 1 (.tmp 14)),m0 7 19,m0 8 20]
def Apg:List GOp:=[t0 22 9 3,o0 23 (.call 0 0 (.cst (.fn 84)) [(.tmp 22)] [] []),o0 24 (.un .not (.tmp 23)),m0 25 24,g0 26 25 false (.fld 7 (.tmp 3)),g0 27 25 false (.load false 1 (.tmp 26)),g0 28 25 false (.bin false .gtr (.tmp 27) (.cst (.int .i64 0))),o0 29 (.pick (.tmp 25) (.cst (.bool true)) (.tmp 28)),m0 30 29,g0 31 30 false (.fld 8 (.tmp 3)),g0 32 30 false (.load false 1 (.tmp 31)),o0 33 (.pick (.tmp 30) (.cst (.bool true)) (.tmp 32)),m0 21 33]
def Aph:List GOp:=[o0 4 (.mov .nils),k0 5 1]
def Api:List GOp:=[m0 35 8,m0 34 35]
def Apj:List GOp:=[o0 4 (.mov .nils),k0 5 26]
def Apk:List GOp:=[m0 37 0,e0 38 37,q0 39 .geq 38 200,m0 36 39]
def Ak2:List GOp:=[o0 4 (.mov .nils),k0 5 6]
def Ak3:List GOp:=[m0 40 0,o0 41 (.call 1 0 (.cst (.fn 94)) [(.tmp 40)] [] []),m0 42 7,t0 43 9 3,o0 44 (.lit true 9 [(.tmp 43)]),o0 45 (.ins 93 9 64 41 (.tmp 42) (.tmp 44)),m0 4 45,k0 5 0]
def Yk:List GOp:=[]
def Ayv:AC:=(.seq (.ops Apb) (.seq (.seq (.ops Apc) (.seq (.ops Apd) (.cond (.tmp 12) (.seq (.ops Ape) (.keep [.loc 45 0] [(4,true),(5,false)] [] [.loc 3 0,.loc 44 0] [] .ret)) .skip))) (.seq (.ops Apf) (.seq (.pass 0 (.seq (.ops Apg) (.cond (.tmp 21) (.seq (.ops Aph) (.keep [.loc 45 0] [(4,true),(5,false)] [] [.loc 3 0,.loc 44 0] [] .ret)) (.seq (.ops Api) (.cond (.tmp 34) (.seq (.ops Apj) (.keep [.loc 45 0] [(4,true),(5,false)] [] [.loc 3 0,.loc 44 0] [] .ret)) (.seq (.ops Apk) (.cond (.tmp 36) (.seq (.ops Ak2) (.keep [.loc 45 0] [(4,true),(5,false)] [] [.loc 3 0,.loc 44 0] [] .ret)) .skip))))))) (.seq (.keep [] [(0,false),(3,false),(7,false)] [(.loc 3 0,false)] [] [] (.drawZ [.loc 41 0,.loc 44 0,.loc 45 0] Ak3 Yk)) (.keep [.loc 45 0] [(4,true),(5,false)] [] [.loc 3 0,.loc 44 0] [] .ret))))))
def Be1:Fd:=⟨2,[.tmp 4,.tmp 5],[],Ayv⟩
theorem Ak1:Bl Tryz.prog Tryz.f47 Be1=true:=by kernel_rfl
theorem Abu{l1:List Aa}{h2:Aa}{r:(List Aa)×Int}(h:Qc l1 h2=some r):A3 Tryz.prog 47 [Vl Aa.pv l1,.pv (Aa.pv h2)] [] ⟨.tup [Vl Aa.pv r.1,Vi r.2],[],[]⟩:=by
 refine Ap hm Tryz.func47 Ak1 (by kernel_rfl) ?_
 unfold Qc at h
 refine Ab Aw ?_
 refine Ae ?_
 obtain⟨x3,hx3,h⟩:=Ag h
 refine Ab (Bw 1 (Aj.cons (Tw (Hv hx3) Ax) (Kw 35 [] (Vi x3) Hw) Aw)) ?_
 refine Ae ?_
 refine Ab Aw ?_
 refine Ar (t:=(x3 !=0)) (by kernel_rfl) h (fun hc h'=>?_) (fun hc h'=>?_)
 ·replace h:=h'
  refine Ae ?_
  refine Ab Aw ?_
  refine An rfl ?_
  cases h
  exact A8 Fw
 ·replace h:=h'
  refine Ay ?_
  obtain⟨x4,hx4,h⟩:=Ag h
  refine Ab (Bw 3 (Aj.cons (Tw (Ry hx4) Ax) (Kw 92 [] (.tup [Vi x4.1,Vb x4.2]) Hw) Aw)) ?_
  refine Bs ?_
  refine Ae ?_
  obtain⟨x5,hx5,h⟩:=Ag h
  obtain⟨c6,hc6,h⟩:=Ag h
  obtain⟨c7,hc7,h⟩:=Ag h
  refine Ab (Bw 1 (Aj.cons (Tw (Nd hx5) Ax) (Kw 84 [] (Vb x5) Hw) (Bw 1 (Aj.dyn (Nw (!x5) c6 hc6) (Aj.puts 4 [(29,Vb (c6||(decide (h2.Bo>0)))),(28,(Bf (!c6) (Vb (decide (h2.Bo>0))))),(27,(Bf (!c6) (Vi h2.Bo))),(26,(Bf (!c6) (.ptr (.loc 3 0) 7)))] (by cases c6<;>kernel_rfl) (Aj.dyn (Nw (c6||(decide (h2.Bo>0))) c7 hc7) (Aj.puts 3 [(33,Vb (c7||h2.C4)),(32,(Bf (!c7) (Vb h2.C4))),(31,(Bf (!c7) (.ptr (.loc 3 0) 8)))] (by cases c7<;>kernel_rfl) Aw))))))) ?_
  refine Ar (t:=(c7||h2.C4)) (by kernel_rfl) h (fun hc h'=>?_) (fun hc h'=>?_)
  ·replace h:=h'
   refine Ae ?_
   refine Ab Aw ?_
   refine An rfl ?_
   cases h
   exact A8 Fw
  ·replace h:=h'
   refine Ae ?_
   refine Ab Aw ?_
   refine Ar (t:=x4.2) (by kernel_rfl) h (fun hc h'=>?_) (fun hc h'=>?_)
   ·replace h:=h'
    refine Ae ?_
    refine Ab Aw ?_
    refine An rfl ?_
    cases h
    exact A8 Fw
   ·replace h:=h'
    refine Ae ?_
    refine Ab (Bw 1 (Aj.dyn (Lw Aa.pv l1) Aw)) ?_
    refine Ar (t:=decide ((l1.length:Int)≥200)) (by kernel_rfl) h (fun hc h'=>?_) (fun hc h'=>?_)
    ·replace h:=h'
     refine Ae ?_
     refine Ab Aw ?_
     refine An rfl ?_
     cases h
     exact A8 Fw
    ·replace h:=h'
     refine Ay ?_
     obtain⟨x8,hx8,h⟩:=Ag h
     obtain⟨x9,hx9,h⟩:=Ag h
     refine An rfl ?_
     refine Adi (Tw (Jx hx8) Ax) (Bdo (by kernel_rfl) (Alh Axo Axm)) (Dw 1 (Run.dyn (Adb (g:=94) (caps:=[]) (v:= .own (.loc 41 0)) (ins:=[(.loc 41 0,.row 9 (List.map Aa.pv x8))]) (by kernel_rfl) (by kernel_rfl) (by kernel_rfl) Hw (by kernel_rfl)) (Dw 3 (Run.dyn (Af1 (k:= .loc 41 0) (k2:= .loc 44 0) (F:=Aa.pv) (l:=x8) (r:=x9) (e:=h2) (n:=x4.1) (by kernel_rfl) (by kernel_rfl) (by kernel_rfl) (by kernel_rfl) (by kernel_rfl) (by kernel_rfl) hx9) Cw)))) (by kernel_rfl) ((.nil _)) ?_
     refine W.keep rfl ?_
     cases h
     exact W.ret Fw
def A8s:List GOp:=[b0 2 false]
def A8t:List GOp:=[m0 3 0,m0 4 0,p0 5 .neq 3 4,m0 2 5]
def Bhf:AC:=(.seq (.ops A8s) (.seq (.ops A8t) (.keep [] [(2,false)] [] [] [] .ret)))
def Q62:Fd:=⟨1,[.tmp 2],[],Bhf⟩
theorem Aut:Bl Tryz.prog Tryz.f148 Q62=true:=by kernel_rfl
theorem Ld{x1:Int}{r:Bool}(h:Gs x1=some r):A3 Tryz.prog 148 [Vi x1] [] ⟨Vb r,[],[]⟩:=by
 refine Ap hm Tryz.func148 Aut (by kernel_rfl) ?_
 unfold Gs at h
 refine Ab Aw ?_
 refine Ab Aw ?_
 refine W.keep rfl ?_
 cases h
 exact W.ret Fw
def A3b:List GOp:=[k0 4 0]
def A3c:List GOp:=[m0 7 0,o0 8 (.call 0 0 (.cst (.fn 148)) [(.tmp 7)] [] []),m0 5 8]
def A3d:List GOp:=[m0 9 1,o0 10 (.call 0 0 (.cst (.fn 148)) [(.tmp 9)] [] []),m0 6 10]
def A3e:List GOp:=[m0 11 5]
def A3f:List GOp:=[m0 12 6]
def A3g:List GOp:=[k0 4 0]
def A3h:List GOp:=[k0 4 (-1)]
def A3i:List GOp:=[m0 13 6]
def A3j:List GOp:=[k0 4 1]
def A3k:List GOp:=[m0 14 0,m0 15 1,p0 16 .lss 14 15]
def Asn:List GOp:=[k0 4 (-1)]
def Aso:List GOp:=[m0 17 0,m0 18 1,p0 19 .gtr 17 18]
def Asp:List GOp:=[k0 4 1]
def Asq:List GOp:=[k0 4 0]
def Bf1:AC:=(.seq (.ops A3b) (.seq (.ops A3c) (.seq (.ops A3d) (.seq (.seq (.ops A3e) (.cond (.tmp 11) (.seq (.seq (.ops A3f) (.cond (.tmp 12) (.seq (.ops A3g) (.keep [] [(4,false)] [] [] [] .ret)) .skip)) (.seq (.ops A3h) (.keep [] [(4,false)] [] [] [] .ret))) .skip)) (.seq (.seq (.ops A3i) (.cond (.tmp 13) (.seq (.ops A3j) (.keep [] [(4,false)] [] [] [] .ret)) .skip)) (.seq (.seq (.ops A3k) (.cond (.tmp 16) (.seq (.ops Asn) (.keep [] [(4,false)] [] [] [] .ret)) .skip)) (.seq (.seq (.ops Aso) (.cond (.tmp 19) (.seq (.ops Asp) (.keep [] [(4,false)] [] [] [] .ret)) .skip)) (.seq (.ops Asq) (.keep [] [(4,false)] [] [] [] .ret)))))))))
def Q33:Fd:=⟨2,[.tmp 4],[],Bf1⟩
theorem Asm:Bl Tryz.prog Tryz.f137 Q33=true:=by kernel_rfl
theorem Oj{x1:Int}{y2:Int}{r:Int}(h:G4 x1 y2=some r):A3 Tryz.prog 137 [Vi x1,Vi y2] [] ⟨Vi r,[],[]⟩:=by
 refine Ap hm Tryz.func137 Asm (by kernel_rfl) ?_
 unfold G4 at h
 refine Ab Aw ?_
 obtain⟨x3,hx3,h⟩:=Ag h
 refine Ab (Bw 1 (Aj.cons (Tw (Ld hx3) Ax) (Kw 148 [] (Vb x3) Hw) Aw)) ?_
 obtain⟨x4,hx4,h⟩:=Ag h
 refine Ab (Bw 1 (Aj.cons (Tw (Ld hx4) Ax) (Kw 148 [] (Vb x4) Hw) Aw)) ?_
 refine Ae ?_
 refine Ab Aw ?_
 refine Ar (t:=x3) (by kernel_rfl) h (fun hc h'=>?_) (fun hc h'=>?_)
 ·replace h:=h'
  refine Ae ?_
  refine Ae ?_
  refine Ab Aw ?_
  refine Ar (t:=x4) (by kernel_rfl) h (fun hc h'=>?_) (fun hc h'=>?_)
  ·replace h:=h'
   refine Ae ?_
   refine Ab Aw ?_
   refine An rfl ?_
   cases h
   exact A8 Fw
  ·replace h:=h'
   refine Ay ?_
   refine Ae ?_
   refine Ab Aw ?_
   refine An rfl ?_
   cases h
   exact A8 Fw
 ·replace h:=h'
  refine Ay ?_
  refine Ae ?_
  refine Ab Aw ?_
  refine Ar (t:=x4) (by kernel_rfl) h (fun hc h'=>?_) (fun hc h'=>?_)
  ·replace h:=h'
   refine Ae ?_
   refine Ab Aw ?_
   refine An rfl ?_
   cases h
   exact A8 Fw
  ·replace h:=h'
   refine Ay ?_
   refine Ae ?_
   refine Ab Aw ?_
   refine Ar (t:=decide (x1<y2)) (by kernel_rfl) h (fun hc h'=>?_) (fun hc h'=>?_)
   ·replace h:=h'
    refine Ae ?_
    refine Ab Aw ?_
    refine An rfl ?_
    cases h
    exact A8 Fw
   ·replace h:=h'
    refine Ay ?_
    refine Ae ?_
    refine Ab Aw ?_
    refine Ar (t:=decide (x1>y2)) (by kernel_rfl) h (fun hc h'=>?_) (fun hc h'=>?_)
    ·replace h:=h'
     refine Ae ?_
     refine Ab Aw ?_
     refine An rfl ?_
     cases h
     exact A8 Fw
    ·replace h:=h'
     refine Ay ?_
     refine Ab Aw ?_
     refine W.keep rfl ?_
     cases h
     exact W.ret Fw
def Ayz:List GOp:=[o0 3 (.box (.tmp 0)),k0 5 0]
def Ay0:List GOp:=[l0 6 1 2,t0 7 8 3,o0 8 (.call 0 0 (.tmp 6) [(.tmp 7)] [] []),m0 9 1,o0 10 (.call 0 0 (.cst (.fn 137)) [(.tmp 8),(.tmp 9)] [] []),m0 5 10]
def Be4:AC:=(.seq (.ops Ayz) (.seq (.ops Ay0) (.keep [] [(5,false)] [(.ext 0,false)] [.loc 3 0] [] .ret)))
def Q12:Fd:=⟨3,[.tmp 5],[],Be4⟩
theorem Apt:Bl Tryz.prog Tryz.f136 Q12=true:=by kernel_rfl
theorem G1{x1:Ad}{n2:Int}{r:Int}(h:Ct x1 n2=some r):A3 Tryz.prog 136 [.pv (Ad.pv x1),Vi n2,.ptr (.ext 0) 0] [.box [.pv (.fn 75)]] ⟨Vi r,[],[(some (.box [.pv (.fn 75)]))]⟩:=by
 refine Ap hm Tryz.func136 Apt (by kernel_rfl) ?_
 unfold Ct at h
 refine Ab Aw ?_
 obtain⟨x3,hx3,h⟩:=Ag h
 obtain⟨x4,hx4,h⟩:=Ag h
 refine Ab (Bw 2 (Aj.cons (Tw (Mi hx3) Ax) (Kw 75 [] (Vi x3) Hw) (Bw 1 (Aj.cons (Tw (Oj hx4) Ax) (Kw 137 [] (Vi x4) Hw) Aw)))) ?_
 refine W.keep rfl ?_
 cases h
 exact W.ret Fw
end Go.Av.G
end
section
set_option linter.unusedVariables false
set_option linter.unusedSimpArgs false
set_option maxRecDepth 100000
set_option maxHeartbeats 8000000
namespace Go.Av.G
open Go Go.Av Go.Proofs
def Bfd:List GOp:=[k0 6 0,b0 7 false]
def Bfe:List GOp:=[m0 12 0,e0 13 12,m0 8 13]
def Bff:List GOp:=[m0 14 8,k0 9 0,m0 10 14]
def Bfg:List GOp:=[m0 15 9,m0 16 10,p0 17 .lss 15 16]
def Bfh:List GOp:=[m0 18 9,m0 19 10,p0 20 .add 18 19,o0 21 (.conv .u64 (.tmp 20)),o0 22 (.bin false .shr (.tmp 21) (.cst (.int .u64 1))),o0 23 (.conv .i64 (.tmp 22)),m0 11 23]
def Bfi:List GOp:=[m0 24 2,m0 25 0,m0 26 11,i0 27 8 25 26,t0 28 8 27,m0 29 1,o0 30 (.call 0 2 (.tmp 24) [(.tmp 28),(.tmp 29)] [] [.ext 0]),q0 31 .lss 30 0]
def Bfj:List GOp:=[m0 32 11,q0 33 .add 32 1,m0 9 33]
def Bfk:List GOp:=[m0 34 11,m0 10 34]
def Bfc:AC:=(.keep [] [(0,false),(1,false),(2,false),(8,false),(9,false),(10,false)] [(.ext 0,false)] [] [] (.seq (.seq (.ops Bfg) (.cond (.tmp 17) .skip (.exit 0))) (.pass 1 (.seq (.ops Bfh) (.seq (.ops Bfi) (.cond (.tmp 31) (.ops Bfj) (.ops Bfk)))))))
def Bfl:List GOp:=[m0 35 9,m0 36 9,m0 37 8,p0 38 .lss 36 37,m0 39 38,g0 40 39 true (.mov (.tmp 2)),g0 41 39 true (.mov (.tmp 0)),g0 42 39 true (.mov (.tmp 9)),g0 43 39 true (.idx 8 (.tmp 41) (.tmp 42)),g0 44 39 true (.load true 8 (.tmp 43)),g0 45 39 true (.mov (.tmp 1)),g0 46 39 true (.call 0 2 (.tmp 40) [(.tmp 44),(.tmp 45)] [] [.ext 0]),g0 47 39 true (.bin false .eql (.tmp 46) (.cst (.int .i64 0))),o0 48 (.pick (.tmp 39) (.tmp 47) (.cst (.bool false))),m0 6 35,m0 7 48]
def Q1b:AC:=(.seq (.ops Bfd) (.seq (.ops Bfe) (.seq (.ops Bff) (.seq (.block 0 (.loop [0,1,2,8,9,10] [] Bfc)) (.seq (.keep [] [(0,false),(1,false),(2,false),(8,false),(9,false)] [(.ext 0,false)] [] [] (.ops Bfl)) (.keep [] [(6,false),(7,false)] [(.ext 0,false)] [] [] .ret))))))
def Q1:Fd:=⟨3,[.tmp 6,.tmp 7],[],Q1b⟩
theorem A0h:Bl Tryz.prog Tryz.f135 Q1=true:=by kernel_rfl
theorem Gk{x1:List Ad}{target2:Int}{r:Int×Bool}(h:Cf x1 target2=some r):A3 Tryz.prog 135 [Vl Ad.pv x1,Vi target2,.fn 136 [.ptr (.ext 0) 0]] [.box [.pv (.fn 75)]] ⟨.tup [Vi r.1,Vb r.2],[],[(some (.box [.pv (.fn 75)]))]⟩:=by
 refine Ap hm Tryz.func135 A0h (by kernel_rfl) ?_
 unfold Cf at h
 refine Ab Aw ?_
 refine Ab (Bw 1 (Aj.dyn (Lw Ad.pv x1) Aw)) ?_
 refine Ab Aw ?_
 obtain⟨j3,hj3,h⟩:=Ag h
 refine W.join (j:=j3) (fun p σ=>σ.tidy [] [(0,false),(1,false),(2,false),(8,false),(9,false)] [(.ext 0,false)] [] []=⟨[(0,Vl Ad.pv x1),(1,Vi target2),(2,.fn 136 [.ptr (.ext 0) 0]),(8,Vi (x1.length:Int)),(9,Vi p)],[(.ext 0,.box [.pv (.fn 75)])]⟩) ?_ (fun σj3 hsj3=>?_)
 ·refine Ch (fun q σ=>((σ.forget [0,1,2,8,9,10]).killAll []).tidy [] [(0,false),(1,false),(2,false),(8,false),(9,false),(10,false)] [(.ext 0,false)] [] []=⟨[(0,Vl Ad.pv x1),(1,Vi target2),(2,.fn 136 [.ptr (.ext 0) 0]),(8,Vi (x1.length:Int)),(9,Vi q.1),(10,Vi q.2)],[(.ext 0,.box [.pv (.fn 75)])]⟩) hj3 ?_ ?_
  ·show _=_
   kernel_rfl
  ·intro q σj3 oj3 hJj3 h
   obtain⟨i4,j5⟩:=q
   refine W.keep hJj3 ?_
   refine Ae ?_
   refine Ab Aw ?_
   refine Ar (t:=decide (i4<j5)) (by kernel_rfl) h (fun hc h'=>?_) (fun hc h'=>?_)
   ·replace h:=h'
    refine Ay ?_
    refine W.pass ?_
    refine Ab Aw ?_
    obtain⟨x6,hx6,h⟩:=Ag h
    obtain⟨x7,hx7,h⟩:=Ag h
    refine Ab (Bw 3 (Aj.dyn (Iw Ad.pv x1 (IntKind.wrap .i64 (Int.fdiv (IntKind.wrap .u64 (IntKind.wrap .i64 (i4+j5))) 2)) x6 hx6) (Bw 2 (Aj.cons (Tw (G1 hx7) Ax) (Cx (g:=136) (caps:=[.ptr (.ext 0) 0]) (v:=Vi x7) (ins:=[]) rfl (by kernel_rfl) (by kernel_rfl) (by kernel_rfl) Hw (by kernel_rfl) (by kernel_rfl)) Aw)))) ?_
    refine De (t:=decide (x7<0)) (by kernel_rfl) h (fun hc h'=>?_) (fun hc h'=>?_)
    ·replace h:=h'
     refine W.ops Aw ?_
     cases h
     exact Ow
    ·replace h:=h'
     refine W.ops Aw ?_
     cases h
     exact Ow
   ·replace h:=h'
    cases h
    exact Bp ((Bh B6 (D3 (by(show _=_);kernel_rfl))))
 ·refine An hsj3 ?_
  obtain⟨c9,hc9,h⟩:=Ag h
  obtain⟨x10,hx10,h⟩:=Ag h
  obtain⟨x11,hx11,h⟩:=Ag h
  refine Ab (Bw 4 (Aj.dyn (Nw (decide (j3<(x1.length:Int))) c9 hc9) (Aj.puts 3 [(42,(Bf c9 (Vi j3))),(41,(Bf c9 (Vl Ad.pv x1))),(40,(Bf c9 (.fn 136 [.ptr (.ext 0) 0])))] (by cases c9<;>kernel_rfl) (Aj.dyn (Bn c9 (by kernel_rfl) (by
     cases c9
     ·exact .inl ⟨by kernel_rfl,by kernel_rfl⟩
     ·exact .inr ⟨by kernel_rfl,by kernel_rfl,Iw Ad.pv x1 j3 x10 hx10⟩)) (Aj.puts 2 [(45,(Bf c9 (Vi target2))),(44,(Bf c9 (.pv (Ad.pv x10))))] (by cases c9<;>kernel_rfl) (Aj.cons (Ci (on:=c9) (fun hg=>G1 (Dj hg hx11)) Ax) (Aaz c9 (by kernel_rfl) (by
     cases c9
     ·exact .inl ⟨by kernel_rfl,by kernel_rfl⟩
     ·exact .inr ⟨by kernel_rfl,by kernel_rfl,Uz (g:=136) (caps:=[.ptr (.ext 0) 0]) (v:=Vi x11) rfl (by kernel_rfl) (by kernel_rfl) (by kernel_rfl) Hw (by kernel_rfl) (by kernel_rfl)⟩)) (Aj.puts 2 [(48,Vb (c9&&(x11==0))),(47,(Bf c9 (Vb (x11==0))))] (by cases c9<;>kernel_rfl) Aw))))))) ?_
  refine W.keep rfl ?_
  cases h
  exact W.ret Fw
def A0i:List GOp:=[o0 5 (.box (.tmp 2)),k0 6 0,b0 7 false]
def A0j:List GOp:=[m0 8 0,m0 9 1,o0 10 (.mkfn 136 [(.tmp 5)]),o0 11 (.call 0 2 (.cst (.fn 135)) [(.tmp 8),(.tmp 9),(.tmp 10)] [] [.loc 5 0]),o0 12 (.ext 0 (.tmp 11)),o0 13 (.ext 1 (.tmp 11)),m0 6 12,m0 7 13]
def Bfm:AC:=(.seq (.ops A0i) (.seq (.ops A0j) (.keep [] [(6,false),(7,false)] [] [.loc 5 0] [] .ret)))
def Q20:Fd:=⟨3,[.tmp 6,.tmp 7],[],Bfm⟩
theorem Aq5:Bl Tryz.prog Tryz.f106 Q20=true:=by kernel_rfl
theorem K9{l1:List Ad}{n2:Int}{r:Int×Bool}(h:C1 l1 n2=some r):A3 Tryz.prog 106 [Vl Ad.pv l1,Vi n2,.pv (.fn 75)] [] ⟨.tup [Vi r.1,Vb r.2],[],[]⟩:=by
 refine Ap hm Tryz.func106 Aq5 (by kernel_rfl) ?_
 unfold C1 at h
 refine Ab Aw ?_
 obtain⟨x3,hx3,h⟩:=Ag h
 refine Ab (Bw 3 (Aj.cons (Tw (Gk hx3) Ax) (Cx (g:=135) (caps:=[]) (v:= .tup [Vi x3.1,Vb x3.2]) (ins:=[]) rfl (by kernel_rfl) (by kernel_rfl) (by kernel_rfl) Hw (by kernel_rfl) (by kernel_rfl)) Aw)) ?_
 refine W.keep rfl ?_
 cases h
 exact W.ret Fw
def Anc:List GOp:=[o0 2 (.box (.tmp 0)),o0 4 (.alloc [.pv (.int .i64 0),.pv (.int .i64 0),.pv (.int .i64 0),.pv (.int .i64 0),.pv (.int .i64 0),.pv (.int .i64 0),.pv (.int .i32 0),.pv (.int .i32 0)]),k0 5 0]
def Ane:List GOp:=[t0 8 2 2,o0 9 (.call 0 0 (.cst (.fn 34)) [(.tmp 8)] [] []),o0 10 (.un .not (.tmp 9))]
def Anf:List GOp:=[o0 11 (.build [.pv (.int .i64 0),.pv (.int .i64 0),.pv (.int .i64 0),.pv (.int .i64 0),.pv (.int .i64 0),.pv (.int .i64 0),.pv (.int .i32 0),.pv (.int .i32 0)] []),s0 8 4 11,k0 5 1]
def Ang:List GOp:=[f0 13 1 2,l0 14 1 13,m0 15 1,o0 16 (.call 0 0 (.cst (.fn 106)) [(.tmp 14),(.tmp 15),(.cst (.fn 75))] [] []),m0 12 16,o0 17 (.ext 0 (.tmp 12)),o0 18 (.ext 1 (.tmp 12)),m0 6 17,m0 7 18]
def Anh:List GOp:=[m0 19 7,o0 20 (.un .not (.tmp 19))]
def Ani:List GOp:=[o0 21 (.build [.pv (.int .i64 0),.pv (.int .i64 0),.pv (.int .i64 0),.pv (.int .i64 0),.pv (.int .i64 0),.pv (.int .i64 0),.pv (.int .i32 0),.pv (.int .i32 0)] []),s0 8 4 21,k0 5 8]
def Anj:List GOp:=[f0 22 1 2,l0 23 1 22,m0 24 6,i0 25 8 23 24,t0 26 8 25,s0 8 4 26,k0 5 0]
def Ayj:AC:=(.seq (.ops Anc) (.seq (.seq (.ops Ane) (.cond (.tmp 10) (.seq (.ops Anf) (.keep [] [(4,false),(5,false)] [(.loc 4 0,false)] [.loc 2 0] [] .ret)) .skip)) (.seq (.ops Ang) (.seq (.seq (.ops Anh) (.cond (.tmp 20) (.seq (.ops Ani) (.keep [] [(4,false),(5,false)] [(.loc 4 0,false)] [.loc 2 0] [] .ret)) .skip)) (.seq (.ops Anj) (.keep [] [(4,false),(5,false)] [(.loc 4 0,false)] [.loc 2 0] [] .ret))))))
def Beq:Fd:=⟨2,[.cell 4 true 8,.tmp 5],[],Ayj⟩
theorem Aj3:Bl Tryz.prog Tryz.f64 Beq=true:=by kernel_rfl
theorem Rq{c1:A4}{a2:Int}{r:Ad×Int}(h:Ib c1 a2=some r):A3 Tryz.prog 64 [.pv (A4.pv c1),Vi a2] [] ⟨.tup [.pv (Ad.pv r.1),Vi r.2],[],[]⟩:=by
 refine Ap hm Tryz.func64 Aj3 (by kernel_rfl) ?_
 unfold Ib at h
 refine Ab Aw ?_
 refine Ae ?_
 obtain⟨x3,hx3,h⟩:=Ag h
 refine Ab (Bw 1 (Aj.cons (Tw (P0 hx3) Ax) (Kw 34 [] (Vb x3) Hw) Aw)) ?_
 refine Ar (t:= !x3) (by kernel_rfl) h (fun hc h'=>?_) (fun hc h'=>?_)
 ·replace h:=h'
  refine Ae ?_
  refine Ab Aw ?_
  refine An rfl ?_
  cases h
  exact A8 Fw
 ·replace h:=h'
  refine Ay ?_
  obtain⟨x4,hx4,h⟩:=Ag h
  refine Ab (Bw 3 (Aj.cons (Tw (K9 hx4) Ax) (Kw 106 [] (.tup [Vi x4.1,Vb x4.2]) Hw) Aw)) ?_
  refine Ae ?_
  refine Ab Aw ?_
  refine Ar (t:= !x4.2) (by kernel_rfl) h (fun hc h'=>?_) (fun hc h'=>?_)
  ·replace h:=h'
   refine Ae ?_
   refine Ab Aw ?_
   refine An rfl ?_
   cases h
   exact A8 Fw
  ·replace h:=h'
   refine Ay ?_
   obtain⟨x5,hx5,h⟩:=Ag h
   refine Ab (Bw 3 (Aj.dyn (Iw Ad.pv c1.Au x4.1 x5 hx5) Aw)) ?_
   refine W.keep rfl ?_
   cases h
   exact W.ret Fw
def Bcy:List GOp:=[o0 2 (.mov (.cst .nilI))]
def Bcz:List GOp:=[m0 3 0,q0 4 .eql 3 0]
def Bc0:List GOp:=[o0 2 (.mov (.cst .nilI))]
def Bc1:List GOp:=[m0 5 0,o0 6 (.build [.pv (.int .i64 0)] [(0,1,(.tmp 5))]),o0 7 (.mkI 113 (.tmp 6)),m0 2 7]
def Bix:AC:=(.seq (.ops Bcy) (.seq (.seq (.ops Bcz) (.cond (.tmp 4) (.seq (.ops Bc0) (.keep [] [(2,false)] [] [] [] .ret)) .skip)) (.seq (.ops Bc1) (.keep [] [(2,false)] [] [] [] .ret))))
def Q97:Fd:=⟨1,[.tmp 2],[],Bix⟩
theorem Aws:Bl Tryz.prog Tryz.f65 Q97=true:=by kernel_rfl
theorem Mf{e1:Int}{r:Option Int}(h:Hf e1=some r):A3 Tryz.prog 65 [Vi e1] [] ⟨.pv (Ww 113 r),[],[]⟩:=by
 refine Ap hm Tryz.func65 Aws (by kernel_rfl) ?_
 unfold Hf at h
 refine Ab Aw ?_
 refine Ae ?_
 refine Ab Aw ?_
 refine Ar (t:=(e1==0)) (by kernel_rfl) h (fun hc h'=>?_) (fun hc h'=>?_)
 ·replace h:=h'
  refine Ae ?_
  refine Ab Aw ?_
  refine An rfl ?_
  cases h
  exact A8 Fw
 ·replace h:=h'
  refine Ay ?_
  refine Ab Aw ?_
  refine W.keep rfl ?_
  cases h
  exact W.ret Fw
def Bba:List GOp:=[b0 6 false]
def Bbb:List GOp:=[m0 7 0,m0 8 1,p0 9 .geq 7 8,m0 10 9,g0 11 10 true (.mov (.tmp 0)),g0 12 10 true (.mov (.tmp 2)),g0 13 10 true (.bin false .leq (.tmp 11) (.tmp 12)),o0 14 (.pick (.tmp 10) (.tmp 13) (.cst (.bool false))),m0 6 14]
def Big:AC:=(.seq (.ops Bba) (.seq (.ops Bbb) (.keep [] [(6,false)] [] [] [] .ret)))
def Q81:Fd:=⟨3,[.tmp 6],[],Big⟩
theorem Avv:Bl Tryz.prog Tryz.f108 Q81=true:=by kernel_rfl
theorem Um{n1:Int}{low2:Int}{high3:Int}{r:Bool}(h:Kv n1 low2 high3=some r):A3 Tryz.prog 108 [.pv (.int .i32 n1),.pv (.int .i32 low2),.pv (.int .i32 high3)] [] ⟨Vb r,[],[]⟩:=by
 refine Ap hm Tryz.func108 Avv (by kernel_rfl) ?_
 unfold Kv at h
 refine Ab Aw ?_
 obtain⟨c4,hc4,h⟩:=Ag h
 refine Ab (Bw 3 (Aj.dyn (Nw (decide (n1≥low2)) c4 hc4) (Aj.puts 4 [(14,Vb (c4&&(decide (n1≤high3)))),(13,(Bf c4 (Vb (decide (n1≤high3))))),(12,(Bf c4 (.pv (.int .i32 high3)))),(11,(Bf c4 (.pv (.int .i32 n1))))] (by cases c4<;>kernel_rfl) Aw))) ?_
 refine W.keep rfl ?_
 cases h
 exact W.ret Fw
def Apl:List GOp:=[o0 3 (.box (.tmp 0)),b0 6 false,k0 7 0]
def Apm:List GOp:=[t0 11 2 3,m0 12 1,o0 13 (.call 0 0 (.cst (.fn 64)) [(.tmp 11),(.tmp 12)] [] []),m0 10 13,o0 14 (.ext 0 (.tmp 10)),o0 15 (.ext 1 (.tmp 10)),o0 8 (.alloc [.pv (.int .i64 0),.pv (.int .i64 0),.pv (.int .i64 0),.pv (.int .i64 0),.pv (.int .i64 0),.pv (.int .i64 0),.pv (.int .i32 0),.pv (.int .i32 0)]),s0 8 8 14,m0 9 15]
def Apn:List GOp:=[m0 17 9,q0 18 .neq 17 0,m0 16 18]
def Apo:List GOp:=[m0 19 9,b0 6 false,m0 7 19]
def App:List GOp:=[m0 21 2,o0 22 (.call 0 0 (.cst (.fn 107)) [(.tmp 21)] [] []),o0 23 (.un .not (.tmp 22)),m0 20 23]
def Apq:List GOp:=[b0 6 false,k0 7 11]
def Apr:List GOp:=[m0 24 2,f0 25 6 8,l0 26 1 25,f0 27 7 8,l0 28 1 27,o0 29 (.call 0 0 (.cst (.fn 108)) [(.tmp 24),(.tmp 26),(.tmp 28)] [] []),m0 6 29,k0 7 0]
def Ayw:AC:=(.seq (.ops Apl) (.seq (.ops Apm) (.seq (.pass 0 (.seq (.ops Apn) (.cond (.tmp 16) (.seq (.ops Apo) (.keep [] [(6,false),(7,false)] [] [.loc 3 0,.loc 8 0] [] .ret)) (.seq (.ops App) (.cond (.tmp 20) (.seq (.ops Apq) (.keep [] [(6,false),(7,false)] [] [.loc 3 0,.loc 8 0] [] .ret)) .skip))))) (.seq (.ops Apr) (.keep [] [(6,false),(7,false)] [] [.loc 3 0,.loc 8 0] [] .ret)))))
def Be2:Fd:=⟨3,[.tmp 6,.tmp 7],[],Ayw⟩
theorem Ak4:Bl Tryz.prog Tryz.f66 Be2=true:=by kernel_rfl
theorem Abe{c1:A4}{a2:Int}{day3:Int}{r:Bool×Int}(h:Pz c1 a2 day3=some r):A3 Tryz.prog 66 [.pv (A4.pv c1),Vi a2,.pv (.int .i32 day3)] [] ⟨.tup [Vb r.1,Vi r.2],[],[]⟩:=by
 refine Ap hm Tryz.func66 Ak4 (by kernel_rfl) ?_
 unfold Pz at h
 refine Ab Aw ?_
 obtain⟨x4,hx4,h⟩:=Ag h
 refine Ab (Bw 2 (Aj.cons (Tw (Rq hx4) Ax) (Kw 64 [] (.tup [.pv (Ad.pv x4.1),Vi x4.2]) Hw) Aw)) ?_
 refine Bs ?_
 refine Ae ?_
 refine Ab Aw ?_
 refine Ar (t:=(x4.2 !=0)) (by kernel_rfl) h (fun hc h'=>?_) (fun hc h'=>?_)
 ·replace h:=h'
  refine Ae ?_
  refine Ab Aw ?_
  refine An rfl ?_
  cases h
  exact A8 Fw
 ·replace h:=h'
  refine Ae ?_
  obtain⟨x5,hx5,h⟩:=Ag h
  refine Ab (Bw 1 (Aj.cons (Tw (Ht hx5) Ax) (Kw 107 [] (Vb x5) Hw) Aw)) ?_
  refine Ar (t:= !x5) (by kernel_rfl) h (fun hc h'=>?_) (fun hc h'=>?_)
  ·replace h:=h'
   refine Ae ?_
   refine Ab Aw ?_
   refine An rfl ?_
   cases h
   exact A8 Fw
  ·replace h:=h'
   refine Ay ?_
   obtain⟨x6,hx6,h⟩:=Ag h
   refine Ab (Bw 5 (Aj.cons (Tw (Um hx6) Ax) (Kw 108 [] (Vb x6) Hw) Aw)) ?_
   refine W.keep rfl ?_
   cases h
   exact W.ret Fw
def Bbc:List GOp:=[b0 2 false]
def Bbd:List GOp:=[m0 3 0,o0 4 (.call 0 0 (.cst (.fn 107)) [(.tmp 3)] [] []),o0 5 (.un .not (.tmp 4)),m0 2 5]
def Bih:AC:=(.seq (.ops Bbc) (.seq (.ops Bbd) (.keep [] [(2,false)] [] [] [] .ret)))
def Q82:Fd:=⟨1,[.tmp 2],[],Bih⟩
theorem Avw:Bl Tryz.prog Tryz.f138 Q82=true:=by kernel_rfl
theorem Ke{d1:Int}{r:Bool}(h:Gw d1=some r):A3 Tryz.prog 138 [.pv (.int .i32 d1)] [] ⟨Vb r,[],[]⟩:=by
 refine Ap hm Tryz.func138 Avw (by kernel_rfl) ?_
 unfold Gw at h
 refine Ab Aw ?_
 obtain⟨x2,hx2,h⟩:=Ag h
 refine Ab (Bw 1 (Aj.cons (Tw (Ht hx2) Ax) (Kw 107 [] (Vb x2) Hw) Aw)) ?_
 refine W.keep rfl ?_
 cases h
 exact W.ret Fw
def A0l:List GOp:=[k0 4 0]
def A0m:List GOp:=[m0 6 0,e0 7 6,k0 8 0]
def A0n:List GOp:=[p0 9 .lss 8 7]
def A0o:List GOp:=[m0 10 8,m0 5 10]
def A0p:List GOp:=[m0 11 1,m0 12 0,m0 13 5,i0 14 1 12 13,l0 15 1 14,o0 16 (.call 0 0 (.tmp 11) [(.tmp 15)] [] [])]
def A0q:List GOp:=[m0 17 5,m0 4 17]
def A0r:List GOp:=[q0 18 .add 8 1,m0 8 18]
def A0k:AC:=(.keep [] [(0,false),(1,false),(7,false),(8,false)] [] [] [] (.seq (.ops A0n) (.seq (.cond (.tmp 9) .skip (.exit 0)) (.seq (.pass 1 (.seq (.ops A0o) (.seq (.ops A0p) (.cond (.tmp 16) (.seq (.ops A0q) (.keep [] [(4,false)] [] [] [] .ret)) .skip)))) (.ops A0r)))))
def A0s:List GOp:=[k0 4 (-1)]
def Bfn:AC:=(.seq (.ops A0l) (.seq (.seq (.ops A0m) (.block 0 (.loop [0,1,7,8] [] A0k))) (.seq (.keep [] [] [] [] [] (.ops A0s)) (.keep [] [(4,false)] [] [] [] .ret))))
def Q21:Fd:=⟨2,[.tmp 4],[],Bfn⟩
theorem Aq6:Bl Tryz.prog Tryz.f149 Q21=true:=by kernel_rfl
theorem Lg{s1:List Int}{r:Int}(h:Ey s1=some r):A3 Tryz.prog 149 [Vl (Yc .i32) s1,.pv (.fn 138)] [] ⟨Vi r,[],[]⟩:=by
 refine Ap hm Tryz.func149 Aq6 (by kernel_rfl) ?_
 unfold Ey at h
 refine Ab Aw ?_
 refine Ae ?_
 refine Ab (Bw 1 (Aj.dyn (Lw (Yc .i32) s1) Aw)) ?_
 obtain⟨j2,hj2,h⟩:=Ag h
 refine Ck (j:=j2) (o:=r) (fun p σ=>σ.tidy [] [] [] [] []=⟨[],[]⟩) ?_ (fun p σj2 hp hsj2=>?_) (fun p hp=>?_)
 ·refine B1 (fun q σ=>((σ.forget [0,1,7,8]).killAll []).tidy [] [(0,false),(1,false),(7,false),(8,false)] [] [] []=⟨[(0,Vl (Yc .i32) s1),(1,.pv (.fn 138)),(7,Vi (s1.length:Int)),(8,Vi q)],[]⟩) hj2 ?_ ?_
  ·show _=_
   kernel_rfl
  ·intro x3 σj2 oj2 hJj2 h
   refine W.keep hJj2 ?_
   refine Ab Aw ?_
   refine Ar (t:=decide (x3<(s1.length:Int))) (by kernel_rfl) h (fun hc h'=>?_) (fun hc h'=>?_)
   ·replace h:=h'
    refine Ay ?_
    refine Bs ?_
    refine Ae ?_
    refine Ab Aw ?_
    refine Ae ?_
    obtain⟨x4,hx4,h⟩:=Ag h
    obtain⟨x5,hx5,h⟩:=Ag h
    refine Ab (Bw 3 (Aj.dyn (Iw (Yc .i32) s1 x3 x4 hx4) (Bw 1 (Aj.cons (Tw (Ke hx5) Ax) (Kw 138 [] (Vb x5) Hw) ((.nil _)))))) ?_
    refine Ar (t:=x5) (by kernel_rfl) h (fun hc h'=>?_) (fun hc h'=>?_)
    ·replace h:=h'
     refine Ae ?_
     refine Ab Aw ?_
     refine An rfl ?_
     cases h
     exact A8 ((Bh Cd (Ed Cd Dh (fun e=>by subst e;exact Fw))))
    ·replace h:=h'
     refine Ay ?_
     refine W.ops Aw ?_
     cases h
     exact Ow
   ·replace h:=h'
    cases h
    exact Bp ((Bh B6 (Eh (by(show _=_);kernel_rfl))))
 ·subst hp
  obtain⟨⟩:=p
  refine An hsj2 ?_
  refine Ab Aw ?_
  refine W.keep rfl ?_
  cases h
  exact W.ret Fw
 ·subst hp
  exact Option.some.inj h
def Ayx:List GOp:=[b0 4 false]
def Ayy:List GOp:=[m0 5 0,m0 6 1,o0 7 (.call 0 0 (.cst (.fn 149)) [(.tmp 5),(.tmp 6)] [] []),q0 8 .geq 7 0,m0 4 8]
def Be3:AC:=(.seq (.ops Ayx) (.seq (.ops Ayy) (.keep [] [(4,false)] [] [] [] .ret)))
def Q11:Fd:=⟨2,[.tmp 4],[],Be3⟩
theorem Aps:Bl Tryz.prog Tryz.f139 Q11=true:=by kernel_rfl
theorem Jy{s1:List Int}{r:Bool}(h:Dl s1=some r):A3 Tryz.prog 139 [Vl (Yc .i32) s1,.pv (.fn 138)] [] ⟨Vb r,[],[]⟩:=by
 refine Ap hm Tryz.func139 Aps (by kernel_rfl) ?_
 unfold Dl at h
 refine Ab Aw ?_
 obtain⟨x2,hx2,h⟩:=Ag h
 refine Ab (Bw 2 (Aj.cons (Tw (Lg hx2) Ax) (Kw 149 [] (Vi x2) Hw) Aw)) ?_
 refine W.keep rfl ?_
 cases h
 exact W.ret Fw
def Bc2:List GOp:=[k0 8 0]
def Bc3:List GOp:=[o0 9 (.mov (.cst (.fn 138)))]
def Bc4:List GOp:=[m0 11 0,e0 12 11,q0 13 .gtr 12 2000,m0 10 13]
def Bc5:List GOp:=[k0 8 4]
def Bc6:List GOp:=[m0 15 9,m0 16 1,o0 17 (.call 0 0 (.tmp 15) [(.tmp 16)] [] []),m0 18 17,g0 19 18 false (.mov (.tmp 9)),g0 20 18 false (.mov (.tmp 2)),g0 21 18 false (.call 0 0 (.tmp 19) [(.tmp 20)] [] []),o0 22 (.pick (.tmp 18) (.cst (.bool true)) (.tmp 21)),m0 23 22,g0 24 23 false (.mov (.tmp 1)),g0 25 23 false (.mov (.tmp 2)),g0 26 23 false (.bin false .gtr (.tmp 24) (.tmp 25)),o0 27 (.pick (.tmp 23) (.cst (.bool true)) (.tmp 26)),m0 28 27,g0 29 28 false (.mov (.tmp 3)),g0 30 28 false (.mov (.tmp 9)),g0 31 28 false (.call 0 0 (.cst (.fn 139)) [(.tmp 29),(.tmp 30)] [] []),o0 32 (.pick (.tmp 28) (.cst (.bool true)) (.tmp 31)),m0 14 32]
def Bc7:List GOp:=[k0 8 11]
def Bc8:List GOp:=[k0 8 0]
def Biy:AC:=(.seq (.ops Bc2) (.seq (.ops Bc3) (.seq (.pass 0 (.seq (.ops Bc4) (.cond (.tmp 10) (.seq (.ops Bc5) (.keep [] [(8,false)] [] [] [] .ret)) (.seq (.ops Bc6) (.cond (.tmp 14) (.seq (.ops Bc7) (.keep [] [(8,false)] [] [] [] .ret)) .skip))))) (.seq (.ops Bc8) (.keep [] [(8,false)] [] [] [] .ret)))))
def Q98:Fd:=⟨4,[.tmp 8],[],Biy⟩
theorem Awt:Bl Tryz.prog Tryz.f109 Q98=true:=by kernel_rfl
theorem Wn{l1:List Af}{from_2:Int}{to3:Int}{more4:List Int}{r:Int}(h:K4 l1 from_2 to3 more4=some r):A3 Tryz.prog 109 [Vl Af.pv l1,.pv (.int .i32 from_2),.pv (.int .i32 to3),Vl (Yc .i32) more4] [] ⟨Vi r,[],[]⟩:=by
 refine Ap hm Tryz.func109 Awt (by kernel_rfl) ?_
 unfold K4 at h
 refine Ab Aw ?_
 refine Ab Aw ?_
 refine Bs ?_
 refine Ae ?_
 refine Ab (Bw 1 (Aj.dyn (Lw Af.pv l1) Aw)) ?_
 refine Ar (t:=decide ((l1.length:Int)>2000)) (by kernel_rfl) h (fun hc h'=>?_) (fun hc h'=>?_)
 ·replace h:=h'
  refine Ae ?_
  refine Ab Aw ?_
  refine An rfl ?_
  cases h
  exact A8 Fw
 ·replace h:=h'
  refine Ae ?_
  obtain⟨x5,hx5,h⟩:=Ag h
  obtain⟨x6,hx6,h⟩:=Ag h
  obtain⟨c7,hc7,h⟩:=Ag h
  obtain⟨c8,hc8,h⟩:=Ag h
  obtain⟨x9,hx9,h⟩:=Ag h
  refine Ab (Bw 2 (Aj.cons (Tw (Ke hx5) Ax) (Kw 138 [] (Vb x5) Hw) (Bw 1 (Aj.puts 2 [(20,(Bf (!x5) (.pv (.int .i32 to3)))),(19,(Bf (!x5) (.pv (.fn 138))))] (by cases x5<;>kernel_rfl) (Aj.cons (Ci (on:=(!x5)) (fun hg=>Ke (Dj hg hx6)) Ax) (Bn (!x5) (by kernel_rfl) (by
     cases x5
     ·exact .inr ⟨by kernel_rfl,by kernel_rfl,Kw 138 [] (Vb x6) Hw⟩
     ·exact .inl ⟨by kernel_rfl,by kernel_rfl⟩)) (Aj.puts 1 [(22,Vb (x5||x6))] (by cases x5<;>kernel_rfl) (Aj.dyn (Nw (x5||x6) c7 hc7) (Aj.puts 4 [(27,Vb (c7||(decide (from_2>to3)))),(26,(Bf (!c7) (Vb (decide (from_2>to3))))),(25,(Bf (!c7) (.pv (.int .i32 to3)))),(24,(Bf (!c7) (.pv (.int .i32 from_2))))] (by cases c7<;>kernel_rfl) (Aj.dyn (Nw (c7||(decide (from_2>to3))) c8 hc8) (Aj.puts 2 [(30,(Bf (!c8) (.pv (.fn 138)))),(29,(Bf (!c8) (Vl (Yc .i32) more4)))] (by cases c8<;>kernel_rfl) (Aj.cons (Ci (on:=(!c8)) (fun hg=>Jy (Dj hg hx9)) Ax) (Bn (!c8) (by kernel_rfl) (by
     cases c8
     ·exact .inr ⟨by kernel_rfl,by kernel_rfl,Kw 139 [] (Vb x9) Hw⟩
     ·exact .inl ⟨by kernel_rfl,by kernel_rfl⟩)) (Aj.puts 1 [(32,Vb (c8||x9))] (by cases c8<;>kernel_rfl) Aw)))))))))))) ?_
  refine Ar (t:=(c8||x9)) (by kernel_rfl) h (fun hc h'=>?_) (fun hc h'=>?_)
  ·replace h:=h'
   refine Ae ?_
   refine Ab Aw ?_
   refine An rfl ?_
   cases h
   exact A8 Fw
  ·replace h:=h'
   refine Ay ?_
   refine Ab Aw ?_
   refine W.keep rfl ?_
   cases h
   exact W.ret Fw
def A8u:List GOp:=[b0 4 false]
def A8v:List GOp:=[m0 5 1,q0 6 .lss 5 0]
def A8w:List GOp:=[m0 7 1,o0 8 (.un .neg (.tmp 7)),m0 1 8]
def A8x:List GOp:=[m0 9 1,q0 10 .lss 9 0,m0 11 10,g0 12 11 false (.mov (.tmp 1)),g0 13 11 false (.mov (.tmp 0)),g0 14 11 false (.nchk (.tmp 13)),g0 15 11 false (.fld 0 (.tmp 14)),g0 16 11 false (.load false 1 (.tmp 15)),g0 17 11 false (.bin false .sub (.cst (.int .i64 1000000000000000000)) (.tmp 16)),g0 18 11 false (.bin false .gtr (.tmp 12) (.tmp 17)),o0 19 (.pick (.tmp 11) (.cst (.bool true)) (.tmp 18))]
def A8y:List GOp:=[b0 4 true]
def A8z:List GOp:=[m0 20 0,o0 21 (.nchk (.tmp 20)),f0 22 0 21,l0 23 1 22,m0 24 1,p0 25 .add 23 24,o0 26 (.nchk (.tmp 20)),f0 27 0 26,s0 1 27 25]
def A80:List GOp:=[b0 4 false]
def Bhg:AC:=(.seq (.ops A8u) (.seq (.seq (.ops A8v) (.cond (.tmp 6) (.ops A8w) .skip)) (.seq (.seq (.keep [] [(0,false),(1,false)] [(.ext 0,false)] [] [] (.ops A8x)) (.cond (.tmp 19) (.seq (.ops A8y) (.keep [] [(4,false)] [(.ext 0,false)] [] [] .ret)) .skip)) (.seq (.ops A8z) (.seq (.ops A80) (.keep [] [(4,false)] [(.ext 0,false)] [] [] .ret))))))
def Q63:Fd:=⟨2,[.tmp 4],[],Bhg⟩
theorem Auu:Bl Tryz.prog Tryz.f140 Q63=true:=by kernel_rfl
theorem Pu{n1:Int}{e2:Bm}{r:Bool×Int}(h:En n1 e2=some r):A3 Tryz.prog 140 [.ptr (.ext 0) 0,Vi n1] [.box [Vi e2.Mz]] ⟨Vb r.1,[],[(some (.box [Vi r.2]))]⟩:=by
 refine Ap hm Tryz.func140 Auu (by kernel_rfl) ?_
 unfold En at h
 refine Ab Aw ?_
 refine Ae ?_
 refine Ab Aw ?_
 obtain⟨j3,hj3,h⟩:=Ag h
 refine W.join (j:=j3) (fun p σ=>σ.tidy [] [(0,false),(1,false)] [(.ext 0,false)] [] []=⟨[(0,.ptr (.ext 0) 0),(1,Vi p)],[(.ext 0,.box [Vi e2.Mz])]⟩) ?_ (fun σj3 hsj3=>?_)
 ·replace h:=hj3
  refine De (t:=decide (n1<0)) (by kernel_rfl) h (fun hc h'=>?_) (fun hc h'=>?_)
  ·replace h:=h'
   refine W.ops Aw ?_
   cases h
   exact Jw
  ·replace h:=h'
   cases h
   exact W.skip Jw
 ·refine Ae ?_
  refine An hsj3 ?_
  obtain⟨c5,hc5,h⟩:=Ag h
  refine Ab (Bw 2 (Aj.dyn (Nw (decide (j3<0)) c5 hc5) (Aj.puts 8 [(19,Vb (c5||(decide (j3>(IntKind.wrap .i64 (1000000000000000000-e2.Mz)))))),(18,(Bf (!c5) (Vb (decide (j3>(IntKind.wrap .i64 (1000000000000000000-e2.Mz))))))),(17,(Bf (!c5) (Vi (IntKind.wrap .i64 (1000000000000000000-e2.Mz))))),(16,(Bf (!c5) (Vi e2.Mz))),(15,(Bf (!c5) (.ptr (.ext 0) 0))),(14,(Bf (!c5) (.ptr (.ext 0) 0))),(13,(Bf (!c5) (.ptr (.ext 0) 0))),(12,(Bf (!c5) (Vi j3)))] (by cases c5<;>kernel_rfl) ((.nil _))))) ?_
  refine Ar (t:=(c5||(decide (j3>(IntKind.wrap .i64 (1000000000000000000-e2.Mz)))))) (by kernel_rfl) h (fun hc h'=>?_) (fun hc h'=>?_)
  ·replace h:=h'
   refine Ae ?_
   refine Ab Aw ?_
   refine An rfl ?_
   cases h
   exact A8 Fw
  ·replace h:=h'
   refine Ay ?_
   refine Ab Aw ?_
   refine Ab Aw ?_
   refine W.keep rfl ?_
   cases h
   exact W.ret Fw
def Bbk:List GOp:=[o0 6 (.mov .nils),k0 7 0]
def Bbl:List GOp:=[o0 8 (.mov .nils)]
def Bbm:List GOp:=[o0 9 (.alloc [.pv (.int .i64 0)])]
def Bbn:List GOp:=[m0 14 0,e0 15 14,k0 16 0]
def Bbo:List GOp:=[p0 17 .lss 16 15]
def Bbp:List GOp:=[i0 18 7 14 16,t0 19 7 18,o0 11 (.alloc [.pv (.int .i64 0),.pv (.int .i32 0),.pv (.int .i32 0),.nils,.pv (.int .i64 0),.pv (.int .i64 0),.pv (.str [])]),s0 7 11 19]
def Bbq:List GOp:=[f0 20 3 11,l0 21 1 20,e0 22 21,k0 23 0]
def Bbr:List GOp:=[p0 24 .lss 23 22]
def Bbs:List GOp:=[i0 25 3 21 23,t0 26 3 25,o0 13 (.alloc [.pv (.int .i64 0),.pv (.int .i64 0),.pv (.int .i64 0)]),s0 3 13 26]
def Bbt:List GOp:=[f0 27 0 13,l0 28 1 27,m0 29 1,p0 30 .neq 28 29,m0 31 30,g0 32 31 false (.fld 1 (.tmp 13)),g0 33 31 false (.fld 0 (.tmp 32)),g0 34 31 false (.load false 1 (.tmp 33)),g0 35 31 false (.mov (.tmp 2)),g0 36 31 false (.bin false .neq (.tmp 34) (.tmp 35)),o0 37 (.pick (.tmp 31) (.cst (.bool true)) (.tmp 36))]
def Av3:List GOp:=[f0 38 1 13,f0 39 1 38,l0 40 1 39,o0 41 (.call 0 2 (.cst (.fn 140)) [(.tmp 9),(.tmp 40)] [] [.loc 9 0])]
def Av4:List GOp:=[o0 6 (.mov .nils),k0 7 9]
def Av5:List GOp:=[m0 42 8,f0 43 1 11,l0 44 1 43,f0 45 2 11,l0 46 1 45,f0 47 1 13,f0 48 1 47,l0 49 1 48,o0 50 (.build [.pv (.int .i32 0),.pv (.int .i32 0),.pv (.int .i64 0)] [(0,1,(.tmp 44)),(1,1,(.tmp 46)),(2,1,(.tmp 49))]),o0 51 (.lit false 3 [(.tmp 50)]),o0 52 (.append 8 3 16 (.tmp 42) (.tmp 51)),m0 8 52]
def Av6:List GOp:=[q0 53 .add 23 1,m0 23 53]
def Av1:AC:=(.keep [] [(1,false),(2,false),(8,false),(9,false),(11,false),(14,false),(15,false),(16,false),(21,false),(22,false),(23,false)] [(.loc 8 0,false),(.loc 11 0,false),(.loc 9 0,false)] [] [] (.seq (.ops Bbr) (.seq (.cond (.tmp 24) .skip (.exit 2)) (.seq (.block 3 (.seq (.ops Bbs) (.seq (.seq (.ops Bbt) (.cond (.tmp 37) (.exit 3) .skip)) (.seq (.seq (.ops Av3) (.cond (.tmp 41) (.seq (.ops Av4) (.keep [] [(6,true),(7,false)] [] [.loc 11 0,.loc 13 0,.loc 8 0,.loc 9 0] [] .ret)) .skip)) (.ops Av5))))) (.keep [] [(1,false),(2,false),(8,false),(9,false),(11,false),(14,false),(15,false),(16,false),(21,false),(22,false),(23,false)] [(.loc 8 0,false),(.loc 11 0,false),(.loc 9 0,false)] [.loc 13 0] [] (.ops Av6))))))
def Av7:List GOp:=[q0 54 .add 16 1,m0 16 54]
def Av2:AC:=(.keep [] [(1,false),(2,false),(8,false),(9,false),(14,false),(15,false),(16,false)] [(.loc 8 0,false),(.loc 9 0,false)] [] [.slot 8 (.loc 8 0) 3] (.seq (.ops Bbo) (.seq (.cond (.tmp 17) .skip (.exit 0)) (.seq (.pass 1 (.seq (.ops Bbp) (.seq (.ops Bbq) (.block 2 (.loop [1,2,8,9,11,14,15,16,21,22,23] [] Av1))))) (.keep [] [(1,false),(2,false),(8,false),(9,false),(14,false),(15,false),(16,false)] [(.loc 8 0,false),(.loc 9 0,false)] [.loc 11 0] [] (.ops Av7))))))
def Av8:List GOp:=[m0 55 8,m0 6 55,k0 7 0]
def Bil:AC:=(.seq (.ops Bbk) (.seq (.ops Bbl) (.seq (.ops Bbm) (.seq (.seq (.ops Bbn) (.block 0 (.loop [1,2,8,9,14,15,16] [] Av2))) (.seq (.keep [.loc 8 0] [(8,true)] [] [.loc 9 0] [] (.ops Av8)) (.keep [] [(6,true),(7,false)] [] [.loc 11 0,.loc 13 0,.loc 8 0,.loc 9 0] [] .ret))))))
def Q86:Fd:=⟨3,[.tmp 6,.tmp 7],[],Bil⟩
theorem Av0:Bl Tryz.prog Tryz.f110 Q86=true:=by kernel_rfl
theorem Vo{l1:List Af}{acc2:Int}{cur3:Int}{r:(List Ai)×Int}(h:Jm l1 acc2 cur3=some r):A3 Tryz.prog 110 [Vl Af.pv l1,Vi acc2,Vi cur3] [] ⟨.tup [Vl Ai.pv r.1,Vi r.2],[],[]⟩:=by
 refine Ap hm Tryz.func110 Av0 (by kernel_rfl) ?_
 unfold Jm at h
 refine Ab Aw ?_
 refine Ab Aw ?_
 refine Ab Aw ?_
 refine Ae ?_
 refine Ab (Bw 1 (Aj.dyn (Lw Af.pv l1) Aw)) ?_
 obtain⟨j4,hj4,h⟩:=Ag h
 refine Ck (j:=j4) (o:=r) (fun p σ=>σ.tidy [.loc 8 0] [(8,true)] [] [.loc 9 0] []=⟨[(8,Vl Ai.pv p)],[]⟩) ?_ (fun out22 σj4 hp hsj4=>?_) (fun p hp=>?_)
 ·refine B1 (fun q σ=>((σ.forget [1,2,8,9,14,15,16]).killAll []).tidy [] [(1,false),(2,false),(8,false),(9,false),(14,false),(15,false),(16,false)] [(.loc 8 0,false),(.loc 9 0,false)] [] [.slot 8 (.loc 8 0) 3]=⟨[(1,Vi acc2),(2,Vi cur3),(8,.own (.loc 8 0)),(9,.ptr (.loc 9 0) 0),(14,Vl Af.pv l1),(15,Vi (l1.length:Int)),(16,Vi q.1)],[(.loc 8 0,.row 3 (List.map Ai.pv q.2.2)),(.loc 9 0,.box [Vi q.2.1])]⟩) hj4 ?_ ?_
  ·show _=_
   kernel_rfl
  ·intro q σj4 oj4 hJj4 h
   obtain⟨x5,g6,row7⟩:=q
   refine W.keep hJj4 ?_
   refine Ab Aw ?_
   refine Ar (t:=decide (x5<(l1.length:Int))) (by kernel_rfl) h (fun hc h'=>?_) (fun hc h'=>?_)
   ·replace h:=h'
    refine Ay ?_
    refine Bs ?_
    refine Ae ?_
    obtain⟨x8,hx8,h⟩:=Ag h
    refine Ab (Aj.dyn (Iw Af.pv l1 x5 x8 hx8) Aw) ?_
    refine Ae ?_
    refine Ab (Bw 2 (Aj.dyn (Lw Bj.pv x8.B0) Aw)) ?_
    obtain⟨j9,hj9,h⟩:=Ag h
    refine Ck (j:=j9) (o:=oj4) (fun p σ=>σ.tidy [] [(1,false),(2,false),(8,false),(9,false),(14,false),(15,false),(16,false)] [(.loc 8 0,false),(.loc 9 0,false)] [.loc 11 0] []=⟨[(1,Vi acc2),(2,Vi cur3),(8,.own (.loc 8 0)),(9,.ptr (.loc 9 0) 0),(14,Vl Af.pv l1),(15,Vi (l1.length:Int)),(16,Vi x5)],[(.loc 8 0,.row 3 (List.map Ai.pv p.2)),(.loc 9 0,.box [Vi p.1])]⟩) ?_ (fun p σj9 hp hsj9=>?_) (fun p hp=>?_)
    ·refine B1 (fun q σ=>((σ.forget [1,2,8,9,11,14,15,16,21,22,23]).killAll []).tidy [] [(1,false),(2,false),(8,false),(9,false),(11,false),(14,false),(15,false),(16,false),(21,false),(22,false),(23,false)] [(.loc 8 0,false),(.loc 11 0,false),(.loc 9 0,false)] [] []=⟨[(1,Vi acc2),(2,Vi cur3),(8,.own (.loc 8 0)),(9,.ptr (.loc 9 0) 0),(11,.ptr (.loc 11 0) 0),(14,Vl Af.pv l1),(15,Vi (l1.length:Int)),(16,Vi x5),(21,Vl Bj.pv x8.B0),(22,Vi (x8.B0.length:Int)),(23,Vi q.1)],[(.loc 8 0,.row 3 (List.map Ai.pv q.2.2)),(.loc 11 0,.box [Vi x8.Bc,.pv (.int .i32 x8.Cy),.pv (.int .i32 x8.Cp),Vl Bj.pv x8.B0,Vi x8.Fg,Vi x8.Ca,.pv (.str x8.Kf)]),(.loc 9 0,.box [Vi q.2.1])]⟩) hj9 ?_ ?_
     ·show _=_
      kernel_rfl
     ·intro q σj9 oj9 hJj9 h
      obtain⟨x10,g11,row12⟩:=q
      refine W.keep hJj9 ?_
      refine Ab Aw ?_
      refine Ar (t:=decide (x10<(x8.B0.length:Int))) (by kernel_rfl) h (fun hc h'=>?_) (fun hc h'=>?_)
      ·replace h:=h'
       refine Ay ?_
       obtain⟨j13,hj13,h⟩:=Ag h
       refine Ck (j:=j13) (o:=oj9) (fun p σ=>σ.tidy [] [(1,false),(2,false),(8,false),(9,false),(11,false),(14,false),(15,false),(16,false),(21,false),(22,false),(23,false)] [(.loc 8 0,false),(.loc 11 0,false),(.loc 9 0,false)] [.loc 13 0] []=⟨[(1,Vi acc2),(2,Vi cur3),(8,.own (.loc 8 0)),(9,.ptr (.loc 9 0) 0),(11,.ptr (.loc 11 0) 0),(14,Vl Af.pv l1),(15,Vi (l1.length:Int)),(16,Vi x5),(21,Vl Bj.pv x8.B0),(22,Vi (x8.B0.length:Int)),(23,Vi x10)],[(.loc 8 0,.row 3 (List.map Ai.pv p.2)),(.loc 11 0,.box [Vi x8.Bc,.pv (.int .i32 x8.Cy),.pv (.int .i32 x8.Cp),Vl Bj.pv x8.B0,Vi x8.Fg,Vi x8.Ca,.pv (.str x8.Kf)]),(.loc 9 0,.box [Vi p.1])]⟩) ?_ (fun p σj13 hp hsj13=>?_) (fun p hp=>?_)
       ·refine Ys ?_
        replace h:=hj13
        obtain⟨x14,hx14,h⟩:=Ag h
        refine Ab (Aj.dyn (Iw Bj.pv x8.B0 x10 x14 hx14) Aw) ?_
        refine Ae ?_
        obtain⟨c15,hc15,h⟩:=Ag h
        refine Ab (Bw 4 (Aj.dyn (Nw (x14.Az !=acc2) c15 hc15) (Aj.puts 6 [(37,Vb (c15||(x14.Ak.Bb !=cur3))),(36,(Bf (!c15) (Vb (x14.Ak.Bb !=cur3)))),(35,(Bf (!c15) (Vi cur3))),(34,(Bf (!c15) (Vi x14.Ak.Bb))),(33,(Bf (!c15) (.ptr (.loc 13 0) 1))),(32,(Bf (!c15) (.ptr (.loc 13 0) 1)))] (by cases c15<;>kernel_rfl) ((.nil _))))) ?_
        refine Ar (t:=(c15||(x14.Ak.Bb !=cur3))) (by kernel_rfl) h (fun hc h'=>?_) (fun hc h'=>?_)
        ·replace h:=h'
         cases h
         exact Bp ((Eh (by(show _=_);kernel_rfl)))
        ·replace h:=h'
         refine Ay ?_
         refine Ae ?_
         obtain⟨x16,hx16,h⟩:=Ag h
         refine Ab (Bw 3 (Aj.cons (Tw (Pu hx16) Ax) (Cx (g:=140) (caps:=[]) (v:=Vb x16.1) (ins:=[]) rfl (by kernel_rfl) (by kernel_rfl) (by kernel_rfl) Hw (by kernel_rfl) (by kernel_rfl)) ((.nil _)))) ?_
         refine Ar (t:=x16.1) (by kernel_rfl) h (fun hc h'=>?_) (fun hc h'=>?_)
         ·replace h:=h'
          refine Ae ?_
          refine Ab Aw ?_
          refine An rfl ?_
          cases h
          exact A8 ((Ed Cd Dh (fun e=>by subst e;exact(Bh Cd (Ed Cd Dh (fun e=>by subst e;exact(Bh Cd (Ed Cd Dh (fun e=>by subst e;exact Fw)))))))))
         ·replace h:=h'
          refine Ay ?_
          obtain⟨x17,hx17,h⟩:=Ag h
          refine W.ops (Bw 10 (Aj.dyn (C5 (k:= .loc 8 0) (f:=Ai.pv) (l:=row12) (m:=[(⟨x8.Cy,x8.Cp,x14.Ak.Ao⟩:Ai)]) (by kernel_rfl) (by kernel_rfl) (by kernel_rfl) hx17 (fun _=>rfl) (by kernel_rfl)) Aw)) ?_
          cases h
          exact(Axc (by(show _=_);kernel_rfl))
       ·subst hp
        obtain⟨g18,row19⟩:=p
        refine W.keep hsj13 ?_
        refine W.ops Aw ?_
        cases h
        exact Ow
       ·subst hp
        exact Option.some.inj h
      ·replace h:=h'
       cases h
       exact Bp ((Bh B6 (Eh (by(show _=_);kernel_rfl))))
    ·subst hp
     obtain⟨g20,row21⟩:=p
     refine W.keep hsj9 ?_
     refine W.ops Aw ?_
     cases h
     exact Ow
    ·subst hp
     exact Option.some.inj h
   ·replace h:=h'
    cases h
    exact Bp ((Bh B6 (Eh (by(show _=_);kernel_rfl))))
 ·subst hp
  refine An hsj4 ?_
  refine Ab Aw ?_
  refine W.keep rfl ?_
  cases h
  exact W.ret Fw
 ·subst hp
  exact Option.some.inj h
def Bbu:List GOp:=[o0 2 (.box (.tmp 0)),b0 3 false]
def Bbv:List GOp:=[f0 4 1 2,l0 5 1 4,l0 6 1 1,p0 7 .leq 5 6,m0 3 7]
def Bim:AC:=(.seq (.ops Bbu) (.seq (.ops Bbv) (.keep [] [(3,false)] [(.ext 0,false)] [.loc 2 0] [] .ret)))
def Q87:Fd:=⟨2,[.tmp 3],[],Bim⟩
theorem Av9:Bl Tryz.prog Tryz.f112 Q87=true:=by kernel_rfl
theorem Vn{x1:Ai}{e2:Int}{r:Bool}(h:Il x1 e2=some r):A3 Tryz.prog 112 [.pv (Ai.pv x1),.ptr (.ext 0) 0] [.box [.pv (.int .i32 e2)]] ⟨Vb r,[],[(some (.box [.pv (.int .i32 e2)]))]⟩:=by
 refine Ap hm Tryz.func112 Av9 (by kernel_rfl) ?_
 unfold Il at h
 refine Ab Aw ?_
 refine Ab Aw ?_
 refine W.keep rfl ?_
 cases h
 exact W.ret Fw
def Bda:List GOp:=[k0 4 0]
def Bdb:List GOp:=[k0 5 0]
def Bdc:List GOp:=[m0 8 0,e0 9 8,k0 10 0]
def Bdd:List GOp:=[p0 11 .lss 10 9]
def Bde:List GOp:=[i0 12 3 8 10,t0 13 3 12,o0 7 (.alloc [.pv (.int .i32 0),.pv (.int .i32 0),.pv (.int .i64 0)]),s0 3 7 13]
def Bdf:List GOp:=[m0 14 1,t0 15 3 7,o0 16 (.call 0 2 (.tmp 14) [(.tmp 15)] [] [.ext 0])]
def Bdg:List GOp:=[m0 17 5,f0 18 2 7,l0 19 1 18,p0 20 .add 17 19,m0 5 20]
def Bdh:List GOp:=[q0 21 .add 10 1,m0 10 21]
def Bc9:AC:=(.keep [] [(1,false),(5,false),(8,false),(9,false),(10,false)] [(.ext 0,false)] [] [] (.seq (.ops Bdd) (.seq (.cond (.tmp 11) .skip (.exit 0)) (.seq (.pass 1 (.seq (.ops Bde) (.seq (.ops Bdf) (.cond (.tmp 16) (.ops Bdg) .skip)))) (.keep [] [(1,false),(5,false),(8,false),(9,false),(10,false)] [(.ext 0,false)] [.loc 7 0] [] (.ops Bdh))))))
def Bdi:List GOp:=[m0 22 5,m0 4 22]
def Biz:AC:=(.seq (.ops Bda) (.seq (.ops Bdb) (.seq (.seq (.ops Bdc) (.block 0 (.loop [1,5,8,9,10] [] Bc9))) (.seq (.keep [] [(5,false)] [(.ext 0,false)] [] [] (.ops Bdi)) (.keep [] [(4,false)] [(.ext 0,false)] [] [] .ret)))))
def Q99:Fd:=⟨2,[.tmp 4],[],Biz⟩
theorem Awu:Bl Tryz.prog Tryz.f111 Q99=true:=by kernel_rfl
theorem Wo{l1:List Ai}{e2:Int}{r:Int}(h:Je l1 e2=some r):A3 Tryz.prog 111 [Vl Ai.pv l1,.fn 112 [.ptr (.ext 0) 0]] [.box [.pv (.int .i32 e2)]] ⟨Vi r,[],[(some (.box [.pv (.int .i32 e2)]))]⟩:=by
 refine Ap hm Tryz.func111 Awu (by kernel_rfl) ?_
 unfold Je at h
 refine Ab Aw ?_
 refine Ab Aw ?_
 refine Ae ?_
 refine Ab (Bw 1 (Aj.dyn (Lw Ai.pv l1) Aw)) ?_
 obtain⟨j3,hj3,h⟩:=Ag h
 refine W.join (j:=j3) (fun p σ=>σ.tidy [] [(5,false)] [(.ext 0,false)] [] []=⟨[(5,Vi p)],[(.ext 0,.box [.pv (.int .i32 e2)])]⟩) ?_ (fun σj3 hsj3=>?_)
 ·refine Ch (fun q σ=>((σ.forget [1,5,8,9,10]).killAll []).tidy [] [(1,false),(5,false),(8,false),(9,false),(10,false)] [(.ext 0,false)] [] []=⟨[(1,.fn 112 [.ptr (.ext 0) 0]),(5,Vi q.1),(8,Vl Ai.pv l1),(9,Vi (l1.length:Int)),(10,Vi q.2)],[(.ext 0,.box [.pv (.int .i32 e2)])]⟩) hj3 ?_ ?_
  ·show _=_
   kernel_rfl
  ·intro q σj3 oj3 hJj3 h
   obtain⟨n4,x5⟩:=q
   refine W.keep hJj3 ?_
   refine Ab Aw ?_
   refine Ar (t:=decide (x5<(l1.length:Int))) (by kernel_rfl) h (fun hc h'=>?_) (fun hc h'=>?_)
   ·replace h:=h'
    refine Ay ?_
    refine Bs ?_
    refine Ae ?_
    obtain⟨x6,hx6,h⟩:=Ag h
    refine Ab (Aj.dyn (Iw Ai.pv l1 x5 x6 hx6) Aw) ?_
    refine Ae ?_
    obtain⟨x7,hx7,h⟩:=Ag h
    refine Ab (Bw 2 (Aj.cons (Tw (Vn hx7) Ax) (Cx (g:=112) (caps:=[.ptr (.ext 0) 0]) (v:=Vb x7) (ins:=[]) rfl (by kernel_rfl) (by kernel_rfl) (by kernel_rfl) Hw (by kernel_rfl) (by kernel_rfl)) ((.nil _)))) ?_
    obtain⟨j8,hj8,h⟩:=Ag h
    refine W.join (j:=j8) (fun p σ=>σ.tidy [] [(1,false),(5,false),(8,false),(9,false),(10,false)] [(.ext 0,false)] [.loc 7 0] []=⟨[(1,.fn 112 [.ptr (.ext 0) 0]),(5,Vi p),(8,Vl Ai.pv l1),(9,Vi (l1.length:Int)),(10,Vi x5)],[(.ext 0,.box [.pv (.int .i32 e2)])]⟩) ?_ (fun σj8 hsj8=>?_)
    ·replace h:=hj8
     refine De (t:=x7) (by kernel_rfl) h (fun hc h'=>?_) (fun hc h'=>?_)
     ·replace h:=h'
      refine W.ops Aw ?_
      cases h
      exact Jw
     ·replace h:=h'
      cases h
      exact W.skip Jw
    ·refine W.keep hsj8 ?_
     refine W.ops Aw ?_
     cases h
     exact Ow
   ·replace h:=h'
    cases h
    exact Bp ((Bh B6 (D3 (by(show _=_);kernel_rfl))))
 ·refine An hsj3 ?_
  refine Ab Aw ?_
  refine W.keep rfl ?_
  cases h
  exact W.ret Fw
def Ank:List GOp:=[o0 7 (.box (.tmp 3)),k0 8 0,k0 9 0]
def Anl:List GOp:=[m0 13 0,l0 14 1 7,l0 15 1 7,o0 16 (.call 0 0 (.cst (.fn 109)) [(.tmp 13),(.tmp 14),(.tmp 15),.nils] [] []),m0 10 16]
def Anm:List GOp:=[m0 17 10,q0 18 .neq 17 0]
def Ann:List GOp:=[m0 19 10,k0 8 0,m0 9 19]
def Ano:List GOp:=[m0 21 0,m0 22 1,m0 23 2,o0 24 (.call 0 0 (.cst (.fn 110)) [(.tmp 21),(.tmp 22),(.tmp 23)] [] []),m0 20 24,o0 25 (.ext 0 (.tmp 20)),o0 26 (.ext 1 (.tmp 20)),m0 11 25,m0 12 26]
def Anp:List GOp:=[m0 27 11,o0 28 (.mkfn 112 [(.tmp 7)]),o0 29 (.call 0 2 (.cst (.fn 111)) [(.tmp 27),(.tmp 28)] [] [.loc 7 0]),m0 30 12,m0 8 29,m0 9 30]
def Ayk:AC:=(.seq (.ops Ank) (.seq (.seq (.ops Anl) (.seq (.ops Anm) (.cond (.tmp 18) (.seq (.ops Ann) (.keep [] [(8,false),(9,false)] [] [.loc 7 0] [] .ret)) .skip))) (.seq (.ops Ano) (.seq (.ops Anp) (.keep [] [(8,false),(9,false)] [] [.loc 7 0] [] .ret)))))
def Ber:Fd:=⟨4,[.tmp 8,.tmp 9],[],Ayk⟩
theorem Aj4:Bl Tryz.prog Tryz.f67 Ber=true:=by kernel_rfl
theorem Ya{l1:List Af}{acc2:Int}{cur3:Int}{upto4:Int}{r:Int×Int}(h:Mh l1 acc2 cur3 upto4=some r):A3 Tryz.prog 67 [Vl Af.pv l1,Vi acc2,Vi cur3,.pv (.int .i32 upto4)] [] ⟨.tup [Vi r.1,Vi r.2],[],[]⟩:=by
 refine Ap hm Tryz.func67 Aj4 (by kernel_rfl) ?_
 unfold Mh at h
 refine Ab Aw ?_
 refine Ae ?_
 obtain⟨x5,hx5,h⟩:=Ag h
 refine Ab (Bw 3 (Aj.cons (Tw (Wn hx5) Ax) (Kw 109 [] (Vi x5) Hw) Aw)) ?_
 refine Ae ?_
 refine Ab Aw ?_
 refine Ar (t:=(x5 !=0)) (by kernel_rfl) h (fun hc h'=>?_) (fun hc h'=>?_)
 ·replace h:=h'
  refine Ae ?_
  refine Ab Aw ?_
  refine An rfl ?_
  cases h
  exact A8 Fw
 ·replace h:=h'
  refine Ay ?_
  obtain⟨x6,hx6,h⟩:=Ag h
  refine Ab (Bw 3 (Aj.cons (Tw (Vo hx6) Ax) (Kw 110 [] (.tup [Vl Ai.pv x6.1,Vi x6.2]) Hw) Aw)) ?_
  obtain⟨x7,hx7,h⟩:=Ag h
  refine Ab (Bw 2 (Aj.cons (Tw (Wo hx7) Ax) (Cx (g:=111) (caps:=[]) (v:=Vi x7) (ins:=[]) rfl (by kernel_rfl) (by kernel_rfl) (by kernel_rfl) Hw (by kernel_rfl) (by kernel_rfl)) Aw)) ?_
  refine W.keep rfl ?_
  cases h
  exact W.ret Fw
def Amg:List GOp:=[o0 2 (.box (.tmp 0)),b0 3 false]
def Amh:List GOp:=[f0 4 0 2,l0 5 1 4,l0 6 1 1,p0 7 .eql 5 6,m0 3 7]
def Ayc:AC:=(.seq (.ops Amg) (.seq (.ops Amh) (.keep [] [(3,false)] [(.ext 0,false)] [.loc 2 0] [] .ret)))
def Bej:Fd:=⟨2,[.tmp 3],[],Ayc⟩
theorem Ajp:Bl Tryz.prog Tryz.f69 Bej=true:=by kernel_rfl
theorem Wm{x1:Al}{e2:Int}{r:Bool}(h:Mw x1 e2=some r):A3 Tryz.prog 69 [.pv (Al.pv x1),.ptr (.ext 0) 0] [.box [Vi e2]] ⟨Vb r,[],[(some (.box [Vi e2]))]⟩:=by
 refine Ap hm Tryz.func69 Ajp (by kernel_rfl) ?_
 unfold Mw at h
 refine Ab Aw ?_
 refine Ab Aw ?_
 refine W.keep rfl ?_
 cases h
 exact W.ret Fw
def Ay2:List GOp:=[k0 4 0]
def Ay3:List GOp:=[m0 6 0,e0 7 6,k0 8 0]
def Ay4:List GOp:=[p0 9 .lss 8 7]
def Ay5:List GOp:=[m0 10 8,m0 5 10]
def Ay6:List GOp:=[m0 11 1,m0 12 0,m0 13 5,i0 14 2 12 13,t0 15 2 14,o0 16 (.call 0 2 (.tmp 11) [(.tmp 15)] [] [.ext 0])]
def Ay7:List GOp:=[m0 17 5,m0 4 17]
def Ay8:List GOp:=[q0 18 .add 8 1,m0 8 18]
def Ay1:AC:=(.keep [] [(0,false),(1,false),(7,false),(8,false)] [(.ext 0,false)] [] [] (.seq (.ops Ay4) (.seq (.cond (.tmp 9) .skip (.exit 0)) (.seq (.pass 1 (.seq (.ops Ay5) (.seq (.ops Ay6) (.cond (.tmp 16) (.seq (.ops Ay7) (.keep [] [(4,false)] [(.ext 0,false)] [] [] .ret)) .skip)))) (.ops Ay8)))))
def Ay9:List GOp:=[k0 4 (-1)]
def Be5:AC:=(.seq (.ops Ay2) (.seq (.seq (.ops Ay3) (.block 0 (.loop [0,1,7,8] [] Ay1))) (.seq (.keep [] [] [(.ext 0,false)] [] [] (.ops Ay9)) (.keep [] [(4,false)] [(.ext 0,false)] [] [] .ret))))
def Q13:Fd:=⟨2,[.tmp 4],[],Be5⟩
theorem Apu:Bl Tryz.prog Tryz.f68 Q13=true:=by kernel_rfl
theorem J2{s1:List Al}{e2:Int}{r:Int}(h:C6 s1 e2=some r):A3 Tryz.prog 68 [Vl Al.pv s1,.fn 69 [.ptr (.ext 0) 0]] [.box [Vi e2]] ⟨Vi r,[],[(some (.box [Vi e2]))]⟩:=by
 refine Ap hm Tryz.func68 Apu (by kernel_rfl) ?_
 unfold C6 at h
 refine Ab Aw ?_
 refine Ae ?_
 refine Ab (Bw 1 (Aj.dyn (Lw Al.pv s1) Aw)) ?_
 obtain⟨j3,hj3,h⟩:=Ag h
 refine Ck (j:=j3) (o:=r) (fun p σ=>σ.tidy [] [] [(.ext 0,false)] [] []=⟨[],[(.ext 0,.box [Vi e2])]⟩) ?_ (fun p σj3 hp hsj3=>?_) (fun p hp=>?_)
 ·refine B1 (fun q σ=>((σ.forget [0,1,7,8]).killAll []).tidy [] [(0,false),(1,false),(7,false),(8,false)] [(.ext 0,false)] [] []=⟨[(0,Vl Al.pv s1),(1,.fn 69 [.ptr (.ext 0) 0]),(7,Vi (s1.length:Int)),(8,Vi q)],[(.ext 0,.box [Vi e2])]⟩) hj3 ?_ ?_
  ·show _=_
   kernel_rfl
  ·intro x4 σj3 oj3 hJj3 h
   refine W.keep hJj3 ?_
   refine Ab Aw ?_
   refine Ar (t:=decide (x4<(s1.length:Int))) (by kernel_rfl) h (fun hc h'=>?_) (fun hc h'=>?_)
   ·replace h:=h'
    refine Ay ?_
    refine Bs ?_
    refine Ae ?_
    refine Ab Aw ?_
    refine Ae ?_
    obtain⟨x5,hx5,h⟩:=Ag h
    obtain⟨x6,hx6,h⟩:=Ag h
    refine Ab (Bw 3 (Aj.dyn (Iw Al.pv s1 x4 x5 hx5) (Bw 1 (Aj.cons (Tw (Wm hx6) Ax) (Cx (g:=69) (caps:=[.ptr (.ext 0) 0]) (v:=Vb x6) (ins:=[]) rfl (by kernel_rfl) (by kernel_rfl) (by kernel_rfl) Hw (by kernel_rfl) (by kernel_rfl)) ((.nil _)))))) ?_
    refine Ar (t:=x6) (by kernel_rfl) h (fun hc h'=>?_) (fun hc h'=>?_)
    ·replace h:=h'
     refine Ae ?_
     refine Ab Aw ?_
     refine An rfl ?_
     cases h
     exact A8 ((Bh Cd (Ed Cd Dh (fun e=>by subst e;exact Fw))))
    ·replace h:=h'
     refine Ay ?_
     refine W.ops Aw ?_
     cases h
     exact Ow
   ·replace h:=h'
    cases h
    exact Bp ((Bh B6 (Eh (by(show _=_);kernel_rfl))))
 ·subst hp
  obtain⟨⟩:=p
  refine An hsj3 ?_
  refine Ab Aw ?_
  refine W.keep rfl ?_
  cases h
  exact W.ret Fw
 ·subst hp
  exact Option.some.inj h
def Aot:List GOp:=[o0 3 (.box (.tmp 0)),o0 4 (.box (.tmp 1)),o0 6 (.alloc [.pv (.int .i64 0),.pv (.int .i64 0),.pv (.int .i64 0)]),o0 7 (.mov (.cst .nilI))]
def Aou:List GOp:=[f0 17 0 3,t0 18 2 17,l0 19 1 4,o0 20 (.call 0 0 (.cst (.fn 64)) [(.tmp 18),(.tmp 19)] [] []),m0 16 20,o0 21 (.ext 0 (.tmp 16)),o0 22 (.ext 1 (.tmp 16)),o0 8 (.alloc [.pv (.int .i64 0),.pv (.int .i64 0),.pv (.int .i64 0),.pv (.int .i64 0),.pv (.int .i64 0),.pv (.int .i64 0),.pv (.int .i32 0),.pv (.int .i32 0)]),s0 8 8 21,m0 9 22]
def Aov:List GOp:=[m0 23 9,o0 24 (.call 0 0 (.cst (.fn 65)) [(.tmp 23)] [] []),m0 10 24]
def Aow:List GOp:=[m0 25 10,o0 26 (.isNil true (.tmp 25))]
def Aox:List GOp:=[o0 27 (.build [.pv (.int .i64 0),.pv (.int .i64 0),.pv (.int .i64 0)] []),m0 28 10,s0 3 6 27,m0 7 28]
def Aoy:List GOp:=[f0 29 1 8,l0 30 1 29,q0 31 .neq 30 1]
def Aoz:List GOp:=[o0 32 (.build [.pv (.int .i64 0),.pv (.int .i64 0),.pv (.int .i64 0)] []),o0 33 (.build [.pv (.int .i64 0)] [(0,1,(.cst (.int .i64 13)))]),o0 34 (.mkI 113 (.tmp 33)),s0 3 6 32,m0 7 34]
def Ao0:List GOp:=[f0 36 0 3,t0 37 2 36,l0 38 1 4,m0 39 2,o0 40 (.call 0 0 (.cst (.fn 66)) [(.tmp 37),(.tmp 38),(.tmp 39)] [] []),m0 35 40,o0 41 (.ext 0 (.tmp 35)),o0 42 (.ext 1 (.tmp 35)),m0 11 41,m0 9 42]
def Ao1:List GOp:=[m0 43 9,o0 44 (.call 0 0 (.cst (.fn 65)) [(.tmp 43)] [] []),m0 12 44]
def Ao2:List GOp:=[m0 45 12,o0 46 (.isNil true (.tmp 45))]
def Akp:List GOp:=[o0 47 (.build [.pv (.int .i64 0),.pv (.int .i64 0),.pv (.int .i64 0)] []),m0 48 12,s0 3 6 47,m0 7 48]
def Akq:List GOp:=[m0 49 11,o0 50 (.un .not (.tmp 49))]
def Akr:List GOp:=[o0 51 (.build [.pv (.int .i64 0),.pv (.int .i64 0),.pv (.int .i64 0)] []),o0 52 (.build [.pv (.int .i64 0)] [(0,1,(.cst (.int .i64 16)))]),o0 53 (.mkI 113 (.tmp 52)),s0 3 6 51,m0 7 53]
def Aks:List GOp:=[f0 55 2 3,l0 56 1 55,l0 57 1 4,f0 58 2 8,l0 59 1 58,m0 60 2,o0 61 (.call 0 0 (.cst (.fn 67)) [(.tmp 56),(.tmp 57),(.tmp 59),(.tmp 60)] [] []),m0 54 61,o0 62 (.ext 0 (.tmp 54)),o0 63 (.ext 1 (.tmp 54)),m0 13 62,m0 9 63]
def Akt:List GOp:=[f0 64 2 8,l0 65 1 64,m0 66 13,o0 67 (.un .neg (.tmp 66)),o0 68 (.build [.pv (.int .i64 0),.pv (.int .i64 0),.pv (.int .i64 0)] [(0,1,(.tmp 65)),(1,1,(.tmp 67))]),o0 14 (.alloc [.pv (.int .i64 0),.pv (.int .i64 0),.pv (.int .i64 0)]),s0 3 14 68]
def Aku:List GOp:=[f0 69 4 3,l0 70 1 69,o0 71 (.mkfn 69 [(.tmp 4)]),o0 72 (.call 0 2 (.cst (.fn 68)) [(.tmp 70),(.tmp 71)] [] [.loc 4 0]),m0 15 72]
def Akv:List GOp:=[m0 73 15,q0 74 .geq 73 0]
def Akw:List GOp:=[f0 75 4 3,l0 76 1 75,m0 77 15,i0 78 2 76 77,f0 79 1 78,l0 80 1 79,f0 81 2 14,s0 1 81 80]
def Akx:List GOp:=[t0 82 3 14,m0 83 9,o0 84 (.call 0 0 (.cst (.fn 65)) [(.tmp 83)] [] []),s0 3 6 82,m0 7 84]
def Ayr:AC:=(.seq (.ops Aot) (.seq (.ops Aou) (.seq (.seq (.ops Aov) (.seq (.ops Aow) (.cond (.tmp 26) (.seq (.ops Aox) (.keep [] [(6,false),(7,false)] [(.loc 6 0,false)] [.loc 14 0,.loc 3 0,.loc 4 0,.loc 8 0] [] .ret)) .skip))) (.seq (.seq (.ops Aoy) (.cond (.tmp 31) (.seq (.ops Aoz) (.keep [] [(6,false),(7,false)] [(.loc 6 0,false)] [.loc 14 0,.loc 3 0,.loc 4 0,.loc 8 0] [] .ret)) .skip)) (.seq (.ops Ao0) (.seq (.seq (.ops Ao1) (.seq (.ops Ao2) (.cond (.tmp 46) (.seq (.ops Akp) (.keep [] [(6,false),(7,false)] [(.loc 6 0,false)] [.loc 14 0,.loc 3 0,.loc 4 0,.loc 8 0] [] .ret)) .skip))) (.seq (.seq (.ops Akq) (.cond (.tmp 50) (.seq (.ops Akr) (.keep [] [(6,false),(7,false)] [(.loc 6 0,false)] [.loc 14 0,.loc 3 0,.loc 4 0,.loc 8 0] [] .ret)) .skip)) (.seq (.ops Aks) (.seq (.ops Akt) (.seq (.seq (.ops Aku) (.seq (.ops Akv) (.cond (.tmp 74) (.ops Akw) .skip))) (.seq (.keep [] [(6,false),(9,false),(14,false)] [(.loc 14 0,false),(.loc 6 0,false)] [.loc 3 0,.loc 4 0,.loc 8 0] [] (.draw [] Akx)) (.keep [] [(6,false),(7,false)] [(.loc 6 0,false)] [.loc 14 0,.loc 3 0,.loc 4 0,.loc 8 0] [] .ret))))))))))))
def Bex:Fd:=⟨3,[.cell 6 true 3,.tmp 7],[],Ayr⟩
theorem Ako:Bl Tryz.prog Tryz.f28 Bex=true:=by kernel_rfl
theorem N8{t1:Ah}{acc2:Int}{now3:Int}{r:Be×(Option Int)}(h:Kd t1 acc2 now3=some r):A3 Tryz.prog 28 [.pv (Ah.pv t1),Vi acc2,.pv (.int .i32 now3)] [] ⟨.tup [.pv (Be.pv r.1),.pv (Ww 113 r.2)],[],[]⟩:=by
 refine Ap hm Tryz.func28 Ako (by kernel_rfl) ?_
 unfold Kd at h
 refine Ab Aw ?_
 obtain⟨x4,hx4,h⟩:=Ag h
 refine Ab (Bw 3 (Aj.cons (Tw (Rq hx4) Ax) (Kw 64 [] (.tup [.pv (Ad.pv x4.1),Vi x4.2]) Hw) Aw)) ?_
 refine Ae ?_
 obtain⟨x5,hx5,h⟩:=Ag h
 refine Ab (Bw 1 (Aj.cons (Tw (Mf hx5) Ax) (Kw 65 [] (.pv (Ww 113 x5)) Hw) Aw)) ?_
 refine Ae ?_
 refine Ab (Bw 1 (Aj.dyn (K0 (t:=113) (e:=x5) (by kernel_rfl)) ((.nil _)))) ?_
 refine Ar (t:=Option.isSome x5) (by kernel_rfl) h (fun hc h'=>?_) (fun hc h'=>?_)
 ·replace h:=h'
  refine Ae ?_
  refine Ab Aw ?_
  refine An rfl ?_
  cases h
  exact A8 Fw
 ·replace h:=h'
  refine Ay ?_
  refine Ae ?_
  refine Ab Aw ?_
  refine Ar (t:=(x4.1.Ca !=1)) (by kernel_rfl) h (fun hc h'=>?_) (fun hc h'=>?_)
  ·replace h:=h'
   refine Ae ?_
   refine Ab Aw ?_
   refine An rfl ?_
   cases h
   exact A8 Fw
  ·replace h:=h'
   refine Ay ?_
   obtain⟨x6,hx6,h⟩:=Ag h
   refine Ab (Bw 4 (Aj.cons (Tw (Abe hx6) Ax) (Kw 66 [] (.tup [Vb x6.1,Vi x6.2]) Hw) Aw)) ?_
   refine Ae ?_
   obtain⟨x7,hx7,h⟩:=Ag h
   refine Ab (Bw 1 (Aj.cons (Tw (Mf hx7) Ax) (Kw 65 [] (.pv (Ww 113 x7)) Hw) Aw)) ?_
   refine Ae ?_
   refine Ab (Bw 1 (Aj.dyn (K0 (t:=113) (e:=x7) (by kernel_rfl)) ((.nil _)))) ?_
   refine Ar (t:=Option.isSome x7) (by kernel_rfl) h (fun hc h'=>?_) (fun hc h'=>?_)
   ·replace h:=h'
    refine Ae ?_
    refine Ab Aw ?_
    refine An rfl ?_
    cases h
    exact A8 Fw
   ·replace h:=h'
    refine Ay ?_
    refine Ae ?_
    refine Ab Aw ?_
    refine Ar (t:= !x6.1) (by kernel_rfl) h (fun hc h'=>?_) (fun hc h'=>?_)
    ·replace h:=h'
     refine Ae ?_
     refine Ab Aw ?_
     refine An rfl ?_
     cases h
     exact A8 Fw
    ·replace h:=h'
     refine Ay ?_
     obtain⟨x8,hx8,h⟩:=Ag h
     refine Ab (Bw 6 (Aj.cons (Tw (Ya hx8) Ax) (Kw 67 [] (.tup [Vi x8.1,Vi x8.2]) Hw) Aw)) ?_
     refine Ab Aw ?_
     refine Ae ?_
     obtain⟨x9,hx9,h⟩:=Ag h
     refine Ab (Bw 3 (Aj.cons (Tw (J2 hx9) Ax) (Cx (g:=68) (caps:=[]) (v:=Vi x9) (ins:=[]) rfl (by kernel_rfl) (by kernel_rfl) (by kernel_rfl) Hw (by kernel_rfl) (by kernel_rfl)) Aw)) ?_
     refine Ae ?_
     refine Ab Aw ?_
     obtain⟨j10,hj10,h⟩:=Ag h
     refine W.join (j:=j10) (fun p σ=>σ.tidy [] [(6,false),(9,false),(14,false)] [(.loc 14 0,false),(.loc 6 0,false)] [.loc 3 0,.loc 4 0,.loc 8 0] []=⟨[(6,.ptr (.loc 6 0) 0),(9,Vi x8.2),(14,.ptr (.loc 14 0) 0)],[(.loc 14 0,.box [Vi x4.1.Bb,Vi (IntKind.wrap .i64 (0-x8.1)),Vi p]),(.loc 6 0,.box [Vi 0,Vi 0,Vi 0])]⟩) ?_ (fun σj10 hsj10=>?_)
     ·replace h:=hj10
      refine De (t:=decide (x9≥0)) (by kernel_rfl) h (fun hc h'=>?_) (fun hc h'=>?_)
      ·replace h:=h'
       obtain⟨x11,hx11,h⟩:=Ag h
       refine W.ops (Bw 3 (Aj.dyn (Iw Al.pv t1.A6 x9 x11 hx11) Aw)) ?_
       cases h
       exact Jw
      ·replace h:=h'
       cases h
       exact W.skip Jw
     ·refine An hsj10 ?_
      obtain⟨x13,hx13,h⟩:=Ag h
      refine Bx (Tw (Mf hx13) Ax) (Dw 2 (Run.dyn (Kw 65 [] (.pv (Ww 113 x13)) Hw) Cw)) ?_
      refine W.keep rfl ?_
      cases h
      exact W.ret Fw
theorem Mg{e:Option Int}{r:Int}(h:Jd e=some r):A3 Tryz.prog 29 [.pv (Ww 113 e)] [] ⟨Vi r,[],[]⟩:=Aas (Option.some.inj h).symm
def Ao3:List GOp:=[o0 2 (.box (.tmp 0)),b0 4 false]
def Ao4:List GOp:=[t0 5 9 2,o0 6 (.call 0 0 (.cst (.fn 84)) [(.tmp 5)] [] []),m0 7 6,g0 8 7 true (.fld 8 (.tmp 2)),g0 9 7 true (.load false 1 (.tmp 8)),g0 10 7 true (.un .not (.tmp 9)),o0 11 (.pick (.tmp 7) (.tmp 10) (.cst (.bool false))),m0 12 11,g0 13 12 true (.mov (.tmp 1)),g0 14 12 true (.fld 5 (.tmp 2)),g0 15 12 true (.load false 1 (.tmp 14)),g0 16 12 true (.bin false .geq (.tmp 13) (.tmp 15)),o0 17 (.pick (.tmp 12) (.tmp 16) (.cst (.bool false))),m0 18 17,g0 19 18 true (.mov (.tmp 1)),g0 20 18 true (.fld 6 (.tmp 2)),g0 21 18 true (.load false 1 (.tmp 20)),g0 22 18 true (.bin false .leq (.tmp 19) (.tmp 21)),o0 23 (.pick (.tmp 18) (.tmp 22) (.cst (.bool false))),m0 4 23]
def Ays:AC:=(.seq (.ops Ao3) (.seq (.ops Ao4) (.keep [] [(4,false)] [] [.loc 2 0] [] .ret)))
def Bey:Fd:=⟨2,[.tmp 4],[],Ays⟩
theorem Aky:Bl Tryz.prog Tryz.f63 Bey=true:=by kernel_rfl
theorem Lv{h1:Aa}{now2:Int}{r:Bool}(h:Kj h1 now2=some r):A3 Tryz.prog 63 [.pv (Aa.pv h1),.pv (.int .i32 now2)] [] ⟨Vb r,[],[]⟩:=by
 refine Ap hm Tryz.func63 Aky (by kernel_rfl) ?_
 unfold Kj at h
 refine Ab Aw ?_
 obtain⟨x3,hx3,h⟩:=Ag h
 obtain⟨c4,hc4,h⟩:=Ag h
 obtain⟨c5,hc5,h⟩:=Ag h
 refine Ab (Bw 1 (Aj.cons (Tw (Nd hx3) Ax) (Kw 84 [] (Vb x3) Hw) (Bw 1 (Aj.puts 4 [(11,Vb (x3&&(!h1.C4))),(10,(Bf x3 (Vb (!h1.C4)))),(9,(Bf x3 (Vb h1.C4))),(8,(Bf x3 (.ptr (.loc 2 0) 8)))] (by cases x3<;>kernel_rfl) (Aj.dyn (Nw (x3&&(!h1.C4)) c4 hc4) (Aj.puts 5 [(17,Vb (c4&&(decide (now2≥h1.B5)))),(16,(Bf c4 (Vb (decide (now2≥h1.B5))))),(15,(Bf c4 (.pv (.int .i32 h1.B5)))),(14,(Bf c4 (.ptr (.loc 2 0) 5))),(13,(Bf c4 (.pv (.int .i32 now2))))] (by cases c4<;>kernel_rfl) (Aj.dyn (Nw (c4&&(decide (now2≥h1.B5))) c5 hc5) (Aj.puts 5 [(23,Vb (c5&&(decide (now2≤h1.Cb)))),(22,(Bf c5 (Vb (decide (now2≤h1.Cb))))),(21,(Bf c5 (.pv (.int .i32 h1.Cb)))),(20,(Bf c5 (.ptr (.loc 2 0) 6))),(19,(Bf c5 (.pv (.int .i32 now2))))] (by cases c5<;>kernel_rfl) Aw)))))))) ?_
 refine W.keep rfl ?_
 cases h
 exact W.ret Fw
def Ao5:List GOp:=[o0 2 (.box (.tmp 0)),k0 4 0]
def Ao6:List GOp:=[t0 5 9 2,m0 6 1,o0 7 (.call 0 0 (.cst (.fn 63)) [(.tmp 5),(.tmp 6)] [] []),o0 8 (.un .not (.tmp 7))]
def Ao7:List GOp:=[k0 4 0]
def Ao8:List GOp:=[f0 9 2 2,f0 10 1 9,l0 11 1 10,f0 12 7 2,l0 13 1 12,p0 14 .sub 11 13,m0 4 14]
def Ayt:AC:=(.seq (.ops Ao5) (.seq (.seq (.ops Ao6) (.cond (.tmp 8) (.seq (.ops Ao7) (.keep [] [(4,false)] [] [.loc 2 0] [] .ret)) .skip)) (.seq (.ops Ao8) (.keep [] [(4,false)] [] [.loc 2 0] [] .ret))))
def Bez:Fd:=⟨2,[.tmp 4],[],Ayt⟩
theorem Akz:Bl Tryz.prog Tryz.f27 Bez=true:=by kernel_rfl
theorem Oo{h1:Aa}{now2:Int}{r:Int}(h:Jf h1 now2=some r):A3 Tryz.prog 27 [.pv (Aa.pv h1),.pv (.int .i32 now2)] [] ⟨Vi r,[],[]⟩:=by
 refine Ap hm Tryz.func27 Akz (by kernel_rfl) ?_
 unfold Jf at h
 refine Ab Aw ?_
 refine Ae ?_
 obtain⟨x3,hx3,h⟩:=Ag h
 refine Ab (Bw 2 (Aj.cons (Tw (Lv hx3) Ax) (Kw 63 [] (Vb x3) Hw) Aw)) ?_
 refine Ar (t:= !x3) (by kernel_rfl) h (fun hc h'=>?_) (fun hc h'=>?_)
 ·replace h:=h'
  refine Ae ?_
  refine Ab Aw ?_
  refine An rfl ?_
  cases h
  exact A8 Fw
 ·replace h:=h'
  refine Ay ?_
  refine Ab Aw ?_
  refine W.keep rfl ?_
  cases h
  exact W.ret Fw
def Agv:List GOp:=[o0 4 (.box (.tmp 0)),o0 5 (.box (.tmp 1)),o0 6 (.box (.tmp 2)),o0 7 (.box (.tmp 3)),o0 8 (.mov (.cst .nilFn))]
def Agw:List GOp:=[o0 9 (.mkfn 132 [(.tmp 4),(.tmp 5),(.tmp 6),(.tmp 7)]),m0 8 9]
def Ai3:AC:=(.seq (.ops Agv) (.seq (.ops Agw) (.keep [.loc 4 0,.loc 5 0,.loc 6 0,.loc 7 0] [(8,false)] [] [] [] .ret)))
def Axt:Fd:=⟨4,[.tmp 8],[],Ai3⟩
theorem Agu:Bl Tryz.prog Tryz.f101 Axt=true:=by kernel_rfl
theorem Xw{l:List PV}{acc cur now:Int}:A3 Tryz.prog 101 [.pv (.slice l),Vi acc,Vi cur,.pv (.int .i32 now)] [] ⟨.fn 132 [.ipv (.agg [.slice l]) 0,.ipv (.agg [.int .i64 acc]) 0,.ipv (.agg [.int .i64 cur]) 0,.ipv (.agg [.int .i32 now]) 0],[],[]⟩:=by
 refine Ap hm Tryz.func101 Agu (by kernel_rfl) ?_
 refine Ab Aw ?_
 refine Ab Aw ?_
 refine W.keep rfl ?_
 exact W.ret Fw
def Amb:List GOp:=[l0 8 1 1,e0 9 8,k0 10 0]
def Afm:List GOp:=[p0 11 .lss 10 9]
def Afn:List GOp:=[i0 12 9 8 10,t0 13 9 12,o0 7 (.alloc [.pv (.int .i64 0),.pv (.int .i64 0),.pv (.int .i64 0),.pv (.int .i64 0),.pv (.int .i64 0),.pv (.int .i32 0),.pv (.int .i32 0),.pv (.int .i64 0),.pv (.bool false)]),s0 9 7 13]
def Aad:List GOp:=[f0 14 1 7,l0 15 1 14,l0 16 1 2,p0 17 .eql 15 16,m0 18 17,g0 19 18 true (.fld 2 (.tmp 7)),g0 20 18 true (.fld 0 (.tmp 19)),g0 21 18 true (.load false 1 (.tmp 20)),g0 22 18 true (.load false 1 (.tmp 3)),g0 23 18 true (.bin false .eql (.tmp 21) (.tmp 22)),o0 24 (.pick (.tmp 18) (.tmp 23) (.cst (.bool false))),m0 25 24,g0 26 25 true (.load true 9 (.tmp 7)),g0 27 25 true (.load false 1 (.tmp 4)),g0 28 25 true (.call 0 0 (.cst (.fn 63)) [(.tmp 26),(.tmp 27)] [] []),o0 29 (.pick (.tmp 25) (.tmp 28) (.cst (.bool false))),m0 30 29,g0 31 30 true (.mov (.tmp 0)),g0 32 30 true (.load true 9 (.tmp 7))]
def Ago:List GOp:=[g0 33 30 true (.call 0 0 (.tmp 31) [(.tmp 32)] [] [])]
def Aae:List GOp:=[g0 34 30 true (.un .not (.tmp 33)),o0 35 (.pick (.tmp 30) (.tmp 34) (.cst (.bool false)))]
def Afo:List GOp:=[q0 36 .add 10 1,m0 10 36]
def Bjb:AC:= .seq (.ops Amb) (.block 0 (.loop [] [] (.seq (.ops Afm) (.seq (.cond (.tmp 11) .skip (.exit 0)) (.seq (.block 1 (.seq (.ops Afn) (.seq (.ops (Aad++Ago++Aae)) (.cond (.tmp 35) .ret .skip)))) (.ops Afo))))))
def it:Fd:=⟨5,[],[],Bjb⟩
theorem Bdq:Bl Tryz.prog Tryz.f132 it=true:=by kernel_rfl
def Pa:List Nat:=[0,1,2,3,4,8,9,10]
def Rz(L:Nat)(l:List Aa)(acc cur now i:Int):St:=⟨[(0,.pv (.yld L)),(1,.ipv (.agg [.slice (l.map Aa.pv)]) 0),(2,.ipv (.agg [.int .i64 acc]) 0),(3,.ipv (.agg [.int .i64 cur]) 0),(4,.ipv (.agg [.int .i32 now]) 0),
 (8,.pv (.slice (l.map Aa.pv))),(9,.pv (.int .i64 (l.length:Int))),(10,.pv (.int .i64 i))],[]⟩
def Bdr(L:Nat)(l:List Aa)(acc cur now i:Int):St:=(⟨(30,.pv (.bool true))::(Rz L l acc cur now i).sl,[]⟩:St).put (some 33) (.pv (.bool true))
section
variable {L:Nat} {l:List Aa} {acc cur now i:Int} {h:Aa}
theorem Aiz: ∃σ',Aj Tryz.prog Amb (enter [.pv (.yld L),.ipv (.agg [.slice (l.map Aa.pv)]) 0,.ipv (.agg [.int .i64 acc]) 0,.ipv (.agg [.int .i64 cur]) 0,.ipv (.agg [.int .i32 now]) 0] []) σ'∧Tf σ' Pa=(Rz L l acc cur now 0).sl∧(Pa.all fun t=>(σ'.get t).bare)=true:=
 ⟨_,Bw 1 (Aj.dyn (Lw Aa.pv l) Aw),by kernel_rfl,by kernel_rfl⟩
def W6(L:Nat)(l:List Aa)(acc cur now i:Int):St:=(Rz L l acc cur now i).goes Mn false Afm
def Aiy(L:Nat)(l:List Aa)(acc cur now i:Int)(h:Aa):St:=((W6 L l acc cur now i).put (some 12) (.ipv (Aa.pv h) 0)).goes Mn false (Afn.drop 1)
theorem Te:Aj Tryz.prog Afm (Rz L l acc cur now i) (W6 L l acc cur now i)∧(W6 L l acc cur now i).ev (.tmp 11)=Vb (decide (i<(l.length:Int))):=
 ⟨Aj.all (by kernel_rfl),by kernel_rfl⟩
theorem Afl(he:rdO l i=some h):Aj Tryz.prog Afn (W6 L l acc cur now i) (Aiy L l acc cur now i h):=
 Aj.dyn (Yp (f:=Aa.pv) (l:=l) (k:= .i64) (by kernel_rfl) (by kernel_rfl) he (by kernel_rfl)) Aw
theorem Bds(hs:Ael acc cur now h=some false)(hb:IntKind.wrap .i64 (i+1)=i+1): ∃σ3 σ4,Aj Tryz.prog (Aad++Ago++Aae) (Aiy L l acc cur now i h) σ3∧σ3.ev (.tmp 35)=Vb false∧Aj Tryz.prog Afo σ3 σ4∧Tf σ4 Pa=(Rz L l acc cur now (i+1)).sl∧(Pa.all fun t=>(σ4.get t).bare)=true:=by
 unfold Ael at hs
 cases hc1:(h.Az==acc) with
 |false=>
  have hc1:some (h.Az==acc)=some false:=by rw[hc1]
  refine⟨_,_,Bw 4 (Aj.cons Ge (Step.name (f:=PV.bool) (e:=h.Az==acc) (c:=false) (by kernel_rfl) hc1) Aw),by kernel_rfl,Aj.all (by kernel_rfl),?_,by kernel_rfl⟩
  rw[←hb];kernel_rfl
 |true=>
  rw[hc1,if_pos rfl] at hs
  have hc1:some (h.Az==acc)=some true:=by rw[hc1]
  cases hc2:(h.Ak.Bb==cur) with
  |false=>
   have hc2:some (h.Ak.Bb==cur)=some false:=by rw[hc2]
   refine⟨_,_,Bw 4 (Aj.cons Ge (Step.name (f:=PV.bool) (e:=h.Az==acc) (c:=true) (by kernel_rfl) hc1) (Bw 6 (Aj.cons Ge (Step.name (f:=PV.bool) (e:=h.Ak.Bb==cur) (c:=false) (by kernel_rfl) hc2) Aw))),by kernel_rfl,Aj.all (by kernel_rfl),?_,by kernel_rfl⟩
   rw[←hb];kernel_rfl
  |true=>
   rw[hc2,if_pos rfl] at hs
   have hc2:some (h.Ak.Bb==cur)=some true:=by rw[hc2]
   refine⟨_,_,Bw 4 (Aj.cons Ge (Step.name (f:=PV.bool) (e:=h.Az==acc) (c:=true) (by kernel_rfl) hc1) (Bw 6 (Aj.cons Ge (Step.name (f:=PV.bool) (e:=h.Ak.Bb==cur) (c:=true) (by kernel_rfl) hc2) (Bw 2
    (Aj.cons (Tw (Lv hs) Ax) (Bn (v:=Vb false) true rfl (.inr ⟨rfl,by kernel_rfl,Kw 63 [] (Vb false) Hw⟩)) Aw))))),by kernel_rfl,Aj.all (by kernel_rfl),?_,by kernel_rfl⟩
   rw[←hb];kernel_rfl
theorem Axp(hs:Ael acc cur now h=some true): ∃σ3,Aj Tryz.prog Aad (Aiy L l acc cur now i h) σ3∧σ3.wants (some (30,true))=some true∧σ3.ev (.tmp 31)= .pv (.yld L)∧σ3.ev (.tmp 32)= .pv (Aa.pv h)∧
  Tf σ3 (30::Pa)=(30,Vb true)::(Rz L l acc cur now i).sl∧((30::Pa).all fun t=>(σ3.get t).bare)=true:=by
 unfold Ael at hs
 cases hc1:(h.Az==acc) with
 |false=>rw[hc1] at hs;cases hs
 |true=>
  rw[hc1,if_pos rfl] at hs
  have hc1:some (h.Az==acc)=some true:=by rw[hc1]
  cases hc2:(h.Ak.Bb==cur) with
  |false=>rw[hc2] at hs;cases hs
  |true=>
   rw[hc2,if_pos rfl] at hs
   have hc2:some (h.Ak.Bb==cur)=some true:=by rw[hc2]
   exact⟨_,Bw 4 (Aj.cons Ge (Step.name (f:=PV.bool) (e:=h.Az==acc) (c:=true) (by kernel_rfl) hc1) (Bw 6 (Aj.cons Ge (Step.name (f:=PV.bool) (e:=h.Ak.Bb==cur) (c:=true) (by kernel_rfl) hc2) (Bw 2
    (Aj.cons (Tw (Lv hs) Ax) (Bn (v:=Vb true) true rfl (.inr ⟨rfl,by kernel_rfl,Kw 63 [] (Vb true) Hw⟩)) Aw))))),by kernel_rfl,by kernel_rfl,by kernel_rfl,by kernel_rfl,by kernel_rfl⟩
theorem Alk(hb:IntKind.wrap .i64 (i+1)=i+1): ∃σ3 σ4,Aj Tryz.prog Aae (Bdr L l acc cur now i) σ3∧σ3.ev (.tmp 35)=Vb false∧Aj Tryz.prog Afo σ3 σ4∧Tf σ4 Pa=(Rz L l acc cur now (i+1)).sl∧(Pa.all fun t=>(σ4.get t).bare)=true:=by
 refine⟨_,_,Aj.all (by kernel_rfl),by kernel_rfl,Aj.all (by kernel_rfl),?_,by kernel_rfl⟩
 rw[←hb];kernel_rfl
end
def Aix:AC:= .seq (.ops Afm) (.seq (.cond (.tmp 11) .skip (.exit 0)) (.seq (.block 1 (.seq (.ops Afn) (.seq (.ops (Aad++Ago++Aae)) (.cond (.tmp 35) .ret .skip)))) (.ops Afo)))
theorem Alt{α:Type}(pre:List α)(x:α)(t:List α):rdO (pre++x::t) (pre.length:Int)=some x:=by
 unfold rdO
 rw[if_pos (by omega)]
 simp
theorem Aat{P:Program}{l:Nat}{vs:Array Value}{w:World}{R R':Ending→World→Prop}(h:YieldAt Fence.wide 0 P l vs w R)(hR: ∀e w',R e w'→R' e w'):YieldAt Fence.wide 0 P l vs w R':=by
 obtain⟨fn,tmps,x,y,h1,h2⟩:=h
 exact⟨fn,tmps,x,y,h1,h2.mono hR⟩
section
variable {L:Nat} {l r:List Aa} {acc cur now:Int} {J:Nat→(Nat→Prop)→World→Prop} {γ:Nat→Blk} {nt:Nat}
theorem Alm(hnt:33<nt)(hlen:(l.length:Int)<4611686018427387904)
  (hg: ∀i Z W W',J i Z W→W.grownBy W' none→J i (fun b=>Z b∨(W.heap.size≤b∧b<W'.heap.size)) W')
  (hy: ∀(i:Nat) (Z:Nat→Prop) (x:PV) (v:Value) (W:World),(r.map Aa.pv)[i]? =some x→Cn W (fun _=>False) x v→J i Z W→
   YieldAt Fence.wide 0 Tryz.prog L #[v] W fun e W'=>e= .returned (.bool true)∧J (i+1) Z W'∧W.heap.size≤W'.heap.size∧ ∀b,Z b→W'.heap[b]? =W.heap[b]?)
  {Q:Exit→Act→World→Prop}{c:Code}(hc:Bq Tryz.prog nt c Aix=true)
  (hQ: ∀(C:Ctx) (β:Key→Blk) (σ:St) (a:Act) (w:World) (Z:Nat→Prop),C.nt=nt→C.ext=[]→C.dfs=[]→RR C β σ a w→J r.length Z w→Q (.exit 0) a w):
  ∀(rest pre r' pk:List Aa) (Z:Nat→Prop) (W:World) (a:Act) (β:Key→Blk),pre++rest=l→itO acc cur now rest=some r'→pk++r'=r→(∀b,Z b→b<W.heap.size)→J pk.length Z W→
   RR ⟨W,[],γ,nt,Z,[]⟩ β (Rz L l acc cur now (pre.length:Int)) a W→Lp none 0 Tryz.prog c Q a W:=by
 intro rest
 induction rest with
 |nil=>
  intro pre r' pk Z W a β hl hr hp hZ hJ h
  cases hr
  rw[List.append_nil] at hl hp
  subst hl;subst hp
  refine Tk ?_
  have hb:(W6 L pre acc cur now (pre.length:Int)).ev (.tmp 11)=Vb false:=by
   rw[(Te (L:=L) (l:=pre) (acc:=acc) (cur:=cur) (now:=now)).2];simp
  have hev:Ev Tryz.prog Aix (Rz L pre acc cur now (pre.length:Int)) (.exit 0) (W6 L pre acc cur now (pre.length:Int)):=
   .seq (.ops Te.1) (.seq_out (.cond hb (.exit 0 _)) (by simp))
  refine(Ha (C:=⟨W,[],γ,nt,Z,[]⟩) hm hev c β a W _ hc h (fun β' a' w' h'=>?_)).1
  exact hQ _ _ _ _ _ _ rfl rfl rfl h' (hg _ _ _ _ hJ h'.away)
 |cons x t ih=>
  intro pre r' pk Z W a β hl hr hp hZ hJ h
  subst hl
  have hi:decide ((pre.length:Int)<((pre++x::t).length:Int))=true:=by
   rw[decide_eq_true_iff];simp only[List.length_append,List.length_cons];omega
  have hw:IntKind.wrap .i64 ((pre.length:Int)+1)=(pre.length:Int)+1:=by
   have:(pre.length:Int)<4611686018427387904:=by simp only[List.length_append,List.length_cons] at hlen;omega
   rw[IntKind.wrap_i64];omega
  have hb:(W6 L (pre++x::t) acc cur now (pre.length:Int)).ev (.tmp 11)=Vb true:=by
   rw[(Te (L:=L) (l:=pre++x::t) (acc:=acc) (cur:=cur) (now:=now)).2,hi]
  have he:rdO (pre++x::t) (pre.length:Int)=some x:=Alt pre x t
  have hnx:((pre++[x]).length:Int)=(pre.length:Int)+1:=by simp
  simp only[itO,Option.bind_eq_some_iff,Option.map_eq_some_iff] at hr
  obtain⟨b,hs,r1,hr1,hrr⟩:=hr
  refine Tk ?_
  cases b with
  |false=>
   simp only[cond_false] at hrr
   subst hrr
   obtain⟨σ3,σ4,q1,q2,q3,q4,q5⟩:=Bds (L:=L) (l:=pre++x::t) (i:=(pre.length:Int)) hs hw
   have hev:Ev Tryz.prog Aix (Rz L (pre++x::t) acc cur now (pre.length:Int)) .norm σ4:=
    .seq (.ops Te.1) (.seq (.cond hb (.skip _)) (.seq (.block (.seq (.ops (Afl he)) (.seq (.ops q1) (.cond q2 (.skip _))))) (.ops q3)))
   refine(Ha (C:=⟨W,[],γ,nt,Z,[]⟩) hm hev c β a W _ hc h (fun β' a' w' h'=>?_)).1
   have h2:=h'.anew hZ Pa q5 (W':=w') (fun b _=>rfl) (Nat.le_refl _)
   rw[q4,←hnx] at h2
   refine ih (pre++[x]) r1 pk _ w' a' β' (by simp) hr1 hp (fun b hb=>?_) (hg _ _ _ _ hJ h'.away) h2
   rcases hb with q|q
   ·have:=hZ b q;have:=h'.size;simp at this;omega
   ·exact q.2
  |true=>
   simp only[cond_true] at hrr
   subst hrr
   obtain⟨σ3,q1,q2,q3,q4,q5,q6⟩:=Axp (L:=L) (l:=pre++x::t) (i:=(pre.length:Int)) hs
   obtain⟨σ4,σ5,p1,p2,p3,p4,p5⟩:=Alk (L:=L) (l:=pre++x::t) (acc:=acc) (cur:=cur) (now:=now) hw
   obtain⟨c1,c2,rfl,g1,g2⟩:=Uh hc
   obtain⟨c3,c4,rfl,g3,g4⟩:=Uh g2
   obtain⟨c5,c6,rfl,g5,g6⟩:=Uh g4
   obtain⟨c7,rfl,g7⟩:=Aa5 g5
   obtain⟨c8,c9,rfl,g8,g9⟩:=Uh g7
   obtain⟨c10,c11,rfl,g10,g11⟩:=Uh g9
   obtain⟨id,ops,rfl,g12⟩:=Aw2 g10
   refine wpIn_seq ((Ha (C:=⟨W,[],γ,nt,Z,[]⟩) hm (.ops Te.1) c1 β a W _ g1 h (fun β1 a1 w1 h1=>?_)).1)
   refine wpIn_seq ((Ha (C:=⟨W,[],γ,nt,Z,[]⟩) hm (.cond hb (.skip _)) c3 β1 a1 w1 _ g3 h1 (fun β1 a1 w1 h1=>?_)).1)
   refine wpIn_seq (wpIn_block ?_)
   refine wpIn_seq ((Ha (C:=⟨W,[],γ,nt,Z,[]⟩) hm (.ops (Afl he)) c8 β1 a1 w1 _ g8 h1 (fun β1 a1 w1 h1=>?_)).1)
   refine wpIn_seq (wpIn_region_list ?_)
   obtain⟨la,lb,hab,ga,gb⟩:=Wf g12
   obtain⟨la1,la2,hab2,ga1,ga2⟩:=Wf ga
   subst hab2
   rw[hab,List.append_assoc]
   refine Aev q1 h1 ga1 (fun β2 a2 w2 h2=>?_)
   cases la2 with
   |nil=>simp[Ago,Dk] at ga2
   |cons o la3=>
    cases la3 with
    |cons _ _=>simp[Ago,Dk] at ga2
    |nil=>
     simp only[Ago,Dk,Bool.and_true] at ga2
     refine Acx (rest:=lb) h2 ga2 rfl q2 q3 (fun v hv=>?_)
     rw[q4] at hv
     have hlv:Cn w2 (fun _=>False) (Aa.pv x) v:=Qm (Cl hv) (by kernel_rfl)
     have hJ2:=hg _ _ _ _ hJ h2.away
     have hxk:(r.map Aa.pv)[pk.length]? =some (Aa.pv x):=by rw[←hp];simp
     refine Aat (hy pk.length _ _ v w2 hxk hlv hJ2) ?_
     rintro e W3 ⟨rfl,hJ3,hsz3,hk3⟩
     refine⟨_,rfl,?_⟩
     have h3:=h2.anew hZ (30::Pa) q6 (W':=W3) (fun b hb=>hk3 b hb) hsz3
     rw[q5] at h3
     have h4:=h3.put (some 33) (Vb true) (.bool true) (fun i hi=>by cases hi;exact hnt) (.pv _ _ (.bool _))
     refine Xs p1 h4 gb (fun β5 a5 w5 h5=>?_)
     refine(Ha (C:=⟨W3,[],γ,nt,more Z W w2,[]⟩) hm (.cond p2 (.skip _)) c11 β5 a5 w5 _ g11 h5 (fun β6 a6 w6 h6=>?_)).1
     refine(Ha (C:=⟨W3,[],γ,nt,more Z W w2,[]⟩) hm (.ops p3) c6 β6 a6 w6 _ g6 h6 (fun β7 a7 w7 h7=>?_)).1
     have hZ2: ∀b,more Z W w2 b→b<W3.heap.size:=fun b hb=>by
      rcases hb with q|q
      ·have:=hZ b q;have:=h2.size;simp at this;omega
      ·omega
     have h8:=h7.anew hZ2 Pa p5 (W':=w7) (fun b _=>rfl) (Nat.le_refl _)
     rw[p4,←hnx] at h8
     refine ih (pre++[x]) r1 (pk++[x]) _ w7 a7 β7 (by simp) hr1 (by simp[←hp]) (fun b hb=>?_) ?_ h8
     ·rcases hb with q|q
      ·have:=hZ2 b q;have:=h7.size;simp at this;omega
      ·exact q.2
     ·rw[List.length_append]
      exact hg _ _ _ _ hJ3 h7.away
end
theorem All{l r:List Aa}{acc cur now:Int}(hlen:(l.length:Int)<4611686018427387904)(hr:itO acc cur now l=some r):
  Aav Tryz.prog 132 [.ipv (.agg [.slice (l.map Aa.pv)]) 0,.ipv (.agg [.int .i64 acc]) 0,.ipv (.agg [.int .i64 cur]) 0,.ipv (.agg [.int .i32 now]) 0] (r.map Aa.pv):=by
 have hag:=Bdq
 simp only[Bl,Bool.and_eq_true,decide_eq_true_eq,Bool.not_eq_true'] at hag
 obtain⟨⟨⟨⟨h1,h2⟩,h5⟩,h3⟩,h4⟩:=hag
 obtain⟨c,hc⟩: ∃c,Tryz.f132.body=some c:=⟨_,rfl⟩
 rw[hc] at h4
 refine⟨fun args w=>?_,?_⟩
 ·simp only[callFunc,Sem.run_bind,run_program,Result.andThen_ok,Tryz.func132,hc,h2,Option.isNone,Bool.false_eq_true,if_false,Sem.run_pure]
 ·intro L lb w Z0 J hZ hGk hcl hlb hg hy hJ
  have harr:(#[Value.func (.yield L) #[] #[]]++lb.toArray)=(Value.func (.yield L) #[] #[]::lb).toArray:=by apply Array.ext';simp
  rw[harr]
  refine(callsIn_wide (n:=0)).2 (calls_of_wp Tryz.func132 hc (wpIn_wide (n:=0).1 ?_))
  show Code.wpIn (fr none) 0 Tryz.prog _ _ _ _
  have h0:=S5 (w:=w) (vs:=Value.func (.yield L) #[] #[]::lb) (γ:=fun _=>⟨none,0⟩) (ok:=Z0) (args:=[.pv (.yld L),.ipv (.agg [.slice (l.map Aa.pv)]) 0,.ipv (.agg [.int .i64 acc]) 0,.ipv (.agg [.int .i64 cur]) 0,.ipv (.agg [.int .i32 now]) 0]) (ext:=[]) (nt:=Tryz.f132.ntmps)
   (fun b hb=>⟨hZ b hb,fun i hi=>absurd hi (by simp)⟩) hGk (fun i j b hi=>absurd hi (by simp)) (fun i o ho=>by simp at ho) (by simp only[List.length_cons,←hcl]) (fun j x v hx hv=>?_) (show 5≤Tryz.f132.ntmps by decide)
  ·obtain⟨c1,c2,rfl,g1,g2⟩:=Uh h4
   obtain⟨c3,rfl,g3⟩:=Aa5 g2
   obtain⟨c4,rfl,g4⟩:=Ak7 g3
   obtain⟨σ1,q1,q2,q3⟩:=Aiz (L:=L) (l:=l) (acc:=acc) (cur:=cur) (now:=now)
   refine wpIn_seq ((Ha (C:=⟨w,[],fun _=>⟨none,0⟩,Tryz.f132.ntmps,Z0,[]⟩) hm (.ops q1) c1 _ _ w _ g1 h0 (fun β1 a1 w1 h1=>?_)).1)
   refine wpIn_block (Ajm ?_)
   have h2:=h1.anew hZ Pa q3 (W':=w1) (fun b _=>rfl) (Nat.le_refl _)
   rw[q2] at h2
   refine Alm (by decide) hlen hg hy g4 (fun C β σ a w Z hn he hd h hJ=>?_) l [] r [] _ w1 a1 β1 rfl hr rfl (fun b hb=>?_) (hg _ _ _ _ hJ h1.away) h2
   ·obtain⟨v,δ,hv,_⟩:=Lf (P:=Tryz.prog) (cl:=Mn) (fd:=it) (fn:=Tryz.f132) (r:=⟨.tup [],[],(List.range C.ext.length).map fun i=>(σ.look (.ext i)).map (Ba.nm (toR it.out))⟩) h h3 (by decide) (by intro k hk;cases hk) rfl
    exact⟨by rw[h.dfs,hd],v,hv,⟨v,rfl⟩,Z,by simpa using hJ⟩
   ·rcases hb with q|q
    ·have:=hZ b q;have:=h1.size;simp at this;omega
    ·exact q.2
  ·cases j with
   |zero=>
    simp only[List.getElem?_cons_zero,Option.some.injEq] at hx hv
    subst hx;subst hv
    exact .pv _ _ (.yld _)
   |succ j=>
    simp only[List.getElem?_cons_succ] at hx hv
    refine(hlb j x v hx hv).mono' (fun b _ off u hu=>hu) (fun b hb=>hb) (fun k o hk hl=>by cases hl)
theorem O9{l r:List Aa}{acc cur now:Int}(h:Jb l acc cur now=some r):
  Aav Tryz.prog 132 [.ipv (.agg [.slice (l.map Aa.pv)]) 0,.ipv (.agg [.int .i64 acc]) 0,.ipv (.agg [.int .i64 cur]) 0,.ipv (.agg [.int .i32 now]) 0] (r.map Aa.pv):=by
 unfold Jb at h
 split at h
 ·exact All ‹_› h
 ·cases h
def Ax0:List GOp:=[o0 8 (.box (.tmp 3)),o0 9 (.box (.tmp 4)),k0 10 0,k0 11 0]
def Ax1:List GOp:=[m0 15 0,o0 16 (.call 0 0 (.cst (.fn 35)) [(.tmp 15)] [] []),m0 12 16]
def Ax2:List GOp:=[m0 17 12,q0 18 .neq 17 0]
def Ax3:List GOp:=[m0 19 12,k0 10 0,m0 11 19]
def Ax4:List GOp:=[o0 13 (.alloc [.pv (.int .i64 0)]),n0 (.store 1 (.tmp 13) (.cst (.int .i64 0)))]
def Ax5:List GOp:=[m0 20 0,m0 21 1,m0 22 2,l0 23 1 8,o0 24 (.call 1 0 (.cst (.fn 101)) [(.tmp 20),(.tmp 21),(.tmp 22),(.tmp 23)] [] [])]
def Ae1:List GOp:=[o0 14 (.alloc [.pv (.int .i64 0),.pv (.int .i64 0),.pv (.int .i64 0),.pv (.int .i64 0),.pv (.int .i64 0),.pv (.int .i32 0),.pv (.int .i32 0),.pv (.int .i64 0),.pv (.bool false)]),s0 9 14 25]
def Ax6:List GOp:=[f0 26 4 14,l0 27 1 26,l0 28 1 9,p0 29 .geq 27 28]
def Ax7:List GOp:=[l0 30 1 13,t0 31 9 14,l0 32 1 8,o0 33 (.call 0 0 (.cst (.fn 27)) [(.tmp 31),(.tmp 32)] [] []),p0 34 .add 30 33,s0 1 13 34]
def Ax8:List GOp:=[l0 35 1 13,m0 10 35,k0 11 0]
def Ajg:AC:= .block 1 (.seq (.ops Ax6) (.cond (.tmp 29) (.draw [] Ax7) .skip))
def Bd5:AX:= .seq (.ev (.ops Ax0)) (.seq (.seq (.ev (.ops Ax1)) (.ev (.seq (.ops Ax2) (.cond (.tmp 18) (.seq (.ops Ax3) .ret) .skip)))) (.seq (.ev (.ops Ax4)) (.seq (.seq (.ev (.ops Ax5))
 (.block (.keep [] [(8,false),(9,false),(13,false),(24,false)] [(.loc 8 0,false),(.loc 9 0,false),(.loc 13 0,false)] [] [] (.range (.tmp 24) 25 (.ops Ae1) Ajg)))) (.ev (.seq (.ops Ax8) .ret)))))
theorem Ajf:Vx Tryz.prog Tryz.f71 5 [.tmp 10,.tmp 11] [] Bd5=true:=by kernel_rfl
def Xv(l:List Aa)(acc cur now rank n:Int):St:=⟨[(8,.ptr (.loc 8 0) 0),(9,.ptr (.loc 9 0) 0),(13,.ptr (.loc 13 0) 0),(24,.fn 132 [.ipv (.agg [.slice (l.map Aa.pv)]) 0,.ipv (.agg [.int .i64 acc]) 0,.ipv (.agg [.int .i64 cur]) 0,.ipv (.agg [.int .i32 now]) 0])],
 [(.loc 8 0,.box [.pv (.int .i32 now)]),(.loc 9 0,.box [.pv (.int .i64 rank)]),(.loc 13 0,.box [.pv (.int .i64 n)])]⟩
theorem Ahk{l:List Aa}{acc cur now rank n n':Int}{x:Aa}(h:T3 now rank n x=some n'):T9 Tryz.prog 25 (.ops Ae1) Ajg (Aa.pv x) (Xv l acc cur now rank n) (Xv l acc cur now rank n'):=by
 unfold T3 at h
 cases hc:decide (x.A9≥rank) with
 |false=>
  rw[hc] at h
  simp only[Bool.false_eq_true,if_false,Option.some.injEq] at h
  subst h
  exact⟨⟨[.loc 8 0,.loc 9 0,.loc 13 0],[8,9,13],[.box [.pv (.int .i32 now)],.box [Vi rank],.box [Vi n]],_,_,[],⟨.tup [],[],[some (.box [.pv (.int .i32 now)]),some (.box [Vi rank]),some (.box [Vi n])]⟩,200,0,⟨.tup [],[]⟩,Xv l acc cur now rank n,by kernel_rfl,by decide,.ops Aw,.block (.seq (.ops Aw) (.cond (t:=false) (Eq.trans (b:=Vb (decide (x.A9≥rank))) (by kernel_rfl) (by rw[hc])) (.skip _))),by decide,by simp,by kernel_rfl,by kernel_rfl,by kernel_rfl,by simp,by kernel_rfl⟩⟩
 |true=>
  rw[hc,if_pos rfl] at h
  simp only[Option.bind_eq_some_iff,Option.some.injEq] at h
  obtain⟨r,hr,rfl⟩:=h
  exact⟨⟨[.loc 8 0,.loc 9 0,.loc 13 0],[8,9,13],[.box [.pv (.int .i32 now)],.box [Vi rank],.box [Vi n]],_,_,[],⟨.tup [],[],[some (.box [.pv (.int .i32 now)]),some (.box [Vi rank]),some (.box [Vi (IntKind.wrap .i64 (n+r))])]⟩,200,0,⟨.tup [],[]⟩,Xv l acc cur now rank (IntKind.wrap .i64 (n+r)),by kernel_rfl,by decide,.ops Aw,.block (.seq (.ops Aw) (.cond (t:=true) (Eq.trans (b:=Vb (decide (x.A9≥rank))) (by kernel_rfl) (by rw[hc]))
   (.draw (Tw (Oo hr) Ax) (Dw 3 (Run.dyn (Kw 27 [] (Vi r) Hw) Cw))))),by decide,by simp,by kernel_rfl,by kernel_rfl,by kernel_rfl,by simp,by kernel_rfl⟩⟩
theorem Abv{l1:List Aa}{acc2 cur3 now4 rank5:Int}{r:Int×Int}(h:Qd l1 acc2 cur3 now4 rank5=some r):
  A3 Tryz.prog 71 [Vl Aa.pv l1,Vi acc2,Vi cur3,.pv (.int .i32 now4),Vi rank5] [] ⟨.tup [Vi r.1,Vi r.2],[],[]⟩:=by
 unfold Qd at h
 obtain⟨e,he,h⟩:=Ag h
 cases hc:(e !=0) with
 |true=>
  rw[hc,if_pos rfl] at h
  cases h
  refine Ol hm Tryz.func71 Ajf (by kernel_rfl) (EvX.seq (.ev (.ops Aw)) (.seq_out (.seq (.ev (.ops (Bw 1 (Aj.cons (Tw (Hv he) Ax) (Kw 35 [] (Vi e) Hw) Aw))))
   (.ev (.seq (.ops Aw) (.cond (t:=true) (Eq.trans (b:=Vb (e !=0)) (by kernel_rfl) (by rw[hc])) (.seq (.ops Aw) (.ret _)))))) (by simp))) (.inr rfl) (by kernel_rfl)
 |false=>
  rw[hc] at h
  simp only[Bool.false_eq_true,if_false] at h
  obtain⟨q,hq,h⟩:=Ag h
  obtain⟨n,hn,h⟩:=Ag h
  cases h
  refine Ol hm Tryz.func71 Ajf (by kernel_rfl) (EvX.seq (.ev (.ops Aw)) (.seq (.seq (.ev (.ops (Bw 1 (Aj.cons (Tw (Hv he) Ax) (Kw 35 [] (Vi e) Hw) Aw))))
   (.ev (.seq (.ops Aw) (.cond (t:=false) (Eq.trans (b:=Vb (e !=0)) (by kernel_rfl) (by rw[hc])) (.skip _))))) (.seq (.ev (.ops Aw)) (.seqM (.seq (.ev (.ops (Bw 4 (Aj.cons (Tw (Xw (l:=List.map Aa.pv l1) (acc:=acc2) (cur:=cur3) (now:=now4)) Ax) (N6 (g:=101) (ins:=[]) (caps:=[]) (v:= .fn 132 [.ipv (.agg [.slice (l1.map Aa.pv)]) 0,.ipv (.agg [.int .i64 acc2]) 0,.ipv (.agg [.int .i64 cur3]) 0,.ipv (.agg [.int .i32 now4]) 0]) (by kernel_rfl) (by kernel_rfl) (by kernel_rfl) Hw (by kernel_rfl)) (.nil _)))))
    (.block (.keepE (σ1:=Xv l1 acc2 cur3 now4 rank5 0) (by kernel_rfl) (?_:EvX _ _ _ _ .norm (Xv l1 acc2 cur3 now4 rank5 n) true)) (by simp))) (.seq (.ops Aw) (.ret _)) (by kernel_rfl))))) (.inr rfl) (by kernel_rfl)
  have:=V5 (P:=Tryz.prog) (ne:=0) (g:= .tmp 24) (p:=25) (a:= .ops Ae1) (b:=Ajg) (enc:=Aa.pv) (l:=q) (fun _ n=>Xv l1 acc2 cur3 now4 rank5 n) hn rfl (by intro x hx;simp only[List.mem_cons,List.not_mem_nil,or_false] at hx;rcases hx with rfl|rfl|rfl|rfl<;>rfl) (fun x=>by kernel_rfl) (O9 hq) (fun i s x s1 hs=>Ahk hs) (fun i s=>by kernel_rfl)
  exact this
def Aw5:List GOp:=[o0 2 (.box (.tmp 0)),o0 4 (.mov .nils)]
def Aw6:List GOp:=[m0 6 1]
def Adr:List GOp:=[o0 5 (.alloc [.pv (.int .i64 0),.pv (.int .i64 0),.pv (.int .i64 0),.pv (.int .i64 0),.pv (.int .i64 0),.pv (.int .i32 0),.pv (.int .i32 0),.pv (.int .i64 0),.pv (.bool false)]),s0 9 5 7]
def Ads:List GOp:=[l0 8 1 2,t0 9 9 5,o0 10 (.lit false 9 [(.tmp 9)]),o0 11 (.append 11 9 64 (.tmp 8) (.tmp 10)),s0 1 2 11]
def Aw7:List GOp:=[l0 12 1 2,m0 4 12]
def Bdl:AX:= .seq (.ev (.ops Aw5)) (.seq (.seq (.ev (.ops Aw6)) (.block (.keep [] [(2,false),(6,false)] [] [] [.cell (.loc 2 0) 0 (.loc 100 0) 9] (.range (.tmp 6) 7 (.ops Adr) (.block 1 (.ops Ads)))))) (.ev (.seq (.ops Aw7) .ret)))
def Aif(b:Bool):Nat:=bif b then 100 else 101
theorem Aw3(b:Bool):Vx Tryz.prog Tryz.f131 2 [.tmp 4] [.loc (Aif b) 0] Bdl=true:=by cases b<;>kernel_rfl
def Nj(l:List Aa)(acc cur now:Int):List SV:=[.ipv (.agg [.slice (l.map Aa.pv)]) 0,.ipv (.agg [.int .i64 acc]) 0,.ipv (.agg [.int .i64 cur]) 0,.ipv (.agg [.int .i32 now]) 0]
def Aie(l:List Aa)(acc cur now:Int)(b:Bool)(s:List Aa):St:=⟨[(2,.ptr (.loc 2 0) 0),(6,.fn 132 (Nj l acc cur now))],[(.loc (Aif b) 0,.row 9 (s.map Aa.pv)),(.loc 2 0,.box [.own (.loc (Aif b) 0)])]⟩
theorem Af7{l:List Aa}{acc cur now:Int}{b:Bool}{s s1:List Aa}{x:Aa}(h:apO 64 s [x]=some s1):T9 Tryz.prog 7 (.ops Adr) (.block 1 (.ops Ads)) (Aa.pv x) (Aie l acc cur now b s) (Aie l acc cur now (!b) s1):=by
 cases b with
 |true=>
  exact⟨⟨[.loc 2 0,.loc 100 0],[2],[.box [.own (.ext 1)],.row 9 (s.map Aa.pv)],_,_,[.loc 11 0],⟨.tup [],[some (.row 9 (s1.map Aa.pv))],[some (.box [.own (.res 0)]),none]⟩,101,1,⟨.tup [],[(.loc 101 0,.row 9 (s1.map Aa.pv))]⟩,⟨[(2,.ptr (.loc 2 0) 0),(6,.fn 132 (Nj l acc cur now))],[(.loc 2 0,.box [.own (.loc 101 0)])]⟩,by kernel_rfl,by decide,.ops Aw,.block (.ops (Bw 3 (Aj.dyn (C5 (k:= .ext 1) (f:=Aa.pv) (l:=s) (m:=[x]) (by kernel_rfl) (by kernel_rfl) (by kernel_rfl) h (fun _=>rfl) (by kernel_rfl)) Aw))),by decide,by simp,by kernel_rfl,by kernel_rfl,by kernel_rfl,(fun j hj=>by cases j with|zero=>rfl|succ j=>omega),by kernel_rfl⟩⟩
 |false=>
  exact⟨⟨[.loc 2 0,.loc 101 0],[2],[.box [.own (.ext 1)],.row 9 (s.map Aa.pv)],_,_,[.loc 11 0],⟨.tup [],[some (.row 9 (s1.map Aa.pv))],[some (.box [.own (.res 0)]),none]⟩,100,1,⟨.tup [],[(.loc 100 0,.row 9 (s1.map Aa.pv))]⟩,⟨[(2,.ptr (.loc 2 0) 0),(6,.fn 132 (Nj l acc cur now))],[(.loc 2 0,.box [.own (.loc 100 0)])]⟩,by kernel_rfl,by decide,.ops Aw,.block (.ops (Bw 3 (Aj.dyn (C5 (k:= .ext 1) (f:=Aa.pv) (l:=s) (m:=[x]) (by kernel_rfl) (by kernel_rfl) (by kernel_rfl) h (fun _=>rfl) (by kernel_rfl)) Aw))),by decide,by simp,by kernel_rfl,by kernel_rfl,by kernel_rfl,(fun j hj=>by cases j with|zero=>rfl|succ j=>omega),by kernel_rfl⟩⟩
theorem Aw4{l q r:List Aa}{acc cur now:Int}(hq:Jb l acc cur now=some q)(hr:I2 (fun s x=>apO 64 s [x]) [] q=some r):
  A3 Tryz.prog 131 [.nils,.fn 132 (Nj l acc cur now)] [] ⟨.own (.res 0),[some (.row 9 (r.map Aa.pv))],[]⟩:=by
 have hx:=V5 (P:=Tryz.prog) (ne:=0) (g:= .tmp 6) (p:=7) (a:= .ops Adr) (b:= .block 1 (.ops Ads)) (enc:=Aa.pv) (l:=q) (fun i s=>Aie l acc cur now (i%2==0) s) hr rfl (by intro x hx;simp only[Nj,List.mem_cons,List.not_mem_nil,or_false] at hx;rcases hx with rfl|rfl|rfl|rfl<;>rfl) (fun x=>by kernel_rfl) (O9 hq)
  (fun i s x s1 hs=>by
   have e:((i+1)%2==0)= !(i%2==0):=by rcases Nat.mod_two_eq_zero_or_one i with h|h<;>simp[h,Nat.add_mod]
   rw[e];exact Af7 hs) (fun i s=>by cases (i%2==0)<;>kernel_rfl)
 obtain⟨b,hb⟩: ∃b,(q.length%2==0)=b:=⟨_,rfl⟩
 rw[hb] at hx
 refine Ol hm Tryz.func131 (Aw3 b) (by kernel_rfl) (EvX.seq (.ev (.ops Aw)) (.seqM (.seq (.ev (.ops Aw)) (.block (.keepE (by kernel_rfl) hx) (by simp))) (.seq (.ops (Aj.all (by cases b<;>kernel_rfl))) (.ret _)) (by cases b<;>kernel_rfl))) (.inr rfl) (by cases b<;>kernel_rfl)
def Axh:List GOp:=[o0 2 (.mov .nils)]
def Axi:List GOp:=[m0 3 0,o0 4 (.call 1 3 (.cst (.fn 131)) [.nils,(.tmp 3)] [] []),m0 2 4]
def Bdm:AC:= .seq (.ops Axh) (.seq (.ops Axi) .ret)
def col:Fd:=⟨1,[.tmp 2],[.loc 4 0],Bdm⟩
theorem Axg:Bl Tryz.prog Tryz.f100 col=true:=by kernel_rfl
theorem Vs{l r:List Aa}{acc cur now:Int}(h:Jq l acc cur now=some r):
  A3 Tryz.prog 100 [.fn 132 (Nj l acc cur now)] [] ⟨.own (.res 0),[some (.row 9 (r.map Aa.pv))],[]⟩:=by
 unfold Jq at h
 obtain⟨q,hq,h⟩:=Ag h
 refine Ap hm Tryz.func100 Axg (by kernel_rfl) ?_
 refine Ab Aw ?_
 refine Ab (Bw 1 (Aj.cons (Tw (Aw4 hq h) Ax) (Adc (g:=131) (caps:=[]) (v:= .own (.loc 4 0)) (ins:=[(.loc 4 0,.row 9 (r.map Aa.pv))]) rfl (by kernel_rfl) (by kernel_rfl) (by kernel_rfl) Hw (by kernel_rfl) rfl) Aw)) ?_
 exact W.ret Fw
def A5t:List GOp:=[o0 5 (.box (.tmp 0)),o0 6 (.box (.tmp 1)),k0 10 0]
def A5u:List GOp:=[f0 14 3 6,l0 15 1 14,m0 16 2,f0 17 0 5,l0 18 1 17,m0 19 3,m0 20 4,o0 21 (.call 0 0 (.cst (.fn 71)) [(.tmp 15),(.tmp 16),(.tmp 18),(.tmp 19),(.tmp 20)] [] []),m0 13 21,o0 22 (.ext 0 (.tmp 13)),o0 23 (.ext 1 (.tmp 13)),m0 11 22,m0 12 23]
def A5v:List GOp:=[f0 24 1 5,l0 25 1 24,f0 26 2 5,l0 27 1 26,p0 28 .add 25 27,m0 29 11,p0 30 .sub 28 29,m0 10 30]
def Bgp:AC:=(.seq (.ops A5t) (.seq (.ops A5u) (.seq (.ops A5v) (.keep [] [(10,false)] [] [.loc 5 0,.loc 6 0] [] .ret))))
def Q47:Fd:=⟨5,[.tmp 10],[],Bgp⟩
theorem Att:Bl Tryz.prog Tryz.f31 Q47=true:=by kernel_rfl
theorem J3{a1:Be}{t2:Ah}{acc3:Int}{now4:Int}{rank5:Int}{r:Int}(h:Fe a1 t2 acc3 now4 rank5=some r):A3 Tryz.prog 31 [.pv (Be.pv a1),.pv (Ah.pv t2),Vi acc3,.pv (.int .i32 now4),Vi rank5] [] ⟨Vi r,[],[]⟩:=by
 refine Ap hm Tryz.func31 Att (by kernel_rfl) ?_
 unfold Fe at h
 refine Ab Aw ?_
 obtain⟨x6,hx6,h⟩:=Ag h
 refine Ab (Bw 7 (Aj.cons (Tw (Abv hx6) Ax) (Kw 71 [] (.tup [Vi x6.1,Vi x6.2]) Hw) Aw)) ?_
 refine Ab Aw ?_
 refine W.keep rfl ?_
 cases h
 exact W.ret Fw
def Anr:List GOp:=[o0 2 (.box (.tmp 0)),o0 4 (.alloc [.nils,.nils,.nils,.nils,.nils])]
def Ans:List GOp:=[f0 9 0 2,f0 10 0 9,l0 11 1 10,o0 12 (.call 0 0 (.cst (.fn 95)) [(.tmp 11)] [] []),f0 13 0 2,f0 14 1 13,l0 15 1 14,o0 16 (.call 0 0 (.cst (.fn 96)) [(.tmp 15)] [] []),o0 17 (.build [.nils,.nils] [(0,1,(.tmp 12)),(1,1,(.tmp 16))]),o0 5 (.alloc [.nils,.nils]),s0 2 5 17]
def Ant:List GOp:=[o0 6 (.mov .nils)]
def Anu:List GOp:=[f0 18 2 2,l0 19 1 18,e0 20 19,k0 21 0]
def Anv:List GOp:=[p0 22 .lss 21 20]
def Anw:List GOp:=[i0 23 7 19 21,t0 24 7 23,o0 8 (.alloc [.pv (.int .i64 0),.pv (.int .i32 0),.pv (.int .i32 0),.nils,.pv (.int .i64 0),.pv (.int .i64 0),.pv (.str [])]),s0 7 8 24]
def Anx:List GOp:=[f0 25 3 8,l0 26 1 25,o0 27 (.call 0 0 (.cst (.fn 97)) [(.tmp 26)] [] []),f0 28 3 8,s0 1 28 27]
def Anz:List GOp:=[m0 29 6,t0 30 7 8,o0 31 (.lit false 7 [(.tmp 30)]),o0 32 (.append 6 7 72 (.tmp 29) (.tmp 31)),m0 6 32]
def An0:List GOp:=[q0 33 .add 21 1,m0 21 33]
def Anq:AC:=(.keep [] [(1,false),(2,false),(4,false),(5,false),(6,false),(19,false),(20,false),(21,false)] [(.loc 6 0,false),(.loc 2 0,false),(.loc 4 0,false),(.loc 5 0,false)] [.loc 8 0] [.slot 6 (.loc 6 0) 7] (.seq (.ops Anv) (.seq (.cond (.tmp 22) .skip (.exit 0)) (.seq (.pass 1 (.seq (.ops Anw) (.seq (.ops Anx) (.ops Anz)))) (.ops An0)))))
def Aj6:List GOp:=[t0 34 2 5,m0 35 6,m0 36 1,o0 37 (.call 0 0 (.cst (.fn 94)) [(.tmp 36)] [] []),f0 38 4 2,l0 39 1 38,o0 40 (.call 0 0 (.cst (.fn 98)) [(.tmp 39)] [] []),o0 41 (.build [.nils,.nils,.nils,.nils,.nils] [(0,2,(.tmp 34)),(2,1,(.tmp 35)),(3,1,(.tmp 37)),(4,1,(.tmp 40))]),s0 5 4 41]
def Ayl:AC:=(.seq (.ops Anr) (.seq (.draw [.loc 5 0] Ans) (.seq (.ops Ant) (.seq (.seq (.ops Anu) (.block 0 (.loop [1,2,4,5,6,19,20,21] [] Anq))) (.seq (.keep [.loc 6 0] [(1,false),(2,false),(4,false),(5,false),(6,true)] [(.loc 2 0,false),(.loc 4 0,false),(.loc 5 0,false)] [] [] (.draw [] Aj6)) (.keep [] [(4,false)] [(.loc 4 0,false)] [.loc 2 0,.loc 5 0] [] .ret))))))
def Bes:Fd:=⟨2,[.cell 4 true 5],[],Ayl⟩
theorem Aj5:Bl Tryz.prog Tryz.f48 Bes=true:=by kernel_rfl
theorem Kt{t1:Ah}{l2:List Aa}{r:Ah}(h:H9 t1 l2=some r):A3 Tryz.prog 48 [.pv (Ah.pv t1),Vl Aa.pv l2] [] ⟨.pv (Ah.pv r),[],[]⟩:=by
 refine Ap hm Tryz.func48 Aj5 (by kernel_rfl) ?_
 unfold H9 at h
 refine Ab Aw ?_
 obtain⟨x3,hx3,h⟩:=Ag h
 obtain⟨x4,hx4,h⟩:=Ag h
 refine Bx (Tw (Tv hx3) (Tw (Tx hx4) Ax)) (Dw 3 (Run.dyn (Kw 95 [] (Vl Ac.pv x3) Hw) (Dw 3 (Run.dyn (Kw 96 [] (Vl Ad.pv x4) (Ek rfl Hw)) Cw)))) ?_
 refine Ab Aw ?_
 refine Ae ?_
 refine Ab (Bw 2 (Aj.dyn (Lw Af.pv t1.Fl) Aw)) ?_
 obtain⟨j5,hj5,h⟩:=Ag h
 refine W.join (j:=j5) (fun p σ=>σ.tidy [.loc 6 0] [(1,false),(2,false),(4,false),(5,false),(6,true)] [(.loc 2 0,false),(.loc 4 0,false),(.loc 5 0,false)] [] []=⟨[(1,Vl Aa.pv l2),(2,.ptr (.loc 2 0) 0),(4,.ptr (.loc 4 0) 0),(5,.ptr (.loc 5 0) 0),(6,Vl Af.pv p)],[(.loc 2 0,.box [Vl Ac.pv t1.Bk.As,Vl Ad.pv t1.Bk.Au,Vl Af.pv t1.Fl,Vl Aa.pv t1.A7,Vl Al.pv t1.A6]),(.loc 4 0,.box [.nils,.nils,.nils,.nils,.nils]),(.loc 5 0,.box [Vl Ac.pv x3,Vl Ad.pv x4])]⟩) ?_ (fun σj5 hsj5=>?_)
 ·refine Ch (fun q σ=>((σ.forget [1,2,4,5,6,19,20,21]).killAll []).tidy [] [(1,false),(2,false),(4,false),(5,false),(6,false),(19,false),(20,false),(21,false)] [(.loc 6 0,false),(.loc 2 0,false),(.loc 4 0,false),(.loc 5 0,false)] [.loc 8 0] [.slot 6 (.loc 6 0) 7]=⟨[(1,Vl Aa.pv l2),(2,.ptr (.loc 2 0) 0),(4,.ptr (.loc 4 0) 0),(5,.ptr (.loc 5 0) 0),(6,.own (.loc 6 0)),(19,Vl Af.pv t1.Fl),(20,Vi (t1.Fl.length:Int)),(21,Vi q.1)],[(.loc 6 0,.row 7 (List.map Af.pv q.2)),(.loc 2 0,.box [Vl Ac.pv t1.Bk.As,Vl Ad.pv t1.Bk.Au,Vl Af.pv t1.Fl,Vl Aa.pv t1.A7,Vl Al.pv t1.A6]),(.loc 4 0,.box [.nils,.nils,.nils,.nils,.nils]),(.loc 5 0,.box [Vl Ac.pv x3,Vl Ad.pv x4])]⟩) hj5 ?_ ?_
  ·show _=_
   kernel_rfl
  ·intro q σj5 oj5 hJj5 h
   obtain⟨x6,row7⟩:=q
   refine W.keep hJj5 ?_
   refine Ab Aw ?_
   refine Ar (t:=decide (x6<(t1.Fl.length:Int))) (by kernel_rfl) h (fun hc h'=>?_) (fun hc h'=>?_)
   ·replace h:=h'
    refine Ay ?_
    refine Bs ?_
    refine Ae ?_
    obtain⟨x8,hx8,h⟩:=Ag h
    refine Ab (Aj.dyn (Iw Af.pv t1.Fl x6 x8 hx8) Aw) ?_
    refine Ae ?_
    obtain⟨x9,hx9,h⟩:=Ag h
    refine Ab (Bw 2 (Aj.cons (Tw (Ty hx9) Ax) (Kw 97 [] (Vl Bj.pv x9) Hw) Aw)) ?_
    obtain⟨x10,hx10,h⟩:=Ag h
    refine Ab (Bw 3 (Aj.dyn (C5 (k:= .loc 6 0) (f:=Af.pv) (l:=row7) (m:=[(⟨x8.Bc,x8.Cy,x8.Cp,x9,x8.Fg,x8.Ca,x8.Kf⟩:Af)]) (by kernel_rfl) (by kernel_rfl) (by kernel_rfl) hx10 (fun _=>rfl) (by kernel_rfl)) Aw)) ?_
    refine W.ops Aw ?_
    cases h
    exact Ow
   ·replace h:=h'
    cases h
    exact Bp ((Bh B6 (D3 (by(show _=_);kernel_rfl))))
 ·refine An hsj5 ?_
  obtain⟨x12,hx12,h⟩:=Ag h
  obtain⟨x13,hx13,h⟩:=Ag h
  refine Bx (Tw (Jx hx12) (Tw (T0 hx13) Ax)) (Dw 3 (Run.dyn (Kw 94 [] (Vl Aa.pv x12) Hw) (Dw 2 (Run.dyn (Kw 98 [] (Vl Al.pv x13) (Ek rfl Hw)) Cw)))) ?_
  refine W.keep rfl ?_
  cases h
  exact W.ret Fw
def Ami:List GOp:=[o0 2 (.box (.tmp 0)),o0 3 (.box (.tmp 1)),o0 4 (.alloc [.nils,.nils,.nils,.nils,.nils]),b0 5 false,k0 6 0]
def Amj:List GOp:=[t0 11 5 2,o0 12 (.call 0 0 (.cst (.fn 11)) [(.tmp 11)] [] []),o0 13 (.un .not (.tmp 12))]
def Amk:List GOp:=[o0 14 (.build [.nils,.nils,.nils,.nils,.nils] []),s0 5 4 14,b0 5 false,k0 6 1]
def Aml:List GOp:=[f0 16 3 2,l0 17 1 16,t0 18 9 3,o0 19 (.call 0 0 (.cst (.fn 47)) [(.tmp 17),(.tmp 18)] [] []),m0 15 19,o0 20 (.ext 0 (.tmp 15)),o0 21 (.ext 1 (.tmp 15)),m0 7 20,m0 8 21]
def Amm:List GOp:=[m0 22 8,q0 23 .neq 22 0]
def Amn:List GOp:=[o0 24 (.build [.nils,.nils,.nils,.nils,.nils] []),m0 25 8,s0 5 4 24,b0 5 false,m0 6 25]
def Amo:List GOp:=[t0 27 5 2,f0 28 1 3,l0 29 1 28,f0 30 5 3,l0 31 1 30,o0 32 (.call 0 0 (.cst (.fn 28)) [(.tmp 27),(.tmp 29),(.tmp 31)] [] []),m0 26 32,o0 33 (.ext 0 (.tmp 26)),o0 34 (.ext 1 (.tmp 26)),o0 9 (.alloc [.pv (.int .i64 0),.pv (.int .i64 0),.pv (.int .i64 0)]),s0 3 9 33,m0 10 34]
def Amp:List GOp:=[m0 36 10,o0 37 (.isNil true (.tmp 36)),m0 35 37]
def Amq:List GOp:=[o0 38 (.build [.nils,.nils,.nils,.nils,.nils] []),m0 39 10,o0 40 (.call 0 0 (.cst (.fn 29)) [(.tmp 39)] [] []),s0 5 4 38,b0 5 false,m0 6 40]
def Amr:List GOp:=[f0 42 2 3,f0 43 0 42,l0 44 1 43,f0 45 0 9,l0 46 1 45,p0 47 .neq 44 46,m0 41 47]
def Ajr:List GOp:=[o0 48 (.build [.nils,.nils,.nils,.nils,.nils] []),s0 5 4 48,b0 5 false,k0 6 12]
def Ajs:List GOp:=[f0 50 2 3,f0 51 1 50,l0 52 1 51,t0 53 3 9,t0 54 5 2,f0 55 1 3,l0 56 1 55,f0 57 5 3,l0 58 1 57,f0 59 4 3,l0 60 1 59,o0 61 (.call 0 0 (.cst (.fn 31)) [(.tmp 53),(.tmp 54),(.tmp 56),(.tmp 58),(.tmp 60)] [] []),p0 62 .gtr 52 61,m0 49 62]
def Ajt:List GOp:=[t0 63 5 2,f0 64 3 2,l0 65 1 64,o0 66 (.call 0 0 (.cst (.fn 48)) [(.tmp 63),(.tmp 65)] [] []),s0 5 4 66,b0 5 false,k0 6 0]
def Aju:List GOp:=[t0 67 5 2,m0 68 7,o0 69 (.call 0 0 (.cst (.fn 48)) [(.tmp 67),(.tmp 68)] [] []),s0 5 4 69,b0 5 true,k0 6 0]
def Ayd:AC:=(.seq (.ops Ami) (.seq (.seq (.ops Amj) (.cond (.tmp 13) (.seq (.ops Amk) (.keep [] [(4,false),(5,false),(6,false)] [(.loc 4 0,true)] [.loc 2 0,.loc 3 0,.loc 9 0] [] .ret)) .skip)) (.seq (.ops Aml) (.seq (.seq (.ops Amm) (.cond (.tmp 23) (.seq (.ops Amn) (.keep [] [(4,false),(5,false),(6,false)] [(.loc 4 0,true)] [.loc 2 0,.loc 3 0,.loc 9 0] [] .ret)) .skip)) (.seq (.ops Amo) (.seq (.pass 0 (.seq (.ops Amp) (.cond (.tmp 35) (.seq (.ops Amq) (.keep [] [(4,false),(5,false),(6,false)] [(.loc 4 0,true)] [.loc 2 0,.loc 3 0,.loc 9 0] [] .ret)) (.seq (.ops Amr) (.cond (.tmp 41) (.seq (.ops Ajr) (.keep [] [(4,false),(5,false),(6,false)] [(.loc 4 0,true)] [.loc 2 0,.loc 3 0,.loc 9 0] [] .ret)) (.seq (.draw [] Ajs) (.cond (.tmp 49) (.seq (.ops Ajt) (.keep [] [(4,false),(5,false),(6,false)] [(.loc 4 0,true)] [.loc 2 0,.loc 3 0,.loc 9 0] [] .ret)) .skip))))))) (.seq (.ops Aju) (.keep [] [(4,false),(5,false),(6,false)] [(.loc 4 0,true)] [.loc 2 0,.loc 3 0,.loc 9 0] [] .ret))))))))
def Bek:Fd:=⟨2,[.cell 4 true 5,.tmp 5,.tmp 6],[],Ayd⟩
theorem Ajq:Bl Tryz.prog Tryz.f19 Bek=true:=by kernel_rfl
theorem Wl{t1:Ah}{h2:Aa}{r:Ah×Bool×Int}(h:H8 t1 h2=some r):A3 Tryz.prog 19 [.pv (Ah.pv t1),.pv (Aa.pv h2)] [] ⟨.tup [.pv (Ah.pv r.1),Vb r.2.1,Vi r.2.2],[],[]⟩:=by
 refine Ap hm Tryz.func19 Ajq (by kernel_rfl) ?_
 unfold H8 at h
 refine Ab Aw ?_
 refine Ae ?_
 obtain⟨x3,hx3,h⟩:=Ag h
 refine Ab (Bw 1 (Aj.cons (Tw (Me hx3) Ax) (Kw 11 [] (Vb x3) Hw) Aw)) ?_
 refine Ar (t:= !x3) (by kernel_rfl) h (fun hc h'=>?_) (fun hc h'=>?_)
 ·replace h:=h'
  refine Ae ?_
  refine Ab Aw ?_
  refine An rfl ?_
  cases h
  exact A8 Fw
 ·replace h:=h'
  refine Ay ?_
  obtain⟨x4,hx4,h⟩:=Ag h
  refine Ab (Bw 3 (Aj.cons (Tw (Abu hx4) Ax) (Kw 47 [] (.tup [Vl Aa.pv x4.1,Vi x4.2]) Hw) Aw)) ?_
  refine Ae ?_
  refine Ab Aw ?_
  refine Ar (t:=(x4.2 !=0)) (by kernel_rfl) h (fun hc h'=>?_) (fun hc h'=>?_)
  ·replace h:=h'
   refine Ae ?_
   refine Ab Aw ?_
   refine An rfl ?_
   cases h
   exact A8 Fw
  ·replace h:=h'
   refine Ay ?_
   obtain⟨x5,hx5,h⟩:=Ag h
   refine Ab (Bw 5 (Aj.cons (Tw (N8 hx5) Ax) (Kw 28 [] (.tup [.pv (Be.pv x5.1),.pv (Ww 113 x5.2)]) Hw) Aw)) ?_
   refine Bs ?_
   refine Ae ?_
   refine Ab (Bw 1 (Aj.dyn (K0 (t:=113) (e:=x5.2) (by kernel_rfl)) Aw)) ?_
   refine Ar (t:=Option.isSome x5.2) (by kernel_rfl) h (fun hc h'=>?_) (fun hc h'=>?_)
   ·replace h:=h'
    refine Ae ?_
    obtain⟨x6,hx6,h⟩:=Ag h
    refine Ab (Bw 2 (Aj.cons (Tw (Mg hx6) Ax) (Kw 29 [] (Vi x6) Hw) Aw)) ?_
    refine An rfl ?_
    cases h
    exact A8 Fw
   ·replace h:=h'
    refine Ae ?_
    refine Ab Aw ?_
    refine Ar (t:=(h2.Ak.Bb !=x5.1.Rv)) (by kernel_rfl) h (fun hc h'=>?_) (fun hc h'=>?_)
    ·replace h:=h'
     refine Ae ?_
     refine Ab Aw ?_
     refine An rfl ?_
     cases h
     exact A8 Fw
    ·replace h:=h'
     refine Ae ?_
     obtain⟨x7,hx7,h⟩:=Ag h
     refine Bx (Tw (J3 hx7) Ax) (Dw 11 (Run.dyn (Kw 31 [] (Vi x7) Hw) Cw)) ?_
     refine Ar (t:=decide (h2.Ak.Ao>x7)) (by kernel_rfl) h (fun hc h'=>?_) (fun hc h'=>?_)
     ·replace h:=h'
      refine Ae ?_
      obtain⟨x8,hx8,h⟩:=Ag h
      refine Ab (Bw 3 (Aj.cons (Tw (Kt hx8) Ax) (Kw 48 [] (.pv (Ah.pv x8)) Hw) Aw)) ?_
      refine An rfl ?_
      cases h
      exact A8 Fw
     ·replace h:=h'
      refine Ay ?_
      obtain⟨x9,hx9,h⟩:=Ag h
      refine Ab (Bw 2 (Aj.cons (Tw (Kt hx9) Ax) (Kw 48 [] (.pv (Ah.pv x9)) Hw) Aw)) ?_
      refine W.keep rfl ?_
      cases h
      exact W.ret Fw
def Bbw:List GOp:=[o0 7 (.box (.tmp 2)),o0 10 (.mov .nils),k0 11 0]
def Bbx:List GOp:=[m0 16 0,o0 17 (.call 0 0 (.cst (.fn 35)) [(.tmp 16)] [] []),m0 12 17]
def Bby:List GOp:=[m0 18 12,q0 19 .neq 18 0]
def Bbz:List GOp:=[m0 20 12,o0 10 (.mov .nils),m0 11 20]
def Bb0:List GOp:=[m0 22 0,m0 23 1,o0 24 (.call 0 0 (.cst (.fn 92)) [(.tmp 22),(.tmp 23)] [] []),m0 21 24,o0 25 (.ext 0 (.tmp 21)),o0 26 (.ext 1 (.tmp 21)),m0 13 25,m0 14 26]
def Bb1:List GOp:=[m0 28 14,o0 29 (.un .not (.tmp 28)),m0 27 29]
def Bb2:List GOp:=[o0 10 (.mov .nils),k0 11 8]
def Bb3:List GOp:=[m0 31 0,m0 32 13,i0 33 9 31 32,t0 34 9 33,m0 35 3,o0 36 (.call 0 0 (.cst (.fn 63)) [(.tmp 34),(.tmp 35)] [] []),o0 37 (.un .not (.tmp 36)),m0 30 37]
def Bb4:List GOp:=[o0 10 (.mov .nils),k0 11 27]
def Bb5:List GOp:=[f0 39 0 7,l0 40 1 39,m0 41 0,m0 42 13,i0 43 9 41 42,f0 44 2 43,f0 45 0 44,l0 46 1 45,p0 47 .neq 40 46,m0 38 47]
def Awb:List GOp:=[o0 10 (.mov .nils),k0 11 12]
def Awc:List GOp:=[t0 49 2 7,o0 50 (.call 0 0 (.cst (.fn 99)) [(.tmp 49)] [] []),o0 51 (.un .not (.tmp 50)),m0 52 51,g0 53 52 false (.fld 1 (.tmp 7)),g0 54 52 false (.load false 1 (.tmp 53)),g0 55 52 false (.bin false .leq (.tmp 54) (.cst (.int .i64 0))),o0 56 (.pick (.tmp 52) (.cst (.bool true)) (.tmp 55)),m0 48 56]
def Awd:List GOp:=[o0 10 (.mov .nils),k0 11 1]
def Awe:List GOp:=[f0 58 1 7,l0 59 1 58,m0 60 0,m0 61 13,i0 62 9 60 61,t0 63 9 62,m0 64 3,o0 65 (.call 0 0 (.cst (.fn 27)) [(.tmp 63),(.tmp 64)] [] []),p0 66 .gtr 59 65,m0 57 66]
def Awf:List GOp:=[o0 10 (.mov .nils),k0 11 17]
def Awg:List GOp:=[m0 67 0,o0 68 (.call 1 0 (.cst (.fn 94)) [(.tmp 67)] [] []),m0 15 68]
def Awh:List GOp:=[m0 69 15,m0 70 13,i0 71 9 69 70,f0 72 7 71,l0 73 1 72,f0 74 1 7,l0 75 1 74,p0 76 .add 73 75,i0 77 9 69 70,f0 78 7 77,s0 1 78 76]
def Awi:List GOp:=[m0 79 15,m0 80 13,m0 81 4,m0 82 81,g0 83 82 false (.mov (.tmp 15)),g0 84 82 false (.mov (.tmp 13)),g0 85 82 false (.idx 9 (.tmp 83) (.tmp 84)),g0 86 82 false (.fld 7 (.tmp 85)),g0 87 82 false (.load false 1 (.tmp 86)),g0 88 82 false (.mov (.tmp 15)),g0 89 82 false (.mov (.tmp 13)),g0 90 82 false (.idx 9 (.tmp 88) (.tmp 89)),g0 91 82 false (.fld 2 (.tmp 90)),g0 92 82 false (.fld 1 (.tmp 91)),g0 93 82 false (.load false 1 (.tmp 92)),g0 94 82 false (.bin false .eql (.tmp 87) (.tmp 93)),o0 95 (.pick (.tmp 82) (.cst (.bool true)) (.tmp 94)),i0 96 9 79 80,f0 97 8 96,s0 1 97 95]
def Awj:List GOp:=[m0 98 15,m0 10 98,k0 11 0]
def Bin:AC:=(.seq (.ops Bbw) (.seq (.seq (.ops Bbx) (.seq (.ops Bby) (.cond (.tmp 19) (.seq (.ops Bbz) (.keep [.loc 68 0] [(10,true),(11,false)] [] [.loc 7 0] [] .ret)) .skip))) (.seq (.ops Bb0) (.seq (.pass 0 (.seq (.ops Bb1) (.cond (.tmp 27) (.seq (.ops Bb2) (.keep [.loc 68 0] [(10,true),(11,false)] [] [.loc 7 0] [] .ret)) (.seq (.ops Bb3) (.cond (.tmp 30) (.seq (.ops Bb4) (.keep [.loc 68 0] [(10,true),(11,false)] [] [.loc 7 0] [] .ret)) (.seq (.draw [] Bb5) (.cond (.tmp 38) (.seq (.ops Awb) (.keep [.loc 68 0] [(10,true),(11,false)] [] [.loc 7 0] [] .ret)) (.seq (.ops Awc) (.cond (.tmp 48) (.seq (.ops Awd) (.keep [.loc 68 0] [(10,true),(11,false)] [] [.loc 7 0] [] .ret)) (.seq (.draw [] Awe) (.cond (.tmp 57) (.seq (.ops Awf) (.keep [.loc 68 0] [(10,true),(11,false)] [] [.loc 7 0] [] .ret)) .skip))))))))))) (.seq (.ops Awg) (.seq (.draw [] Awh) (.seq (.draw [] Awi) (.seq (.ops Awj) (.keep [.loc 68 0] [(10,true),(11,false)] [] [.loc 7 0] [] .ret)))))))))
def Q88:Fd:=⟨5,[.tmp 10,.tmp 11],[],Bin⟩
theorem Awa:Bl Tryz.prog Tryz.f49 Q88=true:=by kernel_rfl
theorem Vq{l1:List Aa}{id2:Int}{amount3:A5}{now4:Int}{last5:Bool}{r:(List Aa)×Int}(h:Hn l1 id2 amount3 now4 last5=some r):A3 Tryz.prog 49 [Vl Aa.pv l1,Vi id2,.pv (A5.pv amount3),.pv (.int .i32 now4),Vb last5] [] ⟨.tup [Vl Aa.pv r.1,Vi r.2],[],[]⟩:=by
 refine Ap hm Tryz.func49 Awa (by kernel_rfl) ?_
 unfold Hn at h
 refine Ab Aw ?_
 refine Ae ?_
 obtain⟨x6,hx6,h⟩:=Ag h
 refine Ab (Bw 1 (Aj.cons (Tw (Hv hx6) Ax) (Kw 35 [] (Vi x6) Hw) Aw)) ?_
 refine Ae ?_
 refine Ab Aw ?_
 refine Ar (t:=(x6 !=0)) (by kernel_rfl) h (fun hc h'=>?_) (fun hc h'=>?_)
 ·replace h:=h'
  refine Ae ?_
  refine Ab Aw ?_
  refine An rfl ?_
  cases h
  exact A8 Fw
 ·replace h:=h'
  refine Ay ?_
  obtain⟨x7,hx7,h⟩:=Ag h
  refine Ab (Bw 2 (Aj.cons (Tw (Ry hx7) Ax) (Kw 92 [] (.tup [Vi x7.1,Vb x7.2]) Hw) Aw)) ?_
  refine Bs ?_
  refine Ae ?_
  refine Ab Aw ?_
  refine Ar (t:= !x7.2) (by kernel_rfl) h (fun hc h'=>?_) (fun hc h'=>?_)
  ·replace h:=h'
   refine Ae ?_
   refine Ab Aw ?_
   refine An rfl ?_
   cases h
   exact A8 Fw
  ·replace h:=h'
   refine Ae ?_
   obtain⟨x8,hx8,h⟩:=Ag h
   obtain⟨x9,hx9,h⟩:=Ag h
   refine Ab (Bw 2 (Aj.dyn (Iw Aa.pv l1 x7.1 x8 hx8) (Bw 2 (Aj.cons (Tw (Lv hx9) Ax) (Kw 63 [] (Vb x9) Hw) Aw)))) ?_
   refine Ar (t:= !x9) (by kernel_rfl) h (fun hc h'=>?_) (fun hc h'=>?_)
   ·replace h:=h'
    refine Ae ?_
    refine Ab Aw ?_
    refine An rfl ?_
    cases h
    exact A8 Fw
   ·replace h:=h'
    refine Ae ?_
    obtain⟨x10,hx10,h⟩:=Ag h
    refine Bx Ax (Dw 4 (Run.dyn (Iw Aa.pv l1 x7.1 x10 hx10) Cw)) ?_
    refine Ar (t:=(amount3.Bb !=x10.Ak.Bb)) (by kernel_rfl) h (fun hc h'=>?_) (fun hc h'=>?_)
    ·replace h:=h'
     refine Ae ?_
     refine Ab Aw ?_
     refine An rfl ?_
     cases h
     exact A8 Fw
    ·replace h:=h'
     refine Ae ?_
     obtain⟨x11,hx11,h⟩:=Ag h
     obtain⟨c12,hc12,h⟩:=Ag h
     refine Ab (Bw 1 (Aj.cons (Tw (Qh hx11) Ax) (Kw 99 [] (Vb x11) Hw) (Bw 1 (Aj.dyn (Nw (!x11) c12 hc12) (Aj.puts 4 [(56,Vb (c12||(decide (amount3.Ao≤0)))),(55,(Bf (!c12) (Vb (decide (amount3.Ao≤0))))),(54,(Bf (!c12) (Vi amount3.Ao))),(53,(Bf (!c12) (.ptr (.loc 7 0) 1)))] (by cases c12<;>kernel_rfl) Aw))))) ?_
     refine Ar (t:=(c12||(decide (amount3.Ao≤0)))) (by kernel_rfl) h (fun hc h'=>?_) (fun hc h'=>?_)
     ·replace h:=h'
      refine Ae ?_
      refine Ab Aw ?_
      refine An rfl ?_
      cases h
      exact A8 Fw
     ·replace h:=h'
      refine Ae ?_
      obtain⟨x13,hx13,h⟩:=Ag h
      obtain⟨x14,hx14,h⟩:=Ag h
      refine Bx (Tw (Oo hx14) Ax) (Dw 4 (Run.dyn (Iw Aa.pv l1 x7.1 x13 hx13) (Dw 2 (Run.dyn (Kw 27 [] (Vi x14) Hw) Cw)))) ?_
      refine Ar (t:=decide (amount3.Ao>x14)) (by kernel_rfl) h (fun hc h'=>?_) (fun hc h'=>?_)
      ·replace h:=h'
       refine Ae ?_
       refine Ab Aw ?_
       refine An rfl ?_
       cases h
       exact A8 Fw
      ·replace h:=h'
       refine Ay ?_
       obtain⟨x15,hx15,h⟩:=Ag h
       refine Ab (Bw 1 (Aj.cons (Tw (Jx hx15) Ax) (N6 (g:=94) (caps:=[]) (v:= .own (.loc 68 0)) (ins:=[(.loc 68 0,.row 9 (List.map Aa.pv x15))]) (by kernel_rfl) (by kernel_rfl) (by kernel_rfl) Hw (by kernel_rfl)) Aw)) ?_
       obtain⟨x16,hx16,h⟩:=Ag h
       obtain⟨x17,hx17,h⟩:=Ag h
       refine Bx Ax (Dw 2 (Run.dyn (B3 (k:= .loc 68 0) (f:=Aa.pv) (l:=x15) (n:=x7.1) (e:=x16) (kd:= .i64) (by kernel_rfl) (by kernel_rfl) (by kernel_rfl) hx16) (Dw 1 (Run.dyn (Co (off:=7) (k:= .loc 68 0) (f:=Aa.pv) (l:=x15) (i:=x7.1) (e:=x16) (sz:=9) (v:=Vi x16.Bo) (by kernel_rfl) (by kernel_rfl) hx16 (by kernel_rfl) (by kernel_rfl)) (Dw 3 (Run.dyn (B3 (k:= .loc 68 0) (f:=Aa.pv) (l:=x15) (n:=x7.1) (e:=x17) (kd:= .i64) (by kernel_rfl) (by kernel_rfl) (by kernel_rfl) hx17) (Dw 1 (Run.dyn (Ec (sz:=9) (off:=7) (k:= .loc 68 0) (f:=Aa.pv) (l:=x15) (i:=x7.1) (e:=x17) (e':=(⟨x17.Bc,x17.Az,x17.Ak,x17.A9,x17.B5,x17.Cb,IntKind.wrap .i64 (x16.Bo+amount3.Ao),x17.C4⟩:Aa)) (v:=(.int .i64 (IntKind.wrap .i64 (x16.Bo+amount3.Ao)))) (by kernel_rfl) (by kernel_rfl) (by kernel_rfl) hx17 (by kernel_rfl) (by kernel_rfl)) ((Run.nil)))))))))) ?_
       obtain⟨x18,hx18,h⟩:=Ag h
       obtain⟨x19,hx19,h⟩:=Ag h
       obtain⟨x20,hx20,h⟩:=Ag h
       refine Bx Ax (Dw 4 (Run.puts 2 [(84,(Bf (!last5) (Vi x7.1))),(83,(Bf (!last5) (.own (.loc 68 0))))] (by cases last5<;>kernel_rfl) (Run.dyn (Bn (!last5) (by kernel_rfl) (by
          cases last5
          ·exact .inr ⟨by kernel_rfl,by kernel_rfl,B3 (k:= .loc 68 0) (f:=Aa.pv) (l:=(List.set x15 (Int.toNat x7.1) (⟨x17.Bc,x17.Az,x17.Ak,x17.A9,x17.B5,x17.Cb,IntKind.wrap .i64 (x16.Bo+amount3.Ao),x17.C4⟩:Aa))) (n:=x7.1) (e:=x18) (kd:= .i64) (by kernel_rfl) (by kernel_rfl) (by kernel_rfl) hx18⟩
          ·exact .inl ⟨by kernel_rfl,by kernel_rfl⟩)) (Run.puts 1 [(86,(Bf (!last5) (.iown (.loc 68 0) (Int.toNat x7.1) 7)))] (by cases last5<;>kernel_rfl) (Run.dyn (Bn (!last5) (by kernel_rfl) (by
          cases last5
          ·exact .inr ⟨by kernel_rfl,by kernel_rfl,Co (off:=7) (k:= .loc 68 0) (f:=Aa.pv) (l:=(List.set x15 (Int.toNat x7.1) (⟨x17.Bc,x17.Az,x17.Ak,x17.A9,x17.B5,x17.Cb,IntKind.wrap .i64 (x16.Bo+amount3.Ao),x17.C4⟩:Aa))) (i:=x7.1) (e:=x18) (sz:=9) (v:=Vi x18.Bo) (by kernel_rfl) (by kernel_rfl) hx18 (by kernel_rfl) (by kernel_rfl)⟩
          ·exact .inl ⟨by kernel_rfl,by kernel_rfl⟩)) (Run.puts 2 [(89,(Bf (!last5) (Vi x7.1))),(88,(Bf (!last5) (.own (.loc 68 0))))] (by cases last5<;>kernel_rfl) (Run.dyn (Bn (!last5) (by kernel_rfl) (by
          cases last5
          ·exact .inr ⟨by kernel_rfl,by kernel_rfl,B3 (k:= .loc 68 0) (f:=Aa.pv) (l:=(List.set x15 (Int.toNat x7.1) (⟨x17.Bc,x17.Az,x17.Ak,x17.A9,x17.B5,x17.Cb,IntKind.wrap .i64 (x16.Bo+amount3.Ao),x17.C4⟩:Aa))) (n:=x7.1) (e:=x19) (kd:= .i64) (by kernel_rfl) (by kernel_rfl) (by kernel_rfl) hx19⟩
          ·exact .inl ⟨by kernel_rfl,by kernel_rfl⟩)) (Run.puts 2 [(92,(Bf (!last5) (.iown (.loc 68 0) (Int.toNat x7.1) 3))),(91,(Bf (!last5) (.iown (.loc 68 0) (Int.toNat x7.1) 2)))] (by cases last5<;>kernel_rfl) (Run.dyn (Bn (!last5) (by kernel_rfl) (by
          cases last5
          ·exact .inr ⟨by kernel_rfl,by kernel_rfl,Co (off:=3) (k:= .loc 68 0) (f:=Aa.pv) (l:=(List.set x15 (Int.toNat x7.1) (⟨x17.Bc,x17.Az,x17.Ak,x17.A9,x17.B5,x17.Cb,IntKind.wrap .i64 (x16.Bo+amount3.Ao),x17.C4⟩:Aa))) (i:=x7.1) (e:=x19) (sz:=9) (v:=Vi x19.Ak.Ao) (by kernel_rfl) (by kernel_rfl) hx19 (by kernel_rfl) (by kernel_rfl)⟩
          ·exact .inl ⟨by kernel_rfl,by kernel_rfl⟩)) (Run.puts 2 [(95,Vb (last5||(x18.Bo==x19.Ak.Ao))),(94,(Bf (!last5) (Vb (x18.Bo==x19.Ak.Ao))))] (by cases last5<;>kernel_rfl) (Run.dyn (B3 (k:= .loc 68 0) (f:=Aa.pv) (l:=(List.set x15 (Int.toNat x7.1) (⟨x17.Bc,x17.Az,x17.Ak,x17.A9,x17.B5,x17.Cb,IntKind.wrap .i64 (x16.Bo+amount3.Ao),x17.C4⟩:Aa))) (n:=x7.1) (e:=x20) (kd:= .i64) (by kernel_rfl) (by kernel_rfl) (by kernel_rfl) hx20) (Dw 1 (Run.dyn (Ec (sz:=9) (off:=8) (k:= .loc 68 0) (f:=Aa.pv) (l:=(List.set x15 (Int.toNat x7.1) (⟨x17.Bc,x17.Az,x17.Ak,x17.A9,x17.B5,x17.Cb,IntKind.wrap .i64 (x16.Bo+amount3.Ao),x17.C4⟩:Aa))) (i:=x7.1) (e:=x20) (e':=(⟨x20.Bc,x20.Az,x20.Ak,x20.A9,x20.B5,x20.Cb,x20.Bo,(last5||(x18.Bo==x19.Ak.Ao))⟩:Aa)) (v:=(.bool (last5||(x18.Bo==x19.Ak.Ao)))) (by kernel_rfl) (by kernel_rfl) (by kernel_rfl) hx20 (by kernel_rfl) (by kernel_rfl)) ((Run.nil))))))))))))))) ?_
       refine Ab Aw ?_
       refine W.keep rfl ?_
       cases h
       exact W.ret Fw
def Bb6:List GOp:=[o0 2 (.box (.tmp 0)),b0 3 false]
def Bb7:List GOp:=[f0 4 0 2,l0 5 1 4,l0 6 1 1,p0 7 .eql 5 6,m0 3 7]
def Bio:AC:=(.seq (.ops Bb6) (.seq (.ops Bb7) (.keep [] [(3,false)] [] [.loc 2 0] [] .ret)))
def Q89:Fd:=⟨2,[.tmp 3],[],Bio⟩
theorem Awk:Bl Tryz.prog Tryz.f51 Q89=true:=by kernel_rfl
theorem Vj{h1:Aa}{x2:Int}{r:Bool}(h:Ln h1 x2=some r):A3 Tryz.prog 51 [.pv (Aa.pv h1),.ipv (.agg [.int .i64 x2]) 0] [] ⟨Vb r,[],[]⟩:=by
 refine Ap hm Tryz.func51 Awk (by kernel_rfl) ?_
 unfold Ln at h
 refine Ab Aw ?_
 refine Ab Aw ?_
 refine W.keep rfl ?_
 cases h
 exact W.ret Fw
def Azb:List GOp:=[k0 4 0]
def Azc:List GOp:=[m0 6 0,e0 7 6,k0 8 0]
def Azd:List GOp:=[p0 9 .lss 8 7]
def Aze:List GOp:=[m0 10 8,m0 5 10]
def Azf:List GOp:=[m0 11 1,m0 12 0,m0 13 5,i0 14 9 12 13,t0 15 9 14,o0 16 (.call 0 0 (.tmp 11) [(.tmp 15)] [] [])]
def Azg:List GOp:=[m0 17 5,m0 4 17]
def Azh:List GOp:=[q0 18 .add 8 1,m0 8 18]
def Aza:AC:=(.keep [] [(0,false),(1,false),(7,false),(8,false)] [] [] [] (.seq (.ops Azd) (.seq (.cond (.tmp 9) .skip (.exit 0)) (.seq (.pass 1 (.seq (.ops Aze) (.seq (.ops Azf) (.cond (.tmp 16) (.seq (.ops Azg) (.keep [] [(4,false)] [] [] [] .ret)) .skip)))) (.ops Azh)))))
def Azi:List GOp:=[k0 4 (-1)]
def Be6:AC:=(.seq (.ops Azb) (.seq (.seq (.ops Azc) (.block 0 (.loop [0,1,7,8] [] Aza))) (.seq (.keep [] [] [] [] [] (.ops Azi)) (.keep [] [(4,false)] [] [] [] .ret))))
def Q14:Fd:=⟨2,[.tmp 4],[],Be6⟩
theorem Apv:Bl Tryz.prog Tryz.f50 Q14=true:=by kernel_rfl
theorem J1{s1:List Aa}{c2:Int}{r:Int}(h:Du s1 c2=some r):A3 Tryz.prog 50 [Vl Aa.pv s1,.fn 51 [.ipv (.agg [.int .i64 c2]) 0]] [] ⟨Vi r,[],[]⟩:=by
 refine Ap hm Tryz.func50 Apv (by kernel_rfl) ?_
 unfold Du at h
 refine Ab Aw ?_
 refine Ae ?_
 refine Ab (Bw 1 (Aj.dyn (Lw Aa.pv s1) Aw)) ?_
 obtain⟨j3,hj3,h⟩:=Ag h
 refine Ck (j:=j3) (o:=r) (fun p σ=>σ.tidy [] [] [] [] []=⟨[],[]⟩) ?_ (fun p σj3 hp hsj3=>?_) (fun p hp=>?_)
 ·refine B1 (fun q σ=>((σ.forget [0,1,7,8]).killAll []).tidy [] [(0,false),(1,false),(7,false),(8,false)] [] [] []=⟨[(0,Vl Aa.pv s1),(1,.fn 51 [.ipv (.agg [.int .i64 c2]) 0]),(7,Vi (s1.length:Int)),(8,Vi q)],[]⟩) hj3 ?_ ?_
  ·show _=_
   kernel_rfl
  ·intro x4 σj3 oj3 hJj3 h
   refine W.keep hJj3 ?_
   refine Ab Aw ?_
   refine Ar (t:=decide (x4<(s1.length:Int))) (by kernel_rfl) h (fun hc h'=>?_) (fun hc h'=>?_)
   ·replace h:=h'
    refine Ay ?_
    refine Bs ?_
    refine Ae ?_
    refine Ab Aw ?_
    refine Ae ?_
    obtain⟨x5,hx5,h⟩:=Ag h
    obtain⟨x6,hx6,h⟩:=Ag h
    refine Ab (Bw 3 (Aj.dyn (Iw Aa.pv s1 x4 x5 hx5) (Bw 1 (Aj.cons (Tw (Vj hx6) Ax) (Kw 51 [.ipv (.agg [.int .i64 c2]) 0] (Vb x6) Hw) ((.nil _)))))) ?_
    refine Ar (t:=x6) (by kernel_rfl) h (fun hc h'=>?_) (fun hc h'=>?_)
    ·replace h:=h'
     refine Ae ?_
     refine Ab Aw ?_
     refine An rfl ?_
     cases h
     exact A8 ((Bh Cd (Ed Cd Dh (fun e=>by subst e;exact Fw))))
    ·replace h:=h'
     refine Ay ?_
     refine W.ops Aw ?_
     cases h
     exact Ow
   ·replace h:=h'
    cases h
    exact Bp ((Bh B6 (Eh (by(show _=_);kernel_rfl))))
 ·subst hp
  obtain⟨⟩:=p
  refine An hsj3 ?_
  refine Ab Aw ?_
  refine W.keep rfl ?_
  cases h
  exact W.ret Fw
 ·subst hp
  exact Option.some.inj h
def Bb9:List GOp:=[o0 2 (.box (.tmp 0)),o0 3 (.box (.tmp 1)),k0 4 0]
def Bca:List GOp:=[f0 5 4 3,l0 6 1 5,f0 7 4 2,l0 8 1 7,o0 9 (.call 0 0 (.cst (.fn 104)) [(.tmp 6),(.tmp 8)] [] []),m0 4 9]
def Biq:AC:=(.seq (.ops Bb9) (.seq (.ops Bca) (.keep [] [(4,false)] [] [.loc 2 0,.loc 3 0] [] .ret)))
def Q90:Fd:=⟨2,[.tmp 4],[],Biq⟩
theorem Awl:Bl Tryz.prog Tryz.f103 Q90=true:=by kernel_rfl
theorem I4{a1:Aa}{b2:Aa}{r:Int}(h:D4 a1 b2=some r):A3 Tryz.prog 103 [.pv (Aa.pv a1),.pv (Aa.pv b2)] [] ⟨Vi r,[],[]⟩:=by
 refine Ap hm Tryz.func103 Awl (by kernel_rfl) ?_
 unfold D4 at h
 refine Ab Aw ?_
 obtain⟨x3,hx3,h⟩:=Ag h
 refine Ab (Bw 4 (Aj.cons (Tw (I8 hx3) Ax) (Kw 104 [] (Vi x3) Hw) Aw)) ?_
 refine W.keep rfl ?_
 cases h
 exact W.ret Fw
def Bhp:List GOp:=[m0 10 1,q0 11 .add 10 1,m0 8 11]
def Bhq:List GOp:=[m0 12 8,m0 13 2,p0 14 .lss 12 13]
def Bhr:List GOp:=[m0 17 8,m0 9 17]
def Bhs:List GOp:=[m0 18 9,m0 19 1,p0 20 .gtr 18 19,m0 21 20,g0 22 21 true (.mov (.tmp 3)),g0 23 21 true (.mov (.tmp 0)),g0 24 21 true (.mov (.tmp 9)),g0 25 21 true (.idx 9 (.tmp 23) (.tmp 24)),g0 26 21 true (.load true 9 (.tmp 25)),g0 27 21 true (.mov (.tmp 0)),g0 28 21 true (.mov (.tmp 9)),g0 29 21 true (.bin false .sub (.tmp 28) (.cst (.int .i64 1))),g0 30 21 true (.idx 9 (.tmp 27) (.tmp 29)),g0 31 21 true (.load true 9 (.tmp 30)),g0 32 21 true (.call 0 0 (.tmp 22) [(.tmp 26),(.tmp 31)] [] []),g0 33 21 true (.bin false .lss (.tmp 32) (.cst (.int .i64 0))),o0 34 (.pick (.tmp 21) (.tmp 33) (.cst (.bool false)))]
def Bht:List GOp:=[m0 37 0,m0 38 9,m0 39 0,m0 40 9,q0 41 .sub 40 1,m0 42 0,m0 43 9,q0 44 .sub 43 1,i0 45 9 42 44,t0 46 9 45,m0 47 0,m0 48 9,i0 49 9 47 48,t0 50 9 49,i0 51 9 37 38,s0 9 51 46,i0 52 9 39 41,s0 9 52 50]
def Bhu:List GOp:=[m0 35 9,q0 36 .sub 35 1,m0 9 36]
def Bhn:AC:=(.keep [] [(0,false),(1,false),(2,false),(3,false),(8,false),(9,false)] [(.ext 0,false)] [] [] (.seq (.seq (.draw [] Bhs) (.cond (.tmp 34) .skip (.exit 2))) (.seq (.pass 3 (.draw [] Bht)) (.ops Bhu))))
def Bhv:List GOp:=[m0 15 8,q0 16 .add 15 1,m0 8 16]
def Bho:AC:=(.keep [] [(0,false),(1,false),(2,false),(3,false),(8,false)] [(.ext 0,false)] [] [] (.seq (.seq (.ops Bhq) (.cond (.tmp 14) .skip (.keep [] [] [(.ext 0,false)] [] [] (.exit 0)))) (.seq (.pass 1 (.seq (.ops Bhr) (.block 2 (.loop [0,1,2,3,8,9] [] Bhn)))) (.keep [] [(0,false),(1,false),(2,false),(3,false),(8,false)] [(.ext 0,false)] [] [] (.ops Bhv)))))
def Q6b:AC:=(.seq (.ops Bhp) (.block 0 (.loop [0,1,2,3,8] [] Bho)))
def Q6:Fd:=⟨4,[],[],Q6b⟩
theorem A9t:Bl Tryz.prog Tryz.f146 Q6=true:=by kernel_rfl
theorem F1{a1:Int}{b2:Int}{l3:List Aa}{r:List Aa}(h:Cc a1 b2 l3=some r):A3 Tryz.prog 146 [.own (.ext 0),Vi a1,Vi b2,.pv (.fn 103)] [.row 9 (List.map Aa.pv l3)] ⟨.tup [],[],[(some (.row 9 (List.map Aa.pv r)))]⟩:=by
 refine Ap hm Tryz.func146 A9t (by kernel_rfl) ?_
 unfold Cc at h
 refine Ab Aw ?_
 obtain⟨j4,hj4,h⟩:=Ag h
 refine W.mono (Q:=Ux (fun p σ=>σ=⟨[],[(.ext 0,.row 9 (List.map Aa.pv p))]⟩) j4) ?_ (fun ex σj4 hp=>?_)
 ·refine Ch (fun q σ=>((σ.forget [0,1,2,3,8]).killAll []).tidy [] [(0,false),(1,false),(2,false),(3,false),(8,false)] [(.ext 0,false)] [] []=⟨[(0,.own (.ext 0)),(1,Vi a1),(2,Vi b2),(3,.pv (.fn 103)),(8,Vi q.1)],[(.ext 0,.row 9 (List.map Aa.pv q.2))]⟩) hj4 ?_ ?_
  ·show _=_
   kernel_rfl
  ·intro q σj4 oj4 hJj4 h
   obtain⟨i5,row6⟩:=q
   refine W.keep hJj4 ?_
   refine Ae ?_
   refine Ab Aw ?_
   refine Ar (t:=decide (i5<b2)) (by kernel_rfl) h (fun hc h'=>?_) (fun hc h'=>?_)
   ·replace h:=h'
    refine Ay ?_
    refine Bs ?_
    refine Ae ?_
    refine Ab Aw ?_
    obtain⟨j7,hj7,h⟩:=Ag h
    refine W.join (j:=j7) (fun p σ=>σ.tidy [] [(0,false),(1,false),(2,false),(3,false),(8,false)] [(.ext 0,false)] [] []=⟨[(0,.own (.ext 0)),(1,Vi a1),(2,Vi b2),(3,.pv (.fn 103)),(8,Vi i5)],[(.ext 0,.row 9 (List.map Aa.pv p))]⟩) ?_ (fun σj7 hsj7=>?_)
    ·refine Ch (fun q σ=>((σ.forget [0,1,2,3,8,9]).killAll []).tidy [] [(0,false),(1,false),(2,false),(3,false),(8,false),(9,false)] [(.ext 0,false)] [] []=⟨[(0,.own (.ext 0)),(1,Vi a1),(2,Vi b2),(3,.pv (.fn 103)),(8,Vi i5),(9,Vi q.1)],[(.ext 0,.row 9 (List.map Aa.pv q.2))]⟩) hj7 ?_ ?_
     ·show _=_
      kernel_rfl
     ·intro q σj7 oj7 hJj7 h
      obtain⟨j8,row9⟩:=q
      refine W.keep hJj7 ?_
      refine Ae ?_
      obtain⟨c10,hc10,h⟩:=Ag h
      obtain⟨x11,hx11,h⟩:=Ag h
      obtain⟨x12,hx12,h⟩:=Ag h
      obtain⟨x13,hx13,h⟩:=Ag h
      refine Bx (Ci (on:=c10) (fun hg=>I4 (Dj hg hx13)) Ax) (Dw 3 (Run.dyn (Nw (decide (j8>a1)) c10 hc10) (Run.puts 3 [(24,(Bf c10 (Vi j8))),(23,(Bf c10 (.own (.ext 0)))),(22,(Bf c10 (.pv (.fn 103))))] (by cases c10<;>kernel_rfl) (Run.dyn (Bn c10 (by kernel_rfl) (by
         cases c10
         ·exact .inl ⟨by kernel_rfl,by kernel_rfl⟩
         ·exact .inr ⟨by kernel_rfl,by kernel_rfl,B3 (k:= .ext 0) (f:=Aa.pv) (l:=row9) (n:=j8) (e:=x11) (kd:= .i64) (by kernel_rfl) (by kernel_rfl) (by kernel_rfl) hx11⟩)) (Run.dyn (Bn c10 (by kernel_rfl) (by
         cases c10
         ·exact .inl ⟨by kernel_rfl,by kernel_rfl⟩
         ·exact .inr ⟨by kernel_rfl,by kernel_rfl,Co (off:=0) (k:= .ext 0) (f:=Aa.pv) (l:=row9) (i:=j8) (e:=x11) (sz:=9) (v:= .pv (Aa.pv x11)) (by kernel_rfl) (by kernel_rfl) hx11 (by kernel_rfl) (by kernel_rfl)⟩)) (Run.puts 3 [(29,(Bf c10 (Vi (IntKind.wrap .i64 (j8-1))))),(28,(Bf c10 (Vi j8))),(27,(Bf c10 (.own (.ext 0))))] (by cases c10<;>kernel_rfl) (Run.dyn (Bn c10 (by kernel_rfl) (by
         cases c10
         ·exact .inl ⟨by kernel_rfl,by kernel_rfl⟩
         ·exact .inr ⟨by kernel_rfl,by kernel_rfl,B3 (k:= .ext 0) (f:=Aa.pv) (l:=row9) (n:=IntKind.wrap .i64 (j8-1)) (e:=x12) (kd:= .i64) (by kernel_rfl) (by kernel_rfl) (by kernel_rfl) hx12⟩)) (Run.dyn (Bn c10 (by kernel_rfl) (by
         cases c10
         ·exact .inl ⟨by kernel_rfl,by kernel_rfl⟩
         ·exact .inr ⟨by kernel_rfl,by kernel_rfl,Co (off:=0) (k:= .ext 0) (f:=Aa.pv) (l:=row9) (i:=IntKind.wrap .i64 (j8-1)) (e:=x12) (sz:=9) (v:= .pv (Aa.pv x12)) (by kernel_rfl) (by kernel_rfl) hx12 (by kernel_rfl) (by kernel_rfl)⟩)) (Run.dyn (Bn c10 (by kernel_rfl) (by
         cases c10
         ·exact .inl ⟨by kernel_rfl,by kernel_rfl⟩
         ·exact .inr ⟨by kernel_rfl,by kernel_rfl,Kw 103 [] (Vi x13) Hw⟩)) (Run.puts 2 [(34,Vb (c10&&(decide (x13<0)))),(33,(Bf c10 (Vb (decide (x13<0)))))] (by cases c10<;>kernel_rfl) ((Run.nil)))))))))))) ?_
      refine Ar (t:=(c10&&(decide (x13<0)))) (by kernel_rfl) h (fun hc h'=>?_) (fun hc h'=>?_)
      ·replace h:=h'
       refine Ay ?_
       refine Bs ?_
       obtain⟨x14,hx14,h⟩:=Ag h
       obtain⟨x15,hx15,h⟩:=Ag h
       obtain⟨x16,hx16,h⟩:=Ag h
       obtain⟨x17,hx17,h⟩:=Ag h
       refine Bx Ax (Dw 8 (Run.dyn (B3 (k:= .ext 0) (f:=Aa.pv) (l:=row9) (n:=IntKind.wrap .i64 (j8-1)) (e:=x14) (kd:= .i64) (by kernel_rfl) (by kernel_rfl) (by kernel_rfl) hx14) (Run.dyn (Co (off:=0) (k:= .ext 0) (f:=Aa.pv) (l:=row9) (i:=IntKind.wrap .i64 (j8-1)) (e:=x14) (sz:=9) (v:= .pv (Aa.pv x14)) (by kernel_rfl) (by kernel_rfl) hx14 (by kernel_rfl) (by kernel_rfl)) (Dw 2 (Run.dyn (B3 (k:= .ext 0) (f:=Aa.pv) (l:=row9) (n:=j8) (e:=x15) (kd:= .i64) (by kernel_rfl) (by kernel_rfl) (by kernel_rfl) hx15) (Run.dyn (Co (off:=0) (k:= .ext 0) (f:=Aa.pv) (l:=row9) (i:=j8) (e:=x15) (sz:=9) (v:= .pv (Aa.pv x15)) (by kernel_rfl) (by kernel_rfl) hx15 (by kernel_rfl) (by kernel_rfl)) (Run.dyn (B3 (k:= .ext 0) (f:=Aa.pv) (l:=row9) (n:=j8) (e:=x16) (kd:= .i64) (by kernel_rfl) (by kernel_rfl) (by kernel_rfl) hx16) (Run.dyn (Ec (sz:=9) (off:=0) (k:= .ext 0) (f:=Aa.pv) (l:=row9) (i:=j8) (e:=x16) (e':=x14) (v:=(Aa.pv x14)) (by kernel_rfl) (by kernel_rfl) (by kernel_rfl) hx16 (by kernel_rfl) (by kernel_rfl)) (Run.dyn (B3 (k:= .ext 0) (f:=Aa.pv) (l:=(List.set row9 (Int.toNat j8) x14)) (n:=IntKind.wrap .i64 (j8-1)) (e:=x17) (kd:= .i64) (by kernel_rfl) (by kernel_rfl) (by kernel_rfl) hx17) (Run.dyn (Ec (sz:=9) (off:=0) (k:= .ext 0) (f:=Aa.pv) (l:=(List.set row9 (Int.toNat j8) x14)) (i:=IntKind.wrap .i64 (j8-1)) (e:=x17) (e':=x15) (v:=(Aa.pv x15)) (by kernel_rfl) (by kernel_rfl) (by kernel_rfl) hx17 (by kernel_rfl) (by kernel_rfl)) ((Run.nil)))))))))))) ?_
       refine W.ops Aw ?_
       cases h
       exact Ow
      ·replace h:=h'
       cases h
       exact Bp ((Bh B6 (D3 (by(show _=_);kernel_rfl))))
    ·refine W.keep hsj7 ?_
     refine W.ops Aw ?_
     cases h
     exact Ow
   ·replace h:=h'
    refine An rfl ?_
    cases h
    exact Bp ((Bh B6 (D3 (by(show _=_);kernel_rfl))))
 ·obtain⟨rfl,hs⟩:=hp
  subst hs
  cases h
  exact(Mk (by kernel_rfl))
end Go.Av.G
end
