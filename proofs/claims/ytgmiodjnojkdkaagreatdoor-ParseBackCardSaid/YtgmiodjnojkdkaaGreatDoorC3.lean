import Derived.Laws.BytesString
import Derived.Test.YtgmiodjnojkdkaaGreatDoorC2
set_option linter.all false
section
namespace Go.Av
def Cu{α β:Type}(f:α→β→Bool):List α→List β→Bool
 |[],[]=>true
 |x::xs,y::ys=>f x y&&Cu f xs ys
 |_,_=>false
def Gl(f:Operand→Opd→Bool):Option Operand→Option Opd→Bool
 |none,none=>true
 |some x,some y=>f x y
 |_,_=>false
def Ax(P:Program)(C:Ctx)(σ':St)(o:Oper)(a:Act)(w:World):Prop:=
 ∀(K:Act→World→Prop),(∀β' a' w',RR C β' σ' a' w'→K a' w')→ ∀(Q:Exit→Act→World→Prop),o.wp P a w K Q
section
variable {P:Program} {C:Ctx} {β:Key→Blk} {σ:St} {a:Act} {w:World} {o:Oper}
theorem Ax.value(h:RR C β σ a w)(hd: ∀i,o.dst=some i→i<C.nt){x:SV}{v:Value}(hr:(execOp a.eval o).run P w= .ok (.value v) w)(hs:As w (okB C β σ.look w) β σ.look x v):
  Ax P C ((σ.insAll []).put o.dst x) o a w:=fun _ hK _=>Bom hr (hK β _ _ (h.put o.dst x v hd hs))
theorem Ajo{ok:Nat→Prop}{b:Bool}{v:Value}(h:Be w ok (.bool b) v):v= .bool b:=by cases h;rfl
theorem W0{ok:Nat→Prop}{k:IntKind}{n:Int}{v:Value}(h:Be w ok (.int k n) v):v= .int k n:=by cases h;rfl
theorem Cz{ok:Nat→Prop}{s:List UInt8}{v:Value}(h:Be w ok (.str s) v):v= .string ⟨s.toArray⟩:=by cases h;rfl
theorem Bri{op op':BinOp}(h:(op==op')=true):op=op':=by simpa using h
theorem Qy{ok:Nat→Prop}{lk:Key→Option Ah}{x:SV}{v:Value}{k:IntKind}{n:Int}(hx:As w ok β lk x v)(h:intOf x=some (k,n)):v= .int k n:=by
 cases x<;>simp only[intOf] at h<;>try (cases h;done)
 rename_i y
 cases y<;>simp only[Option.some.injEq,Prod.mk.injEq] at h<;>try (cases h;done)
 obtain⟨rfl,rfl⟩:=h
 cases hx with|pv _ _ h=>cases h;rfl
theorem Bb{ok:Nat→Prop}{lk:Key→Option Ah}{x:PV}{v:Value}(hx:As w ok β lk (.pv x) v):Be w ok x v:=by cases hx;assumption
theorem A3i(h:RR C β σ a w)(hd: ∀i,o.dst=some i→i<C.nt){x:Operand}{x':Opd}(ho:o.op= .move x∨o.op= .assign x)(hx:Ak x x'=true):
  Ax P C ((σ.insAll []).put o.dst (σ.ev x')) o a w:=by
 refine Ax.value h hd (v:=a.eval x) ?_ (h.ev hx)
 rcases ho with ho|ho<;>simp only[execOp,ho]<;>rfl
theorem Bf2(h:RR C β σ a w)(hd: ∀i,o.dst=some i→i<C.nt){c x y:Operand}{c' x' y':Opd}(ho:o.op= .pick c x y)(hc:Ak c c'=true)(hx:Ak x x'=true)(hy:Ak y y'=true)
  {t:Bool}(ht:σ.ev c'= .pv (.bool t)):Ax P C ((σ.insAll []).put o.dst (bif t then σ.ev x' else σ.ev y')) o a w:=by
 have hcl:=h.ev hc
 rw[ht] at hcl
 have e:=Ajo (Bb hcl)
 refine Ax.value h hd (v:=if t then a.eval x else a.eval y) ?_ ?_
 ·simp only[execOp,ho,e,asBool,Sem.run_bind,Sem.run_pure,Result.andThen_ok]
 ·cases t
  ·exact h.ev hy
  ·exact h.ev hx
theorem Bfv(h:RR C β σ a w)(hd: ∀i,o.dst=some i→i<C.nt){t:TypeId}{agg:Bool}{n:Nat}{x:Operand}{x':Opd}(ho:o.op= .load t x)(ht:Alz P t=some (agg,n))(hx:Ak x x'=true)
  {v:SV}(hv:Lc σ agg n (σ.ev x')=some v):Ax P C ((σ.insAll []).put o.dst v) o a w:=by
 obtain⟨u,hr,hs⟩:=Bbv h ht (h.ev hx) hv
 refine Ax.value h hd (v:=u) ?_ hs
 simp only[execOp,ho,Sem.run_bind,hr,Result.andThen_ok,Sem.run_pure]
theorem A9o{ok:Nat→Prop}{x:PV}{v:Value}(h:Be w ok x v)(hx:(∃k n,x= .int k n)∨(∃b,x= .bool b)∨ ∃s,x= .str s):v.oneCell'=true∧v≠ .nilIface:=by
 rcases hx with⟨k,n,rfl⟩|⟨b,rfl⟩|⟨s,rfl⟩<;>cases h<;>exact⟨rfl,by simp⟩
theorem A8p{op:BinOp}{x y v:PV}(h:Arf op x y=some v):(∃k n,x= .int k n)∨(∃b,x= .bool b)∨ ∃s,x= .str s:=by
 cases x<;>cases y<;>simp only[Arf] at h<;>try (cases h;done)
 ·exact .inl ⟨_,_,rfl⟩
 ·exact .inr (.inl ⟨_,rfl⟩)
 ·exact .inr (.inr ⟨_,rfl⟩)
theorem Bj0(h:RR C β σ a w)(hd: ∀i,o.dst=some i→i<C.nt){op:BinOp}{t t':TypeId}{x y:Operand}{x' y':Opd}(ho:o.op= .binOp op t x y t')(hx:Ak x x'=true)(hy:Ak y y'=true)
  (ht:(op= .eql∨op= .neq)→P.underlying t=some .bool∨ ∀b,σ.ev x'≠ .pv (.bool b))
  {p q v:PV}(hp:σ.ev x'= .pv p)(hq:σ.ev y'= .pv q)(hv:Arf op p q=some v):Ax P C ((σ.insAll []).put o.dst (.pv v)) o a w:=by
 have hxl:=h.ev hx
 have hyl:=h.ev hy
 rw[hp] at hxl;rw[hq] at hyl
 obtain⟨u,hr,hs⟩:=Bp1 (P:=P) (t:=t) (fun e=>(ht e).imp id (fun hb b e=>hb b (by rw[hp,e]))) (Bb hxl) (Bb hyl) hv
 obtain⟨h1,h2⟩:=A9o (Bb hxl) (A8p hv)
 refine Ax.value h hd (v:=u) ?_ (.pv _ _ hs)
 simp only[execOp,ho,Sem.run_bind,Bjr h1 h2,hr,Result.andThen_ok,Sem.run_pure]
theorem Bnw(h:RR C β σ a w)(hd: ∀i,o.dst=some i→i<C.nt){op:UnOp}{t:TypeId}{x:Operand}{x':Opd}(ho:o.op= .unOp op t x)(hx:Ak x x'=true)
  {p v:PV}(hp:σ.ev x'= .pv p)(hv:Bke op p=some v):Ax P C ((σ.insAll []).put o.dst (.pv v)) o a w:=by
 have hxl:=h.ev hx
 rw[hp] at hxl
 obtain⟨u,hr,hs⟩:=Bsh (P:=P) (w:=w) (Bb hxl) hv
 refine Ax.value h hd (v:=u) ?_ (.pv _ _ hs)
 simp only[execOp,ho,Sem.run_bind,hr,Result.andThen_ok,Sem.run_pure]
theorem Bfz(h:RR C β σ a w)(hd: ∀i,o.dst=some i→i<C.nt){x:Operand}{x':Opd}(ho:o.op= .nilCheck x)(hx:Ak x x'=true){k:Key}{off:Nat}(hp:σ.ev x'= .ptr k off):Ax P C ((σ.insAll []).put o.dst (.ptr k off)) o a w:=by
 have hxl:=h.ev hx
 rw[hp] at hxl
 obtain⟨ad,he⟩: ∃ad,a.eval x= .pointer (some ad):=by
  generalize a.eval x=v at hxl
  cases hxl;exact⟨_,rfl⟩
 refine Ax.value h hd (v:=a.eval x) ?_ hxl
 simp only[execOp,ho,he,Sem.run_pure]
theorem Bj7(h:RR C β σ a w)(hd: ∀i,o.dst=some i→i<C.nt){t:TypeId}{x:Operand}{x':Opd}(ho:o.op= .makeInterface t x)(hx:Ak x x'=true){dd:TypeDesc}(ht:P.underlying t=some dd)(hn: ∀ms,dd≠ .interface ms)
  {p:PV}(hp:σ.ev x'= .pv p):Ax P C ((σ.insAll []).put o.dst (.pv (.iface t p))) o a w:=by
 have hxl:=h.ev hx
 rw[hp] at hxl
 refine Ax.value h hd (v:= .iface t (a.eval x)) ?_ (.pv _ _ (.iface t _ _ (Bb hxl)))
 simp only[execOp,ho,Sem.run_bind,Instr.makeInterface,run_underlying ht,Result.andThen_ok]
 cases dd<;>first|(exact absurd rfl (hn _))|simp only[Sem.run_pure,Result.andThen_ok]
theorem Bnl{t:TypeId}{ms:Array (String×TypeId)}{b:Bool}{v:Value}(ht:P.underlying t=some (.interface ms))(hv:(v= .nilIface∧b=true)∨(∃u z,v= .iface u z)∧b=false):(Op.equal t v .nilIface).run P w= .ok b w:=by
 have h: ∀d:Nat,(Op.equalIn (d+1) t v .nilIface).run P w= .ok b w:=fun d=>by
  rcases hv with⟨rfl,rfl⟩|⟨⟨u,z,rfl⟩,rfl⟩<;>simp[Op.equalIn,run_underlying ht]
 show(Op.equalIn (9999+1) t v .nilIface).run P w= .ok b w
 exact h 9999
theorem Ar7(h:RR C β σ a w)(hd: ∀i,o.dst=some i→i<C.nt){neg:Bool}{op:BinOp}{t t':TypeId}{x:Operand}{x':Opd}(ho:o.op= .binOp op t x (.const .nilIface) t')(hop:op=(bif neg then .neq else .eql))(hx:Ak x x'=true){ms:Array (String×TypeId)}(ht:P.underlying t=some (.interface ms))
  {r:Bool}(hr:(σ.ev x'= .pv .nilI∧r=true)∨(∃u p,σ.ev x'= .pv (.iface u p))∧r=false):Ax P C ((σ.insAll []).put o.dst (.pv (.bool (bif neg then !r else r)))) o a w:=by
 have hxl:=h.ev hx
 have hv:(a.eval x= .nilIface∧r=true)∨(∃u z,a.eval x= .iface u z)∧r=false:=by
  rcases hr with⟨e,rfl⟩|⟨⟨u,p,e⟩,rfl⟩
  ·rw[e] at hxl
   have:=Bb hxl
   generalize a.eval x=v at this⊢
   cases this;exact .inl ⟨rfl,rfl⟩
  ·rw[e] at hxl
   have:=Bb hxl
   generalize a.eval x=v at this⊢
   cases this;exact .inr ⟨⟨_,_,rfl⟩,rfl⟩
 have hq:=Bnl (P:=P) (w:=w) ht hv
 refine Ax.value h hd (v:= .bool (bif neg then !r else r)) ?_ (.pv _ _ (.bool _))
 have he:a.eval (.const .nilIface)= .nilIface:=rfl
 subst hop
 cases neg<;>rcases hv with⟨e,rfl⟩|⟨⟨u,z,e⟩,rfl⟩<;>rw[e] at hq<;>simp[execOp,ho,he,e,eqGuard,Go.binOp,hq,Result.andThen_ok]
theorem Bfs(h:RR C β σ a w)(hd: ∀i,o.dst=some i→i<C.nt){s t:TypeId}{x:Operand}{x':Opd}(ho:o.op= .convert s t x)(hx:Ak x x'=true){k:IntKind}(hs:(P.underlying s).isSome=true)(ht:P.underlying t=some (.int k))
  {k':IntKind}{n:Int}(hp:σ.ev x'= .pv (.int k' n)):Ax P C ((σ.insAll []).put o.dst (.pv (.int k (k.wrap n)))) o a w:=by
 have hxl:=h.ev hx
 rw[hp] at hxl
 have e:=W0 (Bb hxl)
 obtain⟨d,hd'⟩:=Option.isSome_iff_exists.1 hs
 refine Ax.value h hd (v:= .int k (k.wrap n)) ?_ (.pv _ _ (.int _ _))
 simp only[execOp,ho,Sem.run_bind,convert,run_underlying hd',run_underlying ht,e,Result.andThen_ok,Conv.intToInt,Sem.run_pure]
theorem Bj4(h:RR C β σ a w)(hd: ∀i,o.dst=some i→i<C.nt){s:TypeId}{f off:Nat}{x:Operand}{x':Opd}(ho:o.op= .fieldAddr s x f)(hx:Ak x x'=true)
  {fs:Array Field}{fd:Field}{i:TypeInfo}(hs:P.underlying s=some (.struct fs))(hf:fs[f]? =some fd)(hoff:fd.offset=off)(hi:P.info? fd.type=some i)(hz:i.size≠0)
  {v:SV}(hv:(match σ.ev x' with| .ptr k o=>some (SV.ptr k (o+off))| .ipv e o=>some (.ipv e (o+off))| .iown k i o=>some (.iown k i (o+off))|_=>none)=some v):
  Ax P C ((σ.insAll []).put o.dst v) o a w:=by
 have hxl:=h.ev hx
 have key: ∀b o1,a.eval x= .pointer (some ⟨b,o1,none⟩)→(execOp a.eval o).run P w= .ok (.value (.pointer (some ⟨b,o1+off,none⟩))) w:=fun b o1 e=>by
  simp only[execOp,ho,Sem.run_bind,e,Bp2 hs hf hi hz hoff,Result.andThen_ok,Sem.run_pure]
 cases hev:σ.ev x'<;>rw[hev] at hv hxl<;>simp only[Option.some.injEq] at hv<;>try (cases hv;done)
 ·subst hv
  cases hxe:a.eval x<;>rw[hxe] at hxl<;>cases hxl
  rename_i k o1 cs b hk hbk
  exact Ax.value h hd (key _ _ hxe) (.ptr _ _ cs _ hk hbk)
 ·subst hv
  cases hxe:a.eval x<;>rw[hxe] at hxl<;>cases hxl
  rename_i k i1 o1 sz xs b hk hbk hi1
  exact Ax.value h hd (key _ _ hxe) (by rw[Nat.add_assoc];exact .iown _ _ _ sz xs b hk hbk hi1)
 ·subst hv
  cases hxe:a.eval x<;>rw[hxe] at hxl<;>cases hxl
  rename_i e o1 b o2 us hb h1 hat hl
  exact Ax.value h hd (key _ _ hxe) (by rw[Nat.add_assoc];exact .ipv e _ b _ us hb h1 hat hl)
theorem Apk{t:TypeId}{agg:Bool}{n:Nat}(ht:Alz P t=some (agg,n)){us:List Value}{off:Nat}{v:Value}(hle:off+n≤us.length)(hv:N8 agg ((us.drop off).take n)=some v):
  (part t us.toArray off).run P w= .ok v w:=by
 obtain⟨d,i,h1,h2,h3,h4⟩:=Ap4 ht
 simp only[part,Sem.run_bind,A3a h1,Result.andThen_ok,h3]
 cases agg with
 |true=>
  simp only[N8,cond_true,Option.some.injEq] at hv
  simp only[if_true,Sem.run_bind,Hl h2,Result.andThen_ok,h4,Sem.run_pure,←hv]
  congr 2
  apply Array.ext'
  simp[List.take_drop]
 |false=>
  simp only[N8,cond_false] at hv
  have hn:((us.drop off).take n).length=n:=by simp;omega
  cases hr:(us.drop off).take n with
  |nil=>rw[hr] at hv;cases hv
  |cons u r=>
   rw[hr] at hv hn
   cases r with
   |cons _ _=>cases hv
   |nil=>
    simp at hv hn;subst hv
    have hu:us[off]? =some u:=by
     have:((us.drop off).take n)[0]? =some u:=by rw[hr];rfl
     simp only[List.getElem?_take,List.getElem?_drop,Nat.add_zero] at this
     split at this
     ·exact this
     ·cases this
    simp[hu]
theorem Bf1(h:RR C β σ a w)(hd: ∀i,o.dst=some i→i<C.nt){s:TypeId}{f off n:Nat}{agg:Bool}{x:Operand}{x':Opd}(ho:o.op= .field s x f)(hx:Ak x x'=true)
  {fs:Array Field}{fd:Field}(hs:P.underlying s=some (.struct fs))(hf:fs[f]? =some fd)(hoff:fd.offset=off)(ht:Alz P fd.type=some (agg,n))
  {v:SV}(hv:(match σ.ev x' with
   | .pv (.agg cs)=>if off+n≤cs.length then SV.ofCells agg (((cs.drop off).take n).map .pv) else none
   | .agg cs=>if off+n≤cs.length then SV.ofCells agg ((cs.drop off).take n) else none
   |_=>none)=some v):
  Ax P C ((σ.insAll []).put o.dst v) o a w:=by
 subst hoff
 have hxl:=h.ev hx
 have main: ∀(cs:List SV) (us:List Value),a.eval x= .agg us.toArray→Bk w (okB C β σ.look w) β σ.look cs us→fd.offset+n≤cs.length→SV.ofCells agg ((cs.drop fd.offset).take n)=some v→
   Ax P C ((σ.insAll []).put o.dst v) o a w:=by
  intro cs us e hcl hle hv'
  obtain⟨u,hu,hs'⟩:=F4 hv' (hcl.range fd.offset n)
  refine Ax.value h hd (v:=u) ?_ hs'
  simp only[execOp,ho,Sem.run_bind,Instr.field,run_underlying hs,Result.andThen_ok,hf,e,asAgg,Sem.run_pure,Apk ht (by rw[←hcl.1];exact hle) hu]
 cases hev:σ.ev x'<;>rw[hev] at hv hxl<;>(try simp only at hv)<;>(try (cases hv;done))
 ·rename_i p
  cases p<;>(try simp only at hv)<;>(try (cases hv;done))
  rename_i cs
  split at hv
  ·rename_i hle
   have hl:=Bb hxl
   cases hxe:a.eval x<;>rw[hxe] at hl<;>cases hl
   rename_i us hl h1 h2
   exact main (cs.map .pv) us hxe (Bk.pv hl h1 h2) (by simpa using hle) (by simpa [List.map_drop,List.map_take] using hv)
  ·cases hv
 ·rename_i cs
  split at hv
  ·rename_i hle
   cases hxe:a.eval x<;>rw[hxe] at hxl<;>cases hxl
   rename_i us h1 hl h2
   exact main cs us hxe ⟨hl,h1,h2⟩ hle hv
  ·cases hv
theorem Bj3(h:RR C β σ a w)(hd: ∀i,o.dst=some i→i<C.nt){i:Nat}{x:Operand}{x':Opd}(ho:o.op= .extract x i)(hx:Ak x x'=true)
  {vs:List SV}{v:SV}(hev:σ.ev x'= .tup vs)(hv:vs[i]? =some v):Ax P C ((σ.insAll []).put o.dst v) o a w:=by
 have hxl:=h.ev hx
 rw[hev] at hxl
 cases hxe:a.eval x<;>rw[hxe] at hxl<;>cases hxl
 rename_i us hl h1
 have hlt:i<us.length:=by rw[←hl];exact(List.getElem?_eq_some_iff.1 hv).1
 have hu:us[i]? =some us[i]:=by simp[hlt]
 refine Ax.value h hd (v:=us[i]) ?_ (h1 i v _ hv hu)
 simp only[execOp,ho,Sem.run_bind,hxe,Instr.extract,List.getElem?_toArray,hu,Sem.run_pure,Result.andThen_ok]
theorem Lj{ok:Nat→Prop}{xs:List PV}{v:Value}(h:Be w ok (.slice xs) v): ∃(ad:Option Addr) (c sz:Nat) (us:Nat→Nat→Value),v= .slice ad xs.length c∧xs.length≤c∧
  (∀x∈xs,x.cells.length=sz)∧(∀x∈xs,x.fine)∧
  (∀i j,i<xs.length→j<sz→ ∃b:Addr,ad=some b∧b.spot=none∧ok b.block∧w.cell? ⟨b.block,b.off+i*sz+j,none⟩=some (us i j))∧
  (0<xs.length→ ∃b:Addr,ad=some b∧b.spot=none)∧
  (∀(i j:Nat) (x y:PV),xs[i]? =some x→x.cells[j]? =some y→Be w ok y (us i j)):=by
 cases h with
 |slice _ ad n c sz us hn hc hsz h1 hat hp h=>subst hn;exact⟨ad,c,sz,us,rfl,hc,hsz,h1,hat,hp,h⟩
theorem A3g(h:RR C β σ a w)(hd: ∀i,o.dst=some i→i<C.nt){t e:TypeId}{sz:Nat}{x i:Operand}{x' i':Opd}(ho:o.op= .indexAddr t x i)(hx:Ak x x'=true)(hi:Ak i i'=true)
  {it:TypeInfo}(ht:P.underlying t=some (.slice e))(hit:P.info? e=some it)(hs:it.size=sz)(hz:sz≠0){k:IntKind}{n:Int}(hn:intOf (σ.ev i')=some (k,n))(h0:0≤n)
  {v:SV}(hv:(∃xs e1,σ.ev x'= .pv (.slice xs)∧xs[n.toNat]? =some e1∧e1.cells.length=sz∧v= .ipv e1 0)∨
   (∃k1 xs,σ.ev x'= .own k1∧σ.look k1=some (.row sz xs)∧n.toNat<xs.length∧v= .iown k1 n.toNat 0)):
  Ax P C ((σ.insAll []).put o.dst v) o a w:=by
 have hxl:=h.ev hx
 have hil:=Qy (h.ev hi) hn
 have key: ∀(b:Addr) len cap,b.spot=none→a.eval x= .slice (some b) len cap→n.toNat<len→(execOp a.eval o).run P w= .ok (.value (.pointer (some ⟨b.block,b.off+n.toNat*sz,none⟩))) w:=fun b len cap hb e hlt=>by
  simp only[execOp,ho,Sem.run_bind,e,hil,Bp3 ht hit hs hb len cap k n h0 hlt,Result.andThen_ok,Sem.run_pure]
 rcases hv with⟨xs,e1,hev,he1,hsz,rfl⟩|⟨k1,xs,hev,hk,hlt,rfl⟩
 ·rw[hev] at hxl
  obtain⟨ad,cap,sz1,us,hxe,hc,hsz1,h1,hat,hp,hlie⟩:=Lj (Bb hxl)
  have hlt:=(List.getElem?_eq_some_iff.1 he1).1
  obtain⟨b,rfl,hbs⟩:=hp (by omega)
  have hm:=List.mem_of_getElem? he1
  have hz1:sz1=sz:=by rw[←hsz1 e1 hm];exact hsz
  subst hz1
  have hr:=key b _ cap hbs hxe hlt
  obtain⟨b',hb',_,hok,_⟩:=hat n.toNat 0 hlt (by omega)
  cases hb'
  refine Ax.value h hd hr ?_
  have:=As.ipv (w:=w) (ok:=okB C β σ.look w) (β:=β) (lk:=σ.look) e1 0 b.block (b.off+n.toNat*sz1) (us n.toNat) hok (h1 e1 hm) (fun j hj=>?_) (fun j y hy=>hlie n.toNat j e1 y he1 hy)
  ·simpa using this
  ·obtain⟨b',hb',_,_,hcell⟩:=hat n.toNat j hlt (by omega)
   cases hb'
   exact hcell
 ·rw[hev] at hxl
  generalize hxe:a.eval x=xv at hxl
  cases hxl with
  |own _ sz1 xs1 b1 hk1 hb1=>
   rw[hk] at hk1;cases hk1
   have hr:=key _ _ _ rfl hxe hlt
   refine Ax.value h hd hr ?_
   have:=As.iown (w:=w) (ok:=okB C β σ.look w) (β:=β) (lk:=σ.look) k1 n.toNat 0 sz xs b1 hk hb1 hlt
   simpa using this
  |ownN _ sz1 ad hk1 hb1=>rw[hk] at hk1;cases hk1;simp at hlt
theorem Bf3(h:RR C β σ a w)(hd: ∀i,o.dst=some i→i<C.nt){t:TypeId}{x i:Operand}{x' i':Opd}(ho:o.op= .index t x i)(hx:Ak x x'=true)(hi:Ak i i'=true)
  (ht:P.underlying t=some .string){k:IntKind}{n:Int}(hn:intOf (σ.ev i')=some (k,n))(h0:0≤n){s:List UInt8}{b:UInt8}(hev:σ.ev x'= .pv (.str s))(hb:s[n.toNat]? =some b):
  Ax P C ((σ.insAll []).put o.dst (.pv (.int .u8 b.toNat))) o a w:=by
 have hxl:=h.ev hx
 rw[hev] at hxl
 have hxe:=Cz (Bb hxl)
 have hil:=Qy (h.ev hi) hn
 refine Ax.value h hd (v:= .int .u8 b.toNat) ?_ (.pv _ _ (.int _ _))
 have hg:(⟨s.toArray⟩:ByteArray)[n.toNat]? =some b:=by
  have hlt:=(List.getElem?_eq_some_iff.1 hb).1
  have:n.toNat<(⟨s.toArray⟩:ByteArray).size:=by rw[G8];exact hlt
  rw[getElem?_pos (⟨s.toArray⟩:ByteArray) n.toNat this]
  have:=(List.getElem?_eq_some_iff.1 hb).2
  rw[←this]
  rfl
 simp only[execOp,ho,Sem.run_bind,hil,hxe,Instr.index,asIntOf,run_underlying ht,Sem.run_pure,Result.andThen_ok,if_pos h0,hg]
theorem Anz: ∀{ps:List PV} {s:List UInt8},Tt ps=some s→ ∃ns:List Int,ps=ns.map (PV.int .u8)∧s=ns.map (fun n=>UInt8.ofNat n.toNat)
 |[],s,h=>by simp[Tt] at h;subst h;exact⟨[],rfl,rfl⟩
 |p::ps,s,h=>by
  unfold Tt at h
  split at h
  ·rename_i he;cases he
  ·rename_i n l he
   cases he
   simp only[Option.map_eq_some_iff] at h
   obtain⟨s',h1,rfl⟩:=h
   obtain⟨ns,rfl,rfl⟩:=Anz h1
   exact⟨n::ns,rfl,rfl⟩
  ·cases h
theorem Bbp: ∀(ns:List Int) (r:ByteArray),ns.foldl (fun r n=>r.push (UInt8.ofNat n.toNat)) r=⟨(r.data.toList++ns.map (fun n=>UInt8.ofNat n.toNat)).toArray⟩
 |[],r=>by simp
 |n::ns,r=>by
  rw[List.foldl_cons,Bbp ns]
  congr 1
  simp[ByteArray.push]
theorem Bjz(h:RR C β σ a w)(hd: ∀i,o.dst=some i→i<C.nt){s t e:TypeId}{x:Operand}{x':Opd}(ho:o.op= .convert s t x)(hx:Ak x x'=true)
  (hs:P.underlying s=some (.slice e))(he:P.underlying e=some (.int .u8))(ht:P.underlying t=some .string){ps:List PV}{b:List UInt8}(hev:σ.ev x'= .pv (.slice ps))(hb:Tt ps=some b):
  Ax P C ((σ.insAll []).put o.dst (.pv (.str b))) o a w:=by
 have hxl:=h.ev hx
 rw[hev] at hxl
 obtain⟨ad,c,sz,us,hv,hc,hsz,hf,hat,hp,hl⟩:=Lj (Bb hxl)
 obtain⟨ns,rfl,rfl⟩:=Anz hb
 refine Ax.value h hd (v:= .string ⟨(ns.map (fun n=>UInt8.ofNat n.toNat)).toArray⟩) ?_ (.pv _ _ (Be.str _))
 have hrun:(Conv.bytesToString (.slice ad (ns.map (PV.int .u8)).length c)).run P w= .ok (.string ⟨(ns.map (fun n=>UInt8.ofNat n.toNat)).toArray⟩) w:=by
  cases ad with
  |none=>
   cases ns with
   |nil=>rfl
   |cons n ns=>obtain⟨b,hb,_⟩:=hp (by simp);cases hb
  |some A=>
   have hcell: ∀j v,(ns.map (Value.int .u8))[j]? =some v→w.cell? (A.add j)=some v:=by
    intro j v hv
    simp only[List.getElem?_map,Option.map_eq_some_iff] at hv
    obtain⟨n,hn,rfl⟩:=hv
    have hj:=(List.getElem?_eq_some_iff.1 hn).1
    have hx:(ns.map (PV.int .u8))[j]? =some (PV.int .u8 n):=by simp[hn]
    have h1:sz=1:=(hsz _ (List.mem_of_getElem? hx)).symm.trans rfl
    subst h1
    obtain⟨b',hb',hspot,_,hcell⟩:=hat j 0 (by simpa using hj) (by omega)
    cases hb'
    have hu:=hl j 0 _ (PV.int .u8 n) hx rfl
    generalize us j 0=u at hcell hu
    cases hu
    obtain⟨b1,b2,b3⟩:=A
    simp only at hspot
    subst hspot
    rw[addr_add]
    simpa using hcell
   have:=run_bytesToString (P:=P) w A (ns.map (PV.int .u8)).length c ns (by
    have:=run_loadCells_list (P:=P) w A (ns.map (Value.int .u8)) hcell
    simpa using this)
   rw[this,Bbp]
   rfl
 simp only[execOp,ho,Sem.run_bind,hv,run_convert_bytes_string w s t e ad _ c hs he ht,hrun,Result.andThen_ok,Sem.run_pure]
theorem Bfr(h:RR C β σ a w)(hd: ∀i,o.dst=some i→i<C.nt){t e:TypeId}{len n:Nat}{x i:Operand}{x' i':Opd}(ho:o.op= .index t x i)(hx:Ak x x'=true)(hi:Ak i i'=true)
  (ht:P.underlying t=some (.array len e))(he:Alz P e=some (true,n)){k:IntKind}{m:Int}(hn:intOf (σ.ev i')=some (k,m))(h0:0≤m)(hlt:m.toNat<len){cs:List PV}(hev:σ.ev x'= .pv (.agg cs))(hle:m.toNat*n+n≤cs.length)
  {v:SV}(hv:SV.ofCells true (((cs.drop (m.toNat*n)).take n).map .pv)=some v):Ax P C ((σ.insAll []).put o.dst v) o a w:=by
 have hxl:=h.ev hx
 rw[hev] at hxl
 have hl:=Bb hxl
 have hil:=Qy (h.ev hi) hn
 obtain⟨d,inf,h1,h2,h3,h4⟩:=Ap4 he
 cases hxe:a.eval x<;>rw[hxe] at hl<;>cases hl
 rename_i us hl q1 q2
 have hcl:Bk w (okB C β σ.look w) β σ.look (cs.map .pv) us:=Bk.pv hl q1 q2
 obtain⟨u,hu,hs'⟩:=F4 (by simpa [List.map_drop,List.map_take] using hv) (hcl.range (m.toNat*n) n)
 refine Ax.value h hd (v:=u) ?_ hs'
 have hc:0≤m∧m<(len:Int):=⟨h0,by omega⟩
 have hlen:m.toNat*n+n≤us.length:=by rw[←hcl.1];simpa using hle
 simp only[execOp,ho,Sem.run_bind,hil,hxe,Instr.index,asIntOf,run_underlying ht,Sem.run_pure,Result.andThen_ok,if_pos hc,Hl h2,h4,Apk he hlen hu]
theorem Biw(h:RR C β σ a w){x:SV}{v:Value}(hx:As w (okB C β σ.look w) β σ.look x v){xs:List PV}(he:σ.elems x=some xs): ∃ad c,v= .slice ad xs.length c:=by
 cases x<;>simp only[St.elems] at he<;>try (cases he;done)
 ·rename_i p
  cases p<;>simp only at he<;>try (cases he;done)
  cases he
  obtain⟨ad,c,_,_,e,_⟩:=Lj (Bb hx)
  exact⟨ad,c,e⟩
 ·cases he;cases hx;exact⟨_,0,rfl⟩
 ·rename_i k
  cases hx with
  |own _ sz xs' b hk hb=>rw[hk] at he;cases he;exact⟨_,_,rfl⟩
  |ownN _ sz ad hk hb=>rw[hk] at he;cases he;exact⟨_,0,rfl⟩
theorem A3h(h:RR C β σ a w)(hd: ∀i,o.dst=some i→i<C.nt){c:Call}{x:Operand}{x':Opd}{t:TypeId}(ho:o.op= .call c)(hc:c.callee= .builtin .len)(hca:c.args= #[x])(hct:c.argTypes= #[t])
  (hx:Ak x x'=true){n:Nat}
  (hn:(P.underlying t=some .string∧ ∃s,σ.ev x'= .pv (.str s)∧n=s.length)∨(∃e xs,P.underlying t=some (.slice e)∧σ.elems (σ.ev x')=some xs∧n=xs.length)):
  Ax P C ((σ.insAll []).put o.dst (.pv (.int .i64 n))) o a w:=by
 have hxl:=h.ev hx
 refine Ax.value h hd (v:= .int .i64 n) ?_ (.pv _ _ (.int _ _))
 rcases hn with⟨ht,s,hev,rfl⟩|⟨e,xs,ht,hev,rfl⟩
 ·rw[hev] at hxl
  have hxe:=Cz (Bb hxl)
  simp only[execOp,ho,resolve,hc,hca,hct,List.map_toArray,List.map_cons,List.map_nil,Sem.run_bind,Sem.run_pure,Result.andThen_ok,invoke,builtin,Builtin.len_,hxe,List.getElem?_toArray,List.getElem?_cons_zero,run_underlying ht,goInt,G8]
 ·obtain⟨ad,cap,hxe⟩:=Biw h hxl hev
  simp only[execOp,ho,resolve,hc,hca,hct,List.map_toArray,List.map_cons,List.map_nil,Sem.run_bind,Sem.run_pure,Result.andThen_ok,invoke,builtin,Builtin.len_,hxe,List.getElem?_toArray,List.getElem?_cons_zero,run_underlying ht,goInt]
theorem Bh0{mx:Bool}{ok:Nat→Prop}{lk:Key→Option Ah}: ∀(ys:List SV) (vs:List Value) (x z:PV) (v:Value),Be w ok x v→(∀(j:Nat) (y:SV) (u:Value),ys[j]? =some y→vs[j]? =some u→As w ok β lk y u)→ys.length=vs.length→
  mmL mx x ys=some z→ ∃u,(vs.foldlM (bif mx then Builtin.max2 else Builtin.min2) v).run P w= .ok u w∧Be w ok z u
 |[],[],x,z,v,hx,_,_,h=>by
  simp only[mmL,Option.some.injEq] at h;subst h
  exact⟨v,by simp[List.foldlM],hx⟩
 |[],_::_,_,_,_,_,_,hl,_=>by simp at hl
 |_::_,[],_,_,_,_,_,hl,_=>by simp at hl
 |y::ys,u::vs,x,z,v,hx,hy,hl,h=>by
  cases y<;>simp only[mmL] at h<;>try (cases h;done)
  rename_i p
  have hp:=Bb (hy 0 _ u rfl rfl)
  cases hm:Bpl mx x p with
  |none=>rw[hm] at h;cases h
  |some q=>
   rw[hm] at h
   cases x<;>cases p<;>simp only[Bpl] at hm<;>try (cases hm;done)
   rename_i k m k' n
   split at hm
   ·rename_i hk;subst hk
    cases hm
    have hv:=W0 hx
    have hu:=W0 hp
    subst hv;subst hu
    obtain⟨r,hr,hz⟩:=Bh0 ys vs _ z _ (Be.int (w:=w) (ok:=ok) k _) (fun j y u hj hu=>hy (j+1) y u (by simpa using hj) (by simpa using hu)) (by simpa using hl) h
    refine⟨r,?_,hz⟩
    cases mx
    ·simp only[cond_false,List.foldlM_cons,Builtin.min2,pure_bind] at hr⊢
     exact hr
    ·simp only[cond_true,List.foldlM_cons,Builtin.max2,pure_bind] at hr⊢
     exact hr
   ·cases hm
theorem A1w{xs:List Operand}{ys:List Opd}(h:Cu Ak xs ys=true):xs.length=ys.length∧ ∀(j:Nat) (x:Operand) (y:Opd),xs[j]? =some x→ys[j]? =some y→Ak x y=true:=by
 induction xs generalizing ys with
 |nil=>cases ys with
  |nil=>simp
  |cons _ _=>simp[Cu] at h
 |cons x xs ih=>cases ys with
  |nil=>simp[Cu] at h
  |cons y ys=>
   simp only[Cu,Bool.and_eq_true] at h
   obtain⟨h1,h2⟩:=ih h.2
   refine⟨by simp[h1],fun j p q hp hq=>?_⟩
   cases j with
   |zero=>simp at hp hq;subst hp;subst hq;exact h.1
   |succ j=>exact h2 j p q (by simpa using hp) (by simpa using hq)
theorem RR.evs(h:RR C β σ a w){xs:List Operand}{ys:List Opd}(hx:Cu Ak xs ys=true):(ys.map σ.ev).length=(xs.map a.eval).length∧
  ∀(j:Nat) (y:SV) (u:Value),(ys.map σ.ev)[j]? =some y→(xs.map a.eval)[j]? =some u→As w (okB C β σ.look w) β σ.look y u:=by
 obtain⟨h1,h2⟩:=A1w hx
 refine⟨by simp[h1],fun j y u hy hu=>?_⟩
 simp only[List.getElem?_map,Option.map_eq_some_iff] at hy hu
 obtain⟨y',hy',rfl⟩:=hy
 obtain⟨x',hx',rfl⟩:=hu
 exact h.ev (h2 j x' y' hx' hy')
theorem Bnv(h:RR C β σ a w)(hd: ∀i,o.dst=some i→i<C.nt){c:Call}{mx:Bool}{x:Operand}{x':Opd}{xs:List Operand}{xs':List Opd}(ho:o.op= .call c)(hc:c.callee= .builtin (bif mx then .max else .min))
  (hca:c.args.toList=x::xs)(hx:Ak x x'=true)(hxs:Cu Ak xs xs'=true){p q:PV}(hp:σ.ev x'= .pv p)(hq:mmL mx p (xs'.map σ.ev)=some q):
  Ax P C ((σ.insAll []).put o.dst (.pv q)) o a w:=by
 have hxl:=h.ev hx
 rw[hp] at hxl
 obtain⟨h1,h2⟩:=h.evs hxs
 obtain⟨u,hr,hz⟩:=Bh0 (P:=P) _ _ p q _ (Bb hxl) h2 h1 hq
 refine Ax.value h hd (v:=u) ?_ (.pv _ _ hz)
 have hca':c.args=(x::xs).toArray:=by rw[←hca]
 cases mx
 ·simp only[cond_false] at hc hr
  simp only[execOp,ho,resolve,hc,hca',List.map_toArray,List.map_cons,Sem.run_bind,Sem.run_pure,Result.andThen_ok,invoke,builtin,Builtin.min_,hr]
 ·simp only[cond_true] at hc hr
  simp only[execOp,ho,resolve,hc,hca',List.map_toArray,List.map_cons,Sem.run_bind,Sem.run_pure,Result.andThen_ok,invoke,builtin,Builtin.max_,hr]
theorem Bfw(h:RR C β σ a w)(hd: ∀i,o.dst=some i→i<C.nt){f:FuncId}{caps:Array Operand}{caps':List Opd}(ho:o.op= .makeFunc (.func f) #[] caps)(hx:Cu Ak caps.toList caps'=true):
  Ax P C ((σ.insAll []).put o.dst (match caps'.map σ.ev with|[]=> .pv (.fn f)|vs=> .fn f vs)) o a w:=by
 obtain⟨h1,h2⟩:=h.evs hx
 have hr:(execOp a.eval o).run P w= .ok (.value (.func (.func f) #[] (caps.toList.map a.eval).toArray)) w:=by
  simp only[execOp,ho,Sem.run_bind,Instr.makeFunc,Sem.run_pure,Result.andThen_ok,List.map_toArray,List.map_nil]
  congr 3
  apply Array.ext'
  simp
 refine Ax.value h hd hr ?_
 cases hv:caps'.map σ.ev with
 |nil=>
  rw[hv] at h1
  have:caps.toList.map a.eval=[]:=List.eq_nil_of_length_eq_zero (by simpa using h1.symm)
  rw[this]
  exact .pv _ _ (.fn f)
 |cons y ys=>
  rw[hv] at h1 h2
  exact .fn f _ _ h1 h2
end
end Go.Av
end
section
namespace Go.Av
section
variable {P:Program} {C:Ctx} {β:Key→Blk} {σ:St} {a:Act} {w:World} {o:Oper}
theorem Ez{sz:Nat}{xs:List PV}(h:Hy sz xs=true): ∀x∈xs,x.cells.length=sz:=by
 intro x hx
 have:=List.all_eq_true.1 h x hx
 simpa using this
theorem A29(h:RR C β σ a w){lo:Option Operand}{lo':Option Opd}(hlo:Gl Ak lo lo'=true){d top n:Nat}(hb:bound σ d top lo'=some n):
  (lo.map a.eval=none∧n=d)∨ ∃k m,lo.map a.eval=some (.int k m)∧0≤m∧m≤top∧n=m.toNat:=by
 cases lo with
 |none=>
  cases lo' with
  |none=>simp only[bound,Option.some.injEq] at hb;exact .inl ⟨rfl,hb.symm⟩
  |some _=>simp[Gl] at hlo
 |some x=>
  cases lo' with
  |none=>simp[Gl] at hlo
  |some x'=>
   simp only[Gl] at hlo
   simp only[bound] at hb
   cases hi:intOf (σ.ev x') with
   |none=>rw[hi] at hb;cases hb
   |some p=>
    obtain⟨k,m⟩:=p
    rw[hi] at hb
    simp only at hb
    split at hb
    ·rename_i hc
     have:=Qy (h.ev hlo) hi
     cases hb
     exact .inr ⟨k,m,by simp[this],hc.1,hc.2,rfl⟩
    ·cases hb
theorem run_sliceBound{k:IntKind}{m:Int}{y:Nat}{code:BoundsCode}(h0:0≤m)(h1:m≤y):(Instr.sliceBound (.int k m) y code).run P w= .ok m.toNat w:=by
 simp only[Instr.sliceBound,asIntOf,Sem.run_bind,Sem.run_pure,Result.andThen_ok,if_pos (And.intro h0 h1)]
theorem Ayb(h:RR C β σ a w){isS:Bool}{len cap:Nat}{lo hi:Option Operand}{lo' hi':Option Opd}(hlo:Gl Ak lo lo'=true)(hhi:Gl Ak hi hi'=true)(hc:len≤cap)
  {l r:Nat}(hr:bound σ len len hi'=some r)(hl:bound σ 0 r lo'=some l):r≤len∧l≤r∧(Instr.sliceBounds isS len cap (lo.map a.eval) (hi.map a.eval) none).run P w= .ok (l,r,cap) w:=by
 rcases A29 h hhi hr with⟨e,rfl⟩|⟨k,m,e,h0,h1,rfl⟩<;>rcases A29 h hlo hl with⟨e',rfl⟩|⟨k',m',e',h0',h1',rfl⟩<;>rw[e,e']
 ·exact⟨Nat.le_refl _,by omega,rfl⟩
 ·exact⟨Nat.le_refl _,by omega,by simp only[Instr.sliceBounds,Sem.run_bind,Sem.run_pure,Result.andThen_ok,run_sliceBound h0' h1']⟩
 ·have h2:m≤(cap:Int):=by omega
  exact⟨by omega,by omega,by simp only[Instr.sliceBounds,Sem.run_bind,Sem.run_pure,Result.andThen_ok,run_sliceBound h0 h2]⟩
 ·have h2:m≤(cap:Int):=by omega
  exact⟨by omega,by omega,by simp only[Instr.sliceBounds,Sem.run_bind,Sem.run_pure,Result.andThen_ok,run_sliceBound h0 h2,run_sliceBound h0' h1']⟩
theorem Ay7(s:List UInt8)(l r:Nat):(⟨s.toArray⟩:ByteArray).extract l r=⟨((s.take r).drop l).toArray⟩:=by
 apply ByteArray.ext
 apply Array.ext'
 simp[ByteArray.data_extract,List.drop_take]
theorem Bf4(h:RR C β σ a w)(hd: ∀i,o.dst=some i→i<C.nt){t:TypeId}{x:Operand}{x':Opd}{lo hi:Option Operand}{lo' hi':Option Opd}(ho:o.op= .slice t x lo hi none)(hx:Ak x x'=true)
  (hlo:Gl Ak lo lo'=true)(hhi:Gl Ak hi hi'=true)(ht:P.underlying t=some .string){s:List UInt8}(hev:σ.ev x'= .pv (.str s)){l r:Nat}(hr:bound σ s.length s.length hi'=some r)(hl:bound σ 0 r lo'=some l):
  Ax P C ((σ.insAll []).put o.dst (.pv (.str ((s.take r).drop l)))) o a w:=by
 have hxl:=h.ev hx
 rw[hev] at hxl
 have hxe:=Cz (Bb hxl)
 obtain⟨h1,h2,hb⟩:=Ayb (P:=P) (isS:=false) h hlo hhi (Nat.le_refl s.length) hr hl
 refine Ax.value h hd (v:= .string ⟨((s.take r).drop l).toArray⟩) ?_ (.pv _ _ (.str _))
 simp only[execOp,ho,Sem.run_bind,Option.map_none,Instr.sliceAt,run_underlying ht,Result.andThen_ok,Instr.slice,hxe,G8,Option.isSome_none,Bool.false_eq_true,if_false,Sem.run_pure,hb,Ay7]
theorem Bgk{ok:Nat→Prop}{lk:Key→Option Ah}{x:SV}{v:Value}{xs:List PV}(hx:As w ok β lk x v)(ht:x.tidy= .pv (.slice xs)):Be w ok (.slice xs) v:=by
 unfold SV.tidy at ht
 cases x with
 |pv p=>simp only[SV.clean,SV.pv.injEq] at ht;subst ht;exact Bb hx
 |nils=>
  simp only[SV.clean,SV.pv.injEq,PV.slice.injEq] at ht
  subst ht
  cases hx
  exact .slice [] _ 0 0 0 (fun _ _=>undef) rfl (Nat.le_refl _) (by simp) (by simp) (by intro i j hi;omega) (by omega) (by simp)
 |agg cs=>
  simp only[SV.clean] at ht
  cases hc:SV.clean.cleanL cs with
  |none=>rw[hc] at ht;simp at ht
  |some ys=>rw[hc] at ht;simp at ht
 |fn f cs=>
  cases cs with
  |nil=>simp[SV.clean] at ht
  |cons c cs=>simp[SV.clean] at ht
 |_=>simp[SV.clean] at ht
theorem Bj8(h:RR C β σ a w)(hd: ∀i,o.dst=some i→i<C.nt){t e:TypeId}{sz:Nat}{x:Operand}{x':Opd}{lo hi:Option Operand}{lo' hi':Option Opd}(ho:o.op= .slice t x lo hi none)(hx:Ak x x'=true)
  (hlo:Gl Ak lo lo'=true)(hhi:Gl Ak hi hi'=true)(ht:P.underlying t=some (.slice e)){i:TypeInfo}(hi1:P.info? e=some i)(hi2:i.size=sz)
  {xs:List PV}(hev:(σ.ev x').tidy= .pv (.slice xs)){l r:Nat}(hr:bound σ xs.length xs.length hi'=some r)(hl:bound σ 0 r lo'=some l)(ha:Hy sz xs=true):
  Ax P C ((σ.insAll []).put o.dst (.pv (.slice ((xs.take r).drop l)))) o a w:=by
 subst hi2
 obtain⟨ad,cap,sz1,us,hxe,hc,hsz1,h1,hat,hp,hlie⟩:=Lj (Bgk (h.ev hx) hev)
 obtain⟨h2,h3,hb⟩:=Ayb (P:=P) (isS:=true) h hlo hhi hc hr hl
 have hlen:((xs.take r).drop l).length=r-l:=by simp;omega
 have hsub: ∀x∈(xs.take r).drop l,x∈xs:=fun x hx=>List.mem_of_mem_take (List.mem_of_mem_drop hx)
 refine Ax.value h hd (v:= .slice (if cap=l then ad else ad.map (·.add (l*i.size))) (r-l) (cap-l)) ?_ (.pv _ _ ?_)
 ·simp only[execOp,ho,Sem.run_bind,Option.map_none,Instr.sliceAt,run_underlying ht,Result.andThen_ok,Instr.slice,hxe,hb,Hl hi1,Sem.run_pure]
 ·have hat': ∀i1 j,i1<r-l→j<sz1→ ∃b:Addr,(if cap=l then ad else ad.map (·.add (l*i.size)))=some b∧b.spot=none∧okB C β σ.look w b.block∧w.cell? ⟨b.block,b.off+i1*sz1+j,none⟩=some (us (l+i1) j):=by
   intro i1 j hi1' hj
   have hne: ¬cap=l:=by omega
   obtain⟨b,hb1,hb2,hb3,hb4⟩:=hat (l+i1) j (by omega) hj
   have hm:xs[0]? =some (xs[0]'(by omega)):=by simp
   have hs:sz1=i.size:=by
    have hm:xs[l]'(by omega)∈xs:=List.getElem_mem _
    rw[←hsz1 _ hm,Ez ha _ hm]
   subst hs
   refine⟨b.add (l*i.size),by simp[hne,hb1],?_,?_,?_⟩
   ·unfold Addr.add;split<;>simp[hb2]
   ·unfold Addr.add;split<;>simpa using hb3
   ·obtain⟨bb,bo,bs⟩:=b
    simp only at hb2;subst hb2
    rw[addr_add]
    rw[Nat.add_mul] at hb4
    simpa [Nat.add_assoc] using hb4
  refine .slice _ _ _ _ sz1 (fun i1 j=>us (l+i1) j) hlen.symm (by omega) (fun x hx=>hsz1 x (hsub x hx)) (fun x hx=>h1 x (hsub x hx)) hat' ?_ ?_
  ·intro h0
   have hne: ¬cap=l:=by omega
   obtain⟨b,rfl,hb2⟩:=hp (by omega)
   exact⟨b.add (l*i.size),by simp[hne],by unfold Addr.add;split<;>simp[hb2]⟩
  ·intro i1 j x y hx hy
   have:xs[l+i1]? =some x:=by
    simp only[List.getElem?_drop,List.getElem?_take] at hx
    split at hx
    ·exact hx
    ·cases hx
   exact hlie (l+i1) j x y this hy
end
end Go.Av
end
