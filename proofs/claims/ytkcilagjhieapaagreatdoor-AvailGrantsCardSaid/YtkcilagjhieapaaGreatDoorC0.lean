import Derived.Orders
section
namespace Go.Av
inductive Key where
 |loc (d i:Nat)
 |ext (i:Nat)
 |res (i:Nat)
 deriving DecidableEq
inductive PV where
 |int (k:IntKind) (n:Int)
 |bool (b:Bool)
 |str (s:List UInt8)
 |agg (cs:List PV)
 |slice (xs:List PV)
 |fn (f:FuncId)
 |nilFn
 |yld (l:Nat)
 |hdl (t b u:Nat)
 |nilI
 |iface (t:TypeId) (v:PV)
def PV.isB:PV→Bool
 | .bool _=>true
 |_=>false
def PV.cells:PV→List PV
 | .agg cs=>cs
 |x=>[x]
def PV.one:PV→Bool
 | .agg _=>false
 |_=>true
inductive SV where
 |pv (x:PV)
 |nils
 |ptr (k:Key) (off:Nat)
 |own (k:Key)
 |mp (k:Key)
 |iown (k:Key) (i off:Nat)
 |ipv (x:PV) (off:Nat)
 |agg (cs:List SV)
 |tup (cs:List SV)
 |fn (f:FuncId) (caps:List SV)
 |dead
inductive KK where
 |i (k:IntKind)
 |b
 |s
 deriving DecidableEq
def PV.isKK:KK→PV→Bool
 | .i k,.int k' _=>decide (k=k')
 | .b,.bool _=>true
 | .s,.str _=>true
 |_,_=>false
inductive Ba where
 |box (cells:List SV)
 |row (sz:Nat) (xs:List PV)
 |map (kk:KK) (es:List (PV×PV))
structure St where
 sl:List (Nat×SV)
 hp:List (Key×Ba)
def Kh:List (Nat×SV)→Nat→SV
 |[],_=> .dead
 |(i,v)::r,j=>bif i==j then v else Kh r j
def Bu:List (Key×Ba)→Key→Option Ba
 |[],_=>none
 |(i,v)::r,j=>if i=j then some v else Bu r j
def St.get(σ:St)(t:Nat):SV:=Kh σ.sl t
def St.look(σ:St)(k:Key):Option Ba:=Bu σ.hp k
def St.put(σ:St)(d:Option Nat)(v:SV):St:=
 match d with
 |some d=>{σ with sl:=(d,v)::σ.sl}
 |none=>σ
def St.insAll(σ:St)(l:List (Key×Ba)):St:={σ with hp:=l++σ.hp}
def SV.names(k:Key):SV→Bool
 | .pv _=>false
 | .nils=>false
 | .ptr k' _=>decide (k'=k)
 | .own k'=>decide (k'=k)
 | .mp k'=>decide (k'=k)
 | .iown k' _ _=>decide (k'=k)
 | .ipv _ _=>false
 | .agg cs=>namesL k cs
 | .tup cs=>namesL k cs
 | .fn _ cs=>namesL k cs
 | .dead=>false
where
 namesL (k:Key):List SV→Bool
  |[]=>false
  |c::cs=>SV.names k c||namesL k cs
def SV.kill(k:Key)(v:SV):SV:=bif v.names k then .dead else v
def Ba.kill(k:Key):Ba→Ba
 | .box cs=> .box (cs.map (SV.kill k))
 | .row sz xs=> .row sz xs
 | .map kk es=> .map kk es
def St.kill(σ:St)(k:Key):St:=
 {sl:=σ.sl.map fun p=>(p.1,p.2.kill k),hp:=(σ.hp.filter fun p=>decide (p.1≠k)).map fun p=>(p.1,p.2.kill k)}
def St.killAll(σ:St):List Key→St
 |[]=>σ
 |k::ks=>(σ.kill k).killAll ks
inductive Opd where
 |tmp (t:Nat)
 |cst (x:PV)
 |nils
def St.ev(σ:St):Opd→SV
 | .tmp t=>σ.get t
 | .cst x=> .pv x
 | .nils=> .nils
def SV.ofCells(agg:Bool)(cs:List SV):Option SV:=
 bif agg then
  match pures cs with
  |some xs=>some (.pv (.agg xs))
  |none=>some (.agg cs)
 else match cs with
  |[c]=>some c
  |_=>none
where
 pures:List SV→Option (List PV)
  |[]=>some []
  | .pv x::cs=>(pures cs).map (x:: ·)
  |_::_=>none
def SV.cells:SV→List SV
 | .pv x=>x.cells.map .pv
 | .agg cs=>cs
 |v=>[v]
def St.pure(σ:St):SV→Option PV
 | .pv x=>some x
 | .nils=>some (.slice [])
 | .own k=>match σ.look k with
  |some (.row _ xs)=>some (.slice xs)
  |_=>none
 | .agg cs=>(pureL σ cs).map .agg
 | .fn f []=>some (.fn f)
 |_=>none
where
 pureL (σ:St):List SV→Option (List PV)
  |[]=>some []
  |c::cs=>match c,σ.pure c with
   | .agg _,_=>none
   |_,some x=>match pureL σ cs with
    |some xs=>some (x::xs)
    |none=>none
   |_,none=>none
def SV.clean:SV→Option PV
 | .pv x=>some x
 | .nils=>some (.slice [])
 | .agg cs=>(cleanL cs).map .agg
 | .fn f []=>some (.fn f)
 |_=>none
where
 cleanL:List SV→Option (List PV)
  |[]=>some []
  |c::cs=>match c,c.clean with
   | .agg _,_=>none
   |_,some x=>match cleanL cs with
    |some xs=>some (x::xs)
    |none=>none
   |_,none=>none
def Lc:List SV→Option (List PV)
 |[]=>some []
 |v::vs=>match v.clean,Lc vs with
  |some x,some xs=>some (x::xs)
  |_,_=>none
def SV.tidy(v:SV):SV:=match v.clean with
 |some x=> .pv x
 |none=>v
def Z9(op:BinOp)(k:IntKind)(a b:Int):Option PV:=
 match op with
 | .add=>some (.int k (k.wrap (a+b)))
 | .sub=>some (.int k (k.wrap (a-b)))
 | .mul=>some (.int k (k.wrap (a*b)))
 | .quo=>if b=0 then none else some (.int k (k.wrap (a.tdiv b)))
 | .rem=>if b=0 then none else some (.int k (a.tmod b))
 | .and=>some (.int k (k.wrap (BitVec.ofInt k.bits a &&& BitVec.ofInt k.bits b).toNat))
 | .or=>some (.int k (k.wrap (BitVec.ofInt k.bits a ||| BitVec.ofInt k.bits b).toNat))
 | .xor=>some (.int k (k.wrap (BitVec.ofInt k.bits a ^^^ BitVec.ofInt k.bits b).toNat))
 | .andNot=>some (.int k (k.wrap (BitVec.ofInt k.bits a &&& ~~~ BitVec.ofInt k.bits b).toNat))
 | .eql=>some (.bool (a==b))
 | .neq=>some (.bool (a !=b))
 | .lss=>some (.bool (decide (a<b)))
 | .leq=>some (.bool (decide (a≤b)))
 | .gtr=>some (.bool (decide (a>b)))
 | .geq=>some (.bool (decide (a≥b)))
 | .shl| .shr=>none
def Nk(op:BinOp)(k:IntKind)(a b:Int):Option PV:=
 if b<0 then none else
 match op with
 | .shl=>some (.int k (k.wrap (a*2^(min b.toNat k.bits))))
 | .shr=>some (.int k (a.fdiv (2^(min b.toNat k.bits))))
 |_=>none
def Aih(op:BinOp)(a b:List UInt8):Option PV:=
 match op with
 | .add=>if a.length+b.length≤9223372036854775807 then some (.str (a++b)) else none
 | .eql=>some (.bool (a==b))
 | .neq=>some (.bool (!(a==b)))
 | .lss=>some (.bool (Op.bytesLess a b))
 | .leq=>some (.bool (Op.bytesLess a b||a==b))
 | .gtr=>some (.bool (!(Op.bytesLess a b||a==b)))
 | .geq=>some (.bool (!Op.bytesLess a b))
 |_=>none
inductive EK where
 |i|b|s
 deriving DecidableEq
def Fo:List EK→List PV→List PV→Option Bool
 |[],[],[]=>some true
 | .i::ks,.int k a::xs,.int k' b::ys=>if k=k' then(Fo ks xs ys).map ((a==b)&& ·) else none
 | .b::ks,.bool a::xs,.bool b::ys=>(Fo ks xs ys).map ((a==b)&& ·)
 | .s::ks,.str a::xs,.str b::ys=>(Fo ks xs ys).map ((a==b)&& ·)
 |_,_,_=>none
def Rp(op:BinOp)(x y:PV):Option PV:=
 match x,y with
 | .int k a,.int k' b=>match op with
  | .shl=>Nk .shl k a b
  | .shr=>Nk .shr k a b
  |op=>if k=k' then Z9 op k a b else none
 | .str a,.str b=>Aih op a b
 | .bool a,.bool b=>match op with
  | .eql=>some (.bool (a==b))
  | .neq=>some (.bool (!(a==b)))
  |_=>none
 |_,_=>none
def Al3(op:UnOp)(x:PV):Option PV:=
 match op,x with
 | .not,.bool b=>some (.bool (!b))
 | .neg,.int k n=>some (.int k (k.wrap (0-n)))
 |_,_=>none
inductive AOp where
 |mov (x:Opd)
 |pick (c a b:Opd)
 |alloc (zero:List SV)
 |box (x:Opd)
 |load (agg:Bool) (n:Nat) (x:Opd)
 |store (n:Nat) (a v:Opd)
 |bin (bl:Bool) (op:BinOp) (x y:Opd)
 |eqs (neg:Bool) (ks:List EK) (x y:Opd)
 |un (op:UnOp) (x:Opd)
 |conv (k:IntKind) (x:Opd)
 |fld (off:Nat) (x:Opd)
 |part (agg:Bool) (off n:Nat) (x:Opd)
 |idx (sz:Nat) (x i:Opd)
 |sidx (x i:Opd)
 |ext (i:Nat) (x:Opd)
 |build (zero:List SV) (parts:List (Nat×Nat×Opd))
 |lit (keep:Bool) (sz:Nat) (xs:List Opd)
 |mk (sz bytes:Nat) (zero:PV) (n c:Opd)
 |slc (s:Bool) (sz:Nat) (x:Opd) (lo hi:Option Opd)
 |len (s:Bool) (x:Opd)
 |mm (max:Bool) (x:Opd) (xs:List Opd)
 |mkfn (f:FuncId) (caps:List Opd)
 |call (keep m:Nat) (f:Opd) (args:List Opd) (fz ln:List Key)
 |append (kd sz bytes:Nat) (x y:Opd)
 |ins (f:FuncId) (sz bytes x:Nat) (i y:Opd)
 |mkmap (kk:KK)
 |mlook (kk:KK) (ok:Bool) (zero:PV) (x k:Opd)
 |mset (kk:KK) (x k v:Opd)
 |mlen (x:Opd)
 |mkI (t:TypeId) (x:Opd)
 |nchk (x:Opd)
 |isNil (neg:Bool) (x:Opd)
 |stuck
structure Res where
 v:SV
 rows:List (Option Ba)
 ext:List (Option Ba)
abbrev Cv:=FuncId→List SV→List Ba→Option Res
structure Eff where
 v:SV
 ins:List (Key×Ba)
def Js(v:SV):Option (IntKind×Int):=match v with
 | .pv (.int k n)=>some (k,n)
 |_=>none
def G7(σ:St)(dflt:Nat)(top:Nat):Option Opd→Option Nat
 |none=>some dflt
 |some o=>match Js (σ.ev o) with
  |some (_,n)=>if 0≤n∧n≤top then some n.toNat else none
  |none=>none
def Axr(mx:Bool):PV→PV→Option PV
 | .int k a,.int k' b=>if k=k' then some (.int k (bif mx then(if b>a then b else a) else(if b<a then b else a))) else none
 |_,_=>none
def mmL(mx:Bool):PV→List SV→Option PV
 |x,[]=>some x
 |x,.pv y::ys=>match Axr mx x y with
  |some z=>mmL mx z ys
  |none=>none
 |_,_=>none
def SV.solid:SV→Bool
 | .tup _=>false
 | .dead=>false
 |_=>true
def Y3:List SV→List (Nat×Nat×SV)→Option (List SV)
 |cs,[]=>some cs
 |cs,(off,n,v)::r=>
  let vc:=v.cells
  if vc.length=n∧off+n≤cs.length then Y3 (cs.take off++vc++cs.drop (off+n)) r else none
def PV.scalar:PV→Bool
 | .int _ _| .bool _| .str _| .fn _| .nilFn| .yld _| .hdl _ _ _| .nilI| .slice []=>true
 | .agg cs=>scalarL cs
 | .iface _ v=>v.scalar
 | .slice (_::_)=>false
where
 scalarL:List PV→Bool
  |[]=>true
  |c::cs=>c.scalar&&scalarL cs
def SV.scalar:SV→Bool
 | .pv x=>x.scalar
 | .nils=>true
 | .tup cs=>scalarT cs
 |_=>false
where
 scalarT:List SV→Bool
  |[]=>true
  |c::cs=>c.scalar&&scalarT cs
def SV.nm(f:Key→Option Key):SV→SV
 | .pv x=> .pv x
 | .nils=> .nils
 | .ptr k off=>match f k with|some k'=> .ptr k' off|none=> .dead
 | .own k=>match f k with|some k'=> .own k'|none=> .dead
 | .mp k=>match f k with|some k'=> .mp k'|none=> .dead
 | .iown k i off=>match f k with|some k'=> .iown k' i off|none=> .dead
 | .ipv x o=> .ipv x o
 | .agg cs=> .agg (nmL f cs)
 | .tup cs=> .tup (nmL f cs)
 | .fn g cs=> .fn g (nmL f cs)
 | .dead=> .dead
where
 nmL (f:Key→Option Key):List SV→List SV
  |[]=>[]
  |c::cs=>SV.nm f c::nmL f cs
def Ba.nm(f:Key→Option Key):Ba→Ba
 | .box cs=> .box (cs.map (SV.nm f))
 | .row sz xs=> .row sz xs
 | .map kk es=> .map kk es
def SV.bare:SV→Bool
 | .ptr _ _| .own _| .mp _| .iown _ _ _=>false
 | .agg cs=>bareL cs
 | .tup cs=>bareL cs
 | .fn _ cs=>bareL cs
 |_=>true
where
 bareL:List SV→Bool
  |[]=>true
  |c::cs=>c.bare&&bareL cs
def toX(ks:List Key)(k:Key):Option Key:=(ks.idxOf? k).map .ext
def Hi(ks:List Key)(d keep:Nat):Key→Option Key
 | .ext j=>ks[j]?
 | .res j=>if j<keep then some (.loc d j) else none
 | .loc _ _=>none
def toR(out:List Key):Key→Option Key
 | .ext i=>some (.ext i)
 |k=>(out.idxOf? k).map .res
def Gg(σ:St)(ks:List Key):List Key→Option (List Ba)
 |[]=>some []
 |k::r=>match σ.look k,Gg σ ks r with
  |some o,some os=>some (o.nm (toX ks)::os)
  |_,_=>none
def Ko(f:Key→Option Key)(d:Nat):Nat→List (Option Ba)→List (Key×Ba)
 |_,[]=>[]
 |i,none::r=>Ko f d (i+1) r
 |i,some o::r=>(.loc d i,o.nm f)::Ko f d (i+1) r
def SV.flatR(rows:List (Option Ba)):SV→Option SV
 | .nils=>some (.pv (.slice []))
 | .own (.res i)=>match rows[i]? with
  |some (some (.row _ xs))=>some (.pv (.slice xs))
  |_=>none
 | .pv x=>some (.pv x)
 | .tup cs=>(flatL rows cs).map .tup
 | .agg cs=>match flatL rows cs with
  |some cs'=>SV.ofCells true cs'
  |none=>none
 |_=>none
where
 flatL (rows:List (Option Ba)):List SV→Option (List SV)
  |[]=>some []
  |c::cs=>match SV.flatR rows c,flatL rows cs with
   |some c',some cs'=>some (c'::cs')
   |_,_=>none
def St.elems(σ:St):SV→Option (List PV)
 | .nils=>some []
 | .pv (.slice xs)=>some xs
 | .own k=>match σ.look k with
  |some (.row _ xs)=>some xs
  |_=>none
 |_=>none
def St.target(σ:St)(f:Opd):Option (FuncId×List SV):=
 match σ.ev f with
 | .pv (.fn g)=>some (g,[])
 | .fn g caps=>some (g,caps)
 |_=>none
def AOp.keys(d:Nat):AOp→List Key
 | .alloc _| .box _| .mk .. | .ins .. | .mkmap _=>[.loc d 0]
 | .lit keep _ _=>if keep then [.loc d 0] else []
 | .call keep .. =>(List.range keep).map (.loc d)
 |_=>[]
def It(sz:Nat)(xs:List PV):Bool:=xs.all fun x=>x.cells.length==sz
def took(ks:List Key)(d keep:Nat)(r:Res):Option Eff:=
 bif keep==0 then(r.v.flatR r.rows).map fun v=>⟨v,[]⟩
 else bif r.rows.length≤keep then some ⟨r.v.nm (Hi ks d keep),Ko (Hi ks d keep) d 0 r.rows⟩ else none
def St.seen(σ:St)(v:SV):SV:=match σ.pure v with
 |some x=> .pv x
 |none=>v.tidy
def H5:PV→PV→Bool
 | .int _ a,.int _ b=>a==b
 | .bool a,.bool b=>a==b
 | .str a,.str b=>a==b
 |_,_=>false
def Km(es:List (PV×PV))(k:PV):Option PV:=(es.find? fun e=>H5 k e.1).map (·.2)
def Sk:List (PV×PV)→PV→PV→List (PV×PV)
 |[],k,v=>[(k,v)]
 |e::es,k,v=>if H5 k e.1 then(e.1,v)::es else e::Sk es k v
def B4(cl:Cv)(σ:St)(d:Nat):AOp→Option Eff
 | .mov x=>some ⟨σ.ev x,[]⟩
 | .pick c a b=>match σ.ev c with
  | .pv (.bool t)=>some ⟨bif t then σ.ev a else σ.ev b,[]⟩
  |_=>none
 | .alloc zero=>some ⟨.ptr (.loc d 0) 0,[(.loc d 0,.box zero)]⟩
 | .box x=>match σ.ev x with
  | .tup _=>none
  | .dead=>none
  |v=>some ⟨.ptr (.loc d 0) 0,[(.loc d 0,.box v.cells)]⟩
 | .load agg n x=>match σ.ev x with
  | .ptr k off=>match σ.look k with
   |some (.box cs)=>if off+n≤cs.length then(SV.ofCells agg ((cs.drop off).take n)).map fun v=>⟨v,[]⟩ else none
   |_=>none
  | .ipv e off=>if off+n≤e.cells.length then(SV.ofCells agg (((e.cells.drop off).take n).map .pv)).map fun v=>⟨v,[]⟩ else none
  | .iown k i off=>match σ.look k with
   |some (.row _ xs)=>match xs[i]? with
    |some e=>if off+n≤e.cells.length then(SV.ofCells agg (((e.cells.drop off).take n).map .pv)).map fun v=>⟨v,[]⟩ else none
    |none=>none
   |_=>none
  |_=>none
 | .bin bl op x y=>match σ.ev x,σ.ev y with
  | .pv a,.pv b=>bif a.isB==bl then(Rp op a b).map fun v=>⟨.pv v,[]⟩ else none
  |_,_=>none
 | .eqs neg ks x y=>match σ.ev x,σ.ev y with
  | .pv (.agg as),.pv (.agg bs)=>(Fo ks as bs).map fun b=>⟨.pv (.bool (bif neg then !b else b)),[]⟩
  |_,_=>none
 | .un op x=>match σ.ev x with
  | .pv a=>(Al3 op a).map fun v=>⟨.pv v,[]⟩
  |_=>none
 | .nchk x=>match σ.ev x with
  | .ptr k off=>some ⟨.ptr k off,[]⟩
  |_=>none
 | .mkI t x=>match σ.ev x with
  | .pv v=>some ⟨.pv (.iface t v),[]⟩
  |_=>none
 | .isNil neg x=>match σ.ev x with
  | .pv .nilI=>some ⟨.pv (.bool (!neg)),[]⟩
  | .pv (.iface _ _)=>some ⟨.pv (.bool neg),[]⟩
  |_=>none
 | .conv k x=>match σ.ev x with
  | .pv (.int _ n)=>some ⟨.pv (.int k (k.wrap n)),[]⟩
  |_=>none
 | .fld off x=>match σ.ev x with
  | .ptr k o=>some ⟨.ptr k (o+off),[]⟩
  | .ipv e o=>some ⟨.ipv e (o+off),[]⟩
  | .iown k i o=>some ⟨.iown k i (o+off),[]⟩
  |_=>none
 | .part agg off n x=>match σ.ev x with
  | .pv (.agg cs)=>if off+n≤cs.length then(SV.ofCells agg (((cs.drop off).take n).map .pv)).map fun v=>⟨v,[]⟩ else none
  | .agg cs=>if off+n≤cs.length then(SV.ofCells agg ((cs.drop off).take n)).map fun v=>⟨v,[]⟩ else none
  |_=>none
 | .idx sz x i=>match σ.ev x,Js (σ.ev i) with
  | .pv (.slice xs),some (_,n)=>
   if 0≤n then match xs[n.toNat]? with
    |some e=>if e.cells.length=sz then some ⟨.ipv e 0,[]⟩ else none
    |none=>none
   else none
  | .own k,some (_,n)=>match σ.look k with
   |some (.row sz' xs)=>if 0≤n∧n.toNat<xs.length∧sz'=sz then some ⟨.iown k n.toNat 0,[]⟩ else none
   |_=>none
  |_,_=>none
 | .sidx x i=>match σ.ev x,Js (σ.ev i) with
  | .pv (.str s),some (_,n)=>
   if 0≤n then match s[n.toNat]? with
    |some b=>some ⟨.pv (.int .u8 b.toNat),[]⟩
    |none=>none
   else none
  |_,_=>none
 | .ext i x=>match σ.ev x with
  | .tup vs=>match vs[i]? with
   |some v=>some ⟨v,[]⟩
   |none=>none
  |_=>none
 | .build zero parts=>bif parts.all (fun p=>(σ.ev p.2.2).solid) then
   (match Y3 zero (parts.map fun p=>(p.1,p.2.1,σ.ev p.2.2)) with
    |some cs=>(SV.ofCells true cs).map fun v=>⟨v,[]⟩
    |none=>none) else none
 | .lit _ _ []=>some ⟨.nils,[]⟩
 | .lit keep sz (x::xs)=>match Lc ((x::xs).map σ.ev) with
  |some ps=>if It sz ps then(if keep then some ⟨.own (.loc d 0),[(.loc d 0,.row sz ps)]⟩ else some ⟨.pv (.slice ps),[]⟩) else none
  |none=>none
 | .mk sz bytes zero n c=>match Js (σ.ev n),Js (σ.ev c) with
  |some (.i64,n),some (.i64,c)=>
   if 0≤n∧n≤c∧c*bytes≤140737488355328∧c≤140737488355328 then some ⟨.own (.loc d 0),[(.loc d 0,.row sz (List.replicate n.toNat zero))]⟩ else none
  |_,_=>none
 | .slc true _ x lo hi=>match σ.ev x with
  | .pv (.str s)=>match G7 σ s.length s.length hi with
   |some h=>match G7 σ 0 h lo with
    |some l=>some ⟨.pv (.str ((s.take h).drop l)),[]⟩
    |none=>none
   |none=>none
  |_=>none
 | .slc false sz x lo hi=>match (σ.ev x).tidy with
  | .pv (.slice xs)=>match G7 σ xs.length xs.length hi with
   |some h=>match G7 σ 0 h lo with
    |some l=>if It sz xs=true then some ⟨.pv (.slice ((xs.take h).drop l)),[]⟩ else none
    |none=>none
   |none=>none
  |_=>none
 | .len true x=>match σ.ev x with
  | .pv (.str s)=>some ⟨.pv (.int .i64 s.length),[]⟩
  |_=>none
 | .len false x=>match σ.elems (σ.ev x) with
  |some xs=>some ⟨.pv (.int .i64 xs.length),[]⟩
  |none=>none
 | .mm mx x xs=>match σ.ev x with
  | .pv a=>(mmL mx a (xs.map σ.ev)).map fun v=>⟨.pv v,[]⟩
  |_=>none
 | .mkfn f caps=>match caps.map σ.ev with
  |[]=>some ⟨.pv (.fn f),[]⟩
  |vs=>some ⟨.fn f vs,[]⟩
 | .call keep m f args fz ln=>
  bif 2≤m|| !fz.isEmpty|| !ln.isEmpty then none else
  match σ.target f with
  |some (g,caps)=>
   let vs:=(args.map σ.ev++caps).map fun v=>bif m==0 then v.tidy else σ.seen v
   bif vs.all SV.bare then
    (match cl g vs [] with
     |some r=>bif m==0||(r.v.scalar&&r.rows.isEmpty) then took [] d keep r else none
     |none=>none) else none
  |none=>none
 | .store .. =>none
 | .append .. =>none
 | .ins _ sz bytes x i y=>match σ.get x,Js (σ.ev i),σ.ev y with
  | .own k,some (.i64,n),.own k2=>match σ.look k,σ.look k2 with
   |some (.row s1 xs),some (.row s2 [e])=>
    bif s1==sz&&(s2==sz&&(decide (k≠k2)&&(decide (0≤n)&&(decide (n≤xs.length)&&decide ((xs.length+1)*bytes≤140737488355328))))) then some ⟨.own (.loc d 0),[(.loc d 0,.row sz (xs.take n.toNat++e::xs.drop n.toNat))]⟩ else none
   |_,_=>none
  |_,_,_=>none
 | .mkmap kk=>some ⟨.mp (.loc d 0),[(.loc d 0,.map kk [])]⟩
 | .mlook kk ok zero x k=>match σ.ev x,σ.ev k with
  | .mp key,.pv kv=>match σ.look key with
   |some (.map kk' es)=>bif decide (kk'=kk)&&kv.isKK kk then
     some ⟨bif ok then .tup [.pv ((Km es kv).getD zero),.pv (.bool (Km es kv).isSome)] else .pv ((Km es kv).getD zero),[]⟩ else none
   |_=>none
  |_,_=>none
 | .mlen x=>match σ.ev x with
  | .mp key=>match σ.look key with
   |some (.map _ es)=>some ⟨.pv (.int .i64 es.length),[]⟩
   |_=>none
  |_=>none
 | .mset .. =>none
 | .stuck=>none
def Gf{α:Type}(cs:List α)(off:Nat)(vs:List α):List α:=cs.take off++vs++cs.drop (off+vs.length)
def St.over(σ:St)(k:Key)(o:Ba):St:={σ with hp:=σ.hp.map fun p=>if p.1=k then(k,o) else p}
def PV.setCells(e:PV)(off:Nat)(v:PV):Option PV:=
 match e with
 | .agg cs=>some (.agg (Gf cs off v.cells))
 |_=>bif v.one then some v else none
def SV.freeze(k:Key)(x:PV):SV→SV
 | .own k'=>if k'=k then .pv x else .own k'
 | .iown k' i o=>if k'=k then .dead else .iown k' i o
 | .mp k'=>if k'=k then .dead else .mp k'
 | .ptr k' off=>if k'=k then .ipv x off else .ptr k' off
 | .agg cs=> .agg (freezeL k x cs)
 | .tup cs=> .tup (freezeL k x cs)
 | .fn f cs=> .fn f (freezeL k x cs)
 |v=>v
where
 freezeL (k:Key) (x:PV):List SV→List SV
  |[]=>[]
  |c::cs=>SV.freeze k x c::freezeL k x cs
def Ba.freeze(k:Key)(x:PV):Ba→Ba
 | .box cs=> .box (cs.map (SV.freeze k x))
 |o=>o
def Ba.frozen:Ba→Option PV
 | .row _ xs=>some (.slice xs)
 | .box cs=>(SV.ofCells.pures cs).map .agg
 | .map _ _=>none
def St.freeze(σ:St)(k:Key):St:=
 match (σ.look k).bind Ba.frozen with
 |some x=>{sl:=σ.sl.map fun p=>(p.1,p.2.freeze k x),hp:=(σ.hp.filter fun p=>decide (p.1≠k)).map fun p=>(p.1,p.2.freeze k x)}
 |none=>σ
def St.freezeAll(σ:St):List Key→St
 |[]=>σ
 |k::ks=>(σ.freeze k).freezeAll ks
def Ea:List Key→List (Option Ba)→List Key
 |k::ks,none::r=>k::Ea ks r
 |_::ks,some _::r=>Ea ks r
 |_,_=>[]
def Eg(f:Key→Option Key):St→List Key→List (Option Ba)→Option St
 |σ,[],[]=>some σ
 |σ,_::ks,none::r=>Eg f σ ks r
 |σ,k::ks,some o::r=>Eg f (σ.over k (o.nm f)) ks r
 |_,_,_=>none
def Zt(m:Nat)(v:SV):SV:=bif m==2 then v.tidy else v
def Ir(cl:Cv)(σ:St)(d:Option Nat):AOp→Option St
 | .store n a x=>match σ.ev a with
  | .ptr k off=>match σ.look k with
   |some (.box cs)=>match σ.ev x with
    | .tup _=>none
    | .dead=>none
    |v=>if v.cells.length=n∧off+n≤cs.length then some ((σ.over k (.box (Gf cs off v.cells))).put d .dead) else none
   |_=>none
  | .iown k i off=>match σ.look k,σ.ev x with
   |some (.row sz xs),.pv v=>match xs[i]? with
    |some e=>if v.cells.length=n∧off+n≤e.cells.length then
      (match e.setCells off v with
       |some e'=>some ((σ.over k (.row sz (xs.set i e'))).put d .dead)
       |none=>none) else none
    |none=>none
   |_,_=>none
  |_=>none
 | .append kd sz bytes x y=>match d with
  |none=>none
  |some d=>match σ.elems (σ.ev y) with
   |none=>none
   |some ys=>match σ.ev x with
    | .nils=>if It sz ys∧1≤bytes∧ys.length*bytes≤140737488355328 then
       some (((σ.kill (.loc kd 0)).insAll [(.loc kd 0,.row sz ys)]).put (some d) (.own (.loc kd 0))) else none
    | .own k=>match σ.look k with
     |some (.row sz' xs)=>if It sz ys∧sz'=sz∧1≤bytes∧(xs.length+ys.length)*bytes≤140737488355328 then
       some ((((σ.kill k).kill (.loc kd 0)).insAll [(.loc kd 0,.row sz (xs++ys))]).put (some d) (.own (.loc kd 0))) else none
     |_=>none
    |_=>none
 | .mset kk x k v=>match σ.ev x,σ.ev k,σ.ev v with
  | .mp key,.pv kv,.pv vv=>match σ.look key with
   |some (.map kk' es)=>bif decide (kk'=kk)&&kv.isKK kk then some ((σ.over key (.map kk (Sk es kv vv))).put d .dead) else none
   |_=>none
  |_,_,_=>none
 | .call keep m f args fz ln=>match d with
  |none=>none
  |some d=>
   let σ:=(σ.freezeAll fz).killAll ((List.range keep).map (.loc d))
   match σ.target f with
   |none=>none
   |some (g,caps)=>
   match Gg σ ln ln with
    |none=>none
    |some ext=>match cl g ((args.map σ.ev++caps).map fun v=>(Zt m v).nm (toX ln)) ext with
     |none=>none
     |some r=>match took ln d keep r with
      |none=>none
      |some e=>match Eg (Hi ln d keep) (σ.killAll (Ea ln r.ext)) ln r.ext with
       |none=>none
       |some σ=>some ((σ.insAll e.ins).put (some d) e.v)
 |_=>none
structure GOp where
 d:Option Nat
 g:Option (Nat×Bool)
 op:AOp
def AOp.isB:AOp→Bool
 | .store .. | .append .. | .mset .. =>true
 | .call _ m .. =>decide (2≤m)
 |_=>false
def AOp.skipV(op:AOp):SV:=bif op.isB then .dead else .tup []
def St.wants(σ:St):Option (Nat×Bool)→Option Bool
 |none=>some true
 |some (t,b)=>match σ.get t with
  | .pv (.bool c)=>some (c==b)
  | .tup []=>some false
  |_=>none
def Pc(cl:Cv)(σ:St)(o:GOp):Option St:=
 match B4 cl σ (o.d.getD 0) o.op with
 |some e=>some ((σ.insAll e.ins).put o.d e.v)
 |none=>none
def step(cl:Cv)(draw:Bool)(σ:St)(o:GOp):Option St:=
 match σ.wants o.g with
 |none=>none
 |some false=>some (σ.put o.d o.op.skipV)
 |some true=>
  bif o.op.isB then Ir cl σ o.d o.op
  else bif draw then Pc cl σ o else Pc cl (σ.killAll (o.op.keys (o.d.getD 0))) o
def Ew(cl:Cv)(draw:Bool):List GOp→St→Option St
 |[],σ=>some σ
 |o::os,σ=>match step cl draw σ o with
  |some σ'=>Ew cl draw os σ'
  |none=>none
inductive Up where
 |slot (t:Nat) (k:Key) (sz:Nat)
 |cell (kb:Key) (i:Nat) (k:Key) (sz:Nat)
inductive AC where
 |skip
 |ops (l:List GOp)
 |draw (ks:List Key) (l:List GOp)
 |drawZ (ks:List Key) (l l2:List GOp)
 |seq (a b:AC)
 |cond (c:Opd) (a b:AC)
 |block (id:Nat) (c:AC)
 |loop (keep:List Nat) (ks:List Key) (c:AC)
 |exit (id:Nat)
 |ret
 |keep (fz:List Key) (sl:List (Nat×Bool)) (bx:List (Key×Bool)) (dead:List Key) (up:List Up) (c:AC)
 |pass (id:Nat) (c:AC)
 |stuck
def AC.exits(id:Nat):AC→Bool
 | .skip| .ops _| .draw _ _| .drawZ _ _ _| .ret=>false
 | .seq a b=>a.exits id||b.exits id
 | .cond _ a b=>a.exits id||b.exits id
 | .block _ a=>a.exits id
 | .loop _ _ a=>a.exits id
 | .exit j=>j==id
 | .keep _ _ _ _ _ a=>a.exits id
 | .pass _ a=>a.exits id
 | .stuck=>false
inductive Ex where
 |norm
 |exit (id:Nat)
 |ret
 deriving DecidableEq
def St.forget(σ:St)(keep:List Nat):St:={sl:=go σ.sl keep,hp:=σ.hp}
where
 go (l:List (Nat×SV)):List Nat→List (Nat×SV)
  |[]=>[]
  |t::ts=>(t,Kh l t)::go l ts
def Ba.tidy:Ba→Ba
 | .box cs=> .box (cs.map SV.tidy)
 |o=>o
def St.laid(σ:St)(sl:List (Nat×Bool))(bx:List (Key×Bool)):St:=
 {sl:=sl.map fun p=>(p.1,bif p.2 then(σ.get p.1).tidy else σ.get p.1),
  hp:=(bx.filterMap fun p=>(σ.look p.1).map fun o=>(p.1,bif p.2 then o.tidy else o))++σ.hp.filter fun q=> !(bx.any fun p=>decide (p.1=q.1))}
def St.up1(σ:St):Up→St
 | .slot t k sz=>match σ.get t,σ.look k with
  | .nils,none=>{sl:=(t,.own k)::σ.sl,hp:=(k,.row sz [])::σ.hp}
  |_,_=>σ
 | .cell kb i k sz=>match σ.look kb,σ.look k with
  |some (.box cs),none=>match cs[i]? with
   |some .nils=>{sl:=σ.sl,hp:=(k,.row sz [])::(σ.over kb (.box (cs.set i (.own k)))).hp}
   |_=>σ
  |_,_=>σ
def St.upAll(σ:St):List Up→St
 |[]=>σ
 |u::us=>(σ.up1 u).upAll us
def St.tidy(σ:St)(fz:List Key)(sl:List (Nat×Bool))(bx:List (Key×Bool))(dead:List Key)(up:List Up):St:=(((σ.freezeAll fz).killAll dead).upAll up).laid sl bx
inductive RV where
 |tmp (t:Nat)
 |cell (t:Nat) (agg:Bool) (n:Nat)
structure Fd where
 np:Nat
 res:List RV
 out:List Key
 body:AC
def Aan(cl:Cv)(σ:St):RV→Option SV
 | .tmp t=>some (σ.get t)
 | .cell t agg n=>(B4 cl σ 0 (.load agg n (.tmp t))).map (·.v)
def Tr(cl:Cv)(σ:St):List RV→Option (List SV)
 |[]=>some []
 |r::rs=>match Aan cl σ r,Tr cl σ rs with
  |some v,some vs=>some (v::vs)
  |_,_=>none
def Ai6:List SV→SV
 |[v]=>v
 |vs=> .tup vs
def Qg(cl:Cv)(fd:Fd)(ne:Nat)(σ:St):Option Res:=
 match Tr cl σ fd.res with
 |none=>none
 |some vs=>some ⟨(Ai6 vs).nm (toR fd.out),fd.out.map fun k=>(σ.look k).map (Ba.nm (toR fd.out)),(List.range ne).map fun i=>(σ.look (.ext i)).map (Ba.nm (toR fd.out))⟩
def Rf:Nat→List SV→List (Nat×SV)
 |_,[]=>[]
 |i,v::vs=>(i,v)::Rf (i+1) vs
def I9:Nat→List Ba→List (Key×Ba)
 |_,[]=>[]
 |i,o::r=>(.ext i,o)::I9 (i+1) r
def enter(args:List SV)(ext:List Ba):St:={sl:=Rf 0 args,hp:=I9 0 ext}
end Go.Av
end
section
set_option linter.unusedVariables false
namespace Go.Av
theorem Ag{α β:Type}{a:Option α}{f:α→Option β}{o:β}(h:a.bind f=some o): ∃x,a=some x∧f x=some o:=by
 cases a with
 |none=>cases h
 |some x=>exact⟨x,rfl,h⟩
def Yc(k:IntKind)(n:Int):PV:= .int k n
def Afe(b:Bool):PV:= .bool b
def Axj(s:List UInt8):PV:= .str s
def Ww(t:Nat)(x:Option Int):PV:=match x with
 |none=> .nilI
 |some e=> .iface t (.agg [.int .i64 e])
theorem E3(k:IntKind)(l l':List Int):l.map (Yc k)=l'.map (Yc k)↔l=l':=List.map_inj_right (by intro x y h;simpa [Yc] using h)
theorem D9(l l':List Bool):l.map Afe=l'.map Afe↔l=l':=List.map_inj_right (by intro x y h;simpa [Afe] using h)
theorem E4(l l':List (List UInt8)):l.map Axj=l'.map Axj↔l=l':=List.map_inj_right (by intro x y h;simpa [Axj] using h)
def gdO{α:Type}(g:Bool)(x:Option α)(d:α):Option α:=match g with
 |true=>x
 |false=>some d
theorem Dj{α:Type}{g:Bool}{x:Option α}{d e:α}(hg:g=true)(h:gdO g x d=some e):x=some e:=by subst hg;exact h
def rdO{α:Type}(l:List α)(i:Int):Option α:=if 0≤i then l[i.toNat]? else none
def slices_Clone{α:Type}(n:Nat)(l:List α):Option (List α):=if l.length*n≤140737488355328 then some l else none
theorem Gu{α:Type}{n:Nat}{l r:List α}(h:slices_Clone n l=some r):l.length*n≤140737488355328∧l=r:=by
 unfold slices_Clone at h
 split at h
 ·rename_i hb;exact⟨hb,Option.some.inj h⟩
 ·cases h
def Aiv{α:Type}(n:Nat)(l:List α)(i:Int)(e:α):Option (List α):=if 0≤i∧i≤l.length∧(l.length+1)*n≤140737488355328 then some (l.take i.toNat++e::l.drop i.toNat) else none
def mset{κ ν:Type} [BEq κ]:List (κ×ν)→κ→ν→List (κ×ν)
 |[],k,v=>[(k,v)]
 |e::es,k,v=>if k==e.1 then(e.1,v)::es else e::mset es k v
def byO(s:List UInt8)(i:Int):Option Int:=if 0≤i then(s[i.toNat]?).map (fun b=>(b.toNat:Int)) else none
def slO{α:Type}(l:List α)(lo hi:Int):Option (List α):=if 0≤lo∧lo≤hi∧hi≤l.length then some ((l.take hi.toNat).drop lo.toNat) else none
def Bdy(k:IntKind)(a b:Int):Option Int:=if b=0 then none else some (k.wrap (a.tdiv b))
def Bdz(k:IntKind)(a b:Int):Option Int:=if b=0 then none else some (a.tmod b)
def Bd3(k:IntKind)(a b:Int):Option Int:=if b<0 then none else some (k.wrap (a*2^(min b.toNat k.bits)))
def Bd4(k:IntKind)(a b:Int):Option Int:=if b<0 then none else some (a.fdiv (2^(min b.toNat k.bits)))
def apO{α:Type}(n:Nat)(xs ys:List α):Option (List α):=if (xs.length+ys.length)*n≤140737488355328 then some (xs++ys) else none
def Nx{S O:Type}(f:S→Option (S⊕O)):Nat→S→Option O
 |0,_=>none
 |n+1,s=>match f s with
  |none=>none
  |some (.inl s')=>Nx f n s'
  |some (.inr o)=>some o
theorem Ad5{S O:Type}{f:S→Option (S⊕O)}: ∀{n:Nat} {s:S} {o:O},Nx f n s=some o→Nx f (n+1) s=some o:=by
 intro n
 induction n with
 |zero=>intro s o h;cases h
 |succ n ih=>
  intro s o h
  rw[Nx] at h⊢
  cases hf:f s with
  |none=>rw[hf] at h;exact h
  |some x=>
   rw[hf] at h
   cases x with
   |inl s'=>exact ih h
   |inr o'=>exact h
theorem Ab2{S O:Type}{f:S→Option (S⊕O)}{n m:Nat}(hle:n≤m){s:S}{o:O}(h:Nx f n s=some o):Nx f m s=some o:=by
 induction hle with
 |refl=>exact h
 |step _ ih=>exact Ad5 ih
noncomputable def loopO{S O:Type}(f:S→Option (S⊕O))(s:S):Option O:=
 open Classical in if h: ∃o n,Nx f n s=some o then some h.choose else none
theorem Ra{S O:Type}{f:S→Option (S⊕O)}{s:S}{o:O}:loopO f s=some o↔ ∃n,Nx f n s=some o:=by
 unfold loopO
 constructor
 ·intro h
  split at h
  ·rename_i hx
   simp only[Option.some.injEq] at h
   subst h
   exact hx.choose_spec
  ·cases h
 ·intro h
  have hx: ∃o n,Nx f n s=some o:=⟨o,h⟩
  rw[dif_pos hx]
  obtain⟨n,hn⟩:=h
  obtain⟨m,hm⟩:=hx.choose_spec
  have h1:=Ab2 (Nat.le_max_left n m) hn
  have h2:=Ab2 (Nat.le_max_right n m) hm
  rw[h1] at h2
  exact h2.symm
theorem Ab5{S O:Type}(f:S→Option (S⊕O))(s:S):loopO f s=match f s with
  |none=>none
  |some (.inl s')=>loopO f s'
  |some (.inr o)=>some o:=by
 have key: ∀o,loopO f s=some o↔(match f s with
  |none=>none
  |some (.inl s')=>loopO f s'
  |some (.inr o)=>some o)=some o:=by
  intro o
  rw[Ra]
  constructor
  ·rintro⟨n,hn⟩
   cases n with
   |zero=>cases hn
   |succ n=>
    rw[Nx] at hn
    cases hf:f s with
    |none=>rw[hf] at hn;exact hn
    |some x=>
     rw[hf] at hn
     cases x with
     |inl s'=>exact Ra.2 ⟨n,hn⟩
     |inr o'=>exact hn
  ·intro h
   cases hf:f s with
   |none=>rw[hf] at h;cases h
   |some x=>
    rw[hf] at h
    cases x with
    |inl s'=>
     obtain⟨n,hn⟩:=Ra.1 h
     exact⟨n+1,by rw[Nx,hf];exact hn⟩
    |inr o'=>exact⟨1,by rw[Nx,hf];exact h⟩
 cases hl:loopO f s with
 |some o=>exact((key o).1 hl).symm
 |none=>
  generalize hr:(match f s with
  |none=>none
  |some (.inl s')=>loopO f s'
  |some (.inr o)=>some o)=r at key⊢
  cases r with
  |none=>rfl
  |some o=>have:=(key o).2 rfl;rw[hl] at this;cases this
theorem Cj{S O:Type}{f:S→Option (S⊕O)}{s s':S}(h:f s=some (.inl s')):loopO f s=loopO f s':=by rw[Ab5,h]
theorem Bz{S O:Type}{f:S→Option (S⊕O)}{s:S}{o:O}(h:f s=some (.inr o)):loopO f s=some o:=by rw[Ab5,h]
end Go.Av
end
