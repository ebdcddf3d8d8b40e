import Derived.Orders
set_option linter.all false
section
namespace Go.Av
inductive Key where
 |loc (d i:Nat)
 |ext (i:Nat)
 |res (i:Nat)
 deriving DecidableEq
inductive PV where
 |int (k:IntKind) (n:Int)
 |bool (b:Bool)
 |str (s:List UInt8)
 |agg (cs:List PV)
 |slice (xs:List PV)
 |fn (f:FuncId)
 |nilFn
 |yld (l:Nat)
 |hdl (t b u:Nat)
 |nilI
 |iface (t:TypeId) (v:PV)
def PV.isB:PV→Bool
 | .bool _=>true
 |_=>false
def PV.cells:PV→List PV
 | .agg cs=>cs
 |x=>[x]
def PV.one:PV→Bool
 | .agg _=>false
 |_=>true
inductive SV where
 |pv (x:PV)
 |nils
 |ptr (k:Key) (off:Nat)
 |own (k:Key)
 |mp (k:Key)
 |iown (k:Key) (i off:Nat)
 |ipv (x:PV) (off:Nat)
 |agg (cs:List SV)
 |tup (cs:List SV)
 |fn (f:FuncId) (caps:List SV)
 |dead
inductive KK where
 |i (k:IntKind)
 |b
 |s
 deriving DecidableEq
def PV.isKK:KK→PV→Bool
 | .i k,.int k' _=>decide (k=k')
 | .b,.bool _=>true
 | .s,.str _=>true
 |_,_=>false
inductive Ah where
 |box (cells:List SV)
 |row (sz:Nat) (xs:List PV)
 |map (kk:KK) (es:List (PV×PV))
structure St where
 sl:List (Nat×SV)
 hp:List (Key×Ah)
def Uf:List (Nat×SV)→Nat→SV
 |[],_=> .dead
 |(i,v)::r,j=>bif i==j then v else Uf r j
def Ay:List (Key×Ah)→Key→Option Ah
 |[],_=>none
 |(i,v)::r,j=>if i=j then some v else Ay r j
def St.get(σ:St)(t:Nat):SV:=Uf σ.sl t
def St.look(σ:St)(k:Key):Option Ah:=Ay σ.hp k
def St.put(σ:St)(d:Option Nat)(v:SV):St:=
 match d with
 |some d=>{σ with sl:=(d,v)::σ.sl}
 |none=>σ
def St.insAll(σ:St)(l:List (Key×Ah)):St:={σ with hp:=l++σ.hp}
def SV.names(k:Key):SV→Bool
 | .pv _=>false
 | .nils=>false
 | .ptr k' _=>decide (k'=k)
 | .own k'=>decide (k'=k)
 | .mp k'=>decide (k'=k)
 | .iown k' _ _=>decide (k'=k)
 | .ipv _ _=>false
 | .agg cs=>namesL k cs
 | .tup cs=>namesL k cs
 | .fn _ cs=>namesL k cs
 | .dead=>false
where
 namesL (k:Key):List SV→Bool
  |[]=>false
  |c::cs=>SV.names k c||namesL k cs
def SV.kill(k:Key)(v:SV):SV:=bif v.names k then .dead else v
def Ah.kill(k:Key):Ah→Ah
 | .box cs=> .box (cs.map (SV.kill k))
 | .row sz xs=> .row sz xs
 | .map kk es=> .map kk es
def St.kill(σ:St)(k:Key):St:=
 {sl:=σ.sl.map fun p=>(p.1,p.2.kill k),hp:=(σ.hp.filter fun p=>decide (p.1≠k)).map fun p=>(p.1,p.2.kill k)}
def St.killAll(σ:St):List Key→St
 |[]=>σ
 |k::ks=>(σ.kill k).killAll ks
inductive Opd where
 |tmp (t:Nat)
 |cst (x:PV)
 |nils
 |junk
def St.ev(σ:St):Opd→SV
 | .tmp t=>σ.get t
 | .cst x=> .pv x
 | .nils=> .nils
 | .junk=> .dead
def SV.ofCells(agg:Bool)(cs:List SV):Option SV:=
 bif agg then
  match pures cs with
  |some xs=>some (.pv (.agg xs))
  |none=>some (.agg cs)
 else match cs with
  |[c]=>some c
  |_=>none
where
 pures:List SV→Option (List PV)
  |[]=>some []
  | .pv x::cs=>(pures cs).map (x:: ·)
  |_::_=>none
def SV.cells:SV→List SV
 | .pv x=>x.cells.map .pv
 | .agg cs=>cs
 |v=>[v]
def St.pure(σ:St):SV→Option PV
 | .pv x=>some x
 | .nils=>some (.slice [])
 | .own k=>match σ.look k with
  |some (.row _ xs)=>some (.slice xs)
  |_=>none
 | .agg cs=>(pureL σ cs).map .agg
 | .fn f []=>some (.fn f)
 |_=>none
where
 pureL (σ:St):List SV→Option (List PV)
  |[]=>some []
  |c::cs=>match c,σ.pure c with
   | .agg _,_=>none
   |_,some x=>match pureL σ cs with
    |some xs=>some (x::xs)
    |none=>none
   |_,none=>none
def SV.clean:SV→Option PV
 | .pv x=>some x
 | .nils=>some (.slice [])
 | .agg cs=>(cleanL cs).map .agg
 | .fn f []=>some (.fn f)
 |_=>none
where
 cleanL:List SV→Option (List PV)
  |[]=>some []
  |c::cs=>match c,c.clean with
   | .agg _,_=>none
   |_,some x=>match cleanL cs with
    |some xs=>some (x::xs)
    |none=>none
   |_,none=>none
def Ha:List SV→Option (List PV)
 |[]=>some []
 |v::vs=>match v.clean,Ha vs with
  |some x,some xs=>some (x::xs)
  |_,_=>none
def SV.tidy(v:SV):SV:=match v.clean with
 |some x=> .pv x
 |none=>v
def Al2(op:BinOp)(k:IntKind)(a b:Int):Option PV:=
 match op with
 | .add=>some (.int k (k.wrap (a+b)))
 | .sub=>some (.int k (k.wrap (a-b)))
 | .mul=>some (.int k (k.wrap (a*b)))
 | .quo=>if b=0 then none else some (.int k (k.wrap (a.tdiv b)))
 | .rem=>if b=0 then none else some (.int k (a.tmod b))
 | .and=>some (.int k (k.wrap (BitVec.ofInt k.bits a &&& BitVec.ofInt k.bits b).toNat))
 | .or=>some (.int k (k.wrap (BitVec.ofInt k.bits a ||| BitVec.ofInt k.bits b).toNat))
 | .xor=>some (.int k (k.wrap (BitVec.ofInt k.bits a ^^^ BitVec.ofInt k.bits b).toNat))
 | .andNot=>some (.int k (k.wrap (BitVec.ofInt k.bits a &&& ~~~ BitVec.ofInt k.bits b).toNat))
 | .eql=>some (.bool (a==b))
 | .neq=>some (.bool (a !=b))
 | .lss=>some (.bool (decide (a<b)))
 | .leq=>some (.bool (decide (a≤b)))
 | .gtr=>some (.bool (decide (a>b)))
 | .geq=>some (.bool (decide (a≥b)))
 | .shl| .shr=>none
def Ji(op:BinOp)(k:IntKind)(a b:Int):Option PV:=
 if b<0 then none else
 match op with
 | .shl=>some (.int k (k.wrap (a*2^(min b.toNat k.bits))))
 | .shr=>some (.int k (a.fdiv (2^(min b.toNat k.bits))))
 |_=>none
def A38(op:BinOp)(a b:List UInt8):Option PV:=
 match op with
 | .add=>if a.length+b.length≤9223372036854775807 then some (.str (a++b)) else none
 | .eql=>some (.bool (a==b))
 | .neq=>some (.bool (!(a==b)))
 | .lss=>some (.bool (Op.bytesLess a b))
 | .leq=>some (.bool (Op.bytesLess a b||a==b))
 | .gtr=>some (.bool (!(Op.bytesLess a b||a==b)))
 | .geq=>some (.bool (!Op.bytesLess a b))
 |_=>none
inductive EK where
 |i|b|s
 deriving DecidableEq
def C5:List EK→List PV→List PV→Option Bool
 |[],[],[]=>some true
 | .i::ks,.int k a::xs,.int k' b::ys=>if k=k' then(C5 ks xs ys).map ((a==b)&& ·) else none
 | .b::ks,.bool a::xs,.bool b::ys=>(C5 ks xs ys).map ((a==b)&& ·)
 | .s::ks,.str a::xs,.str b::ys=>(C5 ks xs ys).map ((a==b)&& ·)
 |_,_,_=>none
def Arf(op:BinOp)(x y:PV):Option PV:=
 match x,y with
 | .int k a,.int k' b=>match op with
  | .shl=>Ji .shl k a b
  | .shr=>Ji .shr k a b
  |op=>if k=k' then Al2 op k a b else none
 | .str a,.str b=>A38 op a b
 | .bool a,.bool b=>match op with
  | .eql=>some (.bool (a==b))
  | .neq=>some (.bool (!(a==b)))
  |_=>none
 |_,_=>none
def Bke(op:UnOp)(x:PV):Option PV:=
 match op,x with
 | .not,.bool b=>some (.bool (!b))
 | .neg,.int k n=>some (.int k (k.wrap (0-n)))
 |_,_=>none
def Tt:List PV→Option (List UInt8)
 |[]=>some []
 | .int .u8 n::l=>(Tt l).map (UInt8.ofNat n.toNat:: ·)
 |_=>none
inductive AOp where
 |mov (x:Opd)
 |pick (c a b:Opd)
 |alloc (zero:List SV)
 |box (x:Opd)
 |load (agg:Bool) (n:Nat) (x:Opd)
 |store (n:Nat) (a v:Opd)
 |bin (bl:Bool) (op:BinOp) (x y:Opd)
 |eqs (neg:Bool) (ks:List EK) (x y:Opd)
 |un (op:UnOp) (x:Opd)
 |conv (k:IntKind) (x:Opd)
 |fld (off:Nat) (x:Opd)
 |part (agg:Bool) (off n:Nat) (x:Opd)
 |idx (sz:Nat) (x i:Opd)
 |sidx (x i:Opd)
 |aidx (len n:Nat) (x i:Opd)
 |b2s (x:Opd)
 |ext (i:Nat) (x:Opd)
 |build (zero:List SV) (parts:List (Nat×Nat×Opd))
 |lit (keep:Bool) (sz:Nat) (xs:List Opd)
 |mk (sz bytes:Nat) (zero:PV) (n c:Opd)
 |slc (s:Bool) (sz:Nat) (x:Opd) (lo hi:Option Opd)
 |len (s:Bool) (x:Opd)
 |mm (max:Bool) (x:Opd) (xs:List Opd)
 |mkfn (f:FuncId) (caps:List Opd)
 |call (keep m:Nat) (f:Opd) (args:List Opd) (fz ln:List Key)
 |append (kd sz bytes:Nat) (x y:Opd)
 |ins (f:FuncId) (sz bytes x:Nat) (i y:Opd)
 |mkmap (kk:KK)
 |mlook (kk:KK) (ok:Bool) (zero:PV) (x k:Opd)
 |mset (kk:KK) (x k v:Opd)
 |mlen (x:Opd)
 |mkI (t:TypeId) (x:Opd)
 |nchk (x:Opd)
 |isNil (neg:Bool) (x:Opd)
 |stuck
structure Res where
 v:SV
 rows:List (Option Ah)
 ext:List (Option Ah)
abbrev Callee:=Nat→FuncId→List SV→List Ah→Option Res
structure Eff where
 v:SV
 ins:List (Key×Ah)
def intOf(v:SV):Option (IntKind×Int):=match v with
 | .pv (.int k n)=>some (k,n)
 |_=>none
def bound(σ:St)(dflt:Nat)(top:Nat):Option Opd→Option Nat
 |none=>some dflt
 |some o=>match intOf (σ.ev o) with
  |some (_,n)=>if 0≤n∧n≤top then some n.toNat else none
  |none=>none
def Bpl(mx:Bool):PV→PV→Option PV
 | .int k a,.int k' b=>if k=k' then some (.int k (bif mx then(if b>a then b else a) else(if b<a then b else a))) else none
 |_,_=>none
def mmL(mx:Bool):PV→List SV→Option PV
 |x,[]=>some x
 |x,.pv y::ys=>match Bpl mx x y with
  |some z=>mmL mx z ys
  |none=>none
 |_,_=>none
def SV.solid:SV→Bool
 | .tup _=>false
 | .dead=>false
 |_=>true
def An8:List SV→List (Nat×Nat×SV)→Option (List SV)
 |cs,[]=>some cs
 |cs,(off,n,v)::r=>
  let vc:=v.cells
  if vc.length=n∧off+n≤cs.length then An8 (cs.take off++vc++cs.drop (off+n)) r else none
def PV.scalar:PV→Bool
 | .int _ _| .bool _| .str _| .fn _| .nilFn| .yld _| .hdl _ _ _| .nilI| .slice []=>true
 | .agg cs=>scalarL cs
 | .iface _ v=>v.scalar
 | .slice (_::_)=>false
where
 scalarL:List PV→Bool
  |[]=>true
  |c::cs=>c.scalar&&scalarL cs
def SV.scalar:SV→Bool
 | .pv x=>x.scalar
 | .nils=>true
 | .tup cs=>scalarT cs
 |_=>false
where
 scalarT:List SV→Bool
  |[]=>true
  |c::cs=>c.scalar&&scalarT cs
def SV.nm(f:Key→Option Key):SV→SV
 | .pv x=> .pv x
 | .nils=> .nils
 | .ptr k off=>match f k with|some k'=> .ptr k' off|none=> .dead
 | .own k=>match f k with|some k'=> .own k'|none=> .dead
 | .mp k=>match f k with|some k'=> .mp k'|none=> .dead
 | .iown k i off=>match f k with|some k'=> .iown k' i off|none=> .dead
 | .ipv x o=> .ipv x o
 | .agg cs=> .agg (nmL f cs)
 | .tup cs=> .tup (nmL f cs)
 | .fn g cs=> .fn g (nmL f cs)
 | .dead=> .dead
where
 nmL (f:Key→Option Key):List SV→List SV
  |[]=>[]
  |c::cs=>SV.nm f c::nmL f cs
def Ah.nm(f:Key→Option Key):Ah→Ah
 | .box cs=> .box (cs.map (SV.nm f))
 | .row sz xs=> .row sz xs
 | .map kk es=> .map kk es
def SV.bare:SV→Bool
 | .ptr _ _| .own _| .mp _| .iown _ _ _=>false
 | .agg cs=>bareL cs
 | .tup cs=>bareL cs
 | .fn _ cs=>bareL cs
 |_=>true
where
 bareL:List SV→Bool
  |[]=>true
  |c::cs=>c.bare&&bareL cs
def toX(ks:List Key)(k:Key):Option Key:=(ks.idxOf? k).map .ext
def G0(ks:List Key)(d keep:Nat):Key→Option Key
 | .ext j=>ks[j]?
 | .res j=>if j<keep then some (.loc d j) else none
 | .loc _ _=>none
def toR(out:List Key):Key→Option Key
 | .ext i=>some (.ext i)
 |k=>(out.idxOf? k).map .res
def Hr(σ:St)(ks:List Key):List Key→Option (List Ah)
 |[]=>some []
 |k::r=>match σ.look k,Hr σ ks r with
  |some o,some os=>some (o.nm (toX ks)::os)
  |_,_=>none
def H1(f:Key→Option Key)(d:Nat):Nat→List (Option Ah)→List (Key×Ah)
 |_,[]=>[]
 |i,none::r=>H1 f d (i+1) r
 |i,some o::r=>(.loc d i,o.nm f)::H1 f d (i+1) r
def SV.flatR(rows:List (Option Ah)):SV→Option SV
 | .nils=>some (.pv (.slice []))
 | .own (.res i)=>match rows[i]? with
  |some (some (.row _ xs))=>some (.pv (.slice xs))
  |_=>none
 | .pv x=>some (.pv x)
 | .tup cs=>(flatL rows cs).map .tup
 | .agg cs=>match flatL rows cs with
  |some cs'=>SV.ofCells true cs'
  |none=>none
 |_=>none
where
 flatL (rows:List (Option Ah)):List SV→Option (List SV)
  |[]=>some []
  |c::cs=>match SV.flatR rows c,flatL rows cs with
   |some c',some cs'=>some (c'::cs')
   |_,_=>none
def St.elems(σ:St):SV→Option (List PV)
 | .nils=>some []
 | .pv (.slice xs)=>some xs
 | .own k=>match σ.look k with
  |some (.row _ xs)=>some xs
  |_=>none
 |_=>none
def St.target(σ:St)(f:Opd):Option (FuncId×List SV):=
 match σ.ev f with
 | .pv (.fn g)=>some (g,[])
 | .fn g caps=>some (g,caps)
 |_=>none
def AOp.keys(d:Nat):AOp→List Key
 | .alloc _| .box _| .mk .. | .ins .. | .mkmap _=>[.loc d 0]
 | .lit keep _ _=>if keep then [.loc d 0] else []
 | .call keep .. =>(List.range keep).map (.loc d)
 |_=>[]
def Hy(sz:Nat)(xs:List PV):Bool:=xs.all fun x=>x.cells.length==sz
def took(ks:List Key)(d keep:Nat)(r:Res):Option Eff:=
 bif keep==0 then(r.v.flatR r.rows).map fun v=>⟨v,[]⟩
 else bif r.rows.length≤keep then some ⟨r.v.nm (G0 ks d keep),H1 (G0 ks d keep) d 0 r.rows⟩ else none
def St.seen(σ:St)(v:SV):SV:=match σ.pure v with
 |some x=> .pv x
 |none=>v.tidy
def Ey:PV→PV→Bool
 | .int _ a,.int _ b=>a==b
 | .bool a,.bool b=>a==b
 | .str a,.str b=>a==b
 |_,_=>false
def Io(es:List (PV×PV))(k:PV):Option PV:=(es.find? fun e=>Ey k e.1).map (·.2)
def Aaf:List (PV×PV)→PV→PV→List (PV×PV)
 |[],k,v=>[(k,v)]
 |e::es,k,v=>if Ey k e.1 then(e.1,v)::es else e::Aaf es k v
def Au(cl:Callee)(σ:St)(d:Nat):AOp→Option Eff
 | .mov x=>some ⟨σ.ev x,[]⟩
 | .pick c a b=>match σ.ev c with
  | .pv (.bool t)=>some ⟨bif t then σ.ev a else σ.ev b,[]⟩
  |_=>none
 | .alloc zero=>some ⟨.ptr (.loc d 0) 0,[(.loc d 0,.box zero)]⟩
 | .box x=>match σ.ev x with
  | .tup _=>none
  | .dead=>none
  |v=>some ⟨.ptr (.loc d 0) 0,[(.loc d 0,.box v.cells)]⟩
 | .load agg n x=>match σ.ev x with
  | .ptr k off=>match σ.look k with
   |some (.box cs)=>if off+n≤cs.length then(SV.ofCells agg ((cs.drop off).take n)).map fun v=>⟨v,[]⟩ else none
   |_=>none
  | .ipv e off=>if off+n≤e.cells.length then(SV.ofCells agg (((e.cells.drop off).take n).map .pv)).map fun v=>⟨v,[]⟩ else none
  | .iown k i off=>match σ.look k with
   |some (.row _ xs)=>match xs[i]? with
    |some e=>if off+n≤e.cells.length then(SV.ofCells agg (((e.cells.drop off).take n).map .pv)).map fun v=>⟨v,[]⟩ else none
    |none=>none
   |_=>none
  |_=>none
 | .bin bl op x y=>match σ.ev x,σ.ev y with
  | .pv a,.pv b=>bif a.isB==bl then(Arf op a b).map fun v=>⟨.pv v,[]⟩ else none
  |_,_=>none
 | .eqs neg ks x y=>match σ.ev x,σ.ev y with
  | .pv (.agg as),.pv (.agg bs)=>(C5 ks as bs).map fun b=>⟨.pv (.bool (bif neg then !b else b)),[]⟩
  |_,_=>none
 | .un op x=>match σ.ev x with
  | .pv a=>(Bke op a).map fun v=>⟨.pv v,[]⟩
  |_=>none
 | .nchk x=>match σ.ev x with
  | .ptr k off=>some ⟨.ptr k off,[]⟩
  |_=>none
 | .mkI t x=>match σ.ev x with
  | .pv v=>some ⟨.pv (.iface t v),[]⟩
  |_=>none
 | .isNil neg x=>match σ.ev x with
  | .pv .nilI=>some ⟨.pv (.bool (!neg)),[]⟩
  | .pv (.iface _ _)=>some ⟨.pv (.bool neg),[]⟩
  |_=>none
 | .conv k x=>match σ.ev x with
  | .pv (.int _ n)=>some ⟨.pv (.int k (k.wrap n)),[]⟩
  |_=>none
 | .fld off x=>match σ.ev x with
  | .ptr k o=>some ⟨.ptr k (o+off),[]⟩
  | .ipv e o=>some ⟨.ipv e (o+off),[]⟩
  | .iown k i o=>some ⟨.iown k i (o+off),[]⟩
  |_=>none
 | .part agg off n x=>match σ.ev x with
  | .pv (.agg cs)=>if off+n≤cs.length then(SV.ofCells agg (((cs.drop off).take n).map .pv)).map fun v=>⟨v,[]⟩ else none
  | .agg cs=>if off+n≤cs.length then(SV.ofCells agg ((cs.drop off).take n)).map fun v=>⟨v,[]⟩ else none
  |_=>none
 | .idx sz x i=>match σ.ev x,intOf (σ.ev i) with
  | .pv (.slice xs),some (_,n)=>
   if 0≤n then match xs[n.toNat]? with
    |some e=>if e.cells.length=sz then some ⟨.ipv e 0,[]⟩ else none
    |none=>none
   else none
  | .own k,some (_,n)=>match σ.look k with
   |some (.row sz' xs)=>if 0≤n∧n.toNat<xs.length∧sz'=sz then some ⟨.iown k n.toNat 0,[]⟩ else none
   |_=>none
  |_,_=>none
 | .aidx len n x i=>match σ.ev x,intOf (σ.ev i) with
  | .pv (.agg cs),some (_,m)=>if 0≤m∧m.toNat<len∧m.toNat*n+n≤cs.length then(SV.ofCells true (((cs.drop (m.toNat*n)).take n).map .pv)).map fun v=>⟨v,[]⟩ else none
  |_,_=>none
 | .b2s x=>match σ.ev x with
  | .pv (.slice ps)=>(Tt ps).map fun s=>⟨.pv (.str s),[]⟩
  |_=>none
 | .sidx x i=>match σ.ev x,intOf (σ.ev i) with
  | .pv (.str s),some (_,n)=>
   if 0≤n then match s[n.toNat]? with
    |some b=>some ⟨.pv (.int .u8 b.toNat),[]⟩
    |none=>none
   else none
  |_,_=>none
 | .ext i x=>match σ.ev x with
  | .tup vs=>match vs[i]? with
   |some v=>some ⟨v,[]⟩
   |none=>none
  |_=>none
 | .build zero parts=>bif parts.all (fun p=>(σ.ev p.2.2).solid) then
   (match An8 zero (parts.map fun p=>(p.1,p.2.1,σ.ev p.2.2)) with
    |some cs=>(SV.ofCells true cs).map fun v=>⟨v,[]⟩
    |none=>none) else none
 | .lit _ _ []=>some ⟨.nils,[]⟩
 | .lit keep sz (x::xs)=>match Ha ((x::xs).map σ.ev) with
  |some ps=>if Hy sz ps then(if keep then some ⟨.own (.loc d 0),[(.loc d 0,.row sz ps)]⟩ else some ⟨.pv (.slice ps),[]⟩) else none
  |none=>none
 | .mk sz bytes zero n c=>match intOf (σ.ev n),intOf (σ.ev c) with
  |some (.i64,n),some (.i64,c)=>
   if 0≤n∧n≤c∧c*bytes≤140737488355328∧c≤140737488355328 then some ⟨.own (.loc d 0),[(.loc d 0,.row sz (List.replicate n.toNat zero))]⟩ else none
  |_,_=>none
 | .slc true _ x lo hi=>match σ.ev x with
  | .pv (.str s)=>match bound σ s.length s.length hi with
   |some h=>match bound σ 0 h lo with
    |some l=>some ⟨.pv (.str ((s.take h).drop l)),[]⟩
    |none=>none
   |none=>none
  |_=>none
 | .slc false sz x lo hi=>match (σ.ev x).tidy with
  | .pv (.slice xs)=>match bound σ xs.length xs.length hi with
   |some h=>match bound σ 0 h lo with
    |some l=>if Hy sz xs=true then some ⟨.pv (.slice ((xs.take h).drop l)),[]⟩ else none
    |none=>none
   |none=>none
  |_=>none
 | .len true x=>match σ.ev x with
  | .pv (.str s)=>some ⟨.pv (.int .i64 s.length),[]⟩
  |_=>none
 | .len false x=>match σ.elems (σ.ev x) with
  |some xs=>some ⟨.pv (.int .i64 xs.length),[]⟩
  |none=>none
 | .mm mx x xs=>match σ.ev x with
  | .pv a=>(mmL mx a (xs.map σ.ev)).map fun v=>⟨.pv v,[]⟩
  |_=>none
 | .mkfn f caps=>match caps.map σ.ev with
  |[]=>some ⟨.pv (.fn f),[]⟩
  |vs=>some ⟨.fn f vs,[]⟩
 | .call keep m f args fz ln=>
  bif 2≤m|| !fz.isEmpty|| !ln.isEmpty then none else
  match σ.target f with
  |some (g,caps)=>
   let vs:=(args.map σ.ev++caps).map fun v=>bif m==0 then v.tidy else σ.seen v
   bif vs.all SV.bare then
    (match cl d g vs [] with
     |some r=>bif m==0||(r.v.scalar&&r.rows.isEmpty) then took [] d keep r else none
     |none=>none) else none
  |none=>none
 | .store .. =>none
 | .append .. =>none
 | .ins _ sz bytes x i y=>match σ.get x,intOf (σ.ev i),σ.ev y with
  | .own k,some (.i64,n),.own k2=>match σ.look k,σ.look k2 with
   |some (.row s1 xs),some (.row s2 [e])=>
    bif s1==sz&&(s2==sz&&(decide (k≠k2)&&(decide (0≤n)&&(decide (n≤xs.length)&&decide ((xs.length+1)*bytes≤140737488355328))))) then some ⟨.own (.loc d 0),[(.loc d 0,.row sz (xs.take n.toNat++e::xs.drop n.toNat))]⟩ else none
   |_,_=>none
  |_,_,_=>none
 | .mkmap kk=>some ⟨.mp (.loc d 0),[(.loc d 0,.map kk [])]⟩
 | .mlook kk ok zero x k=>match σ.ev x,σ.ev k with
  | .mp key,.pv kv=>match σ.look key with
   |some (.map kk' es)=>bif decide (kk'=kk)&&kv.isKK kk then
     some ⟨bif ok then .tup [.pv ((Io es kv).getD zero),.pv (.bool (Io es kv).isSome)] else .pv ((Io es kv).getD zero),[]⟩ else none
   |_=>none
  |_,_=>none
 | .mlen x=>match σ.ev x with
  | .mp key=>match σ.look key with
   |some (.map _ es)=>some ⟨.pv (.int .i64 es.length),[]⟩
   |_=>none
  |_=>none
 | .mset .. =>none
 | .stuck=>none
def Cf{α:Type}(cs:List α)(off:Nat)(vs:List α):List α:=cs.take off++vs++cs.drop (off+vs.length)
def St.over(σ:St)(k:Key)(o:Ah):St:={σ with hp:=σ.hp.map fun p=>if p.1=k then(k,o) else p}
def PV.setCells(e:PV)(off:Nat)(v:PV):Option PV:=
 match e with
 | .agg cs=>some (.agg (Cf cs off v.cells))
 |_=>bif v.one then some v else none
def SV.freeze(k:Key)(x:PV):SV→SV
 | .own k'=>if k'=k then .pv x else .own k'
 | .iown k' i o=>if k'=k then .dead else .iown k' i o
 | .mp k'=>if k'=k then .dead else .mp k'
 | .ptr k' off=>if k'=k then .ipv x off else .ptr k' off
 | .agg cs=> .agg (freezeL k x cs)
 | .tup cs=> .tup (freezeL k x cs)
 | .fn f cs=> .fn f (freezeL k x cs)
 |v=>v
where
 freezeL (k:Key) (x:PV):List SV→List SV
  |[]=>[]
  |c::cs=>SV.freeze k x c::freezeL k x cs
def Ah.freeze(k:Key)(x:PV):Ah→Ah
 | .box cs=> .box (cs.map (SV.freeze k x))
 |o=>o
def Ah.frozen:Ah→Option PV
 | .row _ xs=>some (.slice xs)
 | .box cs=>(SV.ofCells.pures cs).map .agg
 | .map _ _=>none
def St.freeze(σ:St)(k:Key):St:=
 match (σ.look k).bind Ah.frozen with
 |some x=>{sl:=σ.sl.map fun p=>(p.1,p.2.freeze k x),hp:=(σ.hp.filter fun p=>decide (p.1≠k)).map fun p=>(p.1,p.2.freeze k x)}
 |none=>σ
def St.freezeAll(σ:St):List Key→St
 |[]=>σ
 |k::ks=>(σ.freeze k).freezeAll ks
def C0:List Key→List (Option Ah)→List Key
 |k::ks,none::r=>k::C0 ks r
 |_::ks,some _::r=>C0 ks r
 |_,_=>[]
def C8(f:Key→Option Key):St→List Key→List (Option Ah)→Option St
 |σ,[],[]=>some σ
 |σ,_::ks,none::r=>C8 f σ ks r
 |σ,k::ks,some o::r=>C8 f (σ.over k (o.nm f)) ks r
 |_,_,_=>none
def Ayu(m:Nat)(v:SV):SV:=bif m==2 then v.tidy else v
def Fm(cl:Callee)(σ:St)(d:Option Nat):AOp→Option St
 | .store n a x=>match σ.ev a with
  | .ptr k off=>match σ.look k with
   |some (.box cs)=>match σ.ev x with
    | .tup _=>none
    | .dead=>none
    |v=>if v.cells.length=n∧off+n≤cs.length then some ((σ.over k (.box (Cf cs off v.cells))).put d .dead) else none
   |_=>none
  | .iown k i off=>match σ.look k,σ.ev x with
   |some (.row sz xs),.pv v=>match xs[i]? with
    |some e=>if v.cells.length=n∧off+n≤e.cells.length then
      (match e.setCells off v with
       |some e'=>some ((σ.over k (.row sz (xs.set i e'))).put d .dead)
       |none=>none) else none
    |none=>none
   |_,_=>none
  |_=>none
 | .append kd sz bytes x y=>match d with
  |none=>none
  |some d=>match σ.elems (σ.ev y) with
   |none=>none
   |some ys=>match σ.ev x with
    | .nils=>if Hy sz ys∧1≤bytes∧ys.length*bytes≤140737488355328 then
       some (((σ.kill (.loc kd 0)).insAll [(.loc kd 0,.row sz ys)]).put (some d) (.own (.loc kd 0))) else none
    | .own k=>match σ.look k with
     |some (.row sz' xs)=>if Hy sz ys∧sz'=sz∧1≤bytes∧(xs.length+ys.length)*bytes≤140737488355328 then
       some ((((σ.kill k).kill (.loc kd 0)).insAll [(.loc kd 0,.row sz (xs++ys))]).put (some d) (.own (.loc kd 0))) else none
     |_=>none
    |_=>none
 | .mset kk x k v=>match σ.ev x,σ.ev k,σ.ev v with
  | .mp key,.pv kv,.pv vv=>match σ.look key with
   |some (.map kk' es)=>bif decide (kk'=kk)&&kv.isKK kk then some ((σ.over key (.map kk (Aaf es kv vv))).put d .dead) else none
   |_=>none
  |_,_,_=>none
 | .call keep m f args fz ln=>match d with
  |none=>none
  |some d=>
   let σ:=(σ.freezeAll fz).killAll ((List.range keep).map (.loc d))
   match σ.target f with
   |none=>none
   |some (g,caps)=>
   match Hr σ ln ln with
    |none=>none
    |some ext=>match cl d g ((args.map σ.ev++caps).map fun v=>(Ayu m v).nm (toX ln)) ext with
     |none=>none
     |some r=>match took ln d keep r with
      |none=>none
      |some e=>match C8 (G0 ln d keep) (σ.killAll (C0 ln r.ext)) ln r.ext with
       |none=>none
       |some σ=>some ((σ.insAll e.ins).put (some d) e.v)
 |_=>none
structure GOp where
 d:Option Nat
 g:Option (Nat×Bool)
 op:AOp
def AOp.isB:AOp→Bool
 | .store .. | .append .. | .mset .. =>true
 | .call _ m .. =>decide (2≤m)
 |_=>false
def AOp.skipV(op:AOp):SV:=match op with
 | .store .. => .dead
 | .append .. => .dead
 | .mset .. => .dead
 |_=> .tup []
def St.wants(σ:St):Option (Nat×Bool)→Option Bool
 |none=>some true
 |some (t,b)=>match σ.get t with
  | .pv (.bool c)=>some (c==b)
  | .tup []=>some false
  |_=>none
def Alt(cl:Callee)(σ:St)(o:GOp):Option St:=
 match Au cl σ (o.d.getD 0) o.op with
 |some e=>some ((σ.insAll e.ins).put o.d e.v)
 |none=>none
def step(cl:Callee)(draw:Bool)(σ:St)(o:GOp):Option St:=
 match σ.wants o.g with
 |none=>none
 |some false=>some (σ.put o.d o.op.skipV)
 |some true=>
  bif o.op.isB then Fm cl σ o.d o.op
  else bif draw then Alt cl σ o else Alt cl (σ.killAll (o.op.keys (o.d.getD 0))) o
def Md(cl:Callee)(draw:Bool):List GOp→St→Option St
 |[],σ=>some σ
 |o::os,σ=>match step cl draw σ o with
  |some σ'=>Md cl draw os σ'
  |none=>none
inductive Up where
 |slot (t:Nat) (k:Key) (sz:Nat)
 |cell (kb:Key) (i:Nat) (k:Key) (sz:Nat)
inductive AC where
 |skip
 |ops (l:List GOp)
 |draw (ks:List Key) (l:List GOp)
 |drawZ (ks:List Key) (l l2:List GOp)
 |seq (a b:AC)
 |cond (c:Opd) (a b:AC)
 |block (id:Nat) (c:AC)
 |loop (keep:List Nat) (ks:List Key) (c:AC)
 |exit (id:Nat)
 |ret
 |keep (fz:List Key) (sl:List (Nat×Bool)) (bx:List (Key×Bool)) (dead:List Key) (up:List Up) (c:AC)
 |pass (id:Nat) (c:AC)
 |post (fz:List Key) (sl:List (Nat×Bool)) (bx:List (Key×Bool)) (dead:List Key) (up:List Up) (c:AC)
 |stuck
def AC.exits(id:Nat):AC→Bool
 | .skip| .ops _| .draw _ _| .drawZ _ _ _| .ret=>false
 | .seq a b=>a.exits id||b.exits id
 | .cond _ a b=>a.exits id||b.exits id
 | .block _ a=>a.exits id
 | .loop _ _ a=>a.exits id
 | .exit j=>j==id
 | .keep _ _ _ _ _ a=>a.exits id
 | .post _ _ _ _ _ a=>a.exits id
 | .pass _ a=>a.exits id
 | .stuck=>false
inductive Ex where
 |norm
 |exit (id:Nat)
 |ret
 deriving DecidableEq
def St.forget(σ:St)(keep:List Nat):St:={sl:=go σ.sl keep,hp:=σ.hp}
where
 go (l:List (Nat×SV)):List Nat→List (Nat×SV)
  |[]=>[]
  |t::ts=>(t,Uf l t)::go l ts
def Ah.tidy:Ah→Ah
 | .box cs=> .box (cs.map SV.tidy)
 |o=>o
def St.laid(σ:St)(sl:List (Nat×Bool))(bx:List (Key×Bool)):St:=
 {sl:=sl.map fun p=>(p.1,bif p.2 then(σ.get p.1).tidy else σ.get p.1),
  hp:=(bx.filterMap fun p=>(σ.look p.1).map fun o=>(p.1,bif p.2 then o.tidy else o))++σ.hp.filter fun q=> !(bx.any fun p=>decide (p.1=q.1))}
def St.up1(σ:St):Up→St
 | .slot t k sz=>match σ.get t,σ.look k with
  | .nils,none=>{sl:=(t,.own k)::σ.sl,hp:=(k,.row sz [])::σ.hp}
  |_,_=>σ
 | .cell kb i k sz=>match σ.look kb,σ.look k with
  |some (.box cs),none=>match cs[i]? with
   |some .nils=>{sl:=σ.sl,hp:=(k,.row sz [])::(σ.over kb (.box (cs.set i (.own k)))).hp}
   |_=>σ
  |_,_=>σ
def St.upAll(σ:St):List Up→St
 |[]=>σ
 |u::us=>(σ.up1 u).upAll us
def St.tidy(σ:St)(fz:List Key)(sl:List (Nat×Bool))(bx:List (Key×Bool))(dead:List Key)(up:List Up):St:=(((σ.freezeAll fz).killAll dead).upAll up).laid sl bx
inductive RV where
 |tmp (t:Nat)
 |cell (t:Nat) (agg:Bool) (n:Nat)
structure Fd where
 np:Nat
 res:List RV
 out:List Key
 body:AC
def Ani(cl:Callee)(σ:St):RV→Option SV
 | .tmp t=>some (σ.get t)
 | .cell t agg n=>(Au cl σ 0 (.load agg n (.tmp t))).map (·.v)
def Adj(cl:Callee)(σ:St):List RV→Option (List SV)
 |[]=>some []
 |r::rs=>match Ani cl σ r,Adj cl σ rs with
  |some v,some vs=>some (v::vs)
  |_,_=>none
def Bbt:List SV→SV
 |[v]=>v
 |vs=> .tup vs
def A9h(cl:Callee)(fd:Fd)(ne:Nat)(σ:St):Option Res:=
 match Adj cl σ fd.res with
 |none=>none
 |some vs=>some ⟨(Bbt vs).nm (toR fd.out),fd.out.map fun k=>(σ.look k).map (Ah.nm (toR fd.out)),(List.range ne).map fun i=>(σ.look (.ext i)).map (Ah.nm (toR fd.out))⟩
def slotsOf:Nat→List SV→List (Nat×SV)
 |_,[]=>[]
 |i,v::vs=>(i,v)::slotsOf (i+1) vs
def N5:Nat→List Ah→List (Key×Ah)
 |_,[]=>[]
 |i,o::r=>(.ext i,o)::N5 (i+1) r
def enter(args:List SV)(ext:List Ah):St:={sl:=slotsOf 0 args,hp:=N5 0 ext}
theorem Wn{α β:Type}{a:Option α}{f:α→Option β}{o:β}(h:a.bind f=some o): ∃x,a=some x∧f x=some o:=by
 cases a with
 |none=>cases h
 |some x=>exact⟨x,rfl,h⟩
def Blg(s:List UInt8):PV:= .str s
def Bro(t:Nat)(x:Option Int):PV:=match x with
 |none=> .nilI
 |some e=> .iface t (.agg [.int .i64 e])
def gdO{α:Type}(g:Bool)(x:Option α)(d:α):Option α:=match g with
 |true=>x
 |false=>some d
theorem Bl5{α:Type}{g:Bool}{x:Option α}{d e:α}(hg:g=true)(h:gdO g x d=some e):x=some e:=by subst hg;exact h
def rdO{α:Type}(l:List α)(i:Int):Option α:=if 0≤i then l[i.toNat]? else none
def Azi{κ ν:Type} [BEq κ](l:List (κ×ν))(k:κ):Option ν:=(l.find? fun e=>k==e.1).map (·.2)
def mset{κ ν:Type} [BEq κ]:List (κ×ν)→κ→ν→List (κ×ν)
 |[],k,v=>[(k,v)]
 |e::es,k,v=>if k==e.1 then(e.1,v)::es else e::mset es k v
def Bto{κ ν:Type}(f:κ→PV)(g:ν→PV)(e:κ×ν):PV×PV:=(f e.1,g e.2)
def byO(s:List UInt8)(i:Int):Option Int:=if 0≤i then(s[i.toNat]?).map (fun b=>(b.toNat:Int)) else none
def slO{α:Type}(l:List α)(lo hi:Int):Option (List α):=if 0≤lo∧lo≤hi∧hi≤l.length then some ((l.take hi.toNat).drop lo.toNat) else none
def Btb(k:IntKind)(a b:Int):Option Int:=if b=0 then none else some (k.wrap (a.tdiv b))
def Btd(k:IntKind)(a b:Int):Option Int:=if b=0 then none else some (a.tmod b)
def Btf(k:IntKind)(a b:Int):Option Int:=if b<0 then none else some (k.wrap (a*2^(min b.toNat k.bits)))
def Btg(k:IntKind)(a b:Int):Option Int:=if b<0 then none else some (a.fdiv (2^(min b.toNat k.bits)))
def Bip(a b:List UInt8):Option (List UInt8):=if a.length+b.length≤9223372036854775807 then some (a++b) else none
def apO{α:Type}(n:Nat)(xs ys:List α):Option (List α):=if (xs.length+ys.length)*n≤140737488355328 then some (xs++ys) else none
def mkO{α:Type}(n:Nat)(z:α)(a c:Int):Option (List α):=if 0≤a∧a≤c∧c*n≤140737488355328∧c≤140737488355328 then some (List.replicate a.toNat z) else none
def My{S O:Type}(f:S→Option (S⊕O)):Nat→S→Option O
 |0,_=>none
 |n+1,s=>match f s with
  |none=>none
  |some (.inl s')=>My f n s'
  |some (.inr o)=>some o
theorem Bd0{S O:Type}{f:S→Option (S⊕O)}: ∀{n:Nat} {s:S} {o:O},My f n s=some o→My f (n+1) s=some o:=by
 intro n
 induction n with
 |zero=>intro s o h;cases h
 |succ n ih=>
  intro s o h
  rw[My] at h⊢
  cases hf:f s with
  |none=>rw[hf] at h;exact h
  |some x=>
   rw[hf] at h
   cases x with
   |inl s'=>exact ih h
   |inr o'=>exact h
theorem A9f{S O:Type}{f:S→Option (S⊕O)}{n m:Nat}(hle:n≤m){s:S}{o:O}(h:My f n s=some o):My f m s=some o:=by
 induction hle with
 |refl=>exact h
 |step _ ih=>exact Bd0 ih
noncomputable def A3{S O:Type}(f:S→Option (S⊕O))(s:S):Option O:=
 open Classical in if h: ∃o n,My f n s=some o then some h.choose else none
theorem Qu{S O:Type}{f:S→Option (S⊕O)}{s:S}{o:O}:A3 f s=some o↔ ∃n,My f n s=some o:=by
 unfold A3
 constructor
 ·intro h
  split at h
  ·rename_i hx
   simp only[Option.some.injEq] at h
   subst h
   exact hx.choose_spec
  ·cases h
 ·intro h
  have hx: ∃o n,My f n s=some o:=⟨o,h⟩
  rw[dif_pos hx]
  obtain⟨n,hn⟩:=h
  obtain⟨m,hm⟩:=hx.choose_spec
  have h1:=A9f (Nat.le_max_left n m) hn
  have h2:=A9f (Nat.le_max_right n m) hm
  rw[h1] at h2
  exact h2.symm
theorem A9s{S O:Type}(f:S→Option (S⊕O))(s:S):A3 f s=match f s with
  |none=>none
  |some (.inl s')=>A3 f s'
  |some (.inr o)=>some o:=by
 have key: ∀o,A3 f s=some o↔(match f s with
  |none=>none
  |some (.inl s')=>A3 f s'
  |some (.inr o)=>some o)=some o:=by
  intro o
  rw[Qu]
  constructor
  ·rintro⟨n,hn⟩
   cases n with
   |zero=>cases hn
   |succ n=>
    rw[My] at hn
    cases hf:f s with
    |none=>rw[hf] at hn;exact hn
    |some x=>
     rw[hf] at hn
     cases x with
     |inl s'=>exact Qu.2 ⟨n,hn⟩
     |inr o'=>exact hn
  ·intro h
   cases hf:f s with
   |none=>rw[hf] at h;cases h
   |some x=>
    rw[hf] at h
    cases x with
    |inl s'=>
     obtain⟨n,hn⟩:=Qu.1 h
     exact⟨n+1,by rw[My,hf];exact hn⟩
    |inr o'=>exact⟨1,by rw[My,hf];exact h⟩
 cases hl:A3 f s with
 |some o=>exact((key o).1 hl).symm
 |none=>
  generalize hr:(match f s with
  |none=>none
  |some (.inl s')=>A3 f s'
  |some (.inr o)=>some o)=r at key⊢
  cases r with
  |none=>rfl
  |some o=>have:=(key o).2 rfl;rw[hl] at this;cases this
theorem B0{S O:Type}{f:S→Option (S⊕O)}{s s':S}(h:f s=some (.inl s')):A3 f s=A3 f s':=by rw[A9s,h]
theorem A1{S O:Type}{f:S→Option (S⊕O)}{s:S}{o:O}(h:f s=some (.inr o)):A3 f s=some o:=by rw[A9s,h]
end Go.Av
end
section
namespace Go.Av
inductive Ty where
 |int (k:IntKind)
 |bool
 |str
 |fn
 |er (t:Nat)
 |sl (t:Ty)
 |st (i:Nat)
 |mp (k v:Ty)
 deriving DecidableEq
class Str where
 S:Nat→Type
def Ty.D [Str]:Ty→Type
 | .int _=>Int
 | .bool=>Bool
 | .str=>List UInt8
 | .fn=>Nat
 | .er _=>Option Int
 | .sl t=>List t.D
 | .st i=>Str.S i
 | .mp k v=>List (k.D×v.D)
def Tup [Str]:List Ty→Type
 |[]=>Unit
 |t::ts=>t.D×Tup ts
class Cel extends Str where
 ts:Nat→List Ty
 get: ∀i,S i→Tup (ts i)
 put: ∀i,Tup (ts i)→S i
 cl: ∀i,S i→List PV
 z: ∀i,S i
def Ty.e [Cel]:(t:Ty)→t.D→PV
 | .int k,n=> .int k n
 | .bool,b=> .bool b
 | .str,s=> .str s
 | .fn,f=> .fn f
 | .er t,e=>Bro t e
 | .sl t,l=> .slice (List.map t.e l)
 | .st i,x=> .agg (Cel.cl i x)
 | .mp _ _,_=> .nilI
def Ayz [Cel]:(ts:List Ty)→Tup ts→List PV
 |[],_=>[]
 |t::ts,x=>t.e x.1::Ayz ts x.2
def Ty.scal:Ty→Bool
 | .st _=>false
 |_=>true
class Dic extends Cel where
 scal: ∀i,(ts i).all Ty.scal=true
 cl_get: ∀i x,cl i x=Ayz (ts i) (get i x)
 cl_mk: ∀i t,cl i (put i t)=Ayz (ts i) t
def Ty.sz [Cel]:Ty→Nat
 | .st i=>(Cel.ts i).length
 |_=>1
def Ty.dfl [Cel]:(t:Ty)→t.D
 | .int _=>(0:Int)
 | .bool=>false
 | .str=>([]:List UInt8)
 | .fn=>(0:Nat)
 | .er _=>(none:Option Int)
 | .sl _=>[]
 | .st i=>Cel.z i
 | .mp _ _=>[]
section
variable [Dic]
theorem Anl{t:Ty}(h:t.scal=true)(x:t.D):(t.e x).cells=[t.e x]:=by
 cases t<;>first|rfl|(simp[Ty.scal] at h;done)|skip
 ·rename_i t;cases x<;>rfl
theorem Bby{t:Ty}(h:t.scal=true)(x:t.D):(t.e x).one=true:=by
 cases t<;>first|rfl|(simp[Ty.scal] at h;done)|skip
 ·rename_i t;cases x<;>rfl
theorem Bcq: ∀(ts:List Ty) (x:Tup ts),(Ayz ts x).length=ts.length
 |[],_=>rfl
 |t::ts,x=>by simp[Ayz,Bcq ts x.2]
theorem Ajf{t:Ty}(x:t.D):(t.e x).cells.length=t.sz:=by
 cases t with
 |st i=>
  show(Cel.cl i x).length=_
  rw[show Cel.cl i x=_ from Dic.cl_get i x,Bcq];rfl
 |_=>rw[Anl rfl x];rfl
inductive TV where
 |v (t:Ty) (x:t.D)
 |c (x:PV)
 |nils
 |ptr (k:Key) (off:Nat)
 |own (k:Key)
 |mp (k:Key)
 |iown (k:Key) (n:Int) (off:Nat) (t:Ty) (e:t.D) (ok:Bool)
 |iv (t:Ty) (x:t.D) (off:Nat)
 |ic (cs:List TV) (off:Nat)
 |agg (t:Ty) (cs:List TV)
 |tup (cs:List TV)
 |fn (f:FuncId) (caps:List TV)
 |gd (t:Nat) (b:Bool) (c:Bool) (x:TV)
 |dead
def TV.pv:TV→PV
 | .v t x=>t.e x
 | .c x=>x
 |_=> .nilI
def TV.isP:TV→Bool
 | .v _ _=>true
 | .c _=>true
 |_=>false
def TV.noP:TV→Bool
 | .v _ _=>false
 | .c _=>false
 | .gd .. =>false
 |_=>true
def TV.u:TV→SV
 | .v t x=> .pv (t.e x)
 | .c x=> .pv x
 | .nils=> .nils
 | .ptr k off=> .ptr k off
 | .own k=> .own k
 | .mp k=> .mp k
 | .iown k n off _ _ _=> .iown k n.toNat off
 | .iv t x off=> .ipv (t.e x) off
 | .ic cs off=> .ipv (.agg (cs.map TV.pv)) off
 | .agg _ cs=> .agg (uL cs)
 | .tup cs=> .tup (uL cs)
 | .fn f cs=> .fn f (uL cs)
 | .gd _ _ q x=>bif q then x.u else .tup []
 | .dead=> .dead
where
 uL:List TV→List SV
  |[]=>[]
  |a::cs=>a.u::uL cs
theorem Ix: ∀cs:List TV,TV.u.uL cs=cs.map TV.u
 |[]=>rfl
 |c::cs=>by rw[TV.u.uL,Ix cs];rfl
theorem Oe{w:TV}(h:w.isP=true):w.u= .pv w.pv:=by cases w<;>first|rfl|cases h
theorem Bs8{w:TV}(h:w.noP=true): ∀x,w.u≠ .pv x:=by cases w<;>first|(intro x e;cases e;done)|cases h
def tc:PV→TV
 | .int k n=> .v (.int k) n
 | .bool b=> .v .bool b
 | .str s=> .v .str s
 |x=> .c x
theorem Bsj(x:PV):(tc x).u= .pv x:=by cases x<;>rfl
theorem Bn1(x:PV):(tc x).isP=true:=by cases x<;>rfl
theorem Bn2(x:PV):(tc x).pv=x:=by cases x<;>rfl
def Bl4:(t:Ty)→PV→Option t.D
 | .int k,.int k' n=>if k'=k then some n else none
 | .bool,.bool b=>some b
 | .str,.str s=>some s
 | .fn,.fn f=>some f
 | .er _,.nilI=>some (none:Option Int)
 | .sl _,.slice []=>some []
 |_,_=>none
theorem Bo8{t:Ty}{p:PV}{x:t.D}(h:Bl4 t p=some x):p=t.e x:=by
 unfold Bl4 at h
 split at h
 ·split at h
  ·rename_i e;subst e;cases h;rfl
  ·cases h
 all_goals first|(cases h;rfl;done)|cases h
def as0(t:Ty):TV→Option t.D
 | .v t' x=>if h:t'=t then some (h▸x) else none
 | .c p=>Bl4 t p
 |_=>none
theorem Bc9{t:Ty}{w:TV}{x:t.D}(h:as0 t w=some x):w.isP=true∧w.pv=t.e x:=by
 unfold as0 at h
 split at h
 ·split at h
  ·rename_i e;subst e;cases h;exact⟨rfl,rfl⟩
  ·cases h
 ·exact⟨rfl,Bo8 h⟩
 ·cases h
def gaT:(ts:List Ty)→List TV→Option (Tup ts)
 |[],[]=>some ()
 |t::ts,c::cs=>match as0 t c with
  |some x=>match gaT ts cs with
   |some r=>some (x,r)
   |none=>none
  |none=>none
 |_,_=>none
theorem Bdv: ∀{ts:List Ty} {cs:List TV} {x:Tup ts},gaT ts cs=some x→cs.all TV.isP=true∧cs.map TV.pv=Ayz ts x
 |[],[],_,h=>⟨rfl,rfl⟩
 |[],_::_,_,h=>by cases h
 |_::_,[],_,h=>by cases h
 |t::ts,c::cs,x,h=>by
  simp only[gaT] at h
  split at h
  ·rename_i a ha
   split at h
   ·rename_i r hr
    cases h
    obtain⟨h1,h2⟩:=Bdv hr
    obtain⟨h3,h4⟩:=Bc9 ha
    exact⟨by simp only[List.all_cons,h3,h1,Bool.and_self],by simp only[List.map_cons,h4,h2,Ayz]⟩
   ·cases h
  ·cases h
def gather:(t:Ty)→List TV→Option t.D
 | .st i,cs=>match gaT (Cel.ts i) cs with
  |some x=>some (Cel.put i x)
  |none=>none
 |t,[c]=>as0 t c
 |_,_=>none
theorem Qo{t:Ty}{cs:List TV}{x:t.D}(h:gather t cs=some x):cs.all TV.isP=true∧cs.map TV.pv=(t.e x).cells:=by
 unfold gather at h
 split at h
 ·split at h
  ·rename_i r hr
   cases h
   obtain⟨h1,h2⟩:=Bdv hr
   exact⟨h1,by rw[h2];simp only[Ty.e,PV.cells,Dic.cl_mk]⟩
  ·cases h
 ·rename_i hn
  obtain⟨h1,h2⟩:=Bc9 h
  refine⟨by simp[h1],?_⟩
  have hs:t.scal=true:=by
   cases t with
   |st i=>exact(hn i rfl).elim
   |_=>rfl
  rw[Anl hs,List.map_cons,h2];rfl
 ·cases h
def as1(t:Ty)(w:TV):Option t.D:=match t,w with
 | .st i,.c (.agg ps)=>match gaT (Cel.ts i) (ps.map .c) with
  |some x=>some (Cel.put i x)
  |none=>none
 |t,w=>as0 t w
theorem Lg{t:Ty}{w:TV}{x:t.D}(h:as1 t w=some x):w.isP=true∧w.pv=t.e x:=by
 unfold as1 at h
 split at h
 ·split at h
  ·rename_i ps r hr
   cases h
   obtain⟨h1,h2⟩:=Bdv hr
   refine⟨rfl,?_⟩
   simp only[TV.pv,Ty.e,Dic.cl_mk,←h2,List.map_map]
   congr 1
   exact(List.map_id _).symm
  ·cases h
 ·exact Bc9 h
def spT:(ts:List Ty)→Tup ts→List TV
 |[],_=>[]
 |t::ts,x=> .v t x.1::spT ts x.2
theorem Bf6: ∀(ts:List Ty) (x:Tup ts),(spT ts x).all TV.isP=true∧(spT ts x).map TV.pv=Ayz ts x
 |[],_=>⟨rfl,rfl⟩
 |t::ts,x=>⟨by simp only[spT,List.all_cons,TV.isP,(Bf6 ts x.2).1,Bool.and_self],by simp only[spT,List.map_cons,(Bf6 ts x.2).2,Ayz,TV.pv]⟩
def Q7:(t:Ty)→t.D→List TV
 | .st i,x=>spT (Cel.ts i) (Cel.get i x)
 |t,x=>[.v t x]
theorem Gq(t:Ty)(x:t.D):(Q7 t x).all TV.isP=true∧(Q7 t x).map TV.pv=(t.e x).cells:=by
 cases t with
 |st i=>
  obtain⟨h1,h2⟩:=Bf6 (Cel.ts i) (Cel.get i x)
  exact⟨h1,h2.trans (Dic.cl_get i x).symm⟩
 |_=>exact⟨rfl,by rw[Anl rfl];rfl⟩
theorem Avk{cs:List TV}(h:cs.all TV.isP=true):cs.map TV.u=(cs.map TV.pv).map .pv:=by
 rw[List.map_map]
 refine List.map_congr_left fun w hw=>?_
 exact Oe (List.all_eq_true.1 h w hw)
theorem Apg(xs:List PV):SV.ofCells.pures (xs.map .pv)=some xs:=by
 induction xs with
 |nil=>rfl
 |cons y t ih=>simp[SV.ofCells.pures,ih]
theorem Ax3{cs:List TV}(h:cs.any TV.noP=true):SV.ofCells.pures (cs.map TV.u)=none:=by
 induction cs with
 |nil=>cases h
 |cons c cs ih=>
  simp only[List.map_cons]
  cases hc:c.u with
  |pv x=>
   simp only[List.any_cons,Bool.or_eq_true] at h
   rcases h with h|h
   ·exact absurd hc (Bs8 h x)
   ·simp[SV.ofCells.pures,ih h]
  |_=>rfl
def TV.cells:TV→Option (List TV)
 | .v t x=>some (Q7 t x)
 | .c p=>some (p.cells.map tc)
 | .agg _ cs=>some cs
 | .gd .. =>none
 |w=>some [w]
theorem Z3{w:TV}{cs:List TV}(h:w.cells=some cs):w.u.cells=cs.map TV.u:=by
 cases w<;>simp only[TV.cells,Option.some.injEq] at h<;>try subst h
 ·rename_i t x
  rw[Avk (Gq t x).1,(Gq t x).2];rfl
 ·rename_i p
  simp only[TV.u,SV.cells,List.map_map]
  refine List.map_congr_left fun x _=>?_
  exact(Bsj x).symm
 case agg=>simp only[TV.u,SV.cells,Ix]
 case gd=>cases h
 all_goals rfl
def ofC(agg:Bool)(t:Ty)(cs:List TV):Option TV:=
 match agg with
 |true=>match t with
  | .st i=>match cs.all TV.isP with
   |true=>match gather (.st i) cs with
    |some x=>some (.v (.st i) x)
    |none=>none
   |false=>match cs.any TV.noP with
    |true=>some (.agg (.st i) cs)
    |false=>none
  |_=>none
 |false=>match cs with
  |[c]=>some c
  |_=>none
theorem Bmw{agg:Bool}{t:Ty}{cs:List TV}{w:TV}(h:ofC agg t cs=some w):SV.ofCells agg (cs.map TV.u)=some w.u:=by
 unfold ofC at h
 split at h
 ·split at h
  ·split at h
   ·rename_i i ha
    split at h
    ·rename_i x hx
     cases h
     obtain⟨h1,h2⟩:=Qo hx
     rw[Avk h1,h2]
     simp only[SV.ofCells,cond_true,Apg];rfl
    ·cases h
   ·split at h
    ·rename_i hn
     cases h
     simp only[SV.ofCells,cond_true,Ax3 hn,TV.u,Ix]
    ·cases h
  ·cases h
 ·split at h
  ·cases h;rfl
  ·cases h
end
end Go.Av
end
section
namespace Go.Av
def Eh{α β:Type}(f:α→Option β):List α→Option (List β)
 |[]=>some []
 |a::l=>match f a with
  |some b=>match Eh f l with
   |some r=>some (b::r)
   |none=>none
  |none=>none
theorem Gr{α β:Type}{f:α→Option β}{a:α}{l:List α}{r:List β}(h:Eh f (a::l)=some r): ∃b r',f a=some b∧Eh f l=some r'∧r=b::r':=by
 simp only[Eh] at h
 split at h
 ·rename_i b hb
  split at h
  ·rename_i r' hr;cases h;exact⟨b,r',hb,hr,rfl⟩
  ·cases h
 ·cases h
theorem H8{α β γ δ:Type}{f:α→Option β}{g:α→γ}{g':β→δ}{F:γ→δ}(hf: ∀a b,f a=some b→g' b=F (g a)): ∀{l:List α} {r:List β},Eh f l=some r→r.map g'=(l.map g).map F
 |[],_,h=>by cases h;rfl
 |a::l,r,h=>by
  obtain⟨b,r',h1,h2,rfl⟩:=Gr h
  simp only[List.map_cons,hf a b h1,H8 hf h2]
section
variable [Dic]
inductive TO where
 |box (cs:List TV)
 |row (t:Ty) (l:List t.D)
 |map (kt vt:Ty) (es:List (kt.D×vt.D))
def Ty.kk:Ty→KK
 | .int k=> .i k
 | .bool=> .b
 |_=> .s
def Bix(kt vt:Ty)(e:kt.D×vt.D):PV×PV:=(kt.e e.1,vt.e e.2)
def TO.u:TO→Ah
 | .box cs=> .box (cs.map TV.u)
 | .row t l=> .row t.sz (List.map t.e l)
 | .map kt vt es=> .map kt.kk (List.map (Bix kt vt) es)
structure Fr where
 s:List Nat
 k:List Key
structure TSt where
 sl:List (Nat×TV)
 hp:List (Key×TO)
 gs:List Nat
 fr:Fr
def Gi:List (Nat×TV)→Nat→TV
 |[],_=> .dead
 |(i,v)::r,j=>bif i==j then v else Gi r j
def B5:List (Key×TO)→Key→Option TO
 |[],_=>none
 |(i,v)::r,j=>if i=j then some v else B5 r j
def TSt.get(σ:TSt)(t:Nat):TV:=Gi σ.sl t
def TSt.look(σ:TSt)(k:Key):Option TO:=B5 σ.hp k
def slU(p:Nat×TV):Nat×SV:=(p.1,p.2.u)
def hpU(p:Key×TO):Key×Ah:=(p.1,p.2.u)
def TSt.u(σ:TSt):St:=⟨σ.sl.map slU,σ.hp.map hpU⟩
theorem Bl8: ∀(l:List (Nat×TV)) (t:Nat),Uf (l.map slU) t=(Gi l t).u
 |[],_=>rfl
 |p::l,t=>by
  simp only[List.map_cons,slU,Uf,Gi]
  cases p.1==t with
  |true=>rfl
  |false=>exact Bl8 l t
theorem Bhi: ∀(l:List (Key×TO)) (k:Key),Ay (l.map hpU) k=(B5 l k).map TO.u
 |[],_=>rfl
 |p::l,k=>by
  simp only[List.map_cons,hpU,Ay,B5]
  split
  ·rfl
  ·exact Bhi l k
theorem A3n(σ:TSt)(t:Nat):σ.u.get t=(σ.get t).u:=Bl8 σ.sl t
theorem Bok(σ:TSt)(k:Key):σ.u.look k=(σ.look k).map TO.u:=Bhi σ.hp k
theorem A6{σ:TSt}{k:Key}{o:TO}(h:σ.look k=some o):σ.u.look k=some o.u:=by rw[Bok,h];rfl
theorem Ho{σ:TSt}{k:Key}(h:σ.look k=none):σ.u.look k=none:=by rw[Bok,h];rfl
def gtr:Bool→Bool→Bool
 |true,c=>c
 |false,c=> !c
theorem Bma(b c:Bool):(c==b)=gtr b c:=by cases b<;>cases c<;>rfl
def TSt.gv(σ:TSt)(t:Nat)(b:Bool):Option Bool:=match σ.get t with
 | .v .bool c=>some (gtr b c)
 | .gd _ _ q (.v .bool c)=>some (q&&gtr b c)
 |_=>none
theorem Bmb{σ:TSt}{t:Nat}{b q:Bool}(h:σ.gv t b=some q):σ.u.wants (some (t,b))=some q:=by
 unfold TSt.gv at h
 simp only[St.wants,A3n]
 split at h
 ·rename_i c e
  cases h
  rw[e];exact congrArg some (Bma b c)
 ·rename_i q' c e
  cases h
  rw[e]
  cases q' with
  |true=>exact congrArg some (Bma b c)
  |false=>rfl
 ·cases h
def TV.dem:TV→TV
 | .iown k n off t e _=> .iown k n off t e false
 |w=>w
theorem dem_u(w:TV):w.dem.u=w.u:=by cases w<;>rfl
def TV.tame:TV→Bool
 | .gd .. =>false
 | .iown _ _ _ _ _ ok=> !ok
 |_=>true
structure Inv (σ:TSt):Prop where
 gd: ∀s t b q x,σ.get s= .gd t b q x→t∈σ.gs∧σ.gv t b=some q∧x.tame=true
 io: ∀s k n off t e,σ.get s= .iown k n off t e true→0≤n∧ ∃l:List t.D,σ.look k=some (.row t l)∧l[n.toNat]? =some e
def TV.nmd(k:Key):TV→Option Bool
 | .ptr k' _=>some (decide (k'=k))
 | .own k'=>some (decide (k'=k))
 | .mp k'=>some (decide (k'=k))
 | .iown k' _ _ _ _ _=>some (decide (k'=k))
 | .agg _ cs=>nmdL k cs
 | .tup cs=>nmdL k cs
 | .fn _ cs=>nmdL k cs
 | .gd _ _ _ x=>match TV.nmd k x with
  |some false=>some false
  |_=>none
 |_=>some false
where
 nmdL (k:Key):List TV→Option Bool
  |[]=>some false
  |a::cs=>match TV.nmd k a with
   |some p=>match nmdL k cs with
    |some q=>some (p||q)
    |none=>none
   |none=>none
mutual
theorem nmd_u(k:Key): ∀(w:TV) (p:Bool),w.nmd k=some p→w.u.names k=p
 | .v _ _,_,h| .c _,_,h| .nils,_,h| .iv _ _ _,_,h| .ic _ _,_,h| .dead,_,h=>by cases h;rfl
 | .ptr _ _,_,h| .own _,_,h| .mp _,_,h| .iown _ _ _ _ _ _,_,h=>by cases h;rfl
 | .agg _ cs,p,h=>nmdL_u k cs p h
 | .tup cs,p,h=>nmdL_u k cs p h
 | .fn _ cs,p,h=>nmdL_u k cs p h
 | .gd _ _ q x,p,h=>by
  simp only[TV.nmd] at h
  split at h
  ·rename_i e
   cases h
   cases q with
   |true=>exact nmd_u k x _ e
   |false=>rfl
  ·cases h
theorem nmdL_u(k:Key): ∀(cs:List TV) (p:Bool),TV.nmd.nmdL k cs=some p→SV.names.namesL k (TV.u.uL cs)=p
 |[],_,h=>by cases h;rfl
 |a::cs,p,h=>by
  simp only[TV.nmd.nmdL] at h
  split at h
  ·rename_i p1 e1
   split at h
   ·rename_i p2 e2
    cases h
    simp only[TV.u.uL,SV.names.namesL,nmd_u k a _ e1,nmdL_u k cs _ e2]
   ·cases h
  ·cases h
end
def TV.kill0(k:Key)(w:TV):Option TV:=match w.nmd k with
 |some true=>some .dead
 |some false=>some w.dem
 |none=>none
def TV.kill(k:Key)(w:TV):Option TV:=match w with
 | .gd t b q x=>match x.nmd k with
  |some true=>some (.gd t b q .dead)
  |some false=>some (.gd t b q x)
  |none=>none
 |w=>w.kill0 k
theorem Bpg{k:Key}{w w':TV}(h:w.kill0 k=some w'):w'.u=w.u.kill k:=by
 unfold TV.kill0 at h
 unfold SV.kill
 split at h
 ·rename_i e;cases h;rw[nmd_u k w _ e];rfl
 ·rename_i e;cases h;rw[nmd_u k w _ e,dem_u];rfl
 ·cases h
theorem kill_u{k:Key}{w w':TV}(h:w.kill k=some w'):w'.u=w.u.kill k:=by
 unfold TV.kill at h
 split at h
 ·rename_i t b q x
  split at h
  ·rename_i e
   cases h
   cases q with
   |true=>
    show SV.dead=SV.kill k x.u
    unfold SV.kill
    rw[nmd_u k x _ e];rfl
   |false=>rfl
  ·rename_i e
   cases h
   cases q with
   |true=>
    show x.u=SV.kill k x.u
    unfold SV.kill
    rw[nmd_u k x _ e];rfl
   |false=>rfl
  ·cases h
 ·exact Bpg h
def TO.kill(k:Key):TO→Option TO
 | .box cs=>match Eh (TV.kill k) cs with
  |some cs'=>some (.box cs')
  |none=>none
 |o=>some o
theorem TO.kill_u{k:Key}{o o':TO}(h:o.kill k=some o'):o'.u=o.u.kill k:=by
 cases o with
 |box cs=>
  simp only[TO.kill] at h
  split at h
  ·rename_i cs' e
   cases h
   simp only[TO.u,Ah.kill,H8 (g:=TV.u) (g':=TV.u) (F:=SV.kill k) (fun a b e=>Av.kill_u e) e]
  ·cases h
 |_=>cases h;rfl
def onS(f:TV→Option TV)(p:Nat×TV):Option (Nat×TV):=match f p.2 with
 |some w=>some (p.1,w)
 |none=>none
def onH(f:TO→Option TO)(p:Key×TO):Option (Key×TO):=match f p.2 with
 |some o=>some (p.1,o)
 |none=>none
theorem Bqv{f:TV→Option TV}{F:SV→SV}(hf: ∀w w',f w=some w'→w'.u=F w.u){l r:List (Nat×TV)}(h:Eh (onS f) l=some r):r.map slU=(l.map slU).map fun p=>(p.1,F p.2):=by
 refine H8 (fun a b e=>?_) h
 unfold onS at e
 split at e
 ·rename_i w hw;cases e;simp only[slU,hf _ _ hw]
 ·cases e
theorem Bqu{f:TO→Option TO}{F:Ah→Ah}(hf: ∀w w',f w=some w'→w'.u=F w.u){l r:List (Key×TO)}(h:Eh (onH f) l=some r):r.map hpU=(l.map hpU).map fun p=>(p.1,F p.2):=by
 refine H8 (fun a b e=>?_) h
 unfold onH at e
 split at e
 ·rename_i w hw;cases e;simp only[hpU,hf _ _ hw]
 ·cases e
theorem Al6(p:Key→Bool)(l:List (Key×TO)):(l.filter fun q=>p q.1).map hpU=(l.map hpU).filter fun q=>p q.1:=by
 induction l with
 |nil=>rfl
 |cons a l ih=>
  simp only[List.filter_cons,List.map_cons,show(hpU a).1=a.1 from rfl]
  split<;>simp[ih]
def TSt.kill(σ:TSt)(k:Key):Option TSt:=match Eh (onS (TV.kill k)) σ.sl with
 |some sl=>match Eh (onH (TO.kill k)) (σ.hp.filter fun p=>decide (p.1≠k)) with
  |some hp=>some ⟨sl,hp,σ.gs,σ.fr⟩
  |none=>none
 |none=>none
theorem TSt.kill_u{σ σ':TSt}{k:Key}(h:σ.kill k=some σ'):σ'.u=σ.u.kill k:=by
 unfold TSt.kill at h
 split at h
 ·rename_i sl e1
  split at h
  ·rename_i hp e2
   cases h
   simp only[TSt.u,St.kill,Bqv (fun w w' e=>Av.kill_u e) e1,Bqu (fun w w' e=>TO.kill_u e) e2]
   congr 2
   exact Al6 (fun q=>decide (q≠k)) σ.hp
  ·cases h
 ·cases h
structure Bkl (f:TV→Option TV):Prop where
 bool: ∀c w,f (.v .bool c)=some w→w= .v .bool c
 gd: ∀t b q c w,f (.gd t b q (.v .bool c))=some w→w= .gd t b q (.v .bool c)
 back: ∀y w t b q x,f y=some w→w= .gd t b q x→y=w∨(x.tame=true∧ ∃x0,y= .gd t b q x0)
 io: ∀y w k n off t e,f y=some w→w≠ .iown k n off t e true
theorem Wt{f:TV→Option TV}: ∀{l r:List (Nat×TV)},Eh (onS f) l=some r→ ∀t,(Gi l t= .dead∧Gi r t= .dead)∨f (Gi l t)=some (Gi r t)
 |[],_,h,t=>by cases h;exact .inl ⟨rfl,rfl⟩
 |a::l,r,h,t=>by
  obtain⟨b,r',h1,h2,rfl⟩:=Gr h
  unfold onS at h1
  split at h1
  ·rename_i w hw
   cases h1
   simp only[Gi]
   cases a.1==t with
   |true=>exact .inr hw
   |false=>exact Wt h2 t
  ·cases h1
theorem Inv.onS{σ:TSt}(hI:Inv σ){f:TV→Option TV}(hf:Bkl f){sl:List (Nat×TV)}(h:Eh (onS f) σ.sl=some sl)(hp:List (Key×TO)):Inv ⟨sl,hp,σ.gs,σ.fr⟩ where
 gd s t b q x e:=by
  have e:Gi sl s= .gd t b q x:=e
  rcases Wt h s with⟨h1,h2⟩|h1
  ·rw[h2] at e;cases e
  ·rw[e] at h1
   obtain⟨h2,h3,h4⟩:t∈σ.gs∧σ.gv t b=some q∧x.tame=true:=by
    rcases hf.back _ _ _ _ _ _ h1 rfl with h|⟨ht,x0,h⟩
    ·exact hI.gd s t b q x h
    ·obtain⟨h2,h3,_⟩:=hI.gd s t b q x0 h
     exact⟨h2,h3,ht⟩
   refine⟨h2,?_,h4⟩
   unfold TSt.gv at h3⊢
   show(match Gi sl t with| .v .bool c=>some (gtr b c)| .gd _ _ q (.v .bool c)=>some (q&&gtr b c)|_=>none)=some q
   have key: ∀w,Gi σ.sl t=w→(∀w',f w=some w'→w'=w)→w≠ .dead→Gi sl t=w:=by
    intro w e hw hd
    rcases Wt h t with⟨h4,h5⟩|h4
    ·exact absurd (e.symm.trans h4) hd
    ·rw[e] at h4;exact hw _ h4
   split at h3
   ·rename_i c e2
    rw[key _ e2 (fun w' hw=>hf.bool _ _ hw) (by intro e;cases e)];exact h3
   ·rename_i e2
    rw[key _ e2 (fun w' hw=>hf.gd _ _ _ _ _ hw) (by intro e;cases e)];exact h3
   ·cases h3
 io s k n off t e he:=by
  have he:Gi sl s= .iown k n off t e true:=he
  rcases Wt h s with⟨h1,h2⟩|h1
  ·rw[h2] at he;cases he
  ·exact absurd he (hf.io _ _ _ _ _ _ _ h1)
theorem A2i(k:Key):Bkl (TV.kill k) where
 bool c w h:=by cases h;rfl
 gd t b q c w h:=by cases h;rfl
 back y w t b q x h e:=by
  subst e
  unfold TV.kill at h
  split at h
  ·split at h
   ·cases h;exact .inr ⟨rfl,_,rfl⟩
   ·cases h;exact .inl rfl
   ·cases h
  ·rename_i hy
   unfold TV.kill0 at h
   split at h
   ·cases h
   ·cases y<;>simp only[TV.dem,Option.some.injEq] at h<;>first|exact .inl h|cases h
   ·cases h
 io y w k n off t e h:=by
  intro he
  subst he
  unfold TV.kill at h
  split at h
  ·split at h<;>cases h
  ·unfold TV.kill0 at h
   split at h
   ·cases h
   ·cases y<;>simp[TV.dem] at h
   ·cases h
theorem Inv.kill{σ σ':TSt}(hI:Inv σ){k:Key}(h:σ.kill k=some σ'):Inv σ':=by
 unfold TSt.kill at h
 split at h
 ·rename_i sl e1
  split at h
  ·cases h;exact hI.onS (A2i k) e1 _
  ·cases h
 ·cases h
def TSt.killAll(σ:TSt):List Key→Option TSt
 |[]=>some σ
 |k::ks=>match σ.kill k with
  |some σ'=>σ'.killAll ks
  |none=>none
theorem I2: ∀{ks:List Key} {σ σ':TSt},σ.killAll ks=some σ'→σ'.u=σ.u.killAll ks
 |[],σ,σ',h=>by cases h;rfl
 |k::ks,σ,σ',h=>by
  simp only[TSt.killAll] at h
  split at h
  ·rename_i σ1 e
   rw[I2 h,TSt.kill_u e];rfl
  ·cases h
theorem Inv.killAll: ∀{ks:List Key} {σ σ':TSt},Inv σ→σ.killAll ks=some σ'→Inv σ'
 |[],σ,σ',hI,h=>by cases h;exact hI
 |k::ks,σ,σ',hI,h=>by
  simp only[TSt.killAll] at h
  split at h
  ·rename_i σ1 e;exact(hI.kill e).killAll h
  ·cases h
def TV.cln0:TV→Option TV
 | .v t x=>some (.v t x)
 | .c x=>some (.c x)
 | .nils=>some (.c (.slice []))
 | .fn f []=>some (.c (.fn f))
 |_=>none
theorem Brm{w w':TV}(h:w.cln0=some w'):w.u.clean=some w'.pv∧w'.isP=true∧(∀cs,w.u≠ .agg cs):=by
 unfold TV.cln0 at h
 split at h<;>cases h<;>refine⟨rfl,rfl,fun cs e=>?_⟩<;>cases e
def A3v:TV→Bool
 | .v _ _=>false
 | .c _=>false
 | .nils=>false
 | .fn _ []=>false
 | .gd .. =>false
 |_=>true
theorem Arh: ∀{cs cs':List TV},Eh TV.cln0 cs=some cs'→SV.clean.cleanL (cs.map TV.u)=some (cs'.map TV.pv)
 |[],_,h=>by cases h;rfl
 |a::cs,r,h=>by
  obtain⟨b,r',h1,h2,rfl⟩:=Gr h
  obtain⟨h3,h4,h5⟩:=Brm h1
  simp only[List.map_cons,SV.clean.cleanL,h3,Arh h2]
theorem Arg: ∀{cs:List TV},cs.any A3v=true→SV.clean.cleanL (cs.map TV.u)=none
 |[],h=>by cases h
 |a::cs,h=>by
  simp only[List.any_cons,Bool.or_eq_true] at h
  simp only[List.map_cons,SV.clean.cleanL]
  rcases h with h|h
  ·cases a<;>simp only[A3v,Bool.false_eq_true] at h<;>(try cases h)<;>try (simp only[TV.u,SV.clean];done)
   rename_i f caps
   cases caps with
   |nil=>simp at h
   |cons c caps=>simp only[TV.u,TV.u.uL,SV.clean]
  ·rw[Arg h]
   split<;>rfl
def TV.tidy(w:TV):Option TV:=match w with
 | .v t x=>some (.v t x)
 | .c x=>some (.c x)
 | .nils=>some (.c (.slice []))
 | .fn f []=>some (.c (.fn f))
 | .gd .. =>none
 | .agg t cs=>match Eh TV.cln0 cs with
  |some cs'=>match t with
   | .st i=>match gather (.st i) cs' with
    |some x=>some (.v (.st i) x)
    |none=>none
   |_=>none
  |none=>match cs.any A3v with
   |true=>some (.agg t cs)
   |false=>none
 |w=>some w
theorem tidy_u{w w':TV}(h:w.tidy=some w'):w'.u=w.u.tidy:=by
 unfold TV.tidy at h
 split at h
 ·cases h;rfl
 ·cases h;rfl
 ·cases h;rfl
 ·cases h;rfl
 ·cases h
 ·rename_i t cs
  split at h
  ·rename_i cs' e
   split at h
   ·split at h
    ·rename_i i x hx
     cases h
     obtain⟨_,h2⟩:=Qo hx
     simp only[TV.u,SV.tidy,SV.clean,Ix,Arh e,Option.map_some]
     rw[h2];rfl
    ·cases h
   ·cases h
  ·split at h
   ·rename_i hb
    cases h
    simp only[TV.u,SV.tidy,SV.clean,Ix,Arg hb,Option.map_none]
   ·cases h
 ·rename_i h1 h2 h3 h4 h5 h6
  cases h
  cases w<;>first|(exact(h1 _ _ rfl).elim)|(exact(h2 _ rfl).elim)|(exact(h3 rfl).elim)|(exact(h5 _ _ _ _ rfl).elim)|(exact(h6 _ _ rfl).elim)|rfl|skip
  rename_i f caps
  cases caps with
  |nil=>exact(h4 _ rfl).elim
  |cons c caps=>rfl
def TO.tidy:TO→Option TO
 | .box cs=>match Eh TV.tidy cs with
  |some cs'=>some (.box cs')
  |none=>none
 |o=>some o
theorem TO.tidy_u{o o':TO}(h:o.tidy=some o'):o'.u=o.u.tidy:=by
 cases o with
 |box cs=>
  simp only[TO.tidy] at h
  split at h
  ·rename_i cs' e
   cases h
   simp only[TO.u,Ah.tidy,H8 (g:=TV.u) (g':=TV.u) (F:=SV.tidy) (fun a b e=>Av.tidy_u e) e]
  ·cases h
 |_=>cases h;rfl
end
end Go.Av
end
section
namespace Go.Av
mutual
theorem freeze_none(k:Key)(x:PV): ∀(w:SV),w.names k=false→w.freeze k x=w
 | .pv _,_| .nils,_| .ipv _ _,_| .dead,_=>rfl
 | .ptr k' _,h| .own k',h| .mp k',h| .iown k' _ _,h=>by
  simp only[SV.names,decide_eq_false_iff_not] at h
  simp[SV.freeze,h]
 | .agg cs,h=>by simp only[SV.freeze,freezeL_none k x cs h]
 | .tup cs,h=>by simp only[SV.freeze,freezeL_none k x cs h]
 | .fn f cs,h=>by simp only[SV.freeze,freezeL_none k x cs h]
theorem freezeL_none(k:Key)(x:PV): ∀(cs:List SV),SV.names.namesL k cs=false→SV.freeze.freezeL k x cs=cs
 |[],_=>rfl
 |c::cs,h=>by
  simp only[SV.names.namesL,Bool.or_eq_false_iff] at h
  simp only[SV.freeze.freezeL,freeze_none k x c h.1,freezeL_none k x cs h.2]
end
section
variable [Dic]
structure Ice where
 own:Option TV
 box:Option (List TV)
 is:PV
def Ice.ok(I:Ice):Prop:=(∀w,I.own=some w→w.u= .pv I.is)∧ ∀cs,I.box=some cs→I.is= .agg (cs.map TV.pv)
def TV.frz(k:Key)(I:Ice):TV→Option TV
 | .own k'=>if k'=k then I.own else some (.own k')
 | .ptr k' off=>if k'=k then(match I.box with
   |some cs=>some (.ic cs off)
   |none=>none) else some (.ptr k' off)
 | .iown k' n off t e _=>if k'=k then some .dead else some (.iown k' n off t e false)
 | .mp k'=>if k'=k then some .dead else some (.mp k')
 | .agg t cs=>match frzL k I cs with
  |some cs'=>some (.agg t cs')
  |none=>none
 | .tup cs=>match frzL k I cs with
  |some cs'=>some (.tup cs')
  |none=>none
 | .fn f cs=>match frzL k I cs with
  |some cs'=>some (.fn f cs')
  |none=>none
 | .gd t b q x=>match TV.frz k I x with
  |some x'=>match x'.tame with
   |true=>some (.gd t b q x')
   |false=>none
  |none=>none
 |w=>some w
where
 frzL (k:Key) (I:Ice):List TV→Option (List TV)
  |[]=>some []
  |a::cs=>match TV.frz k I a with
   |some a'=>match frzL k I cs with
    |some cs'=>some (a'::cs')
    |none=>none
   |none=>none
mutual
theorem frz_u{k:Key}{I:Ice}(hI:I.ok): ∀(w w':TV),w.frz k I=some w'→w'.u=w.u.freeze k I.is
 | .v _ _,_,h| .c _,_,h| .nils,_,h| .iv _ _ _,_,h| .ic _ _,_,h| .dead,_,h=>by cases h;rfl
 | .own k',w',h=>by
  simp only[TV.frz] at h
  split at h
  ·rename_i e;subst e;simp[TV.u,SV.freeze,hI.1 _ h]
  ·rename_i e;cases h;simp[TV.u,SV.freeze,e]
 | .ptr k' off,w',h=>by
  simp only[TV.frz] at h
  split at h
  ·rename_i e
   split at h
   ·rename_i cs hc;cases h;subst e;simp only[TV.u,SV.freeze,if_true,hI.2 _ hc]
   ·cases h
  ·rename_i e;cases h;simp[TV.u,SV.freeze,e]
 | .iown k' n off t x ok,w',h=>by
  simp only[TV.frz] at h
  split at h<;>(rename_i e;cases h;simp[TV.u,SV.freeze,e])
 | .mp k',w',h=>by
  simp only[TV.frz] at h
  split at h<;>(rename_i e;cases h;simp[TV.u,SV.freeze,e])
 | .agg t cs,w',h=>by
  simp only[TV.frz] at h
  split at h
  ·rename_i cs' e;cases h;simp only[TV.u,SV.freeze,frzL_u hI cs cs' e]
  ·cases h
 | .tup cs,w',h=>by
  simp only[TV.frz] at h
  split at h
  ·rename_i cs' e;cases h;simp only[TV.u,SV.freeze,frzL_u hI cs cs' e]
  ·cases h
 | .fn f cs,w',h=>by
  simp only[TV.frz] at h
  split at h
  ·rename_i cs' e;cases h;simp only[TV.u,SV.freeze,frzL_u hI cs cs' e]
  ·cases h
 | .gd t b q x,w',h=>by
  simp only[TV.frz] at h
  split at h
  ·rename_i x' e
   split at h
   ·cases h
    cases q with
    |true=>exact frz_u hI x x' e
    |false=>rfl
   ·cases h
  ·cases h
theorem frzL_u{k:Key}{I:Ice}(hI:I.ok): ∀(cs cs':List TV),TV.frz.frzL k I cs=some cs'→TV.u.uL cs'=SV.freeze.freezeL k I.is (TV.u.uL cs)
 |[],_,h=>by cases h;rfl
 |a::cs,r,h=>by
  simp only[TV.frz.frzL] at h
  split at h
  ·rename_i a' e1
   split at h
   ·rename_i cs' e2
    cases h
    simp only[TV.u.uL,SV.freeze.freezeL,frz_u hI a a' e1,frzL_u hI cs cs' e2]
   ·cases h
  ·cases h
end
theorem A88(k:Key)(I:Ice)(hI: ∀w,I.own=some w→ ∃t x,w= .v t x):Bkl (TV.frz k I) where
 bool c w h:=by cases h;rfl
 gd t b q c w h:=by cases h;rfl
 back y w t b q x h e:=by
  subst e
  cases y with
  |gd t' b' q' x0=>
   simp only[TV.frz] at h
   split at h
   ·split at h
    ·rename_i ht;cases h;exact .inr ⟨ht,_,rfl⟩
    ·cases h
   ·cases h
  |own k'=>
   simp only[TV.frz] at h
   split at h
   ·obtain⟨t,x,e⟩:=hI _ h
    cases e
   ·cases h
  |_=>simp only[TV.frz] at h<;>(try split at h)<;>(try split at h)<;>first|(cases h;done)|skip
 io y w k' n off t e h:=by
  intro he
  subst he
  cases y with
  |own k'=>
   simp only[TV.frz] at h
   split at h
   ·obtain⟨t,x,e⟩:=hI _ h
    cases e
   ·cases h
  |_=>simp only[TV.frz] at h<;>(try split at h)<;>(try split at h)<;>first|(cases h;done)|skip
def TO.frz(k:Key)(I:Ice):TO→Option TO
 | .box cs=>match Eh (TV.frz k I) cs with
  |some cs'=>some (.box cs')
  |none=>none
 |o=>some o
theorem TO.frz_u{k:Key}{I:Ice}(hI:I.ok){o o':TO}(h:o.frz k I=some o'):o'.u=o.u.freeze k I.is:=by
 cases o with
 |box cs=>
  simp only[TO.frz] at h
  split at h
  ·rename_i cs' e
   cases h
   simp only[TO.u,Ah.freeze,H8 (g:=TV.u) (g':=TV.u) (F:=SV.freeze k I.is) (fun a b e=>Av.frz_u hI a b e) e]
  ·cases h
 |_=>cases h;rfl
def TSt.ice(σ:TSt)(k:Key)(I:Ice):Option TSt:=match Eh (onS (TV.frz k I)) σ.sl with
 |some sl=>match Eh (onH (TO.frz k I)) (σ.hp.filter fun p=>decide (p.1≠k)) with
  |some hp=>some ⟨sl,hp,σ.gs,σ.fr⟩
  |none=>none
 |none=>none
def TSt.freeze(σ:TSt)(k:Key):Option TSt:=match σ.look k with
 |some (.row t l)=>σ.ice k ⟨some (.v (.sl t) l),none,.slice (List.map t.e l)⟩
 |some (.box cs)=>match cs.all TV.isP with
  |true=>σ.ice k ⟨none,some cs,.agg (cs.map TV.pv)⟩
  |false=>match cs.any TV.noP with
   |true=>some σ
   |false=>none
 |_=>some σ
theorem Bqo{σ σ':TSt}{k:Key}{I:Ice}(hI:I.ok)(hl:(σ.u.look k).bind Ah.frozen=some I.is)(h:σ.ice k I=some σ'):σ'.u=σ.u.freeze k:=by
 unfold TSt.ice at h
 split at h
 ·rename_i sl e1
  split at h
  ·rename_i hp e2
   cases h
   simp only[St.freeze,hl]
   simp only[TSt.u,Bqv (fun w w' e=>Av.frz_u hI w w' e) e1,Bqu (fun w w' e=>TO.frz_u hI e) e2]
   congr 2
   exact Al6 (fun q=>decide (q≠k)) σ.hp
  ·cases h
 ·cases h
theorem Inv.ice{σ σ':TSt}(hI:Inv σ){k:Key}{I:Ice}(hw: ∀w,I.own=some w→ ∃t x,w= .v t x)(h:σ.ice k I=some σ'):Inv σ':=by
 unfold TSt.ice at h
 split at h
 ·rename_i sl e1
  split at h
  ·cases h;exact hI.onS (A88 k I hw) e1 _
  ·cases h
 ·cases h
theorem A3u{σ σ':TSt}{k:Key}(hI:Inv σ)(h:σ.freeze k=some σ'):σ'.u=σ.u.freeze k∧Inv σ':=by
 unfold TSt.freeze at h
 split at h
 ·rename_i t l e
  exact⟨Bqo ⟨fun w hw=>(by cases hw;rfl),fun cs hc=>(by cases hc)⟩ (by rw[A6 e];rfl) h,hI.ice (fun w hw=>(by cases hw;exact⟨_,_,rfl⟩)) h⟩
 ·rename_i cs e
  split at h
  ·rename_i ha
   exact⟨Bqo ⟨fun w hw=>(by cases hw),fun cs hc=>(by cases hc;rfl)⟩ (by rw[A6 e];simp only[TO.u,Option.bind_some,Ah.frozen,Avk ha,Apg,Option.map_some]) h,hI.ice (fun w hw=>(by cases hw)) h⟩
  ·split at h
   ·rename_i hn
    cases h
    refine⟨?_,hI⟩
    unfold St.freeze
    simp only[A6 e,TO.u,Option.bind_some,Ah.frozen,Ax3 hn,Option.map_none]
   ·cases h
 ·rename_i h1 h2
  cases h
  refine⟨?_,hI⟩
  unfold St.freeze
  cases e:σ.look k with
  |none=>simp only[Ho e,Option.bind_none]
  |some o=>
   cases o with
   |box cs=>exact(h2 _ e).elim
   |row t l=>exact(h1 _ _ e).elim
   |map kt vt es=>simp only[A6 e,Option.bind_some,TO.u,Ah.frozen]
def TSt.freezeAll(σ:TSt):List Key→Option TSt
 |[]=>some σ
 |k::ks=>match σ.freeze k with
  |some σ'=>σ'.freezeAll ks
  |none=>none
theorem Agz: ∀{ks:List Key} {σ σ':TSt},Inv σ→σ.freezeAll ks=some σ'→σ'.u=σ.u.freezeAll ks∧Inv σ'
 |[],σ,σ',hI,h=>by cases h;exact⟨rfl,hI⟩
 |k::ks,σ,σ',hI,h=>by
  simp only[TSt.freezeAll] at h
  split at h
  ·rename_i σ1 e
   obtain⟨h1,h2⟩:=A3u hI e
   obtain⟨h3,h4⟩:=Agz h2 h
   exact⟨by rw[h3,h1];rfl,h4⟩
  ·cases h
def TSt.put(σ:TSt)(d:Option Nat)(w:TV):Option TSt:=match d with
 |some d=>match σ.gs.contains d with
  |false=>some ⟨(d,w)::σ.sl,σ.hp,σ.gs,σ.fr⟩
  |true=>none
 |none=>some σ
theorem Alr{σ σ':TSt}{d:Option Nat}{w:TV}(h:σ.put d w=some σ'):σ'.u=σ.u.put d w.u:=by
 unfold TSt.put at h
 split at h
 ·split at h
  ·cases h;rfl
  ·cases h
 ·cases h;rfl
theorem Bg9{σ:TSt}{d t:Nat}{w:TV}{b:Bool}(h:d≠t):TSt.gv ⟨(d,w)::σ.sl,σ.hp,σ.gs,σ.fr⟩ t b=σ.gv t b:=by
 have:TSt.get ⟨(d,w)::σ.sl,σ.hp,σ.gs,σ.fr⟩ t=σ.get t:=by
  show Gi ((d,w)::σ.sl) t=Gi σ.sl t
  have:(d==t)=false:=by simpa using h
  simp[Gi,this]
 unfold TSt.gv
 rw[this]
theorem Inv.put'{σ σ':TSt}(hI:Inv σ){d:Option Nat}{w:TV}(hg: ∀t b q x,w= .gd t b q x→t∈σ.gs∧σ.gv t b=some q∧x.tame=true)
  (hi: ∀k n off t e,w= .iown k n off t e true→0≤n∧ ∃l:List t.D,σ.look k=some (.row t l)∧l[n.toNat]? =some e)(h:σ.put d w=some σ'):Inv σ':=by
 unfold TSt.put at h
 split at h
 ·rename_i d
  split at h
  ·rename_i hc
   cases h
   have hd: ∀t∈σ.gs,d≠t:=fun t ht e=>by
    subst e
    rw[List.contains_iff_mem.2 ht] at hc;cases hc
   have hget: ∀s,TSt.get ⟨(d,w)::σ.sl,σ.hp,σ.gs,σ.fr⟩ s=bif d==s then w else σ.get s:=fun s=>rfl
   refine⟨fun s t b q x e=>?_,fun s k n off t e he=>?_⟩
   ·rw[hget] at e
    cases hs:d==s with
    |true=>
     rw[hs] at e
     obtain⟨h1,h2,h3⟩:=hg t b q x e
     exact⟨h1,(Bg9 (hd t h1)).trans h2,h3⟩
    |false=>
     rw[hs] at e
     obtain⟨h1,h2,h3⟩:=hI.gd s t b q x e
     exact⟨h1,(Bg9 (hd t h1)).trans h2,h3⟩
   ·rw[hget] at he
    cases hs:d==s with
    |true=>rw[hs] at he;exact hi k n off t e he
    |false=>rw[hs] at he;exact hI.io s k n off t e he
  ·cases h
 ·cases h;exact hI
theorem Inv.put{σ σ':TSt}(hI:Inv σ){d:Option Nat}{w:TV}(hw:w.tame=true)(h:σ.put d w=some σ'):Inv σ':=by
 refine hI.put' (fun t b q x e=>?_) (fun k n off t x e=>?_) h
 ·subst e;cases hw
 ·subst e;cases hw
def TSt.dem(σ:TSt):TSt:=⟨σ.sl.map fun p=>(p.1,p.2.dem),σ.hp,σ.gs,σ.fr⟩
theorem Blf(l:List (Nat×TV)):Eh (onS fun w=>some w.dem) l=some (l.map fun p=>(p.1,p.2.dem)):=by
 induction l with
 |nil=>rfl
 |cons a l ih=>simp only[Eh,onS,ih,List.map_cons]
theorem A8z:Bkl (fun w=>some w.dem) where
 bool c w h:=by cases h;rfl
 gd t b q c w h:=by cases h;rfl
 back y w t b q x h e:=by
  subst e
  cases y<;>simp only[TV.dem,Option.some.injEq] at h<;>first|exact .inl h|cases h
 io y w k n off t e h:=by
  intro he
  subst he
  cases y<;>simp[TV.dem] at h
theorem TSt.dem_u(σ:TSt):σ.dem.u=σ.u:=by
 simp only[TSt.u,TSt.dem,List.map_map]
 congr 1
 refine List.map_congr_left fun p _=>?_
 simp[slU,Av.dem_u]
theorem Inv.dem{σ:TSt}(hI:Inv σ)(hp:List (Key×TO)):Inv ⟨σ.dem.sl,hp,σ.gs,σ.fr⟩:=hI.onS A8z (Blf σ.sl) hp
def TSt.over(σ:TSt)(k:Key)(o:TO):TSt:=⟨σ.dem.sl,σ.hp.map fun p=>if p.1=k then(k,o) else p,σ.gs,σ.fr⟩
theorem Amj(σ:TSt)(k:Key)(o:TO):(σ.over k o).u=σ.u.over k o.u:=by
 have h:=congrArg St.sl σ.dem_u
 simp only[TSt.over,St.over]
 refine(show(⟨_,_⟩:St)=⟨_,_⟩ from ?_)
 congr 1
 show _=List.map (fun p=>if p.1=k then(k,o.u) else p) (σ.hp.map hpU)
 simp only[List.map_map]
 refine List.map_congr_left fun p _=>?_
 by_cases e:p.1=k<;>simp[hpU,e]
theorem Inv.over{σ:TSt}(hI:Inv σ)(k:Key)(o:TO):Inv (σ.over k o):=hI.dem _
def TSt.insAll(σ:TSt):List (Key×TO)→TSt
 |[]=>σ
 |l=>⟨σ.dem.sl,l++σ.hp,σ.gs,σ.fr⟩
theorem Au0(σ:TSt)(l:List (Key×TO)):(σ.insAll l).u=σ.u.insAll (l.map hpU):=by
 cases l with
 |nil=>rfl
 |cons a l=>
  have h:=congrArg St.sl σ.dem_u
  simp only[TSt.insAll,St.insAll]
  refine(show(⟨_,_⟩:St)=⟨_,_⟩ from ?_)
  congr 1
  simp only[List.map_append];rfl
theorem Inv.insAll{σ:TSt}(hI:Inv σ)(l:List (Key×TO)):Inv (σ.insAll l):=by
 cases l with
 |nil=>exact hI
 |cons a l=>exact hI.dem _
end
end Go.Av
end
section
namespace Go.Av
section
variable [Dic]
theorem Aux: ∀{l:List (Nat×TV)} {s:Nat} {w:TV},Gi l s=w→w≠ .dead→ ∃p∈l,p.2=w
 |[],s,w,h,hd=>absurd h.symm hd
 |p::l,s,w,h,hd=>by
  simp only[Gi] at h
  cases e:p.1==s with
  |true=>rw[e] at h;exact⟨p,by simp,h⟩
  |false=>
   rw[e] at h
   obtain⟨q,hq,e2⟩:=Aux h hd
   exact⟨q,by simp[hq],e2⟩
theorem Tp{l:List (Nat×TV)}(h: ∀p∈l,p.2.tame=true)(hp:List (Key×TO))(gs:List Nat)(fr:Fr):Inv ⟨l,hp,gs,fr⟩ where
 gd s t b q x e:=by
  obtain⟨p,hp,e2⟩:=Aux (show Gi l s=_ from e) (by intro e;cases e)
  have:=h p hp
  rw[e2] at this;cases this
 io s k n off t x e:=by
  obtain⟨p,hp,e2⟩:=Aux (show Gi l s=_ from e) (by intro e;cases e)
  have:=h p hp
  rw[e2] at this;cases this
def Bb0(σ:TSt):List (Nat×Bool)→Option (List (Nat×TV))
 |[]=>some []
 |p::r=>match (match p.2 with
   |true=>(σ.get p.1).tidy
   |false=>some (σ.get p.1)) with
  |some w=>match w.dem.tame with
   |true=>match Bb0 σ r with
    |some l=>some ((p.1,w.dem)::l)
    |none=>none
   |false=>none
  |none=>none
theorem Bfm{σ:TSt}: ∀{sl:List (Nat×Bool)} {l:List (Nat×TV)},Bb0 σ sl=some l→(l.map slU=sl.map fun p=>(p.1,bif p.2 then(σ.u.get p.1).tidy else σ.u.get p.1))∧ ∀p∈l,p.2.tame=true
 |[],_,h=>by cases h;exact⟨rfl,by simp⟩
 |p::r,l,h=>by
  simp only[Bb0] at h
  split at h
  ·rename_i w e
   split at h
   ·rename_i ht
    split at h
    ·rename_i l' e2
     cases h
     obtain⟨h1,h2⟩:=Bfm e2
     refine⟨?_,?_⟩
     ·simp only[List.map_cons,h1,slU,dem_u,A3n]
      congr 2
      cases hp:p.2 with
      |true=>rw[hp] at e;exact tidy_u e
      |false=>rw[hp] at e;cases e;rfl
     ·intro q hq
      rcases List.mem_cons.1 hq with rfl|hq
      ·exact ht
      ·exact h2 q hq
    ·cases h
   ·cases h
  ·cases h
def TSt.forget(σ:TSt)(keep:List Nat):Option TSt:=match Bb0 σ (keep.map fun t=>(t,false)) with
 |some l=>some ⟨l,σ.hp,[],σ.fr⟩
 |none=>none
theorem Blw{σ σ':TSt}{keep:List Nat}(h:σ.forget keep=some σ'):σ'.u=σ.u.forget keep∧Inv σ':=by
 unfold TSt.forget at h
 split at h
 ·rename_i l e
  cases h
  obtain⟨h1,h2⟩:=Bfm e
  refine⟨?_,Tp h2 _ _ _⟩
  have hgo: ∀ks:List Nat,St.forget.go σ.u.sl ks=ks.map fun t=>(t,Uf σ.u.sl t):=by
   intro ks
   induction ks with
   |nil=>rfl
   |cons a ks ih=>simp only[St.forget.go,ih,List.map_cons]
  simp only[TSt.u,St.forget]
  congr 1
  rw[h1,show(σ.sl.map slU)=σ.u.sl from rfl,hgo]
  simp only[List.map_map]
  rfl
 ·cases h
def A21(σ:TSt):List (Key×Bool)→Option (List (Key×TO))
 |[]=>some []
 |p::r=>match A21 σ r with
  |some l=>match σ.look p.1 with
   |none=>some l
   |some o=>match (match p.2 with
     |true=>o.tidy
     |false=>some o) with
    |some o'=>some ((p.1,o')::l)
    |none=>none
  |none=>none
theorem A5a{σ:TSt}: ∀{bx:List (Key×Bool)} {l:List (Key×TO)},A21 σ bx=some l→l.map hpU=bx.filterMap fun p=>(σ.u.look p.1).map fun o=>(p.1,bif p.2 then o.tidy else o)
 |[],_,h=>by cases h;rfl
 |p::r,l,h=>by
  simp only[A21] at h
  split at h
  ·rename_i l' e
   split at h
   ·rename_i e2
    cases h
    simp only[List.filterMap_cons,Ho e2,Option.map_none,A5a e]
   ·rename_i o e2
    split at h
    ·rename_i o' e3
     cases h
     simp only[List.filterMap_cons,A6 e2,Option.map_some,List.map_cons,A5a e,hpU]
     congr 2
     cases hp:p.2 with
     |true=>rw[hp] at e3;exact TO.tidy_u e3
     |false=>rw[hp] at e3;cases e3;rfl
    ·cases h
  ·cases h
def TSt.laid(σ:TSt)(sl:List (Nat×Bool))(bx:List (Key×Bool)):Option TSt:=match Bb0 σ sl with
 |some l=>match A21 σ bx with
  |some h=>some ⟨l,h++σ.hp.filter fun q=> !(bx.any fun p=>decide (p.1=q.1)),[],σ.fr⟩
  |none=>none
 |none=>none
theorem Brw{σ σ':TSt}{sl:List (Nat×Bool)}{bx:List (Key×Bool)}(h:σ.laid sl bx=some σ'):σ'.u=σ.u.laid sl bx∧Inv σ':=by
 unfold TSt.laid at h
 split at h
 ·rename_i l e
  split at h
  ·rename_i hh e2
   cases h
   obtain⟨h1,h2⟩:=Bfm e
   refine⟨?_,Tp h2 _ _ _⟩
   simp only[TSt.u,St.laid,h1,List.map_append,A5a e2]
   congr 2
   exact Al6 (fun q=> !(bx.any fun p=>decide (p.1=q))) σ.hp
  ·cases h
 ·cases h
def TSt.up1(σ:TSt)(p:Up×Ty):Option TSt:=match p.1 with
 | .slot t k sz=>match σ.get t with
  | .nils=>match σ.look k with
   |none=>match p.2.sz==sz&& !σ.gs.contains t with
    |true=>some ⟨(t,.own k)::σ.dem.sl,(k,.row p.2 [])::σ.hp,σ.gs,σ.fr⟩
    |false=>none
   |some _=>some σ
  | .gd .. =>none
  |_=>some σ
 | .cell kb i k sz=>match σ.look kb with
  |some (.box cs)=>match σ.look k with
   |none=>match cs[i]? with
    |some .nils=>match p.2.sz==sz with
     |true=>some ⟨σ.dem.sl,(k,.row p.2 [])::(σ.over kb (.box (cs.set i (.own k)))).hp,σ.gs,σ.fr⟩
     |false=>none
    |some (.gd ..)=>none
    |_=>some σ
   |some _=>some σ
  |_=>some σ
theorem A92{w:TV}(h1:w≠ .nils)(h2: ∀t b q x,w≠ .gd t b q x):w.u≠ .nils:=by
 cases w<;>first|exact absurd rfl h1|exact absurd rfl (h2 _ _ _ _)|(intro e;cases e)
theorem Bte(cs:List TV)(i:Nat)(w:TV):(cs.set i w).map TV.u=(cs.map TV.u).set i w.u:=List.map_set
theorem Bth{σ σ':TSt}(hI:Inv σ){p:Up×Ty}(h:σ.up1 p=some σ'):σ'.u=σ.u.up1 p.1∧Inv σ':=by
 obtain⟨up,ty⟩:=p
 have hsl:=congrArg St.sl σ.dem_u
 unfold TSt.up1 at h
 cases up with
 |slot t k sz=>
  simp only at h
  split at h
  ·rename_i e
   have e':σ.u.get t= .nils:=by rw[A3n,e];rfl
   split at h
   ·rename_i e2
    split at h
    ·rename_i hc
     cases h
     simp only[Bool.and_eq_true,beq_iff_eq,Bool.not_eq_true'] at hc
     refine⟨?_,?_⟩
     ·simp only[St.up1,e',Ho e2]
      rw[←hc.1]
      show(⟨_,_⟩:St)=⟨_,_⟩
      congr 1
      exact congrArg (_:: ·) hsl
     ·refine Inv.put' (σ:=⟨σ.dem.sl,(k,.row ty [])::σ.hp,σ.gs,σ.fr⟩) (d:=some t) (w:= .own k) (hI.dem _) (fun _ _ _ _ e=>by cases e) (fun _ _ _ _ _ e=>by cases e) ?_
      simp only[TSt.put,hc.2]
    ·cases h
   ·rename_i o e2
    cases h
    refine⟨?_,hI⟩
    simp only[St.up1,e',A6 e2]
  ·cases h
  ·rename_i h1 h2
   cases h
   refine⟨?_,hI⟩
   have:=A92 (w:=σ.get t) (fun e=>h1 e) (fun t b q x e=>h2 t b q x e)
   unfold St.up1
   simp only[A3n]
   split
   ·rename_i e _;exact absurd e this
   ·rfl
 |cell kb i k sz=>
  simp only at h
  split at h
  ·rename_i cs e
   split at h
   ·rename_i e2
    split at h
    ·rename_i e3
     split at h
     ·rename_i hc
      cases h
      simp only[beq_iff_eq] at hc
      refine⟨?_,hI.dem _⟩
      have e3':(cs.map TV.u)[i]? =some .nils:=by simp[e3,TV.u]
      simp only[St.up1,A6 e,Ho e2,TO.u,e3']
      have ho:=congrArg St.hp (Amj σ kb (.box (cs.set i (.own k))))
      rw[←hc]
      show(⟨_,_⟩:St)=⟨_,_⟩
      congr 1
      rw[List.map_cons]
      refine congr (congrArg _ rfl) (ho.trans ?_)
      simp only[TO.u,Bte];rfl
     ·cases h
    ·cases h
    ·rename_i h1 h2
     cases h
     refine⟨?_,hI⟩
     simp only[St.up1,A6 e,Ho e2,TO.u,List.getElem?_map]
     cases e3:cs[i]? with
     |none=>rfl
     |some w=>
      have:=A92 (w:=w) (fun e=>h1 (by rw[e3,e])) (fun t b q x e=>h2 t b q x (by rw[e3,e]))
      simp only[Option.map_some]
      split
      ·rename_i e4;exact absurd (Option.some.inj e4) this
      ·rfl
   ·rename_i o e2
    cases h
    refine⟨?_,hI⟩
    simp only[St.up1,A6 e,A6 e2,TO.u]
  ·rename_i h1
   cases h
   refine⟨?_,hI⟩
   simp only[St.up1]
   cases e:σ.look kb with
   |none=>simp only[Ho e]
   |some o=>
    cases o with
    |box cs=>exact(h1 _ e).elim
    |row t l=>simp only[A6 e,TO.u]
    |map kt vt es=>simp only[A6 e,TO.u]
def TSt.upAll(σ:TSt):List (Up×Ty)→Option TSt
 |[]=>some σ
 |p::r=>match σ.up1 p with
  |some σ'=>σ'.upAll r
  |none=>none
theorem Bif: ∀{l:List (Up×Ty)} {σ σ':TSt},Inv σ→σ.upAll l=some σ'→σ'.u=σ.u.upAll (l.map (·.1))∧Inv σ'
 |[],σ,σ',hI,h=>by cases h;exact⟨rfl,hI⟩
 |p::r,σ,σ',hI,h=>by
  simp only[TSt.upAll] at h
  split at h
  ·rename_i σ1 e
   obtain⟨h1,h2⟩:=Bth hI e
   obtain⟨h3,h4⟩:=Bif h2 h
   exact⟨by rw[h3,h1];rfl,h4⟩
  ·cases h
structure Kp where
 fz:List Key
 sl:List (Nat×Bool)
 bx:List (Key×Bool)
 dead:List Key
 up:List (Up×Ty)
def TSt.tidy(σ:TSt)(k:Kp):Option TSt:=match σ.freezeAll k.fz with
 |some σ1=>match σ1.killAll k.dead with
  |some σ2=>match σ2.upAll k.up with
   |some σ3=>σ3.laid k.sl k.bx
   |none=>none
  |none=>none
 |none=>none
theorem TSt.tidy_u{σ σ':TSt}(hI:Inv σ){k:Kp}(h:σ.tidy k=some σ'):σ'.u=σ.u.tidy k.fz k.sl k.bx k.dead (k.up.map (·.1))∧Inv σ':=by
 unfold TSt.tidy at h
 split at h
 ·rename_i σ1 e1
  obtain⟨h1,i1⟩:=Agz hI e1
  split at h
  ·rename_i σ2 e2
   have h2:=I2 e2
   have i2:=i1.killAll e2
   split at h
   ·rename_i σ3 e3
    obtain⟨h3,i3⟩:=Bif i2 e3
    obtain⟨h4,i4⟩:=Brw h
    exact⟨by rw[h4,h3,h2,h1];rfl,i4⟩
   ·cases h
  ·cases h
 ·cases h
def TV.nm(f:Key→Option Key):TV→Option TV
 | .ptr k off=>match f k with
  |some k'=>some (.ptr k' off)
  |none=>some .dead
 | .own k=>match f k with
  |some k'=>some (.own k')
  |none=>some .dead
 | .mp k=>match f k with
  |some k'=>some (.mp k')
  |none=>some .dead
 | .iown k n off t e _=>match f k with
  |some k'=>some (.iown k' n off t e false)
  |none=>some .dead
 | .agg t cs=>match nmL f cs with
  |some cs'=>some (.agg t cs')
  |none=>none
 | .tup cs=>match nmL f cs with
  |some cs'=>some (.tup cs')
  |none=>none
 | .fn g cs=>match nmL f cs with
  |some cs'=>some (.fn g cs')
  |none=>none
 | .gd .. =>none
 |w=>some w
where
 nmL (f:Key→Option Key):List TV→Option (List TV)
  |[]=>some []
  |a::cs=>match TV.nm f a with
   |some a'=>match nmL f cs with
    |some cs'=>some (a'::cs')
    |none=>none
   |none=>none
mutual
theorem nm_u{f:Key→Option Key}: ∀(w w':TV),w.nm f=some w'→w'.u=w.u.nm f
 | .v _ _,_,h| .c _,_,h| .nils,_,h| .iv _ _ _,_,h| .ic _ _,_,h| .dead,_,h=>by cases h;rfl
 | .ptr k off,w',h| .own k,w',h| .mp k,w',h| .iown k _ _ _ _ _,w',h=>by
  simp only[TV.nm] at h
  simp only[TV.u,SV.nm]
  split at h<;>(rename_i e;cases h;simp only[e,TV.u])
 | .agg t cs,w',h=>by
  simp only[TV.nm] at h
  split at h
  ·rename_i cs' e;cases h;simp only[TV.u,SV.nm,nmL_u cs cs' e]
  ·cases h
 | .tup cs,w',h=>by
  simp only[TV.nm] at h
  split at h
  ·rename_i cs' e;cases h;simp only[TV.u,SV.nm,nmL_u cs cs' e]
  ·cases h
 | .fn g cs,w',h=>by
  simp only[TV.nm] at h
  split at h
  ·rename_i cs' e;cases h;simp only[TV.u,SV.nm,nmL_u cs cs' e]
  ·cases h
 | .gd _ _ _ _,_,h=>by cases h
theorem nmL_u{f:Key→Option Key}: ∀(cs cs':List TV),TV.nm.nmL f cs=some cs'→TV.u.uL cs'=SV.nm.nmL f (TV.u.uL cs)
 |[],_,h=>by cases h;rfl
 |a::cs,r,h=>by
  simp only[TV.nm.nmL] at h
  split at h
  ·rename_i a' e1
   split at h
   ·rename_i cs' e2;cases h;simp only[TV.u.uL,SV.nm.nmL,nm_u a a' e1,nmL_u cs cs' e2]
   ·cases h
  ·cases h
end
def TO.nm(f:Key→Option Key):TO→Option TO
 | .box cs=>match Eh (TV.nm f) cs with
  |some cs'=>some (.box cs')
  |none=>none
 |o=>some o
theorem TO.nm_u{f:Key→Option Key}{o o':TO}(h:o.nm f=some o'):o'.u=o.u.nm f:=by
 cases o with
 |box cs=>
  simp only[TO.nm] at h
  split at h
  ·rename_i cs' e
   cases h
   simp only[TO.u,Ah.nm,H8 (g:=TV.u) (g':=TV.u) (F:=SV.nm f) (fun a b e=>Av.nm_u a b e) e]
  ·cases h
 |_=>cases h;rfl
def A9c(σ:TSt)(ks:List Key):List Key→Option (List TO)
 |[]=>some []
 |k::r=>match σ.look k with
  |some o=>match o.nm (toX ks) with
   |some o'=>match A9c σ ks r with
    |some os=>some (o'::os)
    |none=>none
   |none=>none
  |none=>none
theorem Bhb{σ:TSt}{ks:List Key}: ∀{l:List Key} {os:List TO},A9c σ ks l=some os→Hr σ.u ks l=some (os.map TO.u)
 |[],_,h=>by cases h;rfl
 |k::r,os,h=>by
  simp only[A9c] at h
  split at h
  ·rename_i o e1
   split at h
   ·rename_i o' e2
    split at h
    ·rename_i os' e3
     cases h
     simp only[Hr,A6 e1,Bhb e3,List.map_cons,TO.nm_u e2]
    ·cases h
   ·cases h
  ·cases h
structure G4 where
 v:TV
 rows:List (Option TO)
 ext:List (Option TO)
def G4.u(r:G4):Res:=⟨r.v.u,r.rows.map (Option.map TO.u),r.ext.map (Option.map TO.u)⟩
def Aph(f:Key→Option Key)(d:Nat):Nat→List (Option TO)→Option (List (Key×TO))
 |_,[]=>some []
 |i,none::r=>Aph f d (i+1) r
 |i,some o::r=>match o.nm f with
  |some o'=>match Aph f d (i+1) r with
   |some l=>some ((.loc d i,o')::l)
   |none=>none
  |none=>none
theorem A7s{f:Key→Option Key}{d:Nat}: ∀{r:List (Option TO)} {i:Nat} {l:List (Key×TO)},Aph f d i r=some l→H1 f d i (r.map (Option.map TO.u))=l.map hpU
 |[],_,_,h=>by cases h;rfl
 |none::r,i,l,h=>by
  simp only[Aph] at h
  simp only[List.map_cons,Option.map_none,H1,A7s h]
 |some o::r,i,l,h=>by
  simp only[Aph] at h
  split at h
  ·rename_i o' e1
   split at h
   ·rename_i l' e2
    cases h
    simp only[List.map_cons,Option.map_some,H1,A7s e2,hpU,TO.nm_u e1]
   ·cases h
  ·cases h
def Ars(rows:List (Option TO)):TV→Option TV
 | .nils=>some (.c (.slice []))
 | .own (.res i)=>match rows[i]? with
  |some (some (.row t l))=>some (.v (.sl t) l)
  |_=>none
 | .v t x=>some (.v t x)
 | .c x=>some (.c x)
 | .tup cs=>match flatTL rows cs with
  |some cs'=>some (.tup cs')
  |none=>none
 | .agg t cs=>match flatTL rows cs with
  |some cs'=>ofC true t cs'
  |none=>none
 |_=>none
where
 flatTL (rows:List (Option TO)):List TV→Option (List TV)
  |[]=>some []
  |a::cs=>match Ars rows a with
   |some a'=>match flatTL rows cs with
    |some cs'=>some (a'::cs')
    |none=>none
   |none=>none
mutual
theorem flatT_u{rows:List (Option TO)}: ∀(w w':TV),Ars rows w=some w'→w.u.flatR (rows.map (Option.map TO.u))=some w'.u
 | .v _ _,_,h| .c _,_,h| .nils,_,h=>by cases h;rfl
 | .own k,w',h=>by
  cases k<;>simp only[Ars] at h<;>try cases h
  split at h
  ·rename_i t l e
   cases h
   simp only[TV.u,SV.flatR,List.getElem?_map,e,Option.map_some,TO.u];rfl
  ·cases h
 | .tup cs,w',h=>by
  simp only[Ars] at h
  split at h
  ·rename_i cs' e
   cases h
   simp only[TV.u,SV.flatR,flatTL_u cs cs' e,Option.map_some]
  ·cases h
 | .agg t cs,w',h=>by
  simp only[Ars] at h
  split at h
  ·rename_i cs' e
   simp only[TV.u,SV.flatR,flatTL_u cs cs' e]
   rw[Ix]
   exact Bmw h
  ·cases h
 | .ptr _ _,_,h| .mp _,_,h| .iown _ _ _ _ _ _,_,h| .iv _ _ _,_,h| .ic _ _,_,h| .fn _ _,_,h| .gd _ _ _ _,_,h| .dead,_,h=>by cases h
theorem flatTL_u{rows:List (Option TO)}: ∀(cs cs':List TV),Ars.flatTL rows cs=some cs'→SV.flatR.flatL (rows.map (Option.map TO.u)) (TV.u.uL cs)=some (TV.u.uL cs')
 |[],_,h=>by cases h;rfl
 |a::cs,r,h=>by
  simp only[Ars.flatTL] at h
  split at h
  ·rename_i a' e1
   split at h
   ·rename_i cs' e2;cases h;simp only[TV.u.uL,SV.flatR.flatL,flatT_u a a' e1,flatTL_u cs cs' e2]
   ·cases h
  ·cases h
end
def Ayv(ks:List Key)(d keep:Nat)(r:G4):Option (TV×List (Key×TO)):=
 match keep with
 |0=>match Ars r.rows r.v with
  |some w=>some (w,[])
  |none=>none
 |keep=>match decide (r.rows.length≤keep) with
  |true=>match r.v.nm (G0 ks d keep) with
   |some w=>match Aph (G0 ks d keep) d 0 r.rows with
    |some l=>some (w,l)
    |none=>none
   |none=>none
  |false=>none
theorem Bia{ks:List Key}{d keep:Nat}{r:G4}{x:TV×List (Key×TO)}(h:Ayv ks d keep r=some x):took ks d keep r.u=some ⟨x.1.u,x.2.map hpU⟩:=by
 unfold Ayv at h
 unfold took
 split at h
 ·split at h
  ·rename_i w e
   cases h
   simp only[BEq.rfl,cond_true,G4.u,flatT_u _ _ e,Option.map_some,List.map_nil]
  ·cases h
 ·rename_i hk
  have hk0:(keep==0)=false:=by
   cases keep with
   |zero=>exact(hk rfl).elim
   |succ n=>rfl
  split at h
  ·rename_i hl
   split at h
   ·rename_i w e1
    split at h
    ·rename_i l e2
     cases h
     have hl':r.rows.length≤keep:=of_decide_eq_true hl
     simp only[hk0,cond_false,G4.u,nm_u _ _ e1,A7s e2,List.length_map,decide_eq_true hl',cond_true]
    ·cases h
   ·cases h
  ·cases h
def Wu:List Key→List (Option TO)→List Key
 |k::ks,none::r=>k::Wu ks r
 |_::ks,some _::r=>Wu ks r
 |_,_=>[]
theorem A4e: ∀(ks:List Key) (r:List (Option TO)),C0 ks (r.map (Option.map TO.u))=Wu ks r
 |[],r=>by cases r<;>rfl
 |k::ks,[]=>rfl
 |k::ks,none::r=>by simp only[List.map_cons,Option.map_none,C0,Wu,A4e ks r]
 |k::ks,some o::r=>by simp only[List.map_cons,Option.map_some,C0,Wu,A4e ks r]
def Ahh(f:Key→Option Key):TSt→List Key→List (Option TO)→Option TSt
 |σ,[],[]=>some σ
 |σ,_::ks,none::r=>Ahh f σ ks r
 |σ,k::ks,some o::r=>match o.nm f with
  |some o'=>Ahh f (σ.over k o') ks r
  |none=>none
 |_,_,_=>none
theorem A43{f:Key→Option Key}: ∀{ks:List Key} {r:List (Option TO)} {σ σ':TSt},Inv σ→Ahh f σ ks r=some σ'→C8 f σ.u ks (r.map (Option.map TO.u))=some σ'.u∧Inv σ'
 |[],[],σ,σ',hI,h=>by cases h;exact⟨rfl,hI⟩
 |[],_::_,σ,σ',hI,h=>by cases h
 |_::_,[],σ,σ',hI,h=>by cases h
 |k::ks,none::r,σ,σ',hI,h=>by
  simp only[Ahh] at h
  simp only[List.map_cons,Option.map_none,C8]
  exact A43 hI h
 |k::ks,some o::r,σ,σ',hI,h=>by
  simp only[Ahh] at h
  split at h
  ·rename_i o' e
   simp only[List.map_cons,Option.map_some,C8]
   rw[←TO.nm_u e,←Amj]
   exact A43 (hI.over k o') h
  ·cases h
end
end Go.Av
end
section
namespace Go.Av
def Btm(k:IntKind)(a b:Int):Int:=k.wrap (BitVec.ofInt k.bits a &&& BitVec.ofInt k.bits b).toNat
def orI(k:IntKind)(a b:Int):Int:=k.wrap (BitVec.ofInt k.bits a ||| BitVec.ofInt k.bits b).toNat
def Btr(k:IntKind)(a b:Int):Int:=k.wrap (BitVec.ofInt k.bits a ^^^ BitVec.ofInt k.bits b).toNat
section
variable [Dic]
inductive An:Type 1 where
 |no
 |tot (v:TV) (ins:List (Key×TO))
 |par (α:Type) (d:α) (o:Option α) (g:α→Option (TV×List (Key×TO)))
 |alt (α β:Type) (o:Option (α⊕β)) (f:α→Option (TV×List (Key×TO))) (g:β→Option (TV×List (Key×TO)))
def An.gives:An→TV×List (Key×TO)→Prop
 | .no,_=>False
 | .tot v l,e=>e=(v,l)
 | .par _ _ o g,e=> ∃a,o=some a∧g a=some e
 | .alt _ _ o f g,e=> ∃j,o=some j∧(match j with
  | .inl a=>f a
  | .inr b=>g b)=some e
def An.val:TV→An
 | .gd .. => .no
 |w=> .tot w.dem []
def An.opt:Option TV→An
 |some w=> .val w
 |none=> .no
def An.ask{α:Type}(d:α)(o:Option α)(g:α→TV):An:= .par α d o fun a=>some (g a,[])
def Br3(o:Option TV):Option (TV×List (Key×TO)):=match o with
 |some w=>match w with
  | .gd .. =>none
  |w=>some (w.dem,[])
 |none=>none
def TV.noGd:TV→Bool
 | .gd .. =>false
 |_=>true
theorem A3o{w:TV}{e:TV×List (Key×TO)}(h:(An.val w).gives e):e.1.u=w.u∧e.2=[]∧e.1.tame=true:=by
 cases w<;>first|(cases h;exact⟨rfl,rfl,rfl⟩)|cases h
theorem I5{o:Option TV}{e:TV×List (Key×TO)}(h:(An.opt o).gives e): ∃w,o=some w∧e.1.u=w.u∧e.2=[]∧e.1.tame=true:=by
 cases o with
 |none=>cases h
 |some w=>exact⟨w,rfl,A3o h⟩
theorem Bjb{o:Option TV}{e:TV×List (Key×TO)}(h:Br3 o=some e): ∃w,o=some w∧e.1.u=w.u∧e.2=[]∧e.1.tame=true:=by
 unfold Br3 at h
 split at h
 ·rename_i w
  split at h
  ·cases h
  ·rename_i hn
   cases h
   refine⟨w,rfl,dem_u w,rfl,?_⟩
   cases w<;>first|rfl|exact(hn _ _ _ _ rfl).elim
 ·cases h
def TSt.ev(σ:TSt)(ch:List (Nat×Bool)):Opd→TV
 | .tmp t=>match σ.get t with
  | .gd t' b q x=>match ch.contains (t',b) with
   |true=>x
   |false=> .gd t' b q x
  |w=>w
 | .cst x=>tc x
 | .nils=> .nils
 | .junk=> .dead
def Bp(σ:TSt)(ch:List (Nat×Bool)):Prop:= ∀g∈ch,σ.gv g.1 g.2=some true
variable {σ:TSt} {ch:List (Nat×Bool)}
theorem Dx(hI:Inv σ)(hc:Bp σ ch)(o:Opd):(σ.ev ch o).u=σ.u.ev o:=by
 cases o with
 |tmp t=>
  simp only[TSt.ev,St.ev,A3n]
  split
  ·rename_i t' b q x e
   rw[e]
   split
   ·rename_i hm
    have h1:=hc (t',b) (List.contains_iff_mem.1 hm)
    have h2:=(hI.gd _ _ _ _ _ e).2.1
    rw[h2] at h1
    cases h1
    rfl
   ·rfl
  ·rfl
 |cst x=>exact Bsj x
 |nils=>rfl
 |junk=>rfl
theorem Bll(hI:Inv σ){x:Opd}{k:Key}{n:Int}{off:Nat}{t:Ty}{e:t.D}(h:σ.ev ch x= .iown k n off t e true):0≤n∧ ∃l:List t.D,σ.look k=some (.row t l)∧l[n.toNat]? =some e:=by
 cases x with
 |tmp s=>
  simp only[TSt.ev] at h
  split at h
  ·rename_i t' b q x e'
   have h3:=(hI.gd _ _ _ _ _ e').2.2
   split at h
   ·subst h;cases h3
   ·cases h
  ·exact hI.io s _ _ _ _ _ h
 |cst p=>cases p<;>cases h
 |nils=>cases h
 |junk=>cases h
def chain(σ:TSt):Nat→Nat→Bool→List (Nat×Bool)
 |0,t,b=>[(t,b)]
 |n+1,t,b=>(t,b)::match σ.get t with
  | .gd t' b' _ _=>chain σ n t' b'
  |_=>[]
theorem Tu(hI:Inv σ): ∀(n t:Nat) (b:Bool),σ.gv t b=some true→Bp σ (chain σ n t b)
 |0,t,b,h=>by
  intro g hg
  simp only[chain,List.mem_singleton] at hg
  subst hg;exact h
 |n+1,t,b,h=>by
  intro g hg
  simp only[chain,List.mem_cons] at hg
  rcases hg with rfl|hg
  ·exact h
  ·split at hg
   ·rename_i t' b' q x e
    refine Tu hI n t' b' ?_ g hg
    rw[(hI.gd _ _ _ _ _ e).2.1]
    unfold TSt.gv at h
    rw[e] at h
    split at h
    ·rename_i e2;cases e2
    ·rename_i q' c e2
     cases e2
     simp only[Option.some.injEq,Bool.and_eq_true] at h
     rw[h.1]
    ·cases h
   ·cases hg
def Does(σ:TSt)(d:Nat)(op:AOp)(e:TV×List (Key×TO)):Prop:= ∀cl,Au cl σ.u d op=some ⟨e.1.u,e.2.map hpU⟩
theorem A90(hI:Inv σ)(hc:Bp σ ch){d:Nat}{x:Opd}{e:TV×List (Key×TO)}(h:(An.val (σ.ev ch x)).gives e):Does σ d (.mov x) e∧e.1.tame=true:=by
 obtain⟨h1,h2,h3⟩:=A3o h
 refine⟨fun cl=>?_,h3⟩
 simp only[Au,h1,h2,Dx hI hc,List.map_nil]
def Bq4(q:Bool)(a b:Opd)(x y:TV):An:=match b with
 | .cst (.bool false)=>match x with
  | .v .bool x=> .tot (.v .bool (q&&x)) []
  |_=> .no
 |_=>match a with
  | .cst (.bool true)=>match y with
   | .v .bool y=> .tot (.v .bool (q||y)) []
   |_=> .no
  |_=>match x,y with
   | .v t x,.v t' y=>if h:t'=t then .tot (.v t (bif q then x else h▸y)) [] else .no
   |_,_=> .no
def Bgg(σ:TSt)(ch:List (Nat×Bool))(c a b:Opd):An:=match c with
 | .tmp t=>match σ.ev ch (.tmp t) with
  | .v .bool q=>Bq4 q a b (σ.ev ((t,true)::ch) a) (σ.ev ((t,false)::ch) b)
  |_=> .no
 |_=> .no
theorem Bcf(hI:Inv σ)(hc:Bp σ ch){t:Nat}{q b:Bool}(h:σ.ev ch (.tmp t)= .v .bool q)(hq:gtr b q=true):Bp σ ((t,b)::ch):=by
 intro g hg
 rcases List.mem_cons.1 hg with rfl|hg
 ·simp only[TSt.ev] at h
  unfold TSt.gv
  split at h
  ·rename_i t' b' q' x e
   split at h
   ·rename_i hm
    subst h
    have h1:=hc (t',b') (List.contains_iff_mem.1 hm)
    rw[(hI.gd _ _ _ _ _ e).2.1] at h1
    cases h1
    simp only[e,hq,Bool.and_self]
   ·cases h
  ·rename_i e
   simp only[h,hq]
 ·exact hc g hg
theorem A22(hI:Inv σ)(hc:Bp σ ch){d:Nat}{c a b:Opd}{e:TV×List (Key×TO)}(h:(Bgg σ ch c a b).gives e):Does σ d (.pick c a b) e∧e.1.tame=true:=by
 unfold Bgg at h
 split at h
 ·rename_i t
  split at h
  ·rename_i q hq
   have h0:σ.u.ev (.tmp t)= .pv (.bool q):=by rw[←Dx hI hc,hq];rfl
   have h1:q=true→(σ.ev ((t,true)::ch) a).u=σ.u.ev a:=fun e=>Dx hI (Bcf hI hc hq (by rw[e];rfl)) a
   have h2:q=false→(σ.ev ((t,false)::ch) b).u=σ.u.ev b:=fun e=>Dx hI (Bcf hI hc hq (by rw[e];rfl)) b
   generalize σ.ev ((t,true)::ch) a=x at h h1
   generalize σ.ev ((t,false)::ch) b=y at h h2
   have key: ∀w:TV,w.tame=true→(q=true→w.u=x.u)→(q=false→w.u=σ.u.ev b)→e=(w,[])→Does σ d (.pick (.tmp t) a b) e∧e.1.tame=true:=by
    rintro w ht hw1 hw2 rfl
    refine⟨fun cl=>?_,ht⟩
    simp only[Au,h0,List.map_nil]
    cases q with
    |true=>rw[hw1 rfl,h1 rfl];rfl
    |false=>rw[hw2 rfl];rfl
   unfold Bq4 at h
   split at h
   ·split at h
    ·rename_i z
     refine key _ rfl (fun e=>?_) (fun e=>?_) h
     ·subst e;rfl
     ·subst e;rfl
    ·cases h
   ·split at h
    ·split at h
     ·rename_i z
      refine key _ rfl (fun e=>?_) (fun e=>?_) h
      ·subst e;rw[h1 rfl];rfl
      ·subst e;rw[←h2 rfl];rfl
     ·cases h
    ·split at h
     ·rename_i t1 z t2 z2
      split at h
      ·rename_i ht
       subst ht
       refine key _ rfl (fun e=>?_) (fun e=>?_) h
       ·subst e;rfl
       ·subst e;rw[←h2 rfl];rfl
      ·cases h
     ·cases h
  ·cases h
 ·cases h
def Bmx:SV→Option TV
 | .pv x=>some (tc x)
 | .nils=>some .nils
 |_=>none
theorem Br0{v:SV}{w:TV}(h:Bmx v=some w):w.u=v:=by
 unfold Bmx at h
 split at h
 ·cases h;exact Bsj _
 ·cases h;rfl
 ·cases h
theorem Aqn: ∀{l:List SV} {cs:List TV},Eh Bmx l=some cs→cs.map TV.u=l
 |[],_,h=>by cases h;rfl
 |a::l,r,h=>by
  obtain⟨b,r',h1,h2,rfl⟩:=Gr h
  rw[List.map_cons,Br0 h1,Aqn h2]
def A71(d:Nat)(zero:List SV):An:=match Eh Bmx zero with
 |some cs=> .tot (.ptr (.loc d 0) 0) [(.loc d 0,.box cs)]
 |none=> .no
theorem Aug{d:Nat}{zero:List SV}{e:TV×List (Key×TO)}(h:(A71 d zero).gives e):Does σ d (.alloc zero) e∧e.1.tame=true:=by
 unfold A71 at h
 split at h
 ·rename_i cs hc
  cases h
  refine⟨fun cl=>?_,rfl⟩
  simp only[Au,List.map_cons,List.map_nil,hpU,TO.u,Aqn hc,TV.u]
 ·cases h
def TV.solid:TV→Bool
 | .tup _=>false
 | .dead=>false
 | .gd .. =>false
 |_=>true
def Bn5(d:Nat)(w:TV):An:=match w.solid with
 |true=>match w.cells with
  |some cs=> .tot (.ptr (.loc d 0) 0) [(.loc d 0,.box cs)]
  |none=> .no
 |false=> .no
theorem A7y{w:TV}(h:w.solid=true):w.u.solid=true:=by cases w<;>first|rfl|cases h
theorem A8s(hI:Inv σ)(hc:Bp σ ch){d:Nat}{x:Opd}{e:TV×List (Key×TO)}(h:(Bn5 d (σ.ev ch x)).gives e):Does σ d (.box x) e∧e.1.tame=true:=by
 unfold Bn5 at h
 split at h
 ·rename_i hs
  have hs:=A7y hs
  split at h
  ·rename_i cs hcs
   cases h
   refine⟨fun cl=>?_,rfl⟩
   have:=Z3 hcs
   rw[Dx hI hc] at this hs
   simp only[Au,List.map_cons,List.map_nil,hpU,TO.u,TV.u,←this]
   split
   ·rename_i e;rw[e] at hs;cases hs
   ·rename_i e;rw[e] at hs;cases hs
   ·rfl
  ·cases h
 ·cases h
def rng(agg:Bool)(ty:Ty)(off n:Nat)(cs:List TV):Option TV:=match decide (off+n≤cs.length) with
 |true=>ofC agg ty ((cs.drop off).take n)
 |false=>none
theorem Bni{agg:Bool}{ty:Ty}{off n:Nat}{cs:List TV}{w:TV}(h:rng agg ty off n cs=some w):off+n≤(cs.map TV.u).length∧SV.ofCells agg (((cs.map TV.u).drop off).take n)=some w.u:=by
 unfold rng at h
 split at h
 ·rename_i hl
  refine⟨by simpa using hl,?_⟩
  rw[←List.map_drop,←List.map_take]
  exact Bmw h
 ·cases h
theorem A7r{agg:Bool}{ty:Ty}{off n:Nat}{cs:List TV}{w:TV}(ha:cs.all TV.isP=true)(h:rng agg ty off n cs=some w):off+n≤(cs.map TV.pv).length∧SV.ofCells agg ((((cs.map TV.pv).drop off).take n).map .pv)=some w.u:=by
 obtain⟨h1,h2⟩:=Bni h
 rw[Avk ha] at h1 h2
 refine⟨by simpa using h1,?_⟩
 rw[List.map_take,List.map_drop]
 exact h2
def Ayr(σ:TSt)(agg:Bool)(ty:Ty)(n:Nat):TV→An
 | .ptr k off=>match σ.look k with
  |some (.box cs)=> .opt (rng agg ty off n cs)
  |_=> .no
 | .iv t e off=> .opt (rng agg ty off n (Q7 t e))
 | .ic cs off=>match cs.all TV.isP with
  |true=> .opt (rng agg ty off n cs)
  |false=> .no
 | .iown k m off t e true=> .opt (rng agg ty off n (Q7 t e))
 | .iown k m off _ _ false=>match σ.look k with
  |some (.row t l)=> .par t.D t.dfl (rdO l m) fun e=>Br3 (rng agg ty off n (Q7 t e))
  |_=> .no
 |_=> .no
theorem Ai1{α:Type}{l:List α}{i:Int}{e:α}(h:rdO l i=some e):0≤i∧l[i.toNat]? =some e:=by
 unfold rdO at h
 split at h
 ·rename_i h0;exact⟨h0,h⟩
 ·cases h
theorem Bbu{k:Key}{t:Ty}{l:List t.D}{i off n:Nat}{e:t.D}{agg:Bool}{ty:Ty}{w:TV}{x:Opd}{d:Nat}(hx:σ.u.ev x= .iown k i off)(hk:σ.look k=some (.row t l))(he:l[i]? =some e)(h:rng agg ty off n (Q7 t e)=some w)(cl:Callee):Au cl σ.u d (.load agg n x)=some ⟨w.u,[]⟩:=by
 obtain⟨h1,h2⟩:=A7r (Gq t e).1 h
 rw[(Gq t e).2] at h1 h2
 simp only[Au,hx,A6 hk,TO.u,List.getElem?_map,he,Option.map_some,if_pos h1,h2]
theorem Aqk(hI:Inv σ)(hc:Bp σ ch){d:Nat}{agg:Bool}{ty:Ty}{n:Nat}{x:Opd}{e:TV×List (Key×TO)}(h:(Ayr σ agg ty n (σ.ev ch x)).gives e):Does σ d (.load agg n x) e∧e.1.tame=true:=by
 have hx:=Dx hI hc x
 unfold Ayr at h
 split at h
 ·rename_i k off e0
  rw[e0] at hx
  split at h
  ·rename_i cs hk
   obtain⟨w,h1,h2,h3,h4⟩:=I5 h
   refine⟨fun cl=>?_,h4⟩
   obtain⟨h5,h6⟩:=Bni h1
   simp only[Au,←hx,TV.u,A6 hk,TO.u,if_pos h5,h6,Option.map_some,h2,h3,List.map_nil]
  ·cases h
 ·rename_i t z off e0
  rw[e0] at hx
  obtain⟨w,h1,h2,h3,h4⟩:=I5 h
  refine⟨fun cl=>?_,h4⟩
  obtain⟨h5,h6⟩:=A7r (Gq t z).1 h1
  rw[(Gq t z).2] at h5 h6
  simp only[Au,←hx,TV.u,if_pos h5,h6,Option.map_some,h2,h3,List.map_nil]
 ·rename_i cs off e0
  rw[e0] at hx
  split at h
  ·rename_i ha
   obtain⟨w,h1,h2,h3,h4⟩:=I5 h
   refine⟨fun cl=>?_,h4⟩
   obtain⟨h5,h6⟩:=A7r ha h1
   simp only[Au,←hx,TV.u,PV.cells,if_pos h5,h6,Option.map_some,h2,h3,List.map_nil]
  ·cases h
 ·rename_i k m off t z e0
  rw[e0] at hx
  obtain⟨w,h1,h2,h3,h4⟩:=I5 h
  refine⟨fun cl=>?_,h4⟩
  obtain⟨_,l,hl,hm⟩:=Bll hI e0
  rw[Bbu hx.symm hl hm h1 cl,h2,h3];rfl
 ·rename_i k m off t z e0
  rw[e0] at hx
  split at h
  ·rename_i t l hk
   obtain⟨a,ha,hg⟩:=h
   obtain⟨w,h1,h2,h3,h4⟩:=Bjb hg
   refine⟨fun cl=>?_,h4⟩
   rw[Bbu hx.symm hk (Ai1 ha).2 h1 cl,h2,h3];rfl
  ·cases h
 ·cases h
end
end Go.Av
end
section
namespace Go.Av
section
variable [Dic] {σ:TSt} {ch:List (Nat×Bool)} {d:Nat} {e:TV×List (Key×TO)}
def Bik(σ:TSt)(w:TV):Prop:=w.noGd=true∧ ∀k n off t e,w= .iown k n off t e true→0≤n∧ ∃l:List t.D,σ.look k=some (.row t l)∧l[n.toNat]? =some e
theorem Ajx{w:TV}(h:w.tame=true):Bik σ w:=by
 refine⟨?_,fun k n off t e he=>?_⟩
 ·cases w<;>first|rfl|cases h
 ·subst he;cases h
def bl(b:Bool):TV:= .v .bool b
def nu(k:IntKind)(n:Int):TV:= .v (.int k) n
def tx(s:List UInt8):TV:= .v .str s
theorem Ea{α:Type}{dd:α}{o:Option α}{g:α→TV}(h:(An.ask dd o g).gives e): ∃a,o=some a∧e=(g a,[]):=by
 obtain⟨a,h1,h2⟩:=h
 cases h2
 exact⟨a,h1,rfl⟩
def Brk(k:IntKind)(op:BinOp)(y:Opd)(a b:Int):An:=match op with
 | .add=> .tot (nu k (k.wrap (a+b))) []
 | .sub=> .tot (nu k (k.wrap (a-b))) []
 | .mul=> .tot (nu k (k.wrap (a*b))) []
 | .quo=>match y with
  | .cst _=>match decide (b=0) with
   |true=> .no
   |false=> .tot (nu k (k.wrap (Int.tdiv a b))) []
  |_=> .ask 0 (Btb k a b) (nu k)
 | .rem=>match y with
  | .cst _=>match decide (b=0) with
   |true=> .no
   |false=> .tot (nu k (Int.tmod a b)) []
  |_=> .ask 0 (Btd k a b) (nu k)
 | .and=> .tot (nu k (Btm k a b)) []
 | .or=> .tot (nu k (orI k a b)) []
 | .xor=> .tot (nu k (Btr k a b)) []
 | .eql=> .tot (bl (a==b)) []
 | .neq=> .tot (bl (a !=b)) []
 | .lss=> .tot (bl (decide (a<b))) []
 | .leq=> .tot (bl (decide (a≤b))) []
 | .gtr=> .tot (bl (decide (a>b))) []
 | .geq=> .tot (bl (decide (a≥b))) []
 |_=> .no
def Brj(k:IntKind)(op:BinOp)(y:Opd)(a b:Int):An:=match op with
 | .shl=>match y with
  | .cst _=>match decide (b<0) with
   |true=> .no
   |false=> .tot (nu k (k.wrap (a*2^(min b.toNat k.bits)))) []
  |_=> .ask 0 (Btf k a b) (nu k)
 | .shr=>match y with
  | .cst _=>match decide (b<0) with
   |true=> .no
   |false=> .tot (nu k (a.fdiv (2^(min b.toNat k.bits)))) []
  |_=> .ask 0 (Btg k a b) (nu k)
 |_=> .no
def Brl(op:BinOp)(a b:List UInt8):An:=match op with
 | .add=> .ask [] (Bip a b) tx
 | .eql=> .tot (bl (a==b)) []
 | .neq=> .tot (bl (!(a==b))) []
 | .lss=> .tot (bl (Op.bytesLess a b)) []
 | .leq=> .tot (bl (Op.bytesLess a b||a==b)) []
 | .gtr=> .tot (bl (!(Op.bytesLess a b||a==b))) []
 | .geq=> .tot (bl (!Op.bytesLess a b)) []
 |_=> .no
def Bhd:BinOp→Bool
 | .shl=>true
 | .shr=>true
 |_=>false
def Bn4(b:Bool)(op:BinOp)(y:Opd)(X Y:TV):An:=match X,Y with
 | .v (.int k) m,.v (.int k') n=>match b with
  |true=> .no
  |false=>match Bhd op with
   |true=>Brj k op y m n
   |false=>match decide (k=k') with
    |true=>Brk k op y m n
    |false=> .no
 | .v .str m,.v .str n=>match b with
  |true=> .no
  |false=>Brl op m n
 | .v .bool m,.v .bool n=>match b with
  |true=>match op with
   | .eql=> .tot (bl (@BEq.beq Bool _ m n)) []
   | .neq=> .tot (bl (!(@BEq.beq Bool _ m n))) []
   |_=> .no
  |false=> .no
 |_,_=> .no
theorem Bdd{k:IntKind}{op:BinOp}{y:Opd}{a b:Int}(h:(Brk k op y a b).gives e): ∃p,Al2 op k a b=some p∧e.1.u= .pv p∧e.2=[]∧e.1.tame=true:=by
 unfold Brk at h
 cases op<;>simp only at h<;>(try cases h)<;>(try exact⟨_,rfl,rfl,rfl,rfl⟩)
 ·split at h
  ·split at h
   ·cases h
   ·rename_i hb
    cases h
    refine⟨.int k (k.wrap (a.tdiv b)),?_,rfl,rfl,rfl⟩
    simp only[Al2]
    rw[if_neg (by simpa using hb)]
  ·obtain⟨m,hm,rfl⟩:=Ea h
   unfold Btb at hm
   split at hm
   ·cases hm
   ·rename_i hb;cases hm;exact⟨.int k _,by simp only[Al2,if_neg hb],rfl,rfl,rfl⟩
 ·split at h
  ·split at h
   ·cases h
   ·rename_i hb
    cases h
    refine⟨.int k (a.tmod b),?_,rfl,rfl,rfl⟩
    simp only[Al2]
    rw[if_neg (by simpa using hb)]
  ·obtain⟨m,hm,rfl⟩:=Ea h
   unfold Btd at hm
   split at hm
   ·cases hm
   ·rename_i hb;cases hm;exact⟨.int k _,by simp only[Al2,if_neg hb],rfl,rfl,rfl⟩
theorem Bdc{k:IntKind}{op:BinOp}{y:Opd}{a b:Int}(h:(Brj k op y a b).gives e):Bhd op=true∧ ∃p,Ji op k a b=some p∧e.1.u= .pv p∧e.2=[]∧e.1.tame=true:=by
 unfold Brj at h
 cases op<;>simp only at h<;>(try (cases h;done))
 ·refine⟨rfl,?_⟩
  split at h
  ·split at h
   ·cases h
   ·rename_i hb
    cases h
    exact⟨.int k _,by simp only[Ji];rw[if_neg (by simpa using hb)],rfl,rfl,rfl⟩
  ·obtain⟨m,hm,rfl⟩:=Ea h
   unfold Btf at hm
   split at hm
   ·cases hm
   ·rename_i hb;cases hm;exact⟨.int k _,by simp only[Ji,if_neg hb],rfl,rfl,rfl⟩
 ·refine⟨rfl,?_⟩
  split at h
  ·split at h
   ·cases h
   ·rename_i hb
    cases h
    exact⟨.int k _,by simp only[Ji];rw[if_neg (by simpa using hb)],rfl,rfl,rfl⟩
  ·obtain⟨m,hm,rfl⟩:=Ea h
   unfold Btg at hm
   split at hm
   ·cases hm
   ·rename_i hb;cases hm;exact⟨.int k _,by simp only[Ji,if_neg hb],rfl,rfl,rfl⟩
theorem Bde{op:BinOp}{a b:List UInt8}(h:(Brl op a b).gives e): ∃p,A38 op a b=some p∧e.1.u= .pv p∧e.2=[]∧e.1.tame=true:=by
 unfold Brl at h
 cases op<;>simp only at h<;>(try (cases h;done))<;>(try (cases h;exact⟨_,rfl,rfl,rfl,rfl⟩))
 obtain⟨m,hm,rfl⟩:=Ea h
 unfold Bip at hm
 split at hm
 ·rename_i hb;cases hm;exact⟨.str _,by simp only[A38,if_pos hb],rfl,rfl,rfl⟩
 ·cases hm
theorem A8q(hI:Inv σ)(hc:Bp σ ch){b:Bool}{op:BinOp}{x y:Opd}(h:(Bn4 b op y (σ.ev ch x) (σ.ev ch y)).gives e):Does σ d (.bin b op x y) e∧e.1.tame=true:=by
 have hx:=Dx hI hc x
 have hy:=Dx hI hc y
 unfold Bn4 at h
 have key: ∀p q,σ.u.ev x= .pv p→σ.u.ev y= .pv q→p.isB=b→(∃r,Arf op p q=some r∧e.1.u= .pv r∧e.2=[]∧e.1.tame=true)→Does σ d (.bin b op x y) e∧e.1.tame=true:=by
  rintro p q h1 h2 h3 ⟨r,h4,h5,h6,h7⟩
  refine⟨fun cl=>?_,h7⟩
  simp only[Au,h1,h2,h3,BEq.rfl,cond_true,h4,Option.map_some,h5,h6,List.map_nil]
 split at h
 ·rename_i k m k' n e1 e2
  rw[e1] at hx;rw[e2] at hy
  split at h
  ·cases h
  ·refine key _ _ hx.symm hy.symm rfl ?_
   split at h
   ·obtain⟨h1,p,h2,h3⟩:=Bdc h
    refine⟨p,?_,h3⟩
    cases op<;>first|exact h2|cases h1
   ·rename_i hs
    split at h
    ·rename_i hk
     obtain rfl:k=k':=of_decide_eq_true hk
     obtain⟨p,h2,h3⟩:=Bdd h
     refine⟨p,?_,h3⟩
     cases op<;>first|(simp only[Ty.e,Arf,if_true];exact h2)|cases hs
    ·cases h
 ·rename_i m n e1 e2
  rw[e1] at hx;rw[e2] at hy
  split at h
  ·cases h
  ·exact key _ _ hx.symm hy.symm rfl (Bde h)
 ·rename_i m n e1 e2
  rw[e1] at hx;rw[e2] at hy
  split at h
  ·refine key _ _ hx.symm hy.symm rfl ?_
   cases op<;>simp only at h<;>(try cases h)<;>exact⟨_,rfl,rfl,rfl,rfl⟩
  ·cases h
 ·cases h
def Bsm(op:UnOp):TV→An
 | .v .bool q=>match op with
  | .not=> .tot (bl (!q)) []
  |_=> .no
 | .v (.int k) n=>match op with
  | .neg=> .tot (nu k (k.wrap (@HSub.hSub Int Int Int _ 0 n))) []
  |_=> .no
 |_=> .no
theorem Bie(hI:Inv σ)(hc:Bp σ ch){op:UnOp}{x:Opd}(h:(Bsm op (σ.ev ch x)).gives e):Does σ d (.un op x) e∧e.1.tame=true:=by
 have hx:=Dx hI hc x
 unfold Bsm at h
 split at h
 ·rename_i q e1
  rw[e1] at hx
  cases op<;>simp only at h<;>cases h
  exact⟨fun cl=>by simp only[Au,←hx,TV.u,Ty.e,Bke];rfl,rfl⟩
 ·rename_i k n e1
  rw[e1] at hx
  cases op<;>simp only at h<;>cases h
  exact⟨fun cl=>by simp only[Au,←hx,TV.u,Ty.e,Bke];rfl,rfl⟩
 ·cases h
def Bgb(k:IntKind):TV→An
 | .v (.int _) n=> .tot (nu k (k.wrap n)) []
 |_=> .no
theorem A16(hI:Inv σ)(hc:Bp σ ch){k:IntKind}{x:Opd}(h:(Bgb k (σ.ev ch x)).gives e):Does σ d (.conv k x) e∧e.1.tame=true:=by
 have hx:=Dx hI hc x
 unfold Bgb at h
 split at h
 ·rename_i k' n e1
  rw[e1] at hx
  cases h
  exact⟨fun cl=>by simp only[Au,←hx,TV.u,Ty.e];rfl,rfl⟩
 ·cases h
def Bc6:TV→Option (List TV)
 | .v (.st i) x=>some (Q7 (.st i) x)
 | .c (.agg ps)=>some (ps.map tc)
 |_=>none
theorem Aje{w:TV}{cs:List TV}(h:Bc6 w=some cs):cs.all TV.isP=true∧w.u= .pv (.agg (cs.map TV.pv)):=by
 unfold Bc6 at h
 split at h
 ·rename_i i x
  cases h
  obtain⟨h1,h2⟩:=Gq (.st i) x
  exact⟨h1,by rw[h2];rfl⟩
 ·rename_i ps
  cases h
  refine⟨by simp[Bn1],?_⟩
  simp only[TV.u,List.map_map]
  congr 2
  have: ∀p:PV,(TV.pv∘tc) p=p:=Bn2
  exact(List.map_congr_left (g:=fun p=>p) (fun p _=>this p)).trans (List.map_id _) |>.symm
 ·cases h
def A3b:List EK→List TV→List TV→Option Bool
 |[],[],[]=>some true
 | .i::ks,.v (.int k) a::xs,.v (.int k') b::ys=>match decide (k=k') with
  |true=>match A3b ks xs ys with
   |some r=>some (@BEq.beq Int _ a b&&r)
   |none=>none
  |false=>none
 | .b::ks,.v .bool a::xs,.v .bool b::ys=>match A3b ks xs ys with
  |some r=>some (@BEq.beq Bool _ a b&&r)
  |none=>none
 | .s::ks,.v .str a::xs,.v .str b::ys=>match A3b ks xs ys with
  |some r=>some (@BEq.beq (List UInt8) _ a b&&r)
  |none=>none
 |_,_,_=>none
theorem Bno: ∀{ks:List EK} {xs ys:List TV} {r:Bool},A3b ks xs ys=some r→C5 ks (xs.map TV.pv) (ys.map TV.pv)=some r:=by
 intro ks xs ys r h
 fun_induction A3b ks xs ys generalizing r<;>try (cases h;done)
 ·cases h;rfl
 ·rename_i ks k a xs k' b ys hk r' hr ih
  cases h
  have:=of_decide_eq_true hk
  subst this
  simp only[List.map_cons,TV.pv,Ty.e,C5,if_true,ih hr,Option.map_some]
 ·rename_i a xs b ys r' hr ih
  cases h
  simp only[List.map_cons,TV.pv,Ty.e,C5,ih hr,Option.map_some]
 ·rename_i a xs b ys r' hr ih
  cases h
  simp only[List.map_cons,TV.pv,Ty.e,C5,ih hr,Option.map_some]
def Bn6(neg:Bool)(ks:List EK)(X Y:TV):An:=match Bc6 X,Bc6 Y with
 |some xs,some ys=>match A3b ks xs ys with
  |some r=> .tot (bl (match neg with
   |true=> !r
   |false=>r)) []
  |none=> .no
 |_,_=> .no
theorem A83(hI:Inv σ)(hc:Bp σ ch){neg:Bool}{ks:List EK}{x y:Opd}(h:(Bn6 neg ks (σ.ev ch x) (σ.ev ch y)).gives e):Does σ d (.eqs neg ks x y) e∧e.1.tame=true:=by
 have hx:=Dx hI hc x
 have hy:=Dx hI hc y
 unfold Bn6 at h
 split at h
 ·rename_i xs ys e1 e2
  rw[(Aje e1).2] at hx
  rw[(Aje e2).2] at hy
  split at h
  ·rename_i r hr
   cases h
   refine⟨fun cl=>?_,rfl⟩
   simp only[Au,←hx,←hy,Bno hr,Option.map_some]
   cases neg<;>rfl
  ·cases h
 ·cases h
def Boa(t:Nat)(X:TV):An:=match Bc6 X with
 |some [.v (.int .i64) n]=> .tot (.v (.er t) (some n)) []
 |_=> .no
theorem A9y(hI:Inv σ)(hc:Bp σ ch){t:Nat}{x:Opd}(h:(Boa t (σ.ev ch x)).gives e):Does σ d (.mkI t x) e∧e.1.tame=true:=by
 have hx:=Dx hI hc x
 unfold Boa at h
 split at h
 ·rename_i n e1
  rw[(Aje e1).2] at hx
  cases h
  exact⟨fun cl=>by simp only[Au,←hx];rfl,rfl⟩
 ·cases h
def Bob(neg:Bool):TV→An
 | .v (.er _) (x:Option Int)=>match neg with
  |true=> .tot (bl x.isSome) []
  |false=> .tot (bl x.isNone) []
 | .c .nilI=> .tot (bl !neg) []
 |_=> .no
theorem Au1(hI:Inv σ)(hc:Bp σ ch){neg:Bool}{x:Opd}(h:(Bob neg (σ.ev ch x)).gives e):Does σ d (.isNil neg x) e∧e.1.tame=true:=by
 have hx:=Dx hI hc x
 unfold Bob at h
 split at h
 ·rename_i t z e1
  rw[e1] at hx
  have hx:SV.pv (Bro t z)=σ.u.ev x:=hx
  cases neg<;>simp only at h<;>cases h<;>refine⟨fun cl=>?_,rfl⟩<;>cases z<;>simp only[Au,←hx,Bro]<;>rfl
 ·rename_i e1
  rw[e1] at hx
  cases h
  exact⟨fun cl=>by simp only[Au,←hx,TV.u];rfl,rfl⟩
 ·cases h
def Bge:TV→An
 | .ptr k off=> .tot (.ptr k off) []
 |_=> .no
theorem A2t(hI:Inv σ)(hc:Bp σ ch){x:Opd}(h:(Bge (σ.ev ch x)).gives e):Does σ d (.nchk x) e∧e.1.tame=true:=by
 have hx:=Dx hI hc x
 unfold Bge at h
 split at h
 ·rename_i k off e1
  rw[e1] at hx
  cases h
  exact⟨fun cl=>by simp only[Au,←hx,TV.u];rfl,rfl⟩
 ·cases h
def Bh7(f:Nat):TV→An
 | .ptr k o=> .tot (.ptr k (o+f)) []
 | .iv t x o=> .tot (.iv t x (o+f)) []
 | .ic cs o=> .tot (.ic cs (o+f)) []
 | .iown k n o t z ok=> .tot (.iown k n (o+f) t z ok) []
 |_=> .no
theorem Blv(hI:Inv σ)(hc:Bp σ ch){f:Nat}{x:Opd}(h:(Bh7 f (σ.ev ch x)).gives e):Does σ d (.fld f x) e∧Bik σ e.1:=by
 have hx:=Dx hI hc x
 unfold Bh7 at h
 split at h
 case h_4 k n o t z ok e1=>
  rw[e1] at hx
  cases h
  refine⟨fun cl=>by simp only[Au,←hx,TV.u];rfl,rfl,fun k' n' off' t' e' he=>?_⟩
  cases he
  exact Bll hI e1
 case h_5=>cases h
 all_goals
  rename_i e1
  rw[e1] at hx
  cases h
  exact⟨fun cl=>by simp only[Au,←hx,TV.u];rfl,Ajx rfl⟩
def Bgf(agg:Bool)(ty:Ty)(off n:Nat):TV→An
 | .agg _ cs=> .opt (rng agg ty off n cs)
 |w=>match Bc6 w with
  |some cs=> .opt (rng agg ty off n cs)
  |none=> .no
theorem A2z(hI:Inv σ)(hc:Bp σ ch){agg:Bool}{ty:Ty}{off n:Nat}{x:Opd}(h:(Bgf agg ty off n (σ.ev ch x)).gives e):Does σ d (.part agg off n x) e∧e.1.tame=true:=by
 have hx:=Dx hI hc x
 unfold Bgf at h
 split at h
 ·rename_i t cs e1
  rw[e1] at hx
  obtain⟨w,h1,h2,h3,h4⟩:=I5 h
  obtain⟨h5,h6⟩:=Bni h1
  refine⟨fun cl=>?_,h4⟩
  simp only[Au,←hx,TV.u,Ix,if_pos h5,h6,Option.map_some,h2,h3,List.map_nil]
 ·split at h
  ·rename_i cs e1
   rw[(Aje e1).2] at hx
   obtain⟨w,h1,h2,h3,h4⟩:=I5 h
   obtain⟨h5,h6⟩:=A7r (Aje e1).1 h1
   refine⟨fun cl=>?_,h4⟩
   simp only[Au,←hx,if_pos h5,h6,Option.map_some,h2,h3,List.map_nil]
  ·cases h
def Bh8(σ:TSt)(sz:Nat)(X:TV):TV→An
 | .v (.int _) n=>match X with
  | .v (.sl t) l=>match t.sz==sz with
   |true=> .ask t.dfl (rdO l n) fun e=> .iv t e 0
   |false=> .no
  | .own k=>match σ.look k with
   |some (.row t l)=>match t.sz==sz with
    |true=> .ask t.dfl (rdO l n) fun e=> .iown k n 0 t e true
    |false=> .no
   |_=> .no
  |_=> .no
 |_=> .no
theorem Bhm{α β:Type}(f:α→β){l:List α}{i:Nat}{a:α}(h:l[i]? =some a):(l.map f)[i]? =some (f a):=by rw[List.getElem?_map,h];rfl
theorem Bmh(hI:Inv σ)(hc:Bp σ ch){sz:Nat}{x i:Opd}(h:(Bh8 σ sz (σ.ev ch x) (σ.ev ch i)).gives e):Does σ d (.idx sz x i) e∧Bik σ e.1:=by
 have hx:=Dx hI hc x
 have hi:=Dx hI hc i
 unfold Bh8 at h
 split at h
 ·rename_i k n e1
  rw[e1] at hi
  have hi':intOf (σ.u.ev i)=some (k,n):=by rw[←hi];rfl
  split at h
  ·rename_i t l e2
   rw[e2] at hx
   split at h
   ·rename_i hs
    obtain⟨a,ha,rfl⟩:=Ea h
    obtain⟨h0,hl⟩:=Ai1 ha
    refine⟨fun cl=>?_,Ajx rfl⟩
    have hz:(t.e a).cells.length=sz:=by rw[Ajf];simpa using hs
    have hx:SV.pv (.slice (List.map t.e l))=σ.u.ev x:=hx
    have hl':=Bhm t.e hl
    simp only[Au,←hx,hi',if_pos h0,hl',if_pos hz,List.map_nil,TV.u]
   ·cases h
  ·rename_i k2 e2
   rw[e2] at hx
   split at h
   ·rename_i t l e3
    split at h
    ·rename_i hs
     obtain⟨a,ha,rfl⟩:=Ea h
     obtain⟨h0,hl⟩:=Ai1 ha
     refine⟨fun cl=>?_,rfl,fun k' n' off' t' e' he=>?_⟩
     ·have hz:t.sz=sz:=by simpa using hs
      have hlt:n.toNat<l.length:=(List.getElem?_eq_some_iff.1 hl).1
      have hx:SV.own k2=σ.u.ev x:=hx
      have hcc:=And.intro h0 (And.intro (show Int.toNat n<(List.map t.e l).length from by simpa using hlt) hz)
      simp only[Au,←hx,hi',A6 e3,TO.u,if_pos hcc,List.map_nil,TV.u]
     ·cases he
      exact⟨h0,l,e3,hl⟩
    ·cases h
   ·cases h
  ·cases h
 ·cases h
def Bgh(X Y:TV):An:=match X,Y with
 | .v .str s,.v (.int _) n=> .ask 0 (byO s n) (nu .u8)
 |_,_=> .no
theorem A3e(hI:Inv σ)(hc:Bp σ ch){x i:Opd}(h:(Bgh (σ.ev ch x) (σ.ev ch i)).gives e):Does σ d (.sidx x i) e∧e.1.tame=true:=by
 have hx:=Dx hI hc x
 have hi:=Dx hI hc i
 unfold Bgh at h
 split at h
 ·rename_i s k n e1 e2
  rw[e1] at hx;rw[e2] at hi
  obtain⟨m,hm,rfl⟩:=Ea h
  refine⟨fun cl=>?_,rfl⟩
  unfold byO at hm
  split at hm
  ·rename_i h0
   simp only[Option.map_eq_some_iff] at hm
   obtain⟨b,hb,rfl⟩:=hm
   have hi':intOf (σ.u.ev i)=some (k,n):=by rw[←hi];rfl
   have hx:SV.pv (.str s)=σ.u.ev x:=hx
   simp only[Au,←hx,hi',if_pos h0,hb]
   rfl
  ·cases hm
 ·cases h
def chunks(ty:Ty)(n:Nat):Nat→List TV→Option (List ty.D)
 |0,_=>some []
 |k+1,cs=>match gather ty (cs.take n) with
  |some x=>match chunks ty n k (cs.drop n) with
   |some l=>some (x::l)
   |none=>none
  |none=>none
theorem A14{ty:Ty}{n:Nat}: ∀{k:Nat} {cs:List TV} {l:List ty.D} {i:Nat} {e:ty.D},chunks ty n k cs=some l→l[i]? =some e→i<k∧gather ty ((cs.drop (i*n)).take n)=some e
 |0,cs,l,i,e,h,he=>by cases h;simp at he
 |k+1,cs,l,i,e,h,he=>by
  simp only[chunks] at h
  split at h
  ·rename_i x hx
   split at h
   ·rename_i l' hl
    cases h
    cases i with
    |zero=>
     simp at he;subst he
     exact⟨by omega,by simpa using hx⟩
    |succ i=>
     simp only[List.getElem?_cons_succ] at he
     obtain⟨h1,h2⟩:=A14 hl he
     refine⟨by omega,?_⟩
     rw[List.drop_drop] at h2
     rw[show(i+1)*n=n+i*n by rw[Nat.succ_mul];omega]
     exact h2
   ·cases h
  ·cases h
def Bf9(ty:Ty)(len n:Nat)(X Y:TV):An:=match Bc6 X,Y,ty with
 |some cs,.v (.int _) (m:Int),.st i=>match n==(Cel.ts i).length with
  |true=>match chunks (.st i) n len cs with
   |some l=> .ask (Ty.dfl (.st i)) (rdO l m) (.v (.st i))
   |none=> .no
  |false=> .no
 |_,_,_=> .no
theorem A1v(hI:Inv σ)(hc:Bp σ ch){ty:Ty}{len n:Nat}{x i:Opd}(h:(Bf9 ty len n (σ.ev ch x) (σ.ev ch i)).gives e):Does σ d (.aidx len n x i) e∧e.1.tame=true:=by
 have hx:=Dx hI hc x
 have hi:=Dx hI hc i
 unfold Bf9 at h
 split at h
 ·rename_i cs k m j e1 e2
  rw[e2] at hi
  rw[(Aje e1).2] at hx
  split at h
  ·rename_i hn
   have hn:=eq_of_beq hn
   split at h
   ·rename_i l hl
    obtain⟨a,ha,rfl⟩:=Ea h
    obtain⟨h0,hla⟩:=Ai1 ha
    obtain⟨h1,h2⟩:=A14 hl hla
    obtain⟨h3,h4⟩:=Qo h2
    have hlen:((cs.drop (m.toNat*n)).take n).length=n:=by
     have:=congrArg List.length h4
     rw[List.length_map,Ajf] at this
     exact this.trans hn.symm
    have hb:m.toNat*n+n≤cs.length∨n=0:=by
     rw[List.length_take,List.length_drop] at hlen
     omega
    refine⟨fun cl=>?_,rfl⟩
    have i1:intOf (σ.u.ev i)=some (k,m):=by rw[←hi];rfl
    by_cases hn0:n=0
    ·
     have hb':m.toNat*n+n≤(cs.map TV.pv).length:=by rw[hn0];simp
     have hcc:0≤m∧m.toNat<len∧m.toNat*n+n≤(cs.map TV.pv).length:=⟨h0,h1,hb'⟩
     simp only[Au,←hx,i1,if_pos hcc]
     rw[←List.map_drop,←List.map_take,h4]
     simp only[SV.ofCells,cond_true,Apg]
     rfl
    ·have hb':m.toNat*n+n≤(cs.map TV.pv).length:=by
      rw[List.length_map]
      rcases hb with hb|hb
      ·exact hb
      ·exact absurd hb hn0
     have hcc:0≤m∧m.toNat<len∧m.toNat*n+n≤(cs.map TV.pv).length:=⟨h0,h1,hb'⟩
     simp only[Au,←hx,i1,if_pos hcc]
     rw[←List.map_drop,←List.map_take,h4]
     simp only[SV.ofCells,cond_true,Apg]
     rfl
   ·cases h
  ·cases h
 ·cases h
theorem A12: ∀l:List Int,Tt (l.map (PV.int .u8))=some (l.map fun n=>UInt8.ofNat n.toNat)
 |[]=>rfl
 |n::l=>by rw[List.map_cons,Tt,A12 l];rfl
def Bn3:TV→An
 | .v (.sl (.int .u8)) l=> .tot (tx (List.map (fun n:Int=>UInt8.ofNat (Int.toNat n)) l)) []
 |_=> .no
theorem A8k(hI:Inv σ)(hc:Bp σ ch){x:Opd}(h:(Bn3 (σ.ev ch x)).gives e):Does σ d (.b2s x) e∧e.1.tame=true:=by
 have hx:=Dx hI hc x
 unfold Bn3 at h
 split at h
 ·rename_i l e1
  rw[e1] at hx
  cases h
  have hx:SV.pv (.slice (List.map (PV.int .u8) l))=σ.u.ev x:=hx
  refine⟨fun cl=>?_,rfl⟩
  simp only[Au,←hx]
  exact congrArg (Option.map fun s=>(⟨.pv (.str s),[]⟩:Eff)) (A12 l)
 ·cases h
def Bn7(i:Nat):TV→An
 | .tup vs=> .opt vs[i]?
 |_=> .no
theorem A84(hI:Inv σ)(hc:Bp σ ch){i:Nat}{x:Opd}(h:(Bn7 i (σ.ev ch x)).gives e):Does σ d (.ext i x) e∧e.1.tame=true:=by
 have hx:=Dx hI hc x
 unfold Bn7 at h
 split at h
 ·rename_i vs e1
  rw[e1] at hx
  obtain⟨w,h1,h2,h3,h4⟩:=I5 h
  refine⟨fun cl=>?_,h4⟩
  simp only[Au,←hx,TV.u,Ix,List.getElem?_map,h1,Option.map_some,h2,h3,List.map_nil]
 ·cases h
end
end Go.Av
end
