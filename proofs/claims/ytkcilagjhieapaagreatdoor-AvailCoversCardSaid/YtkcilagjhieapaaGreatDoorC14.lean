import Derived.Test.YtkcilagjhieapaaGreatDoorProg
import Derived.WalkKit
import Derived.LaidEql
import Derived.Stop.Asserts
import Derived.RowKitTokens
import Derived.Test.YtkcilagjhieapaaGreatDoorC13
section
namespace Go.Proofs.YtkcilagjhieapaaGreatDoor
open Go.RowKit Go.Extern.Stop Go.Stop Go.Extern
theorem as_nil (t : Value) (w : World) :
  Calls Tryz.prog 70 #[.nilIface, t] w fun e w' => e = .returned (.bool false) ∧ w' = w := by
 go_enter Tryz.func70, Tryz.ntmps70
 go_wp2
 go_ret
 exact ⟨rfl, rfl⟩
theorem Tz.valueOfP (t : Addr) (w : World) : (ReflectliteValue.unpack (.iface 119 (.pointer (some t)))).run Tryz.prog w
  = .ok (.agg #[.pointer (some ⟨1, 119, none⟩), .pointer (some ⟨w.heap.size, 0, none⟩), .int .u64 150]) (w.alloc (.cells #[.pointer (some t)] 119)) := by kernel_rfl
theorem Tz.typeP (a : Addr) (w : World) : (ReflectliteValue.methodAny (ReflectliteValue.valueError "reflectlite.Value.Type" 0) (fun t _ _ _ => ReflectliteType.toType t) #[.agg #[.pointer (some ⟨1, 119, none⟩), .pointer (some a), .int .u64 150]]).run Tryz.prog w
  = .ok (.iface 200 (.agg #[.pointer (some ⟨1, 119, none⟩)])) w := by kernel_rfl
theorem Tz.methodKind (h : Value) (w : World) : (Go.method 352 200 (.agg #[h]) "Kind").run Tryz.prog w = .ok (168, h) w := by kernel_rfl
theorem Tz.kindP (w : World) : ((ReflectliteType.abiMethod fun t => (fun a : Nat => Value.int IntKind.u8 (a : Int)) <$> Rtype.kind t) #[.pointer (some ⟨1, 119, none⟩)]).run Tryz.prog w = .ok (.int .u8 22) w := by kernel_rfl
theorem Tz.kindR (w : World) : ((ReflectliteType.abiMethod fun t => (fun a : Nat => Value.int IntKind.u8 (a : Int)) <$> Rtype.kind t) #[.pointer (some ⟨1, 113, none⟩)]).run Tryz.prog w = .ok (.int .u8 25) w := by kernel_rfl
theorem rlm (z : Sem Value) (f : TypeId → Addr → Nat → Nat → Sem Value) (v : Value) :
  ReflectliteValue.method z f #[v] = (do match ← ReflectliteValue.parts v with | none => z | some (t, a, fl) => f t a fl (fl % 32)) := rfl
theorem Tz.partsP (a : Addr) (w : World) : (ReflectliteValue.parts (.agg #[.pointer (some ⟨1, 119, none⟩), .pointer (some a), .int .u64 150])).run Tryz.prog w = .ok (some (119, a, 150)) w := by kernel_rfl
theorem Tz.isNilP (a p : Addr) (W : World) (ha : W.cell? a = some (.pointer (some p))) :
  (ReflectliteValue.method (ReflectliteValue.valueError "reflectlite.Value.IsNil" 0) ReflectliteValue.isNil #[.agg #[.pointer (some ⟨1, 119, none⟩), .pointer (some a), .int .u64 150]]).run Tryz.prog W = .ok (.bool false) W := by
 rw [rlm]
 simp only [Sem.run_bind, Tz.partsP, Result.andThen]
 simp [ReflectliteValue.isNil, loadVar, isAgg, underlying, Tryz.underlying119, ha, Result.andThen]
theorem Tz.methodElem (h : Value) (w : World) : (Go.method 352 200 (.agg #[h]) "Elem").run Tryz.prog w = .ok (179, .agg #[h]) w := by kernel_rfl
theorem Tz.methodImplements (h : Value) (w : World) : (Go.method 352 200 (.agg #[h]) "Implements").run Tryz.prog w = .ok (180, .agg #[h]) w := by kernel_rfl
theorem Tz.methodAssignableTo (h : Value) (w : World) : (Go.method 352 200 (.agg #[h]) "AssignableTo").run Tryz.prog w = .ok (177, .agg #[h]) w := by kernel_rfl
theorem Tz.elemP (w : World) : (ReflectliteType.method ReflectliteType.elem #[.agg #[.pointer (some ⟨1, 119, none⟩)]]).run Tryz.prog w = .ok (.iface 200 (.agg #[.pointer (some ⟨1, 113, none⟩)])) w := by kernel_rfl
theorem Tz.implementsR (w : World) : (ReflectliteType.relation "Implements" ReflectliteType.implements_ #[.agg #[.pointer (some ⟨1, 113, none⟩)], .iface 200 (.agg #[.pointer (some ⟨1, 72, none⟩)])]).run Tryz.prog w = .ok (.bool true) w := by kernel_rfl
theorem Tz.typeOfR (v : Value) (w : World) : (ReflectliteType.typeOf #[.iface 113 v]).run Tryz.prog w = .ok (.iface 200 (.agg #[.pointer (some ⟨1, 113, none⟩)])) w := by kernel_rfl
theorem Tz.assignableR (w : World) : (ReflectliteType.relation "AssignableTo" ReflectliteType.assignableTo #[.agg #[.pointer (some ⟨1, 113, none⟩)], .iface 200 (.agg #[.pointer (some ⟨1, 113, none⟩)])]).run Tryz.prog w = .ok (.bool true) w := by kernel_rfl
theorem Tz.valueOfR (e : Int) (w : World) : (ReflectliteValue.unpack (.iface 113 (.agg #[.int .i64 e]))).run Tryz.prog w
  = .ok (.agg #[.pointer (some ⟨1, 113, none⟩), .pointer (some ⟨w.heap.size, 0, none⟩), .int .u64 153]) (w.alloc (.cells #[.int .i64 e] 113)) := by kernel_rfl
theorem Tz.elemOfP (w : World) : (Rtype.elem? 119).run Tryz.prog w = .ok (some 113) w := by kernel_rfl
theorem Tz.mkR (p : Addr) (w : World) : (ReflectliteValue.mk 113 p ReflectliteValue.flagAddr).run Tryz.prog w = .ok (.agg #[.pointer (some ⟨1, 113, none⟩), .pointer (some p), .int .u64 409]) w := by kernel_rfl
theorem Tz.elemVP (a p : Addr) (W : World) (ha : W.cell? a = some (.pointer (some p))) :
  (ReflectliteValue.method (ReflectliteValue.valueError "reflectlite.Value.Elem" 0) ReflectliteValue.elem #[.agg #[.pointer (some ⟨1, 119, none⟩), .pointer (some a), .int .u64 150]]).run Tryz.prog W
   = .ok (.agg #[.pointer (some ⟨1, 113, none⟩), .pointer (some p), .int .u64 409]) W := by
 rw [rlm]
 simp only [Sem.run_bind, Tz.partsP, Result.andThen]
 simp [ReflectliteValue.elem, loadVar, isAgg, underlying, Tryz.underlying119, ha, Result.andThen, Tz.elemOfP, Tz.mkR]
theorem rls (v x : Value) : ReflectliteValue.set #[v, x] = (do
  let (some (dst, a, fl), some (src, b, _)) := (← ReflectliteValue.parts v, ← ReflectliteValue.parts x)
   | unsupported (.noEntry "extern/(internal/reflectlite.Value).Set.zeroValue")
  if fl / ReflectliteValue.flagAddr % 2 == 0 then unsupported (.noEntry "extern/(internal/reflectlite.Value).Set.unaddressable")
  let val ← loadVar src b
  if ← Rtype.directlyAssignable dst src then storeVar dst a val
  else if ← Rtype.implements dst src then
   if (← Rtype.kind src) == 20 then
    match val with
    | .nilIface => unsupported (.noEntry "extern/reflectlite: a nil value of one interface type handed on as a value of another")
    | _ => storeVar dst a val
   else storeVar dst a (.iface src val)
  else panicString ("reflectlite.Set: value of type " ++ (← Rtype.spelt src) ++ " is not assignable to type " ++ (← Rtype.spelt dst))
  pure (.tuple #[])) := rfl
theorem Tz.partsRa (a : Addr) (w : World) : (ReflectliteValue.parts (.agg #[.pointer (some ⟨1, 113, none⟩), .pointer (some a), .int .u64 409])).run Tryz.prog w = .ok (some (113, a, 409)) w := by kernel_rfl
theorem Tz.partsR (a : Addr) (w : World) : (ReflectliteValue.parts (.agg #[.pointer (some ⟨1, 113, none⟩), .pointer (some a), .int .u64 153])).run Tryz.prog w = .ok (some (113, a, 153)) w := by kernel_rfl
theorem Tz.directR (w : World) : (Rtype.directlyAssignable 113 113).run Tryz.prog w = .ok true w := by kernel_rfl
theorem Tz.sizeR (w : World) : (sizeOf 113).run Tryz.prog w = .ok 1 w := by kernel_rfl
theorem Tz.aggR (w : World) : (isAgg 113).run Tryz.prog w = .ok true w := by kernel_rfl
theorem Tz.loadR (b : Addr) (e : Int) (W : World) (hb : W.cell? b = some (.int .i64 e)) (hbs : b.spot = none) : (loadVar 113 b).run Tryz.prog W = .ok (.agg #[.int .i64 e]) W := by
 simp [loadVar, Tz.aggR, Tz.sizeR, Result.andThen, loadCells, loadCellsFrom, Addr.add, hb]
theorem Tz.storeR (ta : Addr) (e : Int) (old : Value) (W : World) (ht : W.cell? ta = some old) (hf : W.frozen? ta = false) : (storeVar 113 ta (.agg #[.int .i64 e])).run Tryz.prog W = .ok () (W.setCell ta (.int .i64 e)) := by
 simp [storeVar, Value.cells, storeCells, Addr.add, Tz.sizeR, Result.andThen]
 rw [run_store Tryz.prog W ta _ _ (by rfl)]
 simp [ht, hf]
theorem Tz.setR (ta b : Addr) (e : Int) (old : Value) (W : World) (hb : W.cell? b = some (.int .i64 e)) (hbs : b.spot = none) (ht : W.cell? ta = some old) (hf : W.frozen? ta = false) :
  (ReflectliteValue.set #[.agg #[.pointer (some ⟨1, 113, none⟩), .pointer (some ta), .int .u64 409], .agg #[.pointer (some ⟨1, 113, none⟩), .pointer (some b), .int .u64 153]]).run Tryz.prog W
   = .ok (.tuple #[]) (W.setCell ta (.int .i64 e)) := by
 rw [rls]
 simp only [Sem.run_bind, Tz.partsRa, Tz.partsR, Result.andThen]
 simp [ReflectliteValue.flagAddr, Result.andThen, Tz.directR, Tz.loadR b e W hb hbs, Tz.storeR ta e old W ht hf]
noncomputable def hitW (w : World) (t : Addr) (e : Int) : World := ((((w.alloc (.cells #[.pointer (some t)] 119)).alloc (.cells #[.pointer (some ⟨1, 119, none⟩), .pointer (some ⟨w.heap.size, 0, none⟩), .int .u64 150] 167)).alloc (.cells #[.pointer (some ⟨1, 119, none⟩), .pointer (some ⟨w.heap.size, 0, none⟩), .int .u64 150] 167)).alloc (.cells #[.int .i64 e] 113)).setCell t (.int .i64 e)
set_option maxHeartbeats 4000000 in
theorem as_hit (e : Int) (t : Addr) (old : Value) (w : World) (hg : w.cell? ⟨0, 0, none⟩ = some (.iface 200 (.agg #[.pointer (some ⟨1, 72, none⟩)]))) (ht0 : w.cell? t = some old) (hf0 : w.frozen? t = false) :
  Calls Tryz.prog 70 #[.iface 113 (.agg #[.int .i64 e]), .iface 119 (.pointer (some t))] w fun ev w' => ev = .returned (.bool true) ∧ w' = hitW w t e := by
 have h6 := @run_callFunc_extern Tryz.prog 113 _ (fun args => ReflectliteValue.unpack (args.getD 0 (.tuple #[]))) Tryz.func113 (by kernel_rfl) (by kernel_rfl) (by kernel_rfl) (by kernel_rfl)
 have h7 := @run_callFunc_extern Tryz.prog 114 _ (ReflectliteValue.methodAny (ReflectliteValue.valueError "reflectlite.Value.Type" 0) (fun t _ _ _ => ReflectliteType.toType t)) Tryz.func114 (by kernel_rfl) (by kernel_rfl) (by kernel_rfl) (by kernel_rfl)
 have h8 := @run_callFunc_extern Tryz.prog 115 _ (ReflectliteValue.method (ReflectliteValue.valueError "reflectlite.Value.IsNil" 0) ReflectliteValue.isNil) Tryz.func115 (by kernel_rfl) (by kernel_rfl) (by kernel_rfl) (by kernel_rfl)
 have h27 := @run_callFunc_extern Tryz.prog 168 _ (ReflectliteType.abiMethod fun t => do pure (.int .u8 (← Rtype.kind t))) Tryz.func168 (by kernel_rfl) (by kernel_rfl) (by kernel_rfl) (by kernel_rfl)
 have h37 := @run_callFunc_extern Tryz.prog 179 _ (ReflectliteType.method ReflectliteType.elem) Tryz.func179 (by kernel_rfl) (by kernel_rfl) (by kernel_rfl) (by kernel_rfl)
 have h38 := @run_callFunc_extern Tryz.prog 180 _ (ReflectliteType.relation "Implements" ReflectliteType.implements_) Tryz.func180 (by kernel_rfl) (by kernel_rfl) (by kernel_rfl) (by kernel_rfl)
 have h10 := @run_callFunc_extern Tryz.prog 141 _ ReflectliteType.typeOf Tryz.func141 (by kernel_rfl) (by kernel_rfl) (by kernel_rfl) (by kernel_rfl)
 have h35 := @run_callFunc_extern Tryz.prog 177 _ (ReflectliteType.relation "AssignableTo" ReflectliteType.assignableTo) Tryz.func177 (by kernel_rfl) (by kernel_rfl) (by kernel_rfl) (by kernel_rfl)
 have h11 := @run_callFunc_extern Tryz.prog 142 _ (ReflectliteValue.method (ReflectliteValue.valueError "reflectlite.Value.Elem" 0) ReflectliteValue.elem) Tryz.func142 (by kernel_rfl) (by kernel_rfl) (by kernel_rfl) (by kernel_rfl)
 have h12 := @run_callFunc_extern Tryz.prog 143 _ ReflectliteValue.set Tryz.func143 (by kernel_rfl) (by kernel_rfl) (by kernel_rfl) (by kernel_rfl)
 have tO := Tz.typeOfR
 have mA := Tz.methodAssignableTo
 have a25 := Tz.assignableR
 have v25 := Tz.valueOfR
 have f6 := Tz.valueOfP
 have f7 := Tz.typeP
 have mK := Tz.methodKind
 have mE := Tz.methodElem
 have mI := Tz.methodImplements
 have k27 := Tz.kindP
 have k25 := Tz.kindR
 have e27 := Tz.elemP
 have i25 := Tz.implementsR
 have n8 := Tz.isNilP ⟨w.heap.size, 0, none⟩ t ((w.alloc (.cells #[.pointer (some t)] 119)).alloc (.cells #[.pointer (some ⟨1, 119, none⟩), .pointer (some ⟨w.heap.size, 0, none⟩), .int .u64 150] 167)) (by simp)
 have hlt : 0 < w.heap.size := by
  rcases Nat.eq_zero_or_pos w.heap.size with h0 | h
  ·simp [World.cell?, h0] at hg
  ·exact h
 have hg2 : ((w.alloc (.cells #[.pointer (some t)] 119)).alloc (.cells #[.pointer (some ⟨1, 119, none⟩), .pointer (some ⟨w.heap.size, 0, none⟩), .int .u64 150] 167)).cell? ⟨0, 0, none⟩ = some (.iface 200 (.agg #[.pointer (some ⟨1, 72, none⟩)])) := by
  rw [World.cell?_alloc_lt _ _ ⟨0, 0, none⟩ (by simp), World.cell?_alloc_lt _ _ ⟨0, 0, none⟩ hlt]; exact hg
 have htl : t.block < w.heap.size := by
  rcases Nat.lt_or_ge t.block w.heap.size with h | h
  ·exact h
  ·simp [World.cell?, Array.getElem?_eq_none h] at ht0
 have el := Tz.elemVP ⟨w.heap.size, 0, none⟩ t (((w.alloc (.cells #[.pointer (some t)] 119)).alloc (.cells #[.pointer (some ⟨1, 119, none⟩), .pointer (some ⟨w.heap.size, 0, none⟩), .int .u64 150] 167)).alloc (.cells #[.pointer (some ⟨1, 119, none⟩), .pointer (some ⟨w.heap.size, 0, none⟩), .int .u64 150] 167)) (by rw [World.cell?_alloc_lt _ _ ⟨w.heap.size, 0, none⟩ (by simp; omega)]; simp)
 have st := Tz.setR t ⟨w.heap.size + 1 + 1 + 1, 0, none⟩ e old ((((w.alloc (.cells #[.pointer (some t)] 119)).alloc (.cells #[.pointer (some ⟨1, 119, none⟩), .pointer (some ⟨w.heap.size, 0, none⟩), .int .u64 150] 167)).alloc (.cells #[.pointer (some ⟨1, 119, none⟩), .pointer (some ⟨w.heap.size, 0, none⟩), .int .u64 150] 167)).alloc (.cells #[.int .i64 e] 113))
  (by rw [World.cell?_alloc_at _ _ _ _ (by simp)]; rfl) rfl
  (by rw [World.cell?_alloc_lt _ _ t (by simp; omega), World.cell?_alloc_lt _ _ t (by simp; omega), World.cell?_alloc_lt _ _ t (by simp; omega), World.cell?_alloc_lt _ _ t htl]; exact ht0)
  (by rw [World.frozen?_alloc_old _ _ t (by simp; omega), World.frozen?_alloc_old _ _ t (by simp; omega), World.frozen?_alloc_old _ _ t (by simp; omega), World.frozen?_alloc_old _ _ t (Nat.ne_of_lt htl)]; exact hf0)
 go_enter Tryz.func70, Tryz.ntmps70
 go_wp2
 refine wp_loop_rounds 1 ?_
 rw [rounds_succ]
 go_wp2
 go_ret
 exact ⟨rfl, rfl⟩
end Go.Proofs.YtkcilagjhieapaaGreatDoor
end
section
set_option linter.unusedVariables false
set_option linter.unusedSimpArgs false
namespace Go.Proofs.YtkcilagjhieapaaGreatDoor
open Go Go.RowKit Go.Extern.Stop Go.Stop Go.Extern
theorem as_hit' (e : Int) (w : World) (hg : w.cell? ⟨0, 0, none⟩ = some (.iface 200 (.agg #[.pointer (some ⟨1, 72, none⟩)]))) (v0 : Value) :
  Calls Tryz.prog 70 #[.iface 113 (.agg #[.int .i64 e]), .iface 119 (.pointer (some ⟨w.heap.size, 0, none⟩))] (w.alloc (.cells #[v0] 113)) fun ev w' => ev = .returned (.bool true) ∧ w'.cell? ⟨w.heap.size, 0, none⟩ = some (.int .i64 e) ∧ Below w.heap.size w w' := by
 have hlt : 0 < w.heap.size := by
  rcases Nat.eq_zero_or_pos w.heap.size with h0 | h
  ·simp [World.cell?, h0] at hg
  ·exact h
 refine (as_hit e ⟨w.heap.size, 0, none⟩ v0 (w.alloc (.cells #[v0] 113)) (by rw [World.cell?_alloc_lt _ _ ⟨0, 0, none⟩ hlt]; exact hg) (by simp) (by simp)).mono ?_
 rintro ev w' ⟨rfl, rfl⟩
 refine ⟨rfl, ?_, ?_⟩
 ·unfold hitW
  refine World.cell?_setCell_same (u := v0) _ _ _ ?_
  rw [World.cell?_alloc_lt _ _ ⟨w.heap.size, 0, none⟩ (by simp; omega), World.cell?_alloc_lt _ _ ⟨w.heap.size, 0, none⟩ (by simp; omega), World.cell?_alloc_lt _ _ ⟨w.heap.size, 0, none⟩ (by simp; omega), World.cell?_alloc_lt _ _ ⟨w.heap.size, 0, none⟩ (by simp)]
  simp
 ·unfold hitW
  exact (((((((Below.refl _ w).alloc (Nat.le_refl _) _).alloc (by simp) _).alloc (by simp; omega) _).alloc (by simp; omega) _).alloc (by simp; omega) _)).setCell (by simp) _
theorem why_nil (w : World) : Calls Tryz.prog 29 #[.nilIface] w fun e w' => e = .returned (.int .i64 0) ∧ Below w.heap.size w w' := by
 go_enter Tryz.func29, Tryz.ntmps29
 go_wp2_with (first | (go_at_call 70; refine (as_nil _ _).mono ?_; rintro e w' ⟨rfl, rfl⟩))
 go_ret
 exact ⟨rfl, (Below.refl _ w).alloc (Nat.le_refl _) _⟩
theorem why_hit (n : Int) (w : World) (hg : w.cell? ⟨0, 0, none⟩ = some (.iface 200 (.agg #[.pointer (some ⟨1, 72, none⟩)]))) : Calls Tryz.prog 29 #[.iface 113 (.agg #[.int .i64 n])] w fun e w' => e = .returned (.int .i64 n) ∧ Below w.heap.size w w' := by
 go_enter Tryz.func29, Tryz.ntmps29
 go_wp2_with (first | (go_at_call 70; refine (as_hit' n w hg _).mono ?_; rintro e w' ⟨rfl, hc, hb⟩))
 go_ret
 exact ⟨rfl, hb⟩
end Go.Proofs.YtkcilagjhieapaaGreatDoor
namespace Go.Av.G
open Go Go.Av Go.Proofs
theorem why_contract {e : Option Int} {r : Int} (h : r = e.getD 0) : Contract Tryz.prog 29 [.pv (eErr 113 e)] [] ⟨.pv (.int .i64 r), [], []⟩ := by
 subst h
 refine ⟨⟨Tryz.f29, Tryz.func29, by kernel_rfl, by kernel_rfl⟩, fun w vs γ ok h1 hG h2 h3 h4 h5 => ?_⟩
 match vs, h4 with
 | [v], _ =>
  have hv := slies_pv (h5 0 _ _ rfl rfl)
  cases e with
  | none =>
   obtain rfl : v = .nilIface := by cases hv; rfl
   refine (Go.Proofs.YtkcilagjhieapaaGreatDoor.why_nil w).mono ?_
   rintro e w' ⟨rfl, hb⟩
   exact ⟨_, fun _ => ⟨none, 0⟩, rfl, after_of_below hb (.pv _ _ (.int _ _))⟩
  | some n =>
   obtain rfl : v = .iface 113 (.agg #[.int .i64 n]) := by
    cases hv with
    | iface _ _ u hu =>
     cases hu with
     | agg _ us hl _ hj =>
      match us, hl, hj with
      | [u], _, hj =>
       have := lies_int (hj 0 _ _ rfl rfl)
       subst this; rfl
   refine (Go.Proofs.YtkcilagjhieapaaGreatDoor.why_hit n w hG.2).mono ?_
   rintro e w' ⟨rfl, hb⟩
   exact ⟨_, fun _ => ⟨none, 0⟩, rfl, after_of_below hb (.pv _ _ (.int _ _))⟩
end Go.Av.G
end
section
set_option linter.unusedVariables false
set_option linter.unusedSimpArgs false
set_option maxRecDepth 100000
set_option maxHeartbeats 8000000
namespace Go.Av.G
open Go Go.Av Go.Proofs
structure T_api_Customer where
 f_ID : Int
 f_Name : List UInt8
 f_Kind : Int
 deriving DecidableEq, Inhabited
def T_api_Customer.pv (x : T_api_Customer) : PV := .agg [.int .i64 x.f_ID, .str x.f_Name, .int .i64 x.f_Kind]
theorem T_api_Customer.pv_inj (x y : T_api_Customer) : x.pv = y.pv ↔ x = y := by
 constructor
 ·intro h; rcases x with ⟨_, _, _⟩; rcases y with ⟨_, _, _⟩; simp [T_api_Customer.pv, eInt_maps, eBool_maps, eStr_maps] at h; simp [h]
 ·rintro rfl; rfl
theorem T_api_Customer.pv_maps (l m : List T_api_Customer) : l.map T_api_Customer.pv = m.map T_api_Customer.pv ↔ l = m := List.map_inj_right (fun x y h => (T_api_Customer.pv_inj x y).1 h)
def T_api_Customer.same (x y : T_api_Customer) : Bool := ((x.f_ID == y.f_ID) && ((x.f_Name == y.f_Name) && ((x.f_Kind == y.f_Kind) && true)))
def T_api_Customer.tt : TT := .struct (.field (.int .i64) (.field .str (.field (.int .i64) .unit)))
def T_api_Customer.wf (x : T_api_Customer) : Prop := inR .i64 x.f_ID ∧ x.f_Name.length ≤ maxLen ∧ inR .i64 x.f_Kind
theorem T_api_Customer.of {xs : List PV} (hh : T_api_Customer.tt.Of xs) : ∃ x : T_api_Customer, x.wf ∧ T_api_Customer.tt.pack xs = T_api_Customer.pv x := by
 obtain ⟨a0, b0, rfl, h0, hh⟩ := hh
 obtain ⟨a1, b1, rfl, h1, hh⟩ := hh
 obtain ⟨a2, b2, rfl, h2, hh⟩ := hh
 obtain rfl : _ = [] := hh
 obtain ⟨n0, rfl, w0⟩ := h0
 obtain ⟨n1, rfl, w1⟩ := h1
 obtain ⟨n2, rfl, w2⟩ := h2
 exact ⟨⟨n0, n1, n2⟩, ⟨w0, w1, w2⟩, rfl⟩
structure T_api_Record where
 f_Acc : Int
 f_Kind : Int
 f_Cur : Int
 f_Customer : Int
 f_Product : Int
 f_Partition : Int
 f_From : Int
 f_To : Int
 deriving DecidableEq, Inhabited
def T_api_Record.pv (x : T_api_Record) : PV := .agg [.int .i64 x.f_Acc, .int .i64 x.f_Kind, .int .i64 x.f_Cur, .int .i64 x.f_Customer, .int .i64 x.f_Product, .int .i64 x.f_Partition, .int .i32 x.f_From, .int .i32 x.f_To]
theorem T_api_Record.pv_inj (x y : T_api_Record) : x.pv = y.pv ↔ x = y := by
 constructor
 ·intro h; rcases x with ⟨_, _, _, _, _, _, _, _⟩; rcases y with ⟨_, _, _, _, _, _, _, _⟩; simp [T_api_Record.pv, eInt_maps, eBool_maps, eStr_maps, T_api_Customer.pv_maps] at h; simp [h]
 ·rintro rfl; rfl
theorem T_api_Record.pv_maps (l m : List T_api_Record) : l.map T_api_Record.pv = m.map T_api_Record.pv ↔ l = m := List.map_inj_right (fun x y h => (T_api_Record.pv_inj x y).1 h)
def T_api_Record.same (x y : T_api_Record) : Bool := ((x.f_Acc == y.f_Acc) && ((x.f_Kind == y.f_Kind) && ((x.f_Cur == y.f_Cur) && ((x.f_Customer == y.f_Customer) && ((x.f_Product == y.f_Product) && ((x.f_Partition == y.f_Partition) && ((x.f_From == y.f_From) && ((x.f_To == y.f_To) && true))))))))
def T_api_Record.tt : TT := .struct (.field (.int .i64) (.field (.int .i64) (.field (.int .i64) (.field (.int .i64) (.field (.int .i64) (.field (.int .i64) (.field (.int .i32) (.field (.int .i32) .unit))))))))
def T_api_Record.wf (x : T_api_Record) : Prop := inR .i64 x.f_Acc ∧ inR .i64 x.f_Kind ∧ inR .i64 x.f_Cur ∧ inR .i64 x.f_Customer ∧ inR .i64 x.f_Product ∧ inR .i64 x.f_Partition ∧ inR .i32 x.f_From ∧ inR .i32 x.f_To
theorem T_api_Record.of {xs : List PV} (hh : T_api_Record.tt.Of xs) : ∃ x : T_api_Record, x.wf ∧ T_api_Record.tt.pack xs = T_api_Record.pv x := by
 obtain ⟨a0, b0, rfl, h0, hh⟩ := hh
 obtain ⟨a1, b1, rfl, h1, hh⟩ := hh
 obtain ⟨a2, b2, rfl, h2, hh⟩ := hh
 obtain ⟨a3, b3, rfl, h3, hh⟩ := hh
 obtain ⟨a4, b4, rfl, h4, hh⟩ := hh
 obtain ⟨a5, b5, rfl, h5, hh⟩ := hh
 obtain ⟨a6, b6, rfl, h6, hh⟩ := hh
 obtain ⟨a7, b7, rfl, h7, hh⟩ := hh
 obtain rfl : _ = [] := hh
 obtain ⟨n0, rfl, w0⟩ := h0
 obtain ⟨n1, rfl, w1⟩ := h1
 obtain ⟨n2, rfl, w2⟩ := h2
 obtain ⟨n3, rfl, w3⟩ := h3
 obtain ⟨n4, rfl, w4⟩ := h4
 obtain ⟨n5, rfl, w5⟩ := h5
 obtain ⟨n6, rfl, w6⟩ := h6
 obtain ⟨n7, rfl, w7⟩ := h7
 exact ⟨⟨n0, n1, n2, n3, n4, n5, n6, n7⟩, ⟨w0, w1, w2, w3, w4, w5, w6, w7⟩, rfl⟩
structure T_api_Chart where
 f_Customers : List T_api_Customer
 f_Records : List T_api_Record
 deriving DecidableEq, Inhabited
def T_api_Chart.pv (x : T_api_Chart) : PV := .agg [.slice (List.map T_api_Customer.pv x.f_Customers), .slice (List.map T_api_Record.pv x.f_Records)]
theorem T_api_Chart.pv_inj (x y : T_api_Chart) : x.pv = y.pv ↔ x = y := by
 constructor
 ·intro h; rcases x with ⟨_, _⟩; rcases y with ⟨_, _⟩; simp [T_api_Chart.pv, eInt_maps, eBool_maps, eStr_maps, T_api_Customer.pv_maps, T_api_Record.pv_maps] at h; simp [h]
 ·rintro rfl; rfl
theorem T_api_Chart.pv_maps (l m : List T_api_Chart) : l.map T_api_Chart.pv = m.map T_api_Chart.pv ↔ l = m := List.map_inj_right (fun x y h => (T_api_Chart.pv_inj x y).1 h)
def T_api_Chart.tt : TT := .struct (.field (.slice T_api_Customer.tt) (.field (.slice T_api_Record.tt) .unit))
def T_api_Chart.wf (x : T_api_Chart) : Prop := (x.f_Customers.length ≤ maxLen ∧ ∀ x' ∈ x.f_Customers, T_api_Customer.wf x') ∧ (x.f_Records.length ≤ maxLen ∧ ∀ x' ∈ x.f_Records, T_api_Record.wf x')
theorem T_api_Chart.of {xs : List PV} (hh : T_api_Chart.tt.Of xs) : ∃ x : T_api_Chart, x.wf ∧ T_api_Chart.tt.pack xs = T_api_Chart.pv x := by
 obtain ⟨a0, b0, rfl, h0, hh⟩ := hh
 obtain ⟨a1, b1, rfl, h1, hh⟩ := hh
 obtain rfl : _ = [] := hh
 obtain ⟨n0, w0, rfl⟩ := of_slice (f := T_api_Customer.pv) (wf := T_api_Customer.wf) (fun xs h => T_api_Customer.of h) h0
 obtain ⟨n1, w1, rfl⟩ := of_slice (f := T_api_Record.pv) (wf := T_api_Record.wf) (fun xs h => T_api_Record.of h) h1
 exact ⟨⟨n0, n1⟩, ⟨w0, w1⟩, rfl⟩
structure T_api_Money where
 f_Cur : Int
 f_Minor : Int
 deriving DecidableEq, Inhabited
def T_api_Money.pv (x : T_api_Money) : PV := .agg [.int .i64 x.f_Cur, .int .i64 x.f_Minor]
theorem T_api_Money.pv_inj (x y : T_api_Money) : x.pv = y.pv ↔ x = y := by
 constructor
 ·intro h; rcases x with ⟨_, _⟩; rcases y with ⟨_, _⟩; simp [T_api_Money.pv, eInt_maps, eBool_maps, eStr_maps, T_api_Customer.pv_maps, T_api_Record.pv_maps, T_api_Chart.pv_maps] at h; simp [h]
 ·rintro rfl; rfl
theorem T_api_Money.pv_maps (l m : List T_api_Money) : l.map T_api_Money.pv = m.map T_api_Money.pv ↔ l = m := List.map_inj_right (fun x y h => (T_api_Money.pv_inj x y).1 h)
def T_api_Money.same (x y : T_api_Money) : Bool := ((x.f_Cur == y.f_Cur) && ((x.f_Minor == y.f_Minor) && true))
def T_api_Money.tt : TT := .struct (.field (.int .i64) (.field (.int .i64) .unit))
def T_api_Money.wf (x : T_api_Money) : Prop := inR .i64 x.f_Cur ∧ inR .i64 x.f_Minor
theorem T_api_Money.of {xs : List PV} (hh : T_api_Money.tt.Of xs) : ∃ x : T_api_Money, x.wf ∧ T_api_Money.tt.pack xs = T_api_Money.pv x := by
 obtain ⟨a0, b0, rfl, h0, hh⟩ := hh
 obtain ⟨a1, b1, rfl, h1, hh⟩ := hh
 obtain rfl : _ = [] := hh
 obtain ⟨n0, rfl, w0⟩ := h0
 obtain ⟨n1, rfl, w1⟩ := h1
 exact ⟨⟨n0, n1⟩, ⟨w0, w1⟩, rfl⟩
structure T_api_Leg where
 f_Acc : Int
 f_Amount : T_api_Money
 deriving DecidableEq, Inhabited
def T_api_Leg.pv (x : T_api_Leg) : PV := .agg [.int .i64 x.f_Acc, .int .i64 x.f_Amount.f_Cur, .int .i64 x.f_Amount.f_Minor]
theorem T_api_Leg.pv_inj (x y : T_api_Leg) : x.pv = y.pv ↔ x = y := by
 constructor
 ·intro h; rcases x with ⟨_, ⟨_, _⟩⟩; rcases y with ⟨_, ⟨_, _⟩⟩; simp [T_api_Leg.pv, eInt_maps, eBool_maps, eStr_maps, T_api_Customer.pv_maps, T_api_Record.pv_maps, T_api_Chart.pv_maps, T_api_Money.pv_maps] at h; simp [h]
 ·rintro rfl; rfl
theorem T_api_Leg.pv_maps (l m : List T_api_Leg) : l.map T_api_Leg.pv = m.map T_api_Leg.pv ↔ l = m := List.map_inj_right (fun x y h => (T_api_Leg.pv_inj x y).1 h)
def T_api_Leg.same (x y : T_api_Leg) : Bool := ((x.f_Acc == y.f_Acc) && ((x.f_Amount.f_Cur == y.f_Amount.f_Cur) && ((x.f_Amount.f_Minor == y.f_Amount.f_Minor) && true)))
def T_api_Leg.tt : TT := .struct (.field (.int .i64) (.field T_api_Money.tt .unit))
def T_api_Leg.wf (x : T_api_Leg) : Prop := inR .i64 x.f_Acc ∧ T_api_Money.wf x.f_Amount
theorem T_api_Leg.of {xs : List PV} (hh : T_api_Leg.tt.Of xs) : ∃ x : T_api_Leg, x.wf ∧ T_api_Leg.tt.pack xs = T_api_Leg.pv x := by
 obtain ⟨a0, b0, rfl, h0, hh⟩ := hh
 obtain ⟨a1, b1, rfl, h1, hh⟩ := hh
 obtain rfl : _ = [] := hh
 obtain ⟨n0, rfl, w0⟩ := h0
 obtain ⟨n1, w1, e1⟩ := T_api_Money.of h1
 obtain rfl := PV.agg.inj e1
 exact ⟨⟨n0, n1⟩, ⟨w0, w1⟩, rfl⟩
structure T_api_Posting where
 f_ID : Int
 f_Known : Int
 f_Value : Int
 f_Legs : List T_api_Leg
 f_Reverses : Int
 f_Kind : Int
 f_Memo : List UInt8
 deriving DecidableEq, Inhabited
def T_api_Posting.pv (x : T_api_Posting) : PV := .agg [.int .i64 x.f_ID, .int .i32 x.f_Known, .int .i32 x.f_Value, .slice (List.map T_api_Leg.pv x.f_Legs), .int .i64 x.f_Reverses, .int .i64 x.f_Kind, .str x.f_Memo]
theorem T_api_Posting.pv_inj (x y : T_api_Posting) : x.pv = y.pv ↔ x = y := by
 constructor
 ·intro h; rcases x with ⟨_, _, _, _, _, _, _⟩; rcases y with ⟨_, _, _, _, _, _, _⟩; simp [T_api_Posting.pv, eInt_maps, eBool_maps, eStr_maps, T_api_Customer.pv_maps, T_api_Record.pv_maps, T_api_Chart.pv_maps, T_api_Money.pv_maps, T_api_Leg.pv_maps] at h; simp [h]
 ·rintro rfl; rfl
theorem T_api_Posting.pv_maps (l m : List T_api_Posting) : l.map T_api_Posting.pv = m.map T_api_Posting.pv ↔ l = m := List.map_inj_right (fun x y h => (T_api_Posting.pv_inj x y).1 h)
def T_api_Posting.tt : TT := .struct (.field (.int .i64) (.field (.int .i32) (.field (.int .i32) (.field (.slice T_api_Leg.tt) (.field (.int .i64) (.field (.int .i64) (.field .str .unit)))))))
def T_api_Posting.wf (x : T_api_Posting) : Prop := inR .i64 x.f_ID ∧ inR .i32 x.f_Known ∧ inR .i32 x.f_Value ∧ (x.f_Legs.length ≤ maxLen ∧ ∀ x' ∈ x.f_Legs, T_api_Leg.wf x') ∧ inR .i64 x.f_Reverses ∧ inR .i64 x.f_Kind ∧ x.f_Memo.length ≤ maxLen
theorem T_api_Posting.of {xs : List PV} (hh : T_api_Posting.tt.Of xs) : ∃ x : T_api_Posting, x.wf ∧ T_api_Posting.tt.pack xs = T_api_Posting.pv x := by
 obtain ⟨a0, b0, rfl, h0, hh⟩ := hh
 obtain ⟨a1, b1, rfl, h1, hh⟩ := hh
 obtain ⟨a2, b2, rfl, h2, hh⟩ := hh
 obtain ⟨a3, b3, rfl, h3, hh⟩ := hh
 obtain ⟨a4, b4, rfl, h4, hh⟩ := hh
 obtain ⟨a5, b5, rfl, h5, hh⟩ := hh
 obtain ⟨a6, b6, rfl, h6, hh⟩ := hh
 obtain rfl : _ = [] := hh
 obtain ⟨n0, rfl, w0⟩ := h0
 obtain ⟨n1, rfl, w1⟩ := h1
 obtain ⟨n2, rfl, w2⟩ := h2
 obtain ⟨n3, w3, rfl⟩ := of_slice (f := T_api_Leg.pv) (wf := T_api_Leg.wf) (fun xs h => T_api_Leg.of h) h3
 obtain ⟨n4, rfl, w4⟩ := h4
 obtain ⟨n5, rfl, w5⟩ := h5
 obtain ⟨n6, rfl, w6⟩ := h6
 exact ⟨⟨n0, n1, n2, n3, n4, n5, n6⟩, ⟨w0, w1, w2, w3, w4, w5, w6⟩, rfl⟩
structure T_api_Hold where
 f_ID : Int
 f_Acc : Int
 f_Amount : T_api_Money
 f_Rank : Int
 f_Made : Int
 f_Until : Int
 f_Taken : Int
 f_Done : Bool
 deriving DecidableEq, Inhabited
def T_api_Hold.pv (x : T_api_Hold) : PV := .agg [.int .i64 x.f_ID, .int .i64 x.f_Acc, .int .i64 x.f_Amount.f_Cur, .int .i64 x.f_Amount.f_Minor, .int .i64 x.f_Rank, .int .i32 x.f_Made, .int .i32 x.f_Until, .int .i64 x.f_Taken, .bool x.f_Done]
theorem T_api_Hold.pv_inj (x y : T_api_Hold) : x.pv = y.pv ↔ x = y := by
 constructor
 ·intro h; rcases x with ⟨_, _, ⟨_, _⟩, _, _, _, _, _⟩; rcases y with ⟨_, _, ⟨_, _⟩, _, _, _, _, _⟩; simp [T_api_Hold.pv, eInt_maps, eBool_maps, eStr_maps, T_api_Customer.pv_maps, T_api_Record.pv_maps, T_api_Chart.pv_maps, T_api_Money.pv_maps, T_api_Leg.pv_maps, T_api_Posting.pv_maps] at h; simp [h]
 ·rintro rfl; rfl
theorem T_api_Hold.pv_maps (l m : List T_api_Hold) : l.map T_api_Hold.pv = m.map T_api_Hold.pv ↔ l = m := List.map_inj_right (fun x y h => (T_api_Hold.pv_inj x y).1 h)
def T_api_Hold.same (x y : T_api_Hold) : Bool := ((x.f_ID == y.f_ID) && ((x.f_Acc == y.f_Acc) && ((x.f_Amount.f_Cur == y.f_Amount.f_Cur) && ((x.f_Amount.f_Minor == y.f_Amount.f_Minor) && ((x.f_Rank == y.f_Rank) && ((x.f_Made == y.f_Made) && ((x.f_Until == y.f_Until) && ((x.f_Taken == y.f_Taken) && ((x.f_Done == y.f_Done) && true)))))))))
def T_api_Hold.tt : TT := .struct (.field (.int .i64) (.field (.int .i64) (.field T_api_Money.tt (.field (.int .i64) (.field (.int .i32) (.field (.int .i32) (.field (.int .i64) (.field .bool .unit))))))))
def T_api_Hold.wf (x : T_api_Hold) : Prop := inR .i64 x.f_ID ∧ inR .i64 x.f_Acc ∧ T_api_Money.wf x.f_Amount ∧ inR .i64 x.f_Rank ∧ inR .i32 x.f_Made ∧ inR .i32 x.f_Until ∧ inR .i64 x.f_Taken ∧ True
theorem T_api_Hold.of {xs : List PV} (hh : T_api_Hold.tt.Of xs) : ∃ x : T_api_Hold, x.wf ∧ T_api_Hold.tt.pack xs = T_api_Hold.pv x := by
 obtain ⟨a0, b0, rfl, h0, hh⟩ := hh
 obtain ⟨a1, b1, rfl, h1, hh⟩ := hh
 obtain ⟨a2, b2, rfl, h2, hh⟩ := hh
 obtain ⟨a3, b3, rfl, h3, hh⟩ := hh
 obtain ⟨a4, b4, rfl, h4, hh⟩ := hh
 obtain ⟨a5, b5, rfl, h5, hh⟩ := hh
 obtain ⟨a6, b6, rfl, h6, hh⟩ := hh
 obtain ⟨a7, b7, rfl, h7, hh⟩ := hh
 obtain rfl : _ = [] := hh
 obtain ⟨n0, rfl, w0⟩ := h0
 obtain ⟨n1, rfl, w1⟩ := h1
 obtain ⟨n2, w2, e2⟩ := T_api_Money.of h2
 obtain rfl := PV.agg.inj e2
 obtain ⟨n3, rfl, w3⟩ := h3
 obtain ⟨n4, rfl, w4⟩ := h4
 obtain ⟨n5, rfl, w5⟩ := h5
 obtain ⟨n6, rfl, w6⟩ := h6
 obtain ⟨n7, rfl⟩ := h7
 exact ⟨⟨n0, n1, n2, n3, n4, n5, n6, n7⟩, ⟨w0, w1, w2, w3, w4, w5, w6, trivial⟩, rfl⟩
structure T_api_Limit where
 f_Acc : Int
 f_Minor : Int
 deriving DecidableEq, Inhabited
def T_api_Limit.pv (x : T_api_Limit) : PV := .agg [.int .i64 x.f_Acc, .int .i64 x.f_Minor]
theorem T_api_Limit.pv_inj (x y : T_api_Limit) : x.pv = y.pv ↔ x = y := by
 constructor
 ·intro h; rcases x with ⟨_, _⟩; rcases y with ⟨_, _⟩; simp [T_api_Limit.pv, eInt_maps, eBool_maps, eStr_maps, T_api_Customer.pv_maps, T_api_Record.pv_maps, T_api_Chart.pv_maps, T_api_Money.pv_maps, T_api_Leg.pv_maps, T_api_Posting.pv_maps, T_api_Hold.pv_maps] at h; simp [h]
 ·rintro rfl; rfl
theorem T_api_Limit.pv_maps (l m : List T_api_Limit) : l.map T_api_Limit.pv = m.map T_api_Limit.pv ↔ l = m := List.map_inj_right (fun x y h => (T_api_Limit.pv_inj x y).1 h)
def T_api_Limit.same (x y : T_api_Limit) : Bool := ((x.f_Acc == y.f_Acc) && ((x.f_Minor == y.f_Minor) && true))
def T_api_Limit.tt : TT := .struct (.field (.int .i64) (.field (.int .i64) .unit))
def T_api_Limit.wf (x : T_api_Limit) : Prop := inR .i64 x.f_Acc ∧ inR .i64 x.f_Minor
theorem T_api_Limit.of {xs : List PV} (hh : T_api_Limit.tt.Of xs) : ∃ x : T_api_Limit, x.wf ∧ T_api_Limit.tt.pack xs = T_api_Limit.pv x := by
 obtain ⟨a0, b0, rfl, h0, hh⟩ := hh
 obtain ⟨a1, b1, rfl, h1, hh⟩ := hh
 obtain rfl : _ = [] := hh
 obtain ⟨n0, rfl, w0⟩ := h0
 obtain ⟨n1, rfl, w1⟩ := h1
 exact ⟨⟨n0, n1⟩, ⟨w0, w1⟩, rfl⟩
structure T_api_Till where
 f_Chart : T_api_Chart
 f_L : List T_api_Posting
 f_Holds : List T_api_Hold
 f_Limits : List T_api_Limit
 deriving DecidableEq, Inhabited
def T_api_Till.pv (x : T_api_Till) : PV := .agg [.slice (List.map T_api_Customer.pv x.f_Chart.f_Customers), .slice (List.map T_api_Record.pv x.f_Chart.f_Records), .slice (List.map T_api_Posting.pv x.f_L), .slice (List.map T_api_Hold.pv x.f_Holds), .slice (List.map T_api_Limit.pv x.f_Limits)]
theorem T_api_Till.pv_inj (x y : T_api_Till) : x.pv = y.pv ↔ x = y := by
 constructor
 ·intro h; rcases x with ⟨⟨_, _⟩, _, _, _⟩; rcases y with ⟨⟨_, _⟩, _, _, _⟩; simp [T_api_Till.pv, eInt_maps, eBool_maps, eStr_maps, T_api_Customer.pv_maps, T_api_Record.pv_maps, T_api_Chart.pv_maps, T_api_Money.pv_maps, T_api_Leg.pv_maps, T_api_Posting.pv_maps, T_api_Hold.pv_maps, T_api_Limit.pv_maps] at h; simp [h]
 ·rintro rfl; rfl
theorem T_api_Till.pv_maps (l m : List T_api_Till) : l.map T_api_Till.pv = m.map T_api_Till.pv ↔ l = m := List.map_inj_right (fun x y h => (T_api_Till.pv_inj x y).1 h)
def T_api_Till.tt : TT := .struct (.field T_api_Chart.tt (.field (.slice T_api_Posting.tt) (.field (.slice T_api_Hold.tt) (.field (.slice T_api_Limit.tt) .unit))))
def T_api_Till.wf (x : T_api_Till) : Prop := T_api_Chart.wf x.f_Chart ∧ (x.f_L.length ≤ maxLen ∧ ∀ x' ∈ x.f_L, T_api_Posting.wf x') ∧ (x.f_Holds.length ≤ maxLen ∧ ∀ x' ∈ x.f_Holds, T_api_Hold.wf x') ∧ (x.f_Limits.length ≤ maxLen ∧ ∀ x' ∈ x.f_Limits, T_api_Limit.wf x')
theorem T_api_Till.of {xs : List PV} (hh : T_api_Till.tt.Of xs) : ∃ x : T_api_Till, x.wf ∧ T_api_Till.tt.pack xs = T_api_Till.pv x := by
 obtain ⟨a0, b0, rfl, h0, hh⟩ := hh
 obtain ⟨a1, b1, rfl, h1, hh⟩ := hh
 obtain ⟨a2, b2, rfl, h2, hh⟩ := hh
 obtain ⟨a3, b3, rfl, h3, hh⟩ := hh
 obtain rfl : _ = [] := hh
 obtain ⟨n0, w0, e0⟩ := T_api_Chart.of h0
 obtain rfl := PV.agg.inj e0
 obtain ⟨n1, w1, rfl⟩ := of_slice (f := T_api_Posting.pv) (wf := T_api_Posting.wf) (fun xs h => T_api_Posting.of h) h1
 obtain ⟨n2, w2, rfl⟩ := of_slice (f := T_api_Hold.pv) (wf := T_api_Hold.wf) (fun xs h => T_api_Hold.of h) h2
 obtain ⟨n3, w3, rfl⟩ := of_slice (f := T_api_Limit.pv) (wf := T_api_Limit.wf) (fun xs h => T_api_Limit.of h) h3
 exact ⟨⟨n0, n1, n2, n3⟩, ⟨w0, w1, w2, w3⟩, rfl⟩
structure T_balance_great where
 f_sum : Int
 deriving DecidableEq, Inhabited
def T_balance_great.pv (x : T_balance_great) : PV := .agg [.int .i64 x.f_sum]
theorem T_balance_great.pv_inj (x y : T_balance_great) : x.pv = y.pv ↔ x = y := by
 constructor
 ·intro h; rcases x with ⟨_⟩; rcases y with ⟨_⟩; simp [T_balance_great.pv, eInt_maps, eBool_maps, eStr_maps, T_api_Customer.pv_maps, T_api_Record.pv_maps, T_api_Chart.pv_maps, T_api_Money.pv_maps, T_api_Leg.pv_maps, T_api_Posting.pv_maps, T_api_Hold.pv_maps, T_api_Limit.pv_maps, T_api_Till.pv_maps] at h; simp [h]
 ·rintro rfl; rfl
theorem T_balance_great.pv_maps (l m : List T_balance_great) : l.map T_balance_great.pv = m.map T_balance_great.pv ↔ l = m := List.map_inj_right (fun x y h => (T_balance_great.pv_inj x y).1 h)
def T_balance_great.same (x y : T_balance_great) : Bool := ((x.f_sum == y.f_sum) && true)
def T_balance_great.tt : TT := .struct (.field (.int .i64) .unit)
def T_balance_great.wf (x : T_balance_great) : Prop := inR .i64 x.f_sum
theorem T_balance_great.of {xs : List PV} (hh : T_balance_great.tt.Of xs) : ∃ x : T_balance_great, x.wf ∧ T_balance_great.tt.pack xs = T_balance_great.pv x := by
 obtain ⟨a0, b0, rfl, h0, hh⟩ := hh
 obtain rfl : _ = [] := hh
 obtain ⟨n0, rfl, w0⟩ := h0
 exact ⟨⟨n0⟩, w0, rfl⟩
structure T_balance_leg where
 f_known : Int
 f_value : Int
 f_minor : Int
 deriving DecidableEq, Inhabited
def T_balance_leg.pv (x : T_balance_leg) : PV := .agg [.int .i32 x.f_known, .int .i32 x.f_value, .int .i64 x.f_minor]
theorem T_balance_leg.pv_inj (x y : T_balance_leg) : x.pv = y.pv ↔ x = y := by
 constructor
 ·intro h; rcases x with ⟨_, _, _⟩; rcases y with ⟨_, _, _⟩; simp [T_balance_leg.pv, eInt_maps, eBool_maps, eStr_maps, T_api_Customer.pv_maps, T_api_Record.pv_maps, T_api_Chart.pv_maps, T_api_Money.pv_maps, T_api_Leg.pv_maps, T_api_Posting.pv_maps, T_api_Hold.pv_maps, T_api_Limit.pv_maps, T_api_Till.pv_maps, T_balance_great.pv_maps] at h; simp [h]
 ·rintro rfl; rfl
theorem T_balance_leg.pv_maps (l m : List T_balance_leg) : l.map T_balance_leg.pv = m.map T_balance_leg.pv ↔ l = m := List.map_inj_right (fun x y h => (T_balance_leg.pv_inj x y).1 h)
def T_balance_leg.same (x y : T_balance_leg) : Bool := ((x.f_known == y.f_known) && ((x.f_value == y.f_value) && ((x.f_minor == y.f_minor) && true)))
def T_balance_leg.tt : TT := .struct (.field (.int .i32) (.field (.int .i32) (.field (.int .i64) .unit)))
def T_balance_leg.wf (x : T_balance_leg) : Prop := inR .i32 x.f_known ∧ inR .i32 x.f_value ∧ inR .i64 x.f_minor
theorem T_balance_leg.of {xs : List PV} (hh : T_balance_leg.tt.Of xs) : ∃ x : T_balance_leg, x.wf ∧ T_balance_leg.tt.pack xs = T_balance_leg.pv x := by
 obtain ⟨a0, b0, rfl, h0, hh⟩ := hh
 obtain ⟨a1, b1, rfl, h1, hh⟩ := hh
 obtain ⟨a2, b2, rfl, h2, hh⟩ := hh
 obtain rfl : _ = [] := hh
 obtain ⟨n0, rfl, w0⟩ := h0
 obtain ⟨n1, rfl, w1⟩ := h1
 obtain ⟨n2, rfl, w2⟩ := h2
 exact ⟨⟨n0, n1, n2⟩, ⟨w0, w1, w2⟩, rfl⟩
structure T_avail_account where
 f_cur : Int
 f_funds : Int
 f_limit : Int
 deriving DecidableEq, Inhabited
def T_avail_account.pv (x : T_avail_account) : PV := .agg [.int .i64 x.f_cur, .int .i64 x.f_funds, .int .i64 x.f_limit]
theorem T_avail_account.pv_inj (x y : T_avail_account) : x.pv = y.pv ↔ x = y := by
 constructor
 ·intro h; rcases x with ⟨_, _, _⟩; rcases y with ⟨_, _, _⟩; simp [T_avail_account.pv, eInt_maps, eBool_maps, eStr_maps, T_api_Customer.pv_maps, T_api_Record.pv_maps, T_api_Chart.pv_maps, T_api_Money.pv_maps, T_api_Leg.pv_maps, T_api_Posting.pv_maps, T_api_Hold.pv_maps, T_api_Limit.pv_maps, T_api_Till.pv_maps, T_balance_great.pv_maps, T_balance_leg.pv_maps] at h; simp [h]
 ·rintro rfl; rfl
theorem T_avail_account.pv_maps (l m : List T_avail_account) : l.map T_avail_account.pv = m.map T_avail_account.pv ↔ l = m := List.map_inj_right (fun x y h => (T_avail_account.pv_inj x y).1 h)
def T_avail_account.same (x y : T_avail_account) : Bool := ((x.f_cur == y.f_cur) && ((x.f_funds == y.f_funds) && ((x.f_limit == y.f_limit) && true)))
def T_avail_account.tt : TT := .struct (.field (.int .i64) (.field (.int .i64) (.field (.int .i64) .unit)))
def T_avail_account.wf (x : T_avail_account) : Prop := inR .i64 x.f_cur ∧ inR .i64 x.f_funds ∧ inR .i64 x.f_limit
theorem T_avail_account.of {xs : List PV} (hh : T_avail_account.tt.Of xs) : ∃ x : T_avail_account, x.wf ∧ T_avail_account.tt.pack xs = T_avail_account.pv x := by
 obtain ⟨a0, b0, rfl, h0, hh⟩ := hh
 obtain ⟨a1, b1, rfl, h1, hh⟩ := hh
 obtain ⟨a2, b2, rfl, h2, hh⟩ := hh
 obtain rfl : _ = [] := hh
 obtain ⟨n0, rfl, w0⟩ := h0
 obtain ⟨n1, rfl, w1⟩ := h1
 obtain ⟨n2, rfl, w2⟩ := h2
 exact ⟨⟨n0, n1, n2⟩, ⟨w0, w1, w2⟩, rfl⟩
structure T_api_Covered where
 f_ID : Int
 f_Much : Int
 deriving DecidableEq, Inhabited
def T_api_Covered.pv (x : T_api_Covered) : PV := .agg [.int .i64 x.f_ID, .int .i64 x.f_Much]
theorem T_api_Covered.pv_inj (x y : T_api_Covered) : x.pv = y.pv ↔ x = y := by
 constructor
 ·intro h; rcases x with ⟨_, _⟩; rcases y with ⟨_, _⟩; simp [T_api_Covered.pv, eInt_maps, eBool_maps, eStr_maps, T_api_Customer.pv_maps, T_api_Record.pv_maps, T_api_Chart.pv_maps, T_api_Money.pv_maps, T_api_Leg.pv_maps, T_api_Posting.pv_maps, T_api_Hold.pv_maps, T_api_Limit.pv_maps, T_api_Till.pv_maps, T_balance_great.pv_maps, T_balance_leg.pv_maps, T_avail_account.pv_maps] at h; simp [h]
 ·rintro rfl; rfl
theorem T_api_Covered.pv_maps (l m : List T_api_Covered) : l.map T_api_Covered.pv = m.map T_api_Covered.pv ↔ l = m := List.map_inj_right (fun x y h => (T_api_Covered.pv_inj x y).1 h)
def T_api_Covered.same (x y : T_api_Covered) : Bool := ((x.f_ID == y.f_ID) && ((x.f_Much == y.f_Much) && true))
def T_api_Covered.tt : TT := .struct (.field (.int .i64) (.field (.int .i64) .unit))
def T_api_Covered.wf (x : T_api_Covered) : Prop := inR .i64 x.f_ID ∧ inR .i64 x.f_Much
theorem T_api_Covered.of {xs : List PV} (hh : T_api_Covered.tt.Of xs) : ∃ x : T_api_Covered, x.wf ∧ T_api_Covered.tt.pack xs = T_api_Covered.pv x := by
 obtain ⟨a0, b0, rfl, h0, hh⟩ := hh
 obtain ⟨a1, b1, rfl, h1, hh⟩ := hh
 obtain rfl : _ = [] := hh
 obtain ⟨n0, rfl, w0⟩ := h0
 obtain ⟨n1, rfl, w1⟩ := h1
 exact ⟨⟨n0, n1⟩, ⟨w0, w1⟩, rfl⟩
noncomputable def cashbooklaw26_few (t1 : T_api_Till) : Option T_api_Till :=
 (slO t1.f_Chart.f_Customers 0 (if 20 < (t1.f_Chart.f_Customers.length : Int) then 20 else (t1.f_Chart.f_Customers.length : Int))).bind fun x2 =>
 (slO t1.f_Chart.f_Records 0 (if 30 < (t1.f_Chart.f_Records.length : Int) then 30 else (t1.f_Chart.f_Records.length : Int))).bind fun x3 =>
 ((if (decide ((t1.f_L.length : Int) ≤ 2000)) = true then
   (slO t1.f_L 0 (if 40 < (t1.f_L.length : Int) then 40 else (t1.f_L.length : Int))).bind fun x5 =>
   ((loopO (fun (qj6 : Int × (List T_api_Posting)) => match qj6 with
     | (x7, row8) => (
      if (decide (x7 < (x5.length : Int))) = true then
       (rdO x5 x7).bind fun x9 =>
       (slO x9.f_Legs 0 (if 6 < (x9.f_Legs.length : Int) then 6 else (x9.f_Legs.length : Int))).bind fun x10 =>
       (apO 72 row8 [(⟨x9.f_ID, x9.f_Known, x9.f_Value, x10, x9.f_Reverses, x9.f_Kind, x9.f_Memo⟩ : T_api_Posting)]).bind fun x11 =>
       some (.inl (IntKind.wrap .i64 (x7 + 1), x11))
      else
       some (.inr row8) : Option ((Int × (List T_api_Posting)) ⊕ (List T_api_Posting)))) (0, ([] : List T_api_Posting))) : Option (List T_api_Posting)).bind fun j6 =>
   some j6
 else
  some t1.f_L) : Option (List T_api_Posting)).bind fun j4 =>
 (slO t1.f_Holds 0 (if 40 < (t1.f_Holds.length : Int) then 40 else (t1.f_Holds.length : Int))).bind fun x14 =>
 (slO t1.f_Limits 0 (if 40 < (t1.f_Limits.length : Int) then 40 else (t1.f_Limits.length : Int))).bind fun x15 =>
 some (⟨(⟨x2, x3⟩ : T_api_Chart), j4, x14, x15⟩ : T_api_Till)
def avail_in_Account (n1 : Int) (low2 : Int) (high3 : Int) : Option Bool :=
 (some (decide (n1 ≥ low2))).bind fun c4 =>
 some (c4 && (decide (n1 ≤ high3)))
def avail_in_int64 (n1 : Int) (low2 : Int) (high3 : Int) : Option Bool :=
 (some (decide (n1 ≥ low2))).bind fun c4 =>
 some (c4 && (decide (n1 ≤ high3)))
def chart_idOf (x1 : T_api_Customer) : Option Int :=
 some x1.f_ID
noncomputable def chart_rises_Customer_int (l1 : List T_api_Customer) : Option Bool :=
 ((loopO (fun (qj2 : Int) => match qj2 with
   | i3 => (
    if (decide (i3 < (l1.length : Int))) = true then
     (rdO l1 (IntKind.wrap .i64 (i3 - 1))).bind fun x4 =>
     (chart_idOf x4).bind fun x5 =>
     (rdO l1 i3).bind fun x6 =>
     (chart_idOf x6).bind fun x7 =>
     if (decide (x5 ≥ x7)) = true then
      some (.inr (.inr false))
     else
      some (.inl (IntKind.wrap .i64 (i3 + 1)))
    else
     some (.inr (.inl ())) : Option (Int ⊕ (Unit ⊕ Bool)))) 1) : Option (Unit ⊕ Bool)).bind fun j2 => match j2 with
 | .inr o => some o
 | .inl _ =>
 some true
def chart_accOf (r1 : T_api_Record) : Option Int :=
 some r1.f_Acc
noncomputable def chart_rises_Record_Account (l1 : List T_api_Record) : Option Bool :=
 ((loopO (fun (qj2 : Int) => match qj2 with
   | i3 => (
    if (decide (i3 < (l1.length : Int))) = true then
     (rdO l1 (IntKind.wrap .i64 (i3 - 1))).bind fun x4 =>
     (chart_accOf x4).bind fun x5 =>
     (rdO l1 i3).bind fun x6 =>
     (chart_accOf x6).bind fun x7 =>
     if (decide (x5 ≥ x7)) = true then
      some (.inr (.inr false))
     else
      some (.inl (IntKind.wrap .i64 (i3 + 1)))
    else
     some (.inr (.inl ())) : Option (Int ⊕ (Unit ⊕ Bool)))) 1) : Option (Unit ⊕ Bool)).bind fun j2 => match j2 with
 | .inr o => some o
 | .inl _ =>
 some true
def chart_in_int (n1 : Int) (low2 : Int) (high3 : Int) : Option Bool :=
 (some (decide (n1 ≥ low2))).bind fun c4 =>
 some (c4 && (decide (n1 ≤ high3)))
def chart_isCustomer_1 (r1 : Int) : Option Bool :=
 (some (decide (r1 < 32))).bind fun c2 =>
 some (c2 || (decide (r1 > 126)))
noncomputable def chart_isCustomer (x1 : T_api_Customer) : Option Bool :=
 (chart_in_int x1.f_ID 1 999).bind fun x2 =>
 (gdO x2 (chart_in_int (x1.f_Name.length : Int) 1 32) (default : Bool)).bind fun x3 =>
 (some (x2 && x3)).bind fun c4 =>
 (gdO c4 (strings_ContainsFunc chart_isCustomer_1 x1.f_Name) (default : Bool)).bind fun x5 =>
 (some (c4 && (!x5))).bind fun c6 =>
 (gdO c6 (chart_in_int x1.f_Kind 0 3) (default : Bool)).bind fun x7 =>
 some (c6 && x7)
noncomputable def chart_Right_1 (x1 : T_api_Customer) : Option Bool :=
 (chart_isCustomer x1).bind fun x2 =>
 some (!x2)
noncomputable def slices_IndexFunc_Customer_Customer (s1 : List T_api_Customer) : Option Int :=
 ((loopO (fun (qj2 : Int) => match qj2 with
   | x3 => (
    if (decide (x3 < (s1.length : Int))) = true then
     (rdO s1 x3).bind fun x4 =>
     (chart_Right_1 x4).bind fun x5 =>
     if x5 = true then
      some (.inr (.inr x3))
     else
      some (.inl (IntKind.wrap .i64 (x3 + 1)))
    else
     some (.inr (.inl ())) : Option (Int ⊕ (Unit ⊕ Int)))) 0) : Option (Unit ⊕ Int)).bind fun j2 => match j2 with
 | .inr o => some o
 | .inl _ =>
 some (-1)
noncomputable def slices_ContainsFunc_Customer_Customer (s1 : List T_api_Customer) : Option Bool :=
 (slices_IndexFunc_Customer_Customer s1).bind fun x2 =>
 some (decide (x2 ≥ 0))
def cmp_isNaN_int (x1 : Int) : Option Bool :=
 some (x1 != x1)
def cmp_Compare_int (x1 : Int) (y2 : Int) : Option Int :=
 (cmp_isNaN_int x1).bind fun x3 =>
 (cmp_isNaN_int y2).bind fun x4 =>
 if x3 = true then
  if x4 = true then
   some 0
  else
   some (-1)
 else
  if x4 = true then
   some 1
  else
   if (decide (x1 < y2)) = true then
    some (-1)
   else
    if (decide (x1 > y2)) = true then
     some 1
    else
     some 0
def chart_place_Customer_int_1 (x1 : T_api_Customer) (n2 : Int) : Option Int :=
 (chart_idOf x1).bind fun x3 =>
 (cmp_Compare_int x3 n2).bind fun x4 =>
 some x4
noncomputable def slices_BinarySearchFunc_Customer_Customer_int (x1 : List T_api_Customer) (target2 : Int) : Option (Int × Bool) :=
 ((loopO (fun (qj3 : Int × Int) => match qj3 with
   | (i4, j5) => (
    if (decide (i4 < j5)) = true then
     (rdO x1 (IntKind.wrap .i64 (Int.fdiv (IntKind.wrap .u64 (IntKind.wrap .i64 (i4 + j5))) 2))).bind fun x6 =>
     (chart_place_Customer_int_1 x6 target2).bind fun x7 =>
     if (decide (x7 < 0)) = true then
      some (.inl (IntKind.wrap .i64 ((IntKind.wrap .i64 (Int.fdiv (IntKind.wrap .u64 (IntKind.wrap .i64 (i4 + j5))) 2)) + 1), j5))
     else
      some (.inl (i4, IntKind.wrap .i64 (Int.fdiv (IntKind.wrap .u64 (IntKind.wrap .i64 (i4 + j5))) 2)))
    else
     some (.inr i4) : Option ((Int × Int) ⊕ Int))) (0, (x1.length : Int))) : Option Int).bind fun j3 =>
 (some (decide (j3 < (x1.length : Int)))).bind fun c9 =>
 (gdO c9 (rdO x1 j3) (default : T_api_Customer)).bind fun x10 =>
 (gdO c9 (chart_place_Customer_int_1 x10 target2) (default : Int)).bind fun x11 =>
 some (j3, (c9 && (x11 == 0)))
noncomputable def chart_place_Customer_int (l1 : List T_api_Customer) (n2 : Int) : Option (Int × Bool) :=
 (slices_BinarySearchFunc_Customer_Customer_int l1 n2).bind fun x3 =>
 some (x3.1, x3.2)
def chart_in_Account (n1 : Int) (low2 : Int) (high3 : Int) : Option Bool :=
 (some (decide (n1 ≥ low2))).bind fun c4 =>
 some (c4 && (decide (n1 ≤ high3)))
def chart_in_Currency (n1 : Int) (low2 : Int) (high3 : Int) : Option Bool :=
 (some (decide (n1 ≥ low2))).bind fun c4 =>
 some (c4 && (decide (n1 ≤ high3)))
def date_Right (d1 : Int) : Option Bool :=
 (some (decide (d1 ≥ (-50000)))).bind fun c2 =>
 some (c2 && (decide (d1 ≤ 50000)))
def chart_isRecord (r1 : T_api_Record) : Option Bool :=
 (chart_in_Account r1.f_Acc 1 999).bind fun x2 =>
 (some (!x2)).bind fun c3 =>
 (gdO (!c3) (chart_in_int r1.f_Kind 0 3) (default : Bool)).bind fun x4 =>
 (some (c3 || (!x4))).bind fun c5 =>
 (gdO (!c5) (chart_in_Currency r1.f_Cur 0 3) (default : Bool)).bind fun x6 =>
 (some (c5 || (!x6))).bind fun c7 =>
 (gdO (!c7) (chart_in_int r1.f_Customer 0 999) (default : Bool)).bind fun x8 =>
 if (c7 || (!x8)) = true then
  some false
 else
  (some (decide (r1.f_Kind ≥ 2))).bind fun c9 =>
  (some (r1.f_Customer != 0)).bind fun c10 =>
  if (c9 && (c10 || (r1.f_Product != 0))) = true then
   some false
  else
   (chart_in_int r1.f_Product 0 20).bind fun x11 =>
   (gdO x11 (chart_in_int r1.f_Partition 0 3) (default : Bool)).bind fun x12 =>
   (some (x11 && x12)).bind fun c13 =>
   (gdO c13 (date_Right r1.f_From) (default : Bool)).bind fun x14 =>
   (some (c13 && x14)).bind fun c15 =>
   (gdO c15 (date_Right r1.f_To) (default : Bool)).bind fun x16 =>
   (some (c15 && x16)).bind fun c17 =>
   some (c17 && (decide (r1.f_From ≤ r1.f_To)))
noncomputable def chart_Right_2 (r1 : T_api_Record) (e2 : T_api_Chart) : Option Bool :=
 (chart_place_Customer_int e2.f_Customers r1.f_Customer).bind fun x3 =>
 (chart_isRecord r1).bind fun x4 =>
 (some (!x4)).bind fun c5 =>
 (some (decide (r1.f_Customer > 0))).bind fun c6 =>
 some (c5 || (c6 && (!x3.2)))
noncomputable def slices_IndexFunc_Record_Record (s1 : List T_api_Record) (e2 : T_api_Chart) : Option Int :=
 ((loopO (fun (qj3 : Int) => match qj3 with
   | x4 => (
    if (decide (x4 < (s1.length : Int))) = true then
     (rdO s1 x4).bind fun x5 =>
     (chart_Right_2 x5 e2).bind fun x6 =>
     if x6 = true then
      some (.inr (.inr x4))
     else
      some (.inl (IntKind.wrap .i64 (x4 + 1)))
    else
     some (.inr (.inl ())) : Option (Int ⊕ (Unit ⊕ Int)))) 0) : Option (Unit ⊕ Int)).bind fun j3 => match j3 with
 | .inr o => some o
 | .inl _ =>
 some (-1)
noncomputable def slices_ContainsFunc_Record_Record (s1 : List T_api_Record) (e2 : T_api_Chart) : Option Bool :=
 (slices_IndexFunc_Record_Record s1 e2).bind fun x3 =>
 some (decide (x3 ≥ 0))
noncomputable def chart_Right (c1 : T_api_Chart) : Option Bool :=
 (some (decide ((c1.f_Customers.length : Int) > 100))).bind fun c2 =>
 (some (c2 || (decide ((c1.f_Records.length : Int) > 200)))).bind fun c3 =>
 (gdO (!c3) (chart_rises_Customer_int c1.f_Customers) (default : Bool)).bind fun x4 =>
 (some (c3 || (!x4))).bind fun c5 =>
 (gdO (!c5) (chart_rises_Record_Account c1.f_Records) (default : Bool)).bind fun x6 =>
 if (c5 || (!x6)) = true then
  some false
 else
  (slices_ContainsFunc_Customer_Customer c1.f_Customers).bind fun x7 =>
  if x7 = true then
   some false
  else
   (slices_ContainsFunc_Record_Record c1.f_Records c1).bind fun x8 =>
   some (!x8)
def money_is (cur1 : Int) : Option Bool :=
 (some (decide (cur1 ≥ 0))).bind fun c2 =>
 some (c2 && (decide (cur1 < 4)))
def money_Right (m1 : T_api_Money) : Option Bool :=
 (money_is m1.f_Cur).bind fun x2 =>
 (some (x2 && (decide (m1.f_Minor ≥ (-1000000000000000))))).bind fun c3 =>
 some (c3 && (decide (m1.f_Minor ≤ 1000000000000000)))
def hold_right (h1 : T_api_Hold) : Option Bool :=
 (some (decide (h1.f_ID ≥ 1))).bind fun c2 =>
 (some (c2 && (decide (h1.f_ID ≤ 1000000)))).bind fun c3 =>
 (some (c3 && (decide (h1.f_Acc ≥ 1)))).bind fun c4 =>
 (some (c4 && (decide (h1.f_Acc ≤ 999)))).bind fun c5 =>
 (some (c5 && (decide (h1.f_Rank ≥ 0)))).bind fun c6 =>
 (money_Right h1.f_Amount).bind fun x7 =>
 (some (x7 && (decide (h1.f_Amount.f_Minor > 0)))).bind fun c8 =>
 (some (c8 && (decide (h1.f_Taken ≥ 0)))).bind fun c9 =>
 (some (c6 && (decide (h1.f_Rank ≤ 9)))).bind fun c10 =>
 (some (c10 && (c9 && (decide (h1.f_Taken ≤ h1.f_Amount.f_Minor))))).bind fun c11 =>
 (gdO c11 (date_Right h1.f_Made) (default : Bool)).bind fun x12 =>
 (some (c11 && x12)).bind fun c13 =>
 (gdO c13 (date_Right h1.f_Until) (default : Bool)).bind fun x14 =>
 (some (c13 && x14)).bind fun c15 =>
 some (c15 && (decide (h1.f_Made ≤ h1.f_Until)))
def hold_Check_1 (h1 : T_api_Hold) : Option Bool :=
 (hold_right h1).bind fun x2 =>
 some (!x2)
noncomputable def slices_IndexFunc_Hold_Hold (s1 : List T_api_Hold) : Option Int :=
 ((loopO (fun (qj2 : Int) => match qj2 with
   | x3 => (
    if (decide (x3 < (s1.length : Int))) = true then
     (rdO s1 x3).bind fun x4 =>
     (hold_Check_1 x4).bind fun x5 =>
     if x5 = true then
      some (.inr (.inr x3))
     else
      some (.inl (IntKind.wrap .i64 (x3 + 1)))
    else
     some (.inr (.inl ())) : Option (Int ⊕ (Unit ⊕ Int)))) 0) : Option (Unit ⊕ Int)).bind fun j2 => match j2 with
 | .inr o => some o
 | .inl _ =>
 some (-1)
noncomputable def slices_ContainsFunc_Hold_Hold (s1 : List T_api_Hold) : Option Bool :=
 (slices_IndexFunc_Hold_Hold s1).bind fun x2 =>
 some (decide (x2 ≥ 0))
noncomputable def hold_Check (l1 : List T_api_Hold) : Option Int :=
 (slices_ContainsFunc_Hold_Hold l1).bind fun x2 =>
 if x2 = true then
  some 1
 else
  ((loopO (fun (qj3 : Int) => match qj3 with
    | i4 => (
     if (decide (i4 < (l1.length : Int))) = true then
      (rdO l1 (IntKind.wrap .i64 (i4 - 1))).bind fun x5 =>
      (rdO l1 i4).bind fun x6 =>
      if (decide (x5.f_ID ≥ x6.f_ID)) = true then
       some (.inr (.inr 20))
      else
       some (.inl (IntKind.wrap .i64 (i4 + 1)))
     else
      some (.inr (.inl ())) : Option (Int ⊕ (Unit ⊕ Int)))) 1) : Option (Unit ⊕ Int)).bind fun j3 => match j3 with
  | .inr o => some o
  | .inl _ =>
  if (decide ((l1.length : Int) > 200)) = true then
   some 6
  else
   some 0
noncomputable def avail_Right (t1 : T_api_Till) : Option Bool :=
 ((loopO (fun (qj2 : Int) => match qj2 with
   | x3 => (
    if (decide (x3 < (t1.f_Limits.length : Int))) = true then
     (rdO t1.f_Limits x3).bind fun x4 =>
     (avail_in_Account x4.f_Acc 1 999).bind fun x5 =>
     (some (!x5)).bind fun c6 =>
     (gdO (!c6) (avail_in_int64 x4.f_Minor 0 1000000000000000) (default : Bool)).bind fun x7 =>
     (some (c6 || (!x7))).bind fun c8 =>
     (some (decide (x3 > 0))).bind fun c9 =>
     (gdO ((!c8) && c9) (rdO t1.f_Limits (IntKind.wrap .i64 (x3 - 1))) (default : T_api_Limit)).bind fun x10 =>
     if (c8 || (c9 && (decide (x10.f_Acc ≥ x4.f_Acc)))) = true then
      some (.inr (.inr false))
     else
      some (.inl (IntKind.wrap .i64 (x3 + 1)))
    else
     some (.inr (.inl ())) : Option (Int ⊕ (Unit ⊕ Bool)))) 0) : Option (Unit ⊕ Bool)).bind fun j2 => match j2 with
 | .inr o => some o
 | .inl _ =>
 (chart_Right t1.f_Chart).bind fun x11 =>
 (some (x11 && (decide ((t1.f_L.length : Int) ≤ 2000)))).bind fun c12 =>
 (gdO c12 (hold_Check t1.f_Holds) (default : Int)).bind fun x13 =>
 (some (c12 && (x13 == 0))).bind fun c14 =>
 some (c14 && (decide ((t1.f_Limits.length : Int) ≤ 200)))
def hold_place_1 (h1 : T_api_Hold) (id2 : Int) : Option Int :=
 (cmp_Compare_int h1.f_ID id2).bind fun x3 =>
 some x3
noncomputable def slices_BinarySearchFunc_Hold_Hold_int (x1 : List T_api_Hold) (target2 : Int) : Option (Int × Bool) :=
 ((loopO (fun (qj3 : Int × Int) => match qj3 with
   | (i4, j5) => (
    if (decide (i4 < j5)) = true then
     (rdO x1 (IntKind.wrap .i64 (Int.fdiv (IntKind.wrap .u64 (IntKind.wrap .i64 (i4 + j5))) 2))).bind fun x6 =>
     (hold_place_1 x6 target2).bind fun x7 =>
     if (decide (x7 < 0)) = true then
      some (.inl (IntKind.wrap .i64 ((IntKind.wrap .i64 (Int.fdiv (IntKind.wrap .u64 (IntKind.wrap .i64 (i4 + j5))) 2)) + 1), j5))
     else
      some (.inl (i4, IntKind.wrap .i64 (Int.fdiv (IntKind.wrap .u64 (IntKind.wrap .i64 (i4 + j5))) 2)))
    else
     some (.inr i4) : Option ((Int × Int) ⊕ Int))) (0, (x1.length : Int))) : Option Int).bind fun j3 =>
 (some (decide (j3 < (x1.length : Int)))).bind fun c9 =>
 (gdO c9 (rdO x1 j3) (default : T_api_Hold)).bind fun x10 =>
 (gdO c9 (hold_place_1 x10 target2) (default : Int)).bind fun x11 =>
 some (j3, (c9 && (x11 == 0)))
noncomputable def hold_place (l1 : List T_api_Hold) (id2 : Int) : Option (Int × Bool) :=
 (slices_BinarySearchFunc_Hold_Hold_int l1 id2).bind fun x3 =>
 some (x3.1, x3.2)
noncomputable def hold_Add (l1 : List T_api_Hold) (h2 : T_api_Hold) : Option ((List T_api_Hold) × Int) :=
 (hold_Check l1).bind fun x3 =>
 if (x3 != 0) = true then
  some (([] : List T_api_Hold), x3)
 else
  (hold_place l1 h2.f_ID).bind fun x4 =>
  (hold_right h2).bind fun x5 =>
  (some (!x5)).bind fun c6 =>
  (some (c6 || (decide (h2.f_Taken > 0)))).bind fun c7 =>
  if (c7 || h2.f_Done) = true then
   some (([] : List T_api_Hold), 1)
  else
   if x4.2 = true then
    some (([] : List T_api_Hold), 26)
   else
    if (decide ((l1.length : Int) ≥ 200)) = true then
     some (([] : List T_api_Hold), 6)
    else
     (slices_Clone 64 l1).bind fun x8 =>
     (insO 64 x8 x4.1 h2).bind fun x9 =>
     some (x9, 0)
def cmp_isNaN_Account (x1 : Int) : Option Bool :=
 some (x1 != x1)
def cmp_Compare_Account (x1 : Int) (y2 : Int) : Option Int :=
 (cmp_isNaN_Account x1).bind fun x3 =>
 (cmp_isNaN_Account y2).bind fun x4 =>
 if x3 = true then
  if x4 = true then
   some 0
  else
   some (-1)
 else
  if x4 = true then
   some 1
  else
   if (decide (x1 < y2)) = true then
    some (-1)
   else
    if (decide (x1 > y2)) = true then
     some 1
    else
     some 0
def chart_place_Record_Account_1 (x1 : T_api_Record) (n2 : Int) : Option Int :=
 (chart_accOf x1).bind fun x3 =>
 (cmp_Compare_Account x3 n2).bind fun x4 =>
 some x4
noncomputable def slices_BinarySearchFunc_Record_Record_Account (x1 : List T_api_Record) (target2 : Int) : Option (Int × Bool) :=
 ((loopO (fun (qj3 : Int × Int) => match qj3 with
   | (i4, j5) => (
    if (decide (i4 < j5)) = true then
     (rdO x1 (IntKind.wrap .i64 (Int.fdiv (IntKind.wrap .u64 (IntKind.wrap .i64 (i4 + j5))) 2))).bind fun x6 =>
     (chart_place_Record_Account_1 x6 target2).bind fun x7 =>
     if (decide (x7 < 0)) = true then
      some (.inl (IntKind.wrap .i64 ((IntKind.wrap .i64 (Int.fdiv (IntKind.wrap .u64 (IntKind.wrap .i64 (i4 + j5))) 2)) + 1), j5))
     else
      some (.inl (i4, IntKind.wrap .i64 (Int.fdiv (IntKind.wrap .u64 (IntKind.wrap .i64 (i4 + j5))) 2)))
    else
     some (.inr i4) : Option ((Int × Int) ⊕ Int))) (0, (x1.length : Int))) : Option Int).bind fun j3 =>
 (some (decide (j3 < (x1.length : Int)))).bind fun c9 =>
 (gdO c9 (rdO x1 j3) (default : T_api_Record)).bind fun x10 =>
 (gdO c9 (chart_place_Record_Account_1 x10 target2) (default : Int)).bind fun x11 =>
 some (j3, (c9 && (x11 == 0)))
noncomputable def chart_place_Record_Account (l1 : List T_api_Record) (n2 : Int) : Option (Int × Bool) :=
 (slices_BinarySearchFunc_Record_Record_Account l1 n2).bind fun x3 =>
 some (x3.1, x3.2)
noncomputable def chart_Find (c1 : T_api_Chart) (a2 : Int) : Option (T_api_Record × Int) :=
 (chart_Right c1).bind fun x3 =>
 if (!x3) = true then
  some ((⟨0, 0, 0, 0, 0, 0, 0, 0⟩ : T_api_Record), 1)
 else
  (chart_place_Record_Account c1.f_Records a2).bind fun x4 =>
  if (!x4.2) = true then
   some ((⟨0, 0, 0, 0, 0, 0, 0, 0⟩ : T_api_Record), 8)
  else
   (rdO c1.f_Records x4.1).bind fun x5 =>
   some (x5, 0)
def avail_check (e1 : Int) : Option (Option Int) :=
 if (e1 == 0) = true then
  some none
 else
  some (some e1)
def chart_in_Date (n1 : Int) (low2 : Int) (high3 : Int) : Option Bool :=
 (some (decide (n1 ≥ low2))).bind fun c4 =>
 some (c4 && (decide (n1 ≤ high3)))
noncomputable def chart_Is (c1 : T_api_Chart) (a2 : Int) (day3 : Int) : Option (Bool × Int) :=
 (chart_Find c1 a2).bind fun x4 =>
 if (x4.2 != 0) = true then
  some (false, x4.2)
 else
  (date_Right day3).bind fun x5 =>
  if (!x5) = true then
   some (false, 11)
  else
   (chart_in_Date day3 x4.1.f_From x4.1.f_To).bind fun x6 =>
   some (x6, 0)
def balance_may_1 (d1 : Int) : Option Bool :=
 (date_Right d1).bind fun x2 =>
 some (!x2)
noncomputable def slices_IndexFunc_Date_Date (s1 : List Int) : Option Int :=
 ((loopO (fun (qj2 : Int) => match qj2 with
   | x3 => (
    if (decide (x3 < (s1.length : Int))) = true then
     (rdO s1 x3).bind fun x4 =>
     (balance_may_1 x4).bind fun x5 =>
     if x5 = true then
      some (.inr (.inr x3))
     else
      some (.inl (IntKind.wrap .i64 (x3 + 1)))
    else
     some (.inr (.inl ())) : Option (Int ⊕ (Unit ⊕ Int)))) 0) : Option (Unit ⊕ Int)).bind fun j2 => match j2 with
 | .inr o => some o
 | .inl _ =>
 some (-1)
noncomputable def slices_ContainsFunc_Date_Date (s1 : List Int) : Option Bool :=
 (slices_IndexFunc_Date_Date s1).bind fun x2 =>
 some (decide (x2 ≥ 0))
noncomputable def balance_may (l1 : List T_api_Posting) (from_2 : Int) (to3 : Int) (more4 : List Int) : Option Int :=
 if (decide ((l1.length : Int) > 2000)) = true then
  some 4
 else
  (balance_may_1 from_2).bind fun x5 =>
  (gdO (!x5) (balance_may_1 to3) (default : Bool)).bind fun x6 =>
  (some (x5 || x6)).bind fun c7 =>
  (some (c7 || (decide (from_2 > to3)))).bind fun c8 =>
  (gdO (!c8) (slices_ContainsFunc_Date_Date more4) (default : Bool)).bind fun x9 =>
  if (c8 || x9) = true then
   some 11
  else
   some 0
def balance_great_add (n1 : Int) (e2 : T_balance_great) : Option (Bool × Int) :=
 ((if (decide (n1 < 0)) = true then
   some (IntKind.wrap .i64 (0 - n1))
 else
  some n1) : Option Int).bind fun j3 =>
 (some (decide (j3 < 0))).bind fun c5 =>
 if (c5 || (decide (j3 > (IntKind.wrap .i64 (1000000000000000000 - e2.f_sum))))) = true then
  some (true, e2.f_sum)
 else
  some (false, IntKind.wrap .i64 (e2.f_sum + j3))
noncomputable def balance_legs (l1 : List T_api_Posting) (acc2 : Int) (cur3 : Int) : Option ((List T_balance_leg) × Int) :=
 ((loopO (fun (qj4 : Int × Int × (List T_balance_leg)) => match qj4 with
   | (x5, g6, row7) => (
    if (decide (x5 < (l1.length : Int))) = true then
     (rdO l1 x5).bind fun x8 =>
     ((loopO (fun (qj9 : Int × Int × (List T_balance_leg)) => match qj9 with
       | (x10, g11, row12) => (
        if (decide (x10 < (x8.f_Legs.length : Int))) = true then
         (((rdO x8.f_Legs x10).bind fun x14 =>
         (some (x14.f_Acc != acc2)).bind fun c15 =>
         if (c15 || (x14.f_Amount.f_Cur != cur3)) = true then
          some (.inl (g11, row12))
         else
          (balance_great_add x14.f_Amount.f_Minor (⟨g11⟩ : T_balance_great)).bind fun x16 =>
          if x16.1 = true then
           some (.inr (.inr (.inr (.inr (.inr (([] : List T_balance_leg), 9))))))
          else
           (apO 16 row12 [(⟨x8.f_Known, x8.f_Value, x14.f_Amount.f_Minor⟩ : T_balance_leg)]).bind fun x17 =>
           some (.inl (x16.2, x17))) : Option ((Int × (List T_balance_leg)) ⊕ ((Int × Int × (List T_balance_leg)) ⊕ ((Int × (List T_balance_leg)) ⊕ ((Int × Int × (List T_balance_leg)) ⊕ ((List T_balance_leg) ⊕ ((List T_balance_leg) × Int))))))).bind fun j13 => match j13 with
         | .inr o => some o
         | .inl (g18, row19) =>
         some (.inl (IntKind.wrap .i64 (x10 + 1), g18, row19))
        else
         some (.inr (.inl (g11, row12))) : Option ((Int × Int × (List T_balance_leg)) ⊕ ((Int × (List T_balance_leg)) ⊕ ((Int × Int × (List T_balance_leg)) ⊕ ((List T_balance_leg) ⊕ ((List T_balance_leg) × Int))))))) (0, g6, row7)) : Option ((Int × (List T_balance_leg)) ⊕ ((Int × Int × (List T_balance_leg)) ⊕ ((List T_balance_leg) ⊕ ((List T_balance_leg) × Int))))).bind fun j9 => match j9 with
     | .inr o => some o
     | .inl (g20, row21) =>
     some (.inl (IntKind.wrap .i64 (x5 + 1), g20, row21))
    else
     some (.inr (.inl row7)) : Option ((Int × Int × (List T_balance_leg)) ⊕ ((List T_balance_leg) ⊕ ((List T_balance_leg) × Int))))) (0, 0, ([] : List T_balance_leg))) : Option ((List T_balance_leg) ⊕ ((List T_balance_leg) × Int))).bind fun j4 => match j4 with
 | .inr o => some o
 | .inl out22 =>
 some (out22, 0)
def balance_Of_1 (x1 : T_balance_leg) (e2 : Int) : Option Bool :=
 some (decide (x1.f_value ≤ e2))
noncomputable def balance_sum (l1 : List T_balance_leg) (e2 : Int) : Option Int :=
 ((loopO (fun (qj3 : Int × Int) => match qj3 with
   | (n4, x5) => (
    if (decide (x5 < (l1.length : Int))) = true then
     (rdO l1 x5).bind fun x6 =>
     (balance_Of_1 x6 e2).bind fun x7 =>
     ((if x7 = true then
       some (IntKind.wrap .i64 (n4 + x6.f_minor))
     else
      some n4) : Option Int).bind fun j8 =>
     some (.inl (j8, IntKind.wrap .i64 (x5 + 1)))
    else
     some (.inr n4) : Option ((Int × Int) ⊕ Int))) (0, 0)) : Option Int).bind fun j3 =>
 some j3
noncomputable def balance_Of (l1 : List T_api_Posting) (acc2 : Int) (cur3 : Int) (upto4 : Int) : Option (Int × Int) :=
 (balance_may l1 upto4 upto4 ([] : List Int)).bind fun x5 =>
 if (x5 != 0) = true then
  some (0, x5)
 else
  (balance_legs l1 acc2 cur3).bind fun x6 =>
  (balance_sum x6.1 upto4).bind fun x7 =>
  some (x7, x6.2)
def avail_ask_1 (x1 : T_api_Limit) (e2 : Int) : Option Bool :=
 some (x1.f_Acc == e2)
noncomputable def slices_IndexFunc_Limit_Limit (s1 : List T_api_Limit) (e2 : Int) : Option Int :=
 ((loopO (fun (qj3 : Int) => match qj3 with
   | x4 => (
    if (decide (x4 < (s1.length : Int))) = true then
     (rdO s1 x4).bind fun x5 =>
     (avail_ask_1 x5 e2).bind fun x6 =>
     if x6 = true then
      some (.inr (.inr x4))
     else
      some (.inl (IntKind.wrap .i64 (x4 + 1)))
    else
     some (.inr (.inl ())) : Option (Int ⊕ (Unit ⊕ Int)))) 0) : Option (Unit ⊕ Int)).bind fun j3 => match j3 with
 | .inr o => some o
 | .inl _ =>
 some (-1)
noncomputable def avail_ask (t1 : T_api_Till) (acc2 : Int) (now3 : Int) : Option (T_avail_account × (Option Int)) :=
 (chart_Find t1.f_Chart acc2).bind fun x4 =>
 (avail_check x4.2).bind fun x5 =>
 if (Option.isSome x5) = true then
  some ((⟨0, 0, 0⟩ : T_avail_account), x5)
 else
  if (x4.1.f_Kind != 1) = true then
   some ((⟨0, 0, 0⟩ : T_avail_account), (some 13))
  else
   (chart_Is t1.f_Chart acc2 now3).bind fun x6 =>
   (avail_check x6.2).bind fun x7 =>
   if (Option.isSome x7) = true then
    some ((⟨0, 0, 0⟩ : T_avail_account), x7)
   else
    if (!x6.1) = true then
     some ((⟨0, 0, 0⟩ : T_avail_account), (some 16))
    else
     (balance_Of t1.f_L acc2 x4.1.f_Cur now3).bind fun x8 =>
     (slices_IndexFunc_Limit_Limit t1.f_Limits acc2).bind fun x9 =>
     ((if (decide (x9 ≥ 0)) = true then
       (rdO t1.f_Limits x9).bind fun x11 =>
       some x11.f_Minor
     else
      some 0) : Option Int).bind fun j10 =>
     (avail_check x8.2).bind fun x13 =>
     some ((⟨x4.1.f_Cur, IntKind.wrap .i64 (0 - x8.1), j10⟩ : T_avail_account), x13)
def avail_whyOf (e : Option Int) : Option Int := some (e.getD 0)
def hold_Live (h1 : T_api_Hold) (now2 : Int) : Option Bool :=
 (hold_right h1).bind fun x3 =>
 (some (x3 && (!h1.f_Done))).bind fun c4 =>
 (some (c4 && (decide (now2 ≥ h1.f_Made)))).bind fun c5 =>
 some (c5 && (decide (now2 ≤ h1.f_Until)))
def hold_Rest (h1 : T_api_Hold) (now2 : Int) : Option Int :=
 (hold_Live h1 now2).bind fun x3 =>
 if (!x3) = true then
  some 0
 else
  some (IntKind.wrap .i64 (h1.f_Amount.f_Minor - h1.f_Taken))
def selO (acc cur now : Int) (h : T_api_Hold) : Option Bool :=
 if (h.f_Acc == acc) = true then if (h.f_Amount.f_Cur == cur) = true then hold_Live h now else some false else some false
def itO (acc cur now : Int) : List T_api_Hold → Option (List T_api_Hold)
 | [] => some []
 | h :: t => (selO acc cur now h).bind fun b => (itO acc cur now t).map fun r => bif b then h :: r else r
def sumStep (now rank : Int) (n : Int) (h : T_api_Hold) : Option Int :=
 if (decide (h.f_Rank ≥ rank)) = true then (hold_Rest h now).bind fun x => some (IntKind.wrap .i64 (n + x)) else some n
def hold_those (l : List T_api_Hold) (acc cur now : Int) : Option (List T_api_Hold) :=
 if (l.length : Int) < 4611686018427387904 then itO acc cur now l else none
noncomputable def hold_Sum (l : List T_api_Hold) (acc cur now rank : Int) : Option (Int × Int) :=
 (hold_Check l).bind fun e => if (e != 0) = true then some (0, e) else
 (hold_those l acc cur now).bind fun r => (foldO (sumStep now rank) 0 r).bind fun n => some (n, 0)
def hold_collect (l : List T_api_Hold) (acc cur now : Int) : Option (List T_api_Hold) :=
 (hold_those l acc cur now).bind fun q => foldO (fun s x => apO 64 s [x]) [] q
noncomputable def avail_account_free (a1 : T_avail_account) (t2 : T_api_Till) (acc3 : Int) (now4 : Int) (rank5 : Int) : Option Int :=
 (hold_Sum t2.f_Holds acc3 a1.f_cur now4 rank5).bind fun x6 =>
 some (IntKind.wrap .i64 ((IntKind.wrap .i64 (a1.f_funds + a1.f_limit)) - x6.1))
noncomputable def avail_with (t1 : T_api_Till) (l2 : List T_api_Hold) : Option T_api_Till :=
 (slices_Clone 32 t1.f_Chart.f_Customers).bind fun x3 =>
 (slices_Clone 56 t1.f_Chart.f_Records).bind fun x4 =>
 ((loopO (fun (qj5 : Int × (List T_api_Posting)) => match qj5 with
   | (x6, row7) => (
    if (decide (x6 < (t1.f_L.length : Int))) = true then
     (rdO t1.f_L x6).bind fun x8 =>
     (slices_Clone 24 x8.f_Legs).bind fun x9 =>
     (apO 72 row7 [(⟨x8.f_ID, x8.f_Known, x8.f_Value, x9, x8.f_Reverses, x8.f_Kind, x8.f_Memo⟩ : T_api_Posting)]).bind fun x10 =>
     some (.inl (IntKind.wrap .i64 (x6 + 1), x10))
    else
     some (.inr row7) : Option ((Int × (List T_api_Posting)) ⊕ (List T_api_Posting)))) (0, ([] : List T_api_Posting))) : Option (List T_api_Posting)).bind fun j5 =>
 (slices_Clone 64 l2).bind fun x12 =>
 (slices_Clone 16 t1.f_Limits).bind fun x13 =>
 some (⟨(⟨x3, x4⟩ : T_api_Chart), j5, x12, x13⟩ : T_api_Till)
noncomputable def avail_Place (t1 : T_api_Till) (h2 : T_api_Hold) : Option (T_api_Till × Bool × Int) :=
 (avail_Right t1).bind fun x3 =>
 if (!x3) = true then
  some ((⟨(⟨([] : List T_api_Customer), ([] : List T_api_Record)⟩ : T_api_Chart), ([] : List T_api_Posting), ([] : List T_api_Hold), ([] : List T_api_Limit)⟩ : T_api_Till), false, 1)
 else
  (hold_Add t1.f_Holds h2).bind fun x4 =>
  if (x4.2 != 0) = true then
   some ((⟨(⟨([] : List T_api_Customer), ([] : List T_api_Record)⟩ : T_api_Chart), ([] : List T_api_Posting), ([] : List T_api_Hold), ([] : List T_api_Limit)⟩ : T_api_Till), false, x4.2)
  else
   (avail_ask t1 h2.f_Acc h2.f_Made).bind fun x5 =>
   if (Option.isSome x5.2) = true then
    (avail_whyOf x5.2).bind fun x6 =>
    some ((⟨(⟨([] : List T_api_Customer), ([] : List T_api_Record)⟩ : T_api_Chart), ([] : List T_api_Posting), ([] : List T_api_Hold), ([] : List T_api_Limit)⟩ : T_api_Till), false, x6)
   else
    if (h2.f_Amount.f_Cur != x5.1.f_cur) = true then
     some ((⟨(⟨([] : List T_api_Customer), ([] : List T_api_Record)⟩ : T_api_Chart), ([] : List T_api_Posting), ([] : List T_api_Hold), ([] : List T_api_Limit)⟩ : T_api_Till), false, 12)
    else
     (avail_account_free x5.1 t1 h2.f_Acc h2.f_Made h2.f_Rank).bind fun x7 =>
     if (decide (h2.f_Amount.f_Minor > x7)) = true then
      (avail_with t1 t1.f_Holds).bind fun x8 =>
      some (x8, false, 0)
     else
      (avail_with t1 x4.1).bind fun x9 =>
      some (x9, true, 0)
def cashbooklaw26_one : Option T_api_Till :=
 some (⟨(⟨([] : List T_api_Customer), [(⟨5, 1, 0, 0, 0, 0, 0, 50000⟩ : T_api_Record)]⟩ : T_api_Chart), [(⟨0, 0, 3, [(⟨5, (⟨0, (-100)⟩ : T_api_Money)⟩ : T_api_Leg)], 0, 0, []⟩ : T_api_Posting)], [(⟨1, 5, (⟨0, 30⟩ : T_api_Money), 2, 3, 9, 0, false⟩ : T_api_Hold)], ([] : List T_api_Limit)⟩ : T_api_Till)
def avail_in_int (n1 : Int) (low2 : Int) (high3 : Int) : Option Bool :=
 (some (decide (n1 ≥ low2))).bind fun c4 =>
 some (c4 && (decide (n1 ≤ high3)))
noncomputable def avail_Free (t1 : T_api_Till) (acc2 : Int) (now3 : Int) (rank4 : Int) : Option (Int × Int) :=
 (avail_Right t1).bind fun x5 =>
 (some (!x5)).bind fun c6 =>
 (gdO (!c6) (avail_in_int rank4 0 9) (default : Bool)).bind fun x7 =>
 if (c6 || (!x7)) = true then
  some (0, 1)
 else
  (avail_ask t1 acc2 now3).bind fun x8 =>
  if (Option.isSome x8.2) = true then
   (avail_whyOf x8.2).bind fun x9 =>
   some (0, x9)
  else
   (avail_account_free x8.1 t1 acc2 now3 rank4).bind fun x10 =>
   some (x10, 0)
noncomputable def cashbooklaw26_alive : Option Bool :=
 (cashbooklaw26_one).bind fun x1 =>
 (avail_Free x1 5 4 0).bind fun x2 =>
 (cashbooklaw26_one).bind fun x3 =>
 (avail_Free x3 5 4 3).bind fun x4 =>
 (some (x2.2 == 0)).bind fun c5 =>
 (some (c5 && (x4.2 == 0))).bind fun c6 =>
 (some (c6 && (x2.1 == 70))).bind fun c7 =>
 some (c7 && (x4.1 == 100))
noncomputable def hold_Capture (l1 : List T_api_Hold) (id2 : Int) (amount3 : T_api_Money) (now4 : Int) (last5 : Bool) : Option ((List T_api_Hold) × Int) :=
 (hold_Check l1).bind fun x6 =>
 if (x6 != 0) = true then
  some (([] : List T_api_Hold), x6)
 else
  (hold_place l1 id2).bind fun x7 =>
  if (!x7.2) = true then
   some (([] : List T_api_Hold), 8)
  else
   (rdO l1 x7.1).bind fun x8 =>
   (hold_Live x8 now4).bind fun x9 =>
   if (!x9) = true then
    some (([] : List T_api_Hold), 27)
   else
    (rdO l1 x7.1).bind fun x10 =>
    if (amount3.f_Cur != x10.f_Amount.f_Cur) = true then
     some (([] : List T_api_Hold), 12)
    else
     (money_Right amount3).bind fun x11 =>
     (some (!x11)).bind fun c12 =>
     if (c12 || (decide (amount3.f_Minor ≤ 0))) = true then
      some (([] : List T_api_Hold), 1)
     else
      (rdO l1 x7.1).bind fun x13 =>
      (hold_Rest x13 now4).bind fun x14 =>
      if (decide (amount3.f_Minor > x14)) = true then
       some (([] : List T_api_Hold), 17)
      else
       (slices_Clone 64 l1).bind fun x15 =>
       (rdO x15 x7.1).bind fun x16 =>
       (rdO x15 x7.1).bind fun x17 =>
       (gdO (!last5) (rdO (List.set x15 (Int.toNat x7.1) (⟨x17.f_ID, x17.f_Acc, x17.f_Amount, x17.f_Rank, x17.f_Made, x17.f_Until, IntKind.wrap .i64 (x16.f_Taken + amount3.f_Minor), x17.f_Done⟩ : T_api_Hold)) x7.1) (default : T_api_Hold)).bind fun x18 =>
       (gdO (!last5) (rdO (List.set x15 (Int.toNat x7.1) (⟨x17.f_ID, x17.f_Acc, x17.f_Amount, x17.f_Rank, x17.f_Made, x17.f_Until, IntKind.wrap .i64 (x16.f_Taken + amount3.f_Minor), x17.f_Done⟩ : T_api_Hold)) x7.1) (default : T_api_Hold)).bind fun x19 =>
       (rdO (List.set x15 (Int.toNat x7.1) (⟨x17.f_ID, x17.f_Acc, x17.f_Amount, x17.f_Rank, x17.f_Made, x17.f_Until, IntKind.wrap .i64 (x16.f_Taken + amount3.f_Minor), x17.f_Done⟩ : T_api_Hold)) x7.1).bind fun x20 =>
       some ((List.set (List.set x15 (Int.toNat x7.1) (⟨x17.f_ID, x17.f_Acc, x17.f_Amount, x17.f_Rank, x17.f_Made, x17.f_Until, IntKind.wrap .i64 (x16.f_Taken + amount3.f_Minor), x17.f_Done⟩ : T_api_Hold)) (Int.toNat x7.1) (⟨x20.f_ID, x20.f_Acc, x20.f_Amount, x20.f_Rank, x20.f_Made, x20.f_Until, x20.f_Taken, (last5 || (x18.f_Taken == x19.f_Amount.f_Minor))⟩ : T_api_Hold)), 0)
def avail_Take_1 (h1 : T_api_Hold) (x2 : Int) : Option Bool :=
 some (h1.f_ID == x2)
noncomputable def slices_IndexFunc_Hold_Hold_1 (s1 : List T_api_Hold) (c2 : Int) : Option Int :=
 ((loopO (fun (qj3 : Int) => match qj3 with
   | x4 => (
    if (decide (x4 < (s1.length : Int))) = true then
     (rdO s1 x4).bind fun x5 =>
     (avail_Take_1 x5 c2).bind fun x6 =>
     if x6 = true then
      some (.inr (.inr x4))
     else
      some (.inl (IntKind.wrap .i64 (x4 + 1)))
    else
     some (.inr (.inl ())) : Option (Int ⊕ (Unit ⊕ Int)))) 0) : Option (Unit ⊕ Int)).bind fun j3 => match j3 with
 | .inr o => some o
 | .inl _ =>
 some (-1)
def hold_Cover_1 (a1 : T_api_Hold) (b2 : T_api_Hold) : Option Int :=
 (cmp_Compare_int b2.f_Rank a1.f_Rank).bind fun x3 =>
 some x3
noncomputable def slices_insertionSortCmpFunc_Hold (a1 : Int) (b2 : Int) (l3 : List T_api_Hold) : Option (List T_api_Hold) :=
 ((loopO (fun (qj4 : Int × (List T_api_Hold)) => match qj4 with
   | (i5, row6) => (
    if (decide (i5 < b2)) = true then
     ((loopO (fun (qj7 : Int × (List T_api_Hold)) => match qj7 with
       | (j8, row9) => (
        (some (decide (j8 > a1))).bind fun c10 =>
        (gdO c10 (rdO row9 j8) (default : T_api_Hold)).bind fun x11 =>
        (gdO c10 (rdO row9 (IntKind.wrap .i64 (j8 - 1))) (default : T_api_Hold)).bind fun x12 =>
        (gdO c10 (hold_Cover_1 x11 x12) (default : Int)).bind fun x13 =>
        if (c10 && (decide (x13 < 0))) = true then
         (rdO row9 (IntKind.wrap .i64 (j8 - 1))).bind fun x14 =>
         (rdO row9 j8).bind fun x15 =>
         (rdO row9 j8).bind fun x16 =>
         (rdO (List.set row9 (Int.toNat j8) x14) (IntKind.wrap .i64 (j8 - 1))).bind fun x17 =>
         some (.inl (IntKind.wrap .i64 (j8 - 1), (List.set (List.set row9 (Int.toNat j8) x14) (Int.toNat (IntKind.wrap .i64 (j8 - 1))) x15)))
        else
         some (.inr row9) : Option ((Int × (List T_api_Hold)) ⊕ (List T_api_Hold)))) (i5, row6)) : Option (List T_api_Hold)).bind fun j7 =>
     some (.inl (IntKind.wrap .i64 (i5 + 1), j7))
    else
     some (.inr row6) : Option ((Int × (List T_api_Hold)) ⊕ (List T_api_Hold)))) (IntKind.wrap .i64 (a1 + 1), l3)) : Option (List T_api_Hold)).bind fun j4 =>
 some j4
noncomputable def slices_swapRangeCmpFunc_Hold (a1 : Int) (b2 : Int) (n3 : Int) (l4 : List T_api_Hold) : Option (List T_api_Hold) :=
 ((loopO (fun (qj5 : Int × (List T_api_Hold)) => match qj5 with
   | (i6, row7) => (
    if (decide (i6 < n3)) = true then
     (rdO row7 (IntKind.wrap .i64 (b2 + i6))).bind fun x8 =>
     (rdO row7 (IntKind.wrap .i64 (a1 + i6))).bind fun x9 =>
     (rdO row7 (IntKind.wrap .i64 (a1 + i6))).bind fun x10 =>
     (rdO (List.set row7 (Int.toNat (IntKind.wrap .i64 (a1 + i6))) x8) (IntKind.wrap .i64 (b2 + i6))).bind fun x11 =>
     some (.inl (IntKind.wrap .i64 (i6 + 1), (List.set (List.set row7 (Int.toNat (IntKind.wrap .i64 (a1 + i6))) x8) (Int.toNat (IntKind.wrap .i64 (b2 + i6))) x9)))
    else
     some (.inr row7) : Option ((Int × (List T_api_Hold)) ⊕ (List T_api_Hold)))) (0, l4)) : Option (List T_api_Hold)).bind fun j5 =>
 some j5
noncomputable def slices_rotateCmpFunc_Hold (a1 : Int) (m2 : Int) (b3 : Int) (l4 : List T_api_Hold) : Option (List T_api_Hold) :=
 ((loopO (fun (qj5 : Int × Int × (List T_api_Hold)) => match qj5 with
   | (i6, j7, row8) => (
    if (i6 != j7) = true then
     if (decide (i6 > j7)) = true then
      (slices_swapRangeCmpFunc_Hold (IntKind.wrap .i64 (m2 - i6)) m2 j7 row8).bind fun x9 =>
      some (.inl (IntKind.wrap .i64 (i6 - j7), j7, x9))
     else
      (slices_swapRangeCmpFunc_Hold (IntKind.wrap .i64 (m2 - i6)) (IntKind.wrap .i64 ((IntKind.wrap .i64 (m2 + j7)) - i6)) i6 row8).bind fun x10 =>
      some (.inl (i6, IntKind.wrap .i64 (j7 - i6), x10))
    else
     some (.inr (i6, row8)) : Option ((Int × Int × (List T_api_Hold)) ⊕ (Int × (List T_api_Hold))))) (IntKind.wrap .i64 (m2 - a1), IntKind.wrap .i64 (b3 - m2), l4)) : Option (Int × (List T_api_Hold))).bind fun (i11, row12) =>
 (slices_swapRangeCmpFunc_Hold (IntKind.wrap .i64 (m2 - i11)) m2 i11 row12).bind fun x13 =>
 some x13
noncomputable def slices_symMergeCmpFunc_Hold : Nat → Int → Int → Int → (List T_api_Hold) → Option (List T_api_Hold)
 | 0, _, _, _, _ => none
 | fuel + 1, a1, m2, b3, l4 =>
  if ((IntKind.wrap .i64 (m2 - a1)) == 1) = true then
   ((loopO (fun (qj5 : Int × Int) => match qj5 with
     | (i6, j7) => (
      if (decide (i6 < j7)) = true then
       (rdO l4 (IntKind.wrap .i64 (Int.fdiv (IntKind.wrap .u64 (IntKind.wrap .i64 (i6 + j7))) 2))).bind fun x8 =>
       (rdO l4 a1).bind fun x9 =>
       (hold_Cover_1 x8 x9).bind fun x10 =>
       if (decide (x10 < 0)) = true then
        some (.inl (IntKind.wrap .i64 ((IntKind.wrap .i64 (Int.fdiv (IntKind.wrap .u64 (IntKind.wrap .i64 (i6 + j7))) 2)) + 1), j7))
       else
        some (.inl (i6, IntKind.wrap .i64 (Int.fdiv (IntKind.wrap .u64 (IntKind.wrap .i64 (i6 + j7))) 2)))
      else
       some (.inr i6) : Option ((Int × Int) ⊕ Int))) (m2, b3)) : Option Int).bind fun j5 =>
   ((loopO (fun (qj12 : Int × (List T_api_Hold)) => match qj12 with
     | (k13, row14) => (
      if (decide (k13 < (IntKind.wrap .i64 (j5 - 1)))) = true then
       (rdO row14 (IntKind.wrap .i64 (k13 + 1))).bind fun x15 =>
       (rdO row14 k13).bind fun x16 =>
       (rdO row14 k13).bind fun x17 =>
       (rdO (List.set row14 (Int.toNat k13) x15) (IntKind.wrap .i64 (k13 + 1))).bind fun x18 =>
       some (.inl (IntKind.wrap .i64 (k13 + 1), (List.set (List.set row14 (Int.toNat k13) x15) (Int.toNat (IntKind.wrap .i64 (k13 + 1))) x16)))
      else
       some (.inr row14) : Option ((Int × (List T_api_Hold)) ⊕ (List T_api_Hold)))) (a1, l4)) : Option (List T_api_Hold)).bind fun j12 =>
   some j12
  else
   if ((IntKind.wrap .i64 (b3 - m2)) == 1) = true then
    ((loopO (fun (qj20 : Int × Int) => match qj20 with
      | (i21, j22) => (
       if (decide (i21 < j22)) = true then
        (rdO l4 m2).bind fun x23 =>
        (rdO l4 (IntKind.wrap .i64 (Int.fdiv (IntKind.wrap .u64 (IntKind.wrap .i64 (i21 + j22))) 2))).bind fun x24 =>
        (hold_Cover_1 x23 x24).bind fun x25 =>
        if (!(decide (x25 < 0))) = true then
         some (.inl (IntKind.wrap .i64 ((IntKind.wrap .i64 (Int.fdiv (IntKind.wrap .u64 (IntKind.wrap .i64 (i21 + j22))) 2)) + 1), j22))
        else
         some (.inl (i21, IntKind.wrap .i64 (Int.fdiv (IntKind.wrap .u64 (IntKind.wrap .i64 (i21 + j22))) 2)))
       else
        some (.inr i21) : Option ((Int × Int) ⊕ Int))) (a1, m2)) : Option Int).bind fun j20 =>
    ((loopO (fun (qj27 : Int × (List T_api_Hold)) => match qj27 with
      | (k28, row29) => (
       if (decide (k28 > j20)) = true then
        (rdO row29 (IntKind.wrap .i64 (k28 - 1))).bind fun x30 =>
        (rdO row29 k28).bind fun x31 =>
        (rdO row29 k28).bind fun x32 =>
        (rdO (List.set row29 (Int.toNat k28) x30) (IntKind.wrap .i64 (k28 - 1))).bind fun x33 =>
        some (.inl (IntKind.wrap .i64 (k28 - 1), (List.set (List.set row29 (Int.toNat k28) x30) (Int.toNat (IntKind.wrap .i64 (k28 - 1))) x31)))
       else
        some (.inr row29) : Option ((Int × (List T_api_Hold)) ⊕ (List T_api_Hold)))) (m2, l4)) : Option (List T_api_Hold)).bind fun j27 =>
    some j27
   else
    ((if (decide (m2 > (IntKind.wrap .i64 (Int.fdiv (IntKind.wrap .u64 (IntKind.wrap .i64 (a1 + b3))) 2)))) = true then
      some (IntKind.wrap .i64 ((IntKind.wrap .i64 ((IntKind.wrap .i64 (Int.fdiv (IntKind.wrap .u64 (IntKind.wrap .i64 (a1 + b3))) 2)) + m2)) - b3), IntKind.wrap .i64 (Int.fdiv (IntKind.wrap .u64 (IntKind.wrap .i64 (a1 + b3))) 2))
    else
     some (a1, m2)) : Option (Int × Int)).bind fun (start36, r37) =>
    ((loopO (fun (qj38 : Int × Int) => match qj38 with
      | (start39, r40) => (
       if (decide (start39 < r40)) = true then
        (rdO l4 (IntKind.wrap .i64 ((IntKind.wrap .i64 ((IntKind.wrap .i64 ((IntKind.wrap .i64 (Int.fdiv (IntKind.wrap .u64 (IntKind.wrap .i64 (a1 + b3))) 2)) + m2)) - 1)) - (IntKind.wrap .i64 (Int.fdiv (IntKind.wrap .u64 (IntKind.wrap .i64 (start39 + r40))) 2))))).bind fun x41 =>
        (rdO l4 (IntKind.wrap .i64 (Int.fdiv (IntKind.wrap .u64 (IntKind.wrap .i64 (start39 + r40))) 2))).bind fun x42 =>
        (hold_Cover_1 x41 x42).bind fun x43 =>
        if (!(decide (x43 < 0))) = true then
         some (.inl (IntKind.wrap .i64 ((IntKind.wrap .i64 (Int.fdiv (IntKind.wrap .u64 (IntKind.wrap .i64 (start39 + r40))) 2)) + 1), r40))
        else
         some (.inl (start39, IntKind.wrap .i64 (Int.fdiv (IntKind.wrap .u64 (IntKind.wrap .i64 (start39 + r40))) 2)))
       else
        some (.inr start39) : Option ((Int × Int) ⊕ Int))) (start36, r37)) : Option Int).bind fun j38 =>
    (some (decide (j38 < m2))).bind fun c45 =>
    ((if (c45 && (decide (m2 < (IntKind.wrap .i64 ((IntKind.wrap .i64 ((IntKind.wrap .i64 (Int.fdiv (IntKind.wrap .u64 (IntKind.wrap .i64 (a1 + b3))) 2)) + m2)) - j38))))) = true then
      (slices_rotateCmpFunc_Hold j38 m2 (IntKind.wrap .i64 ((IntKind.wrap .i64 ((IntKind.wrap .i64 (Int.fdiv (IntKind.wrap .u64 (IntKind.wrap .i64 (a1 + b3))) 2)) + m2)) - j38)) l4).bind fun x47 =>
      some x47
    else
     some l4) : Option (List T_api_Hold)).bind fun j46 =>
    (some (decide (a1 < j38))).bind fun c49 =>
    ((if (c49 && (decide (j38 < (IntKind.wrap .i64 (Int.fdiv (IntKind.wrap .u64 (IntKind.wrap .i64 (a1 + b3))) 2))))) = true then
      (slices_symMergeCmpFunc_Hold fuel a1 j38 (IntKind.wrap .i64 (Int.fdiv (IntKind.wrap .u64 (IntKind.wrap .i64 (a1 + b3))) 2)) j46).bind fun x51 =>
      some x51
    else
     some j46) : Option (List T_api_Hold)).bind fun j50 =>
    (some (decide ((IntKind.wrap .i64 (Int.fdiv (IntKind.wrap .u64 (IntKind.wrap .i64 (a1 + b3))) 2)) < (IntKind.wrap .i64 ((IntKind.wrap .i64 ((IntKind.wrap .i64 (Int.fdiv (IntKind.wrap .u64 (IntKind.wrap .i64 (a1 + b3))) 2)) + m2)) - j38))))).bind fun c53 =>
    if (c53 && (decide ((IntKind.wrap .i64 ((IntKind.wrap .i64 ((IntKind.wrap .i64 (Int.fdiv (IntKind.wrap .u64 (IntKind.wrap .i64 (a1 + b3))) 2)) + m2)) - j38)) < b3))) = true then
     (slices_symMergeCmpFunc_Hold fuel (IntKind.wrap .i64 (Int.fdiv (IntKind.wrap .u64 (IntKind.wrap .i64 (a1 + b3))) 2)) (IntKind.wrap .i64 ((IntKind.wrap .i64 ((IntKind.wrap .i64 (Int.fdiv (IntKind.wrap .u64 (IntKind.wrap .i64 (a1 + b3))) 2)) + m2)) - j38)) b3 j50).bind fun x54 =>
     some x54
    else
     some j50
noncomputable def slices_stableCmpFunc_Hold (n1 : Int) (l2 : List T_api_Hold) : Option (List T_api_Hold) :=
 ((loopO (fun (qj3 : Int × Int × (List T_api_Hold)) => match qj3 with
   | (a4, b5, row6) => (
    if (decide (b5 ≤ n1)) = true then
     (slices_insertionSortCmpFunc_Hold a4 b5 row6).bind fun x7 =>
     some (.inl (b5, IntKind.wrap .i64 (b5 + 20), x7))
    else
     some (.inr (a4, row6)) : Option ((Int × Int × (List T_api_Hold)) ⊕ (Int × (List T_api_Hold))))) (0, 20, l2)) : Option (Int × (List T_api_Hold))).bind fun (a8, row9) =>
 (slices_insertionSortCmpFunc_Hold a8 n1 row9).bind fun x10 =>
 ((loopO (fun (qj11 : Int × (List T_api_Hold)) => match qj11 with
   | (blockSize12, row13) => (
    if (decide (blockSize12 < n1)) = true then
     ((loopO (fun (qj14 : Int × Int × (List T_api_Hold)) => match qj14 with
       | (a15, b16, row17) => (
        if (decide (b16 ≤ n1)) = true then
         (slices_symMergeCmpFunc_Hold 1000 a15 (IntKind.wrap .i64 (a15 + blockSize12)) b16 row17).bind fun x18 =>
         some (.inl (b16, IntKind.wrap .i64 (b16 + (IntKind.wrap .i64 (2 * blockSize12))), x18))
        else
         some (.inr (a15, row17)) : Option ((Int × Int × (List T_api_Hold)) ⊕ (Int × (List T_api_Hold))))) (0, IntKind.wrap .i64 (2 * blockSize12), row13)) : Option (Int × (List T_api_Hold))).bind fun (a19, row20) =>
     ((if (decide ((IntKind.wrap .i64 (a19 + blockSize12)) < n1)) = true then
       (slices_symMergeCmpFunc_Hold 1000 a19 (IntKind.wrap .i64 (a19 + blockSize12)) n1 row20).bind fun x22 =>
       some x22
     else
      some row20) : Option (List T_api_Hold)).bind fun j21 =>
     some (.inl (IntKind.wrap .i64 (blockSize12 * 2), j21))
    else
     some (.inr row13) : Option ((Int × (List T_api_Hold)) ⊕ (List T_api_Hold)))) (20, x10)) : Option (List T_api_Hold)).bind fun j11 =>
 some j11
noncomputable def slices_SortStableFunc_Hold_Hold (l1 : List T_api_Hold) : Option (List T_api_Hold) :=
 (slices_stableCmpFunc_Hold (l1.length : Int) l1).bind fun x2 =>
 some x2
noncomputable def hold_Cover (l1 : List T_api_Hold) (acc2 : Int) (cur3 : Int) (now4 : Int) (funds5 : Int) : Option ((List T_api_Covered) × Int) :=
 (hold_Check l1).bind fun x6 =>
 if (x6 != 0) = true then
  some (([] : List T_api_Covered), x6)
 else
  (hold_collect l1 acc2 cur3 now4).bind fun x7 =>
  (slices_SortStableFunc_Hold_Hold x7).bind fun x8 =>
  ((loopO (fun (qj9 : Int × (List T_api_Hold) × Int × (List T_api_Covered)) => match qj9 with
    | (left10, x11, x12, row13) => (
     if (decide (x12 < (x8.length : Int))) = true then
      (rdO x11 x12).bind fun x14 =>
      (hold_Rest x14 now4).bind fun x15 =>
      (apO 16 row13 [(⟨x14.f_ID, (if x15 < left10 then x15 else left10)⟩ : T_api_Covered)]).bind fun x16 =>
      some (.inl (IntKind.wrap .i64 (left10 - (if x15 < left10 then x15 else left10)), x11, IntKind.wrap .i64 (x12 + 1), x16))
     else
      some (.inr row13) : Option ((Int × (List T_api_Hold) × Int × (List T_api_Covered)) ⊕ (List T_api_Covered)))) ((if 0 > funds5 then 0 else funds5), x8, 0, ([] : List T_api_Covered))) : Option (List T_api_Covered)).bind fun j9 =>
  some (j9, 0)
def avail_Take_2 (c1 : T_api_Covered) (x2 : Int) : Option Bool :=
 some (c1.f_ID == x2)
noncomputable def slices_IndexFunc_Covered_Covered (s1 : List T_api_Covered) (c2 : Int) : Option Int :=
 ((loopO (fun (qj3 : Int) => match qj3 with
   | x4 => (
    if (decide (x4 < (s1.length : Int))) = true then
     (rdO s1 x4).bind fun x5 =>
     (avail_Take_2 x5 c2).bind fun x6 =>
     if x6 = true then
      some (.inr (.inr x4))
     else
      some (.inl (IntKind.wrap .i64 (x4 + 1)))
    else
     some (.inr (.inl ())) : Option (Int ⊕ (Unit ⊕ Int)))) 0) : Option (Unit ⊕ Int)).bind fun j3 => match j3 with
 | .inr o => some o
 | .inl _ =>
 some (-1)
noncomputable def avail_Take (t1 : T_api_Till) (id2 : Int) (amount3 : T_api_Money) (now4 : Int) (last5 : Bool) : Option (T_api_Till × Bool × Int) :=
 (avail_Right t1).bind fun x6 =>
 if (!x6) = true then
  some ((⟨(⟨([] : List T_api_Customer), ([] : List T_api_Record)⟩ : T_api_Chart), ([] : List T_api_Posting), ([] : List T_api_Hold), ([] : List T_api_Limit)⟩ : T_api_Till), false, 1)
 else
  (hold_Capture t1.f_Holds id2 amount3 now4 last5).bind fun x7 =>
  if (x7.2 != 0) = true then
   some ((⟨(⟨([] : List T_api_Customer), ([] : List T_api_Record)⟩ : T_api_Chart), ([] : List T_api_Posting), ([] : List T_api_Hold), ([] : List T_api_Limit)⟩ : T_api_Till), false, x7.2)
  else
   (slices_IndexFunc_Hold_Hold_1 t1.f_Holds id2).bind fun x8 =>
   (rdO t1.f_Holds x8).bind fun x9 =>
   (avail_ask t1 x9.f_Acc now4).bind fun x10 =>
   if (Option.isSome x10.2) = true then
    (avail_whyOf x10.2).bind fun x11 =>
    some ((⟨(⟨([] : List T_api_Customer), ([] : List T_api_Record)⟩ : T_api_Chart), ([] : List T_api_Posting), ([] : List T_api_Hold), ([] : List T_api_Limit)⟩ : T_api_Till), false, x11)
   else
    if (x9.f_Amount.f_Cur != x10.1.f_cur) = true then
     some ((⟨(⟨([] : List T_api_Customer), ([] : List T_api_Record)⟩ : T_api_Chart), ([] : List T_api_Posting), ([] : List T_api_Hold), ([] : List T_api_Limit)⟩ : T_api_Till), false, 12)
    else
     (hold_Cover t1.f_Holds x9.f_Acc x10.1.f_cur now4 (IntKind.wrap .i64 (x10.1.f_funds + x10.1.f_limit))).bind fun x12 =>
     (slices_IndexFunc_Covered_Covered x12.1 id2).bind fun x13 =>
     (some (decide (x13 < 0))).bind fun c14 =>
     (gdO (!c14) (rdO x12.1 x13) (default : T_api_Covered)).bind fun x15 =>
     if (c14 || (decide (x15.f_Much < amount3.f_Minor))) = true then
      (avail_with t1 t1.f_Holds).bind fun x16 =>
      some (x16, false, 0)
     else
      (avail_with t1 x7.1).bind fun x17 =>
      some (x17, true, 0)
noncomputable def cashbooklaw26_AvailCovers (t1 : T_api_Till) (h2 : T_api_Hold) : Option Bool :=
 (cashbooklaw26_few t1).bind fun x3 =>
 (avail_Place x3 h2).bind fun x4 =>
 if (x4.2.2 != 0) = true then
  (cashbooklaw26_alive).bind fun x5 =>
  some (x5 && (!x4.2.1))
 else
  ((loopO (fun (qj6 : Int) => match qj6 with
    | x7 => (
     if (decide (x7 < 10)) = true then
      (avail_Free x3 h2.f_Acc h2.f_Made x7).bind fun x8 =>
      (avail_Free x4.1 h2.f_Acc h2.f_Made x7).bind fun x9 =>
      (some (x8.2 != 0)).bind fun c10 =>
      if (c10 || (x9.2 != 0)) = true then
       some (.inr (.inr false))
      else
       (some (x7 == h2.f_Rank)).bind fun c11 =>
       if (c11 && (!(x4.2.1 == (decide (h2.f_Amount.f_Minor ≤ x8.1))))) = true then
        some (.inr (.inr false))
       else
        (some x4.2.1).bind fun c12 =>
        ((if (c12 && (decide (x7 ≤ h2.f_Rank))) = true then
          some h2.f_Amount.f_Minor
        else
         some 0) : Option Int).bind fun j13 =>
        if (x9.1 != (IntKind.wrap .i64 (x8.1 - j13))) = true then
         some (.inr (.inr false))
        else
         some (.inl (IntKind.wrap .i64 (x7 + 1)))
     else
      some (.inr (.inl ())) : Option (Int ⊕ (Unit ⊕ Bool)))) 0) : Option (Unit ⊕ Bool)).bind fun j6 => match j6 with
  | .inr o => some o
  | .inl _ =>
  (avail_Take x4.1 h2.f_ID h2.f_Amount h2.f_Made true).bind fun x15 =>
  if (!x4.2.1) = true then
   (cashbooklaw26_alive).bind fun x16 =>
   (some (x16 && (x15.2.2 != 0))).bind fun c17 =>
   some (c17 && (!x15.2.1))
  else
   ((loopO (fun (qj18 : Int × Int) => match qj18 with
     | (rest19, x20) => (
      if (decide (x20 < (x15.1.f_Holds.length : Int))) = true then
       (rdO x15.1.f_Holds x20).bind fun x21 =>
       ((if (x21.f_ID == h2.f_ID) = true then
         (hold_Rest x21 h2.f_Made).bind fun x23 =>
         some x23
       else
        some rest19) : Option Int).bind fun j22 =>
       some (.inl (j22, IntKind.wrap .i64 (x20 + 1)))
      else
       some (.inr rest19) : Option ((Int × Int) ⊕ Int))) ((-1), 0)) : Option Int).bind fun j18 =>
   (cashbooklaw26_alive).bind fun x26 =>
   (some (x26 && (x15.2.2 == 0))).bind fun c27 =>
   (some (c27 && x15.2.1)).bind fun c28 =>
   some (c28 && (j18 == 0))
end Go.Av.G
end
section
set_option linter.unusedVariables false
set_option linter.unusedSimpArgs false
set_option maxRecDepth 4000
set_option maxHeartbeats 4000000
namespace Go.Av.G
open Go Go.Av Go.Proofs
theorem gdO_some {α : Type} (g : Bool) (a d : α) : gdO g (some a) d = some (bif g then a else d) := by cases g <;> rfl
theorem gdO_and (g a : Bool) : gdO g (some a) (default : Bool) = some (g && a) := by cases g <;> rfl
def okC (x : T_api_Customer) : Bool := decide (1 ≤ x.f_ID ∧ x.f_ID ≤ 999 ∧ 1 ≤ x.f_Name.length ∧ x.f_Name.length ≤ 32 ∧ 0 ≤ x.f_Kind ∧ x.f_Kind ≤ 3) && !(x.f_Name.any fun b => decide (b.toNat < 32) || decide (126 < b.toNat))
theorem contains_eq (s : List UInt8) : strings_ContainsFunc chart_isCustomer_1 s = some (s.any fun b => decide (b.toNat < 32) || decide (126 < b.toNat)) := by
 rw [strings_ContainsFunc_eq (fun x => decide (x < 32) || decide (126 < x)) (by
  intro x
  simp only [chart_isCustomer_1, Option.bind_some, Option.some.injEq]
  rw [Bool.eq_iff_iff]
  simp
  omega)]
 rw [runes_bytes (p := fun x => decide (x < 32) || decide (126 < x)) (by intro x hx; simp; omega)]
theorem isCustomer_eq (x : T_api_Customer) : chart_isCustomer x = some (okC x) := by
 simp only [chart_isCustomer, chart_in_int, contains_eq, gdO_some, Option.bind_some, Option.some.injEq, okC, cond_eq_ite]
 rw [Bool.eq_iff_iff]
 generalize (x.f_Name.any fun b => decide (b.toNat < 32) || decide (126 < b.toNat)) = B
 cases B <;> simp <;> omega
def okR (r : T_api_Record) : Bool := decide (1 ≤ r.f_Acc ∧ r.f_Acc ≤ 999 ∧ 0 ≤ r.f_Kind ∧ r.f_Kind ≤ 3 ∧ 0 ≤ r.f_Cur ∧ r.f_Cur ≤ 3 ∧ 0 ≤ r.f_Customer ∧ r.f_Customer ≤ 999 ∧ 0 ≤ r.f_Product ∧ r.f_Product ≤ 20 ∧ 0 ≤ r.f_Partition ∧ r.f_Partition ≤ 3 ∧
 (r.f_Kind < 2 ∨ r.f_Customer = 0 ∧ r.f_Product = 0) ∧ -50000 ≤ r.f_From ∧ r.f_From ≤ r.f_To ∧ r.f_To ≤ 50000)
theorem isRecord_eq (r : T_api_Record) : chart_isRecord r = some (okR r) := by
 simp only [chart_isRecord, chart_in_int, chart_in_Account, chart_in_Currency, date_Right, gdO_and, Option.bind_some, okR]
 split
 ·rename_i h
  simp only [Option.some.injEq]
  rw [Bool.eq_iff_iff]
  simp at h ⊢
  omega
 ·rename_i h
  split
  ·rename_i h2
   simp only [Option.some.injEq]
   rw [Bool.eq_iff_iff]
   simp at h h2 ⊢
   omega
  ·rename_i h2
   simp only [Option.some.injEq]
   rw [Bool.eq_iff_iff]
   simp at h h2 ⊢
   omega
theorem chart_rises_Customer_int_spec (l : List T_api_Customer) (hn : l.length < 4611686018427387904) : ∃ b, chart_rises_Customer_int l = some b ∧ (b = true ↔ Rise (·.f_ID) l) := by
 unfold chart_rises_Customer_int
 rw [loopI_any1 (n := l.length) (o := (Sum.inr false : Unit ⊕ Bool)) (e := Sum.inl ()) (q := descends (fun x : T_api_Customer => x.f_ID) l) hn]
 ·have h := any_rise (key := fun x : T_api_Customer => x.f_ID) (l := l)
  generalize hB : (List.range' 1 (l.length - 1)).any (descends (fun x : T_api_Customer => x.f_ID) l) = B at h ⊢
  cases B with
  | true => exact ⟨false, rfl, by simpa using h⟩
  | false => exact ⟨true, rfl, by simpa using h⟩
 ·intro i h0 h
  have e1 : IntKind.wrap .i64 ((i : Int) - 1) = ((i - 1 : Nat) : Int) := by rw [wrap64 (by omega) (by omega)]; omega
  simp only [decide_eq_true_eq, e1]
  rw [if_pos (by omega), rdO_at (by omega), rdO_at h, descends_at h0 h]
  simp only [chart_idOf, Option.bind_some, decide_eq_true_eq]
  split <;> rfl
 ·intro i h
  simp only [decide_eq_true_eq]
  rw [if_neg (by omega)]
theorem chart_rises_Record_Account_spec (l : List T_api_Record) (hn : l.length < 4611686018427387904) : ∃ b, chart_rises_Record_Account l = some b ∧ (b = true ↔ Rise (·.f_Acc) l) := by
 unfold chart_rises_Record_Account
 rw [loopI_any1 (n := l.length) (o := (Sum.inr false : Unit ⊕ Bool)) (e := Sum.inl ()) (q := descends (fun x : T_api_Record => x.f_Acc) l) hn]
 ·have h := any_rise (key := fun x : T_api_Record => x.f_Acc) (l := l)
  generalize hB : (List.range' 1 (l.length - 1)).any (descends (fun x : T_api_Record => x.f_Acc) l) = B at h ⊢
  cases B with
  | true => exact ⟨false, rfl, by simpa using h⟩
  | false => exact ⟨true, rfl, by simpa using h⟩
 ·intro i h0 h
  have e1 : IntKind.wrap .i64 ((i : Int) - 1) = ((i - 1 : Nat) : Int) := by rw [wrap64 (by omega) (by omega)]; omega
  simp only [decide_eq_true_eq, e1]
  rw [if_pos (by omega), rdO_at (by omega), rdO_at h, descends_at h0 h]
  simp only [chart_accOf, Option.bind_some, decide_eq_true_eq]
  split <;> rfl
 ·intro i h
  simp only [decide_eq_true_eq]
  rw [if_neg (by omega)]
theorem chart_place_Customer_int_1_eq (x : T_api_Customer) (n : Int) : chart_place_Customer_int_1 x n = some (if x.f_ID < n then -1 else if x.f_ID > n then 1 else 0) := by
 simp only [chart_place_Customer_int_1, chart_idOf, cmp_Compare_int, cmp_isNaN_int, Option.bind_some, bne_self_eq_false, Bool.false_eq_true, if_false, decide_eq_true_eq]
 split
 ·rfl
 ·split <;> rfl
theorem chart_place_Customer_int_spec (l : List T_api_Customer) (n : Int) (hn : l.length < 4611686018427387904) (hr : Rise (·.f_ID) l) :
  ∃ (k : Nat) (b : Bool), chart_place_Customer_int l n = some ((k : Int), b) ∧ k ≤ l.length ∧ (b = true → ∃ h : k < l.length, l[k].f_ID = n) ∧ (b = false → ∀ x ∈ l, x.f_ID ≠ n) ∧ (∀ i (hi : i < l.length), i < k → l[i].f_ID < n) ∧ (b = false → ∀ i (hi : i < l.length), k ≤ i → n < l[i].f_ID) := by
 have hbs : ∃ (k : Nat) (b : Bool), slices_BinarySearchFunc_Customer_Customer_int l n = some ((k : Int), b) ∧ k ≤ l.length ∧ (b = true → ∃ h : k < l.length, l[k].f_ID = n) ∧ (b = false → ∀ x ∈ l, x.f_ID ≠ n) ∧ (∀ i (hi : i < l.length), i < k → l[i].f_ID < n) ∧ (b = false → ∀ i (hi : i < l.length), k ≤ i → n < l[i].f_ID) := by
  unfold slices_BinarySearchFunc_Customer_Customer_int
  obtain ⟨k, hk, hl, h1, h2⟩ := bsearch (n := l.length) (lt := fun i => (l[i]?).any fun x => decide (x.f_ID < n)) (f := fun (qj3 : Int × Int) => match qj3 with
  | (i4, j5) => (
   if (decide (i4 < j5)) = true then
    (rdO l (IntKind.wrap .i64 (Int.fdiv (IntKind.wrap .u64 (IntKind.wrap .i64 (i4 + j5))) 2))).bind fun x7 =>
    (chart_place_Customer_int_1 x7 n).bind fun x8 =>
    if (decide (x8 < 0)) = true then
     some (.inl (IntKind.wrap .i64 ((IntKind.wrap .i64 (Int.fdiv (IntKind.wrap .u64 (IntKind.wrap .i64 (i4 + j5))) 2)) + 1), j5))
    else
     some (.inl (i4, IntKind.wrap .i64 (Int.fdiv (IntKind.wrap .u64 (IntKind.wrap .i64 (i4 + j5))) 2)))
   else
    some (.inr i4))) hn
   (by
    intro i j hij hj
    simp only [decide_eq_true_eq, half hij (show j < 4611686018427387904 by omega)]
    have hm : (i + j) / 2 < l.length := by omega
    rw [if_pos (by omega), rdO_at hm]
    simp only [Option.bind_some, chart_place_Customer_int_1_eq]
    rw [List.getElem?_eq_getElem hm]
    have e : IntKind.wrap .i64 ((((i + j) / 2 : Nat) : Int) + 1) = (((i + j) / 2 + 1 : Nat) : Int) := by rw [wrap64 (by omega) (by omega)]; rfl
    by_cases h : (l[(i + j) / 2]).f_ID < n
    ·simp [h]
     exact e
    ·simp [h]
     split <;> simp)
   (by
    intro i
    simp only [decide_eq_true_eq]
    rw [if_neg (by omega)])
  have hless : ∀ i (hi : i < l.length), i < k → l[i].f_ID < n := by
   intro i hi hik
   have h3 := h1 (by omega)
   rw [List.getElem?_eq_getElem (by omega)] at h3
   simp only [Option.any_some, decide_eq_true_eq] at h3
   by_cases he : i = k - 1
   ·subst he; exact h3
   ·have := hr.lt (j := k - 1) (i := i) (by omega) (by omega)
    try simp only at this
    omega
  rw [hl]
  simp only [Option.bind_some]
  by_cases hkl : k < l.length
  ·have h4 := h2 hkl
   rw [List.getElem?_eq_getElem hkl] at h4
   simp only [Option.any_some, decide_eq_false_iff_not] at h4
   have hdec : decide ((k : Int) < (l.length : Int)) = true := by simpa using hkl
   rw [hdec]
   simp only [gdO, rdO_at hkl, Option.bind_some, chart_place_Customer_int_1_eq, Bool.true_and]
   by_cases he : l[k].f_ID = n
   ·refine ⟨k, true, ?_, hk, fun _ => ⟨hkl, he⟩, (fun h => by cases h), hless, (fun h => by cases h)⟩
    simp [he]
   ·have hup : ∀ i (hi : i < l.length), k ≤ i → n < l[i].f_ID := fun i hi hik => by
     have : ¬ l[k].f_ID < n := h4
     have h5 : l[k].f_ID > n := by omega
     by_cases hik' : i = k
     ·subst hik'; omega
     ·have := hr.lt (j := i) (i := k) hi (by omega)
      try simp only at this
      omega
    refine ⟨k, false, ?_, hk, (fun h => by cases h), (fun _ x hx hxn => ?_), hless, fun _ => hup⟩
    ·have : ¬ l[k].f_ID < n := h4
     have h5 : l[k].f_ID > n := by omega
     simp [this, h5]
    ·obtain ⟨i, hi, rfl⟩ := List.getElem_of_mem hx
     by_cases hik : i < k
     ·have := hless i hi hik; omega
     ·by_cases hik' : i = k
      ·subst hik'; exact he hxn
      ·have := hr.lt (j := i) (i := k) hi (by omega)
       try simp only at this
       omega
  ·have hdec : decide ((k : Int) < (l.length : Int)) = false := by simpa using hkl
   rw [hdec]
   simp only [gdO, Option.bind_some, Bool.false_and]
   refine ⟨k, false, rfl, hk, (fun h => by cases h), (fun _ x hx hxn => ?_), hless, fun _ i hi hik => by omega⟩
   obtain ⟨i, hi, rfl⟩ := List.getElem_of_mem hx
   have := hless i hi (by omega)
   omega
 obtain ⟨k, b, h1, hk, h2, h3, h4, h5⟩ := hbs
 refine ⟨k, b, ?_, hk, h2, h3, h4, h5⟩
 unfold chart_place_Customer_int
 rw [h1]
 rfl
theorem chart_place_Record_Account_1_eq (x : T_api_Record) (n : Int) : chart_place_Record_Account_1 x n = some (if x.f_Acc < n then -1 else if x.f_Acc > n then 1 else 0) := by
 simp only [chart_place_Record_Account_1, chart_accOf, cmp_Compare_Account, cmp_isNaN_Account, Option.bind_some, bne_self_eq_false, Bool.false_eq_true, if_false, decide_eq_true_eq]
 split
 ·rfl
 ·split <;> rfl
theorem chart_place_Record_Account_spec (l : List T_api_Record) (n : Int) (hn : l.length < 4611686018427387904) (hr : Rise (·.f_Acc) l) :
  ∃ (k : Nat) (b : Bool), chart_place_Record_Account l n = some ((k : Int), b) ∧ k ≤ l.length ∧ (b = true → ∃ h : k < l.length, l[k].f_Acc = n) ∧ (b = false → ∀ x ∈ l, x.f_Acc ≠ n) ∧ (∀ i (hi : i < l.length), i < k → l[i].f_Acc < n) ∧ (b = false → ∀ i (hi : i < l.length), k ≤ i → n < l[i].f_Acc) := by
 have hbs : ∃ (k : Nat) (b : Bool), slices_BinarySearchFunc_Record_Record_Account l n = some ((k : Int), b) ∧ k ≤ l.length ∧ (b = true → ∃ h : k < l.length, l[k].f_Acc = n) ∧ (b = false → ∀ x ∈ l, x.f_Acc ≠ n) ∧ (∀ i (hi : i < l.length), i < k → l[i].f_Acc < n) ∧ (b = false → ∀ i (hi : i < l.length), k ≤ i → n < l[i].f_Acc) := by
  unfold slices_BinarySearchFunc_Record_Record_Account
  obtain ⟨k, hk, hl, h1, h2⟩ := bsearch (n := l.length) (lt := fun i => (l[i]?).any fun x => decide (x.f_Acc < n)) (f := fun (qj3 : Int × Int) => match qj3 with
  | (i4, j5) => (
   if (decide (i4 < j5)) = true then
    (rdO l (IntKind.wrap .i64 (Int.fdiv (IntKind.wrap .u64 (IntKind.wrap .i64 (i4 + j5))) 2))).bind fun x7 =>
    (chart_place_Record_Account_1 x7 n).bind fun x8 =>
    if (decide (x8 < 0)) = true then
     some (.inl (IntKind.wrap .i64 ((IntKind.wrap .i64 (Int.fdiv (IntKind.wrap .u64 (IntKind.wrap .i64 (i4 + j5))) 2)) + 1), j5))
    else
     some (.inl (i4, IntKind.wrap .i64 (Int.fdiv (IntKind.wrap .u64 (IntKind.wrap .i64 (i4 + j5))) 2)))
   else
    some (.inr i4))) hn
   (by
    intro i j hij hj
    simp only [decide_eq_true_eq, half hij (show j < 4611686018427387904 by omega)]
    have hm : (i + j) / 2 < l.length := by omega
    rw [if_pos (by omega), rdO_at hm]
    simp only [Option.bind_some, chart_place_Record_Account_1_eq]
    rw [List.getElem?_eq_getElem hm]
    have e : IntKind.wrap .i64 ((((i + j) / 2 : Nat) : Int) + 1) = (((i + j) / 2 + 1 : Nat) : Int) := by rw [wrap64 (by omega) (by omega)]; rfl
    by_cases h : (l[(i + j) / 2]).f_Acc < n
    ·simp [h]
     exact e
    ·simp [h]
     split <;> simp)
   (by
    intro i
    simp only [decide_eq_true_eq]
    rw [if_neg (by omega)])
  have hless : ∀ i (hi : i < l.length), i < k → l[i].f_Acc < n := by
   intro i hi hik
   have h3 := h1 (by omega)
   rw [List.getElem?_eq_getElem (by omega)] at h3
   simp only [Option.any_some, decide_eq_true_eq] at h3
   by_cases he : i = k - 1
   ·subst he; exact h3
   ·have := hr.lt (j := k - 1) (i := i) (by omega) (by omega)
    try simp only at this
    omega
  rw [hl]
  simp only [Option.bind_some]
  by_cases hkl : k < l.length
  ·have h4 := h2 hkl
   rw [List.getElem?_eq_getElem hkl] at h4
   simp only [Option.any_some, decide_eq_false_iff_not] at h4
   have hdec : decide ((k : Int) < (l.length : Int)) = true := by simpa using hkl
   rw [hdec]
   simp only [gdO, rdO_at hkl, Option.bind_some, chart_place_Record_Account_1_eq, Bool.true_and]
   by_cases he : l[k].f_Acc = n
   ·refine ⟨k, true, ?_, hk, fun _ => ⟨hkl, he⟩, (fun h => by cases h), hless, (fun h => by cases h)⟩
    simp [he]
   ·have hup : ∀ i (hi : i < l.length), k ≤ i → n < l[i].f_Acc := fun i hi hik => by
     have : ¬ l[k].f_Acc < n := h4
     have h5 : l[k].f_Acc > n := by omega
     by_cases hik' : i = k
     ·subst hik'; omega
     ·have := hr.lt (j := i) (i := k) hi (by omega)
      try simp only at this
      omega
    refine ⟨k, false, ?_, hk, (fun h => by cases h), (fun _ x hx hxn => ?_), hless, fun _ => hup⟩
    ·have : ¬ l[k].f_Acc < n := h4
     have h5 : l[k].f_Acc > n := by omega
     simp [this, h5]
    ·obtain ⟨i, hi, rfl⟩ := List.getElem_of_mem hx
     by_cases hik : i < k
     ·have := hless i hi hik; omega
     ·by_cases hik' : i = k
      ·subst hik'; exact he hxn
      ·have := hr.lt (j := i) (i := k) hi (by omega)
       try simp only at this
       omega
  ·have hdec : decide ((k : Int) < (l.length : Int)) = false := by simpa using hkl
   rw [hdec]
   simp only [gdO, Option.bind_some, Bool.false_and]
   refine ⟨k, false, rfl, hk, (fun h => by cases h), (fun _ x hx hxn => ?_), hless, fun _ i hi hik => by omega⟩
   obtain ⟨i, hi, rfl⟩ := List.getElem_of_mem hx
   have := hless i hi (by omega)
   omega
 obtain ⟨k, b, h1, hk, h2, h3, h4, h5⟩ := hbs
 refine ⟨k, b, ?_, hk, h2, h3, h4, h5⟩
 unfold chart_place_Record_Account
 rw [h1]
 rfl
theorem fst_neg {α : Type} (l : List α) (p : α → Bool) : decide ((match fstIdx l p with | some i => ((i : Nat) : Int) | none => -1) ≥ 0) = l.any p := by
 cases h : fstIdx l p with
 | some i =>
  obtain ⟨hi, hp, _⟩ := fstIdx_some h
  have : l.any p = true := List.any_eq_true.2 ⟨_, List.getElem_mem hi, hp⟩
  simp [this]
 | none =>
  have : l.any p = false := by simpa using fstIdx_none h
  simp [this]
theorem idxC_eq (l : List T_api_Customer) (hn : l.length < 4611686018427387904) : slices_ContainsFunc_Customer_Customer l = some (l.any fun x => !okC x) := by
 unfold slices_ContainsFunc_Customer_Customer slices_IndexFunc_Customer_Customer
 rw [loopL_idx (l := l) (fun x => !okC x) (o := fun i => (Sum.inr (i : Int) : Unit ⊕ Int)) (e := Sum.inl ()) hn]
 ·rw [← fst_neg]
  cases fstIdx l fun x => !okC x <;> rfl
 ·intro i h
  simp only [decide_eq_true_eq]
  rw [if_pos (by omega), rdO_at h]
  simp only [Option.bind_some, chart_Right_1, isCustomer_eq]
  split <;> rfl
 ·intro i h
  simp only [decide_eq_true_eq]
  rw [if_neg (by omega)]
def badR (c : T_api_Chart) (r : T_api_Record) : Bool := !okR r || (decide (0 < r.f_Customer) && !(c.f_Customers.any fun x => x.f_ID == r.f_Customer))
theorem place_any {l : List T_api_Customer} {n : Int} {k : Nat} {b : Bool} (h1 : b = true → ∃ h : k < l.length, l[k].f_ID = n) (h2 : b = false → ∀ x ∈ l, x.f_ID ≠ n) : (l.any fun x => x.f_ID == n) = b := by
 cases b with
 | true =>
  obtain ⟨h, he⟩ := h1 rfl
  exact List.any_eq_true.2 ⟨_, List.getElem_mem h, by simpa using he⟩
 | false => simpa using h2 rfl
theorem right2_eq (c : T_api_Chart) (r : T_api_Record) (hn : c.f_Customers.length < 4611686018427387904) (hr : Rise (·.f_ID) c.f_Customers) : chart_Right_2 r c = some (badR c r) := by
 obtain ⟨k, b, h1, _, h2, h3, _, _⟩ := chart_place_Customer_int_spec c.f_Customers r.f_Customer hn hr
 unfold chart_Right_2 badR
 rw [h1, place_any h2 h3]
 simp only [Option.bind_some, isRecord_eq, gt_iff_lt]
theorem idxR_eq (c : T_api_Chart) (hc : c.f_Customers.length < 4611686018427387904) (hn : c.f_Records.length < 4611686018427387904) (hr : Rise (·.f_ID) c.f_Customers) : slices_ContainsFunc_Record_Record c.f_Records c = some (c.f_Records.any (badR c)) := by
 unfold slices_ContainsFunc_Record_Record slices_IndexFunc_Record_Record
 rw [loopL_idx (l := c.f_Records) (badR c) (o := fun i => (Sum.inr (i : Int) : Unit ⊕ Int)) (e := Sum.inl ()) hn]
 ·rw [← fst_neg]
  cases fstIdx c.f_Records (badR c) <;> rfl
 ·intro i h
  simp only [decide_eq_true_eq]
  rw [if_pos (by omega), rdO_at h]
  simp only [Option.bind_some, right2_eq c _ hc hr]
  split <;> rfl
 ·intro i h
  simp only [decide_eq_true_eq]
  rw [if_neg (by omega)]
def RightP (c : T_api_Chart) : Prop := c.f_Customers.length ≤ 100 ∧ c.f_Records.length ≤ 200 ∧ Rise (·.f_ID) c.f_Customers ∧ Rise (·.f_Acc) c.f_Records ∧ (∀ x ∈ c.f_Customers, okC x = true) ∧ ∀ r ∈ c.f_Records, badR c r = false
theorem Right_spec (c : T_api_Chart) (hc : c.f_Customers.length < 4611686018427387904) (hn : c.f_Records.length < 4611686018427387904) : ∃ b, chart_Right c = some b ∧ (b = true ↔ RightP c) := by
 unfold chart_Right
 obtain ⟨b1, e1, h1⟩ := chart_rises_Customer_int_spec c.f_Customers hc
 obtain ⟨b2, e2, h2⟩ := chart_rises_Record_Account_spec c.f_Records hn
 simp only [e1, e2, gdO_and, Option.bind_some, idxC_eq _ hc]
 by_cases hA : c.f_Customers.length ≤ 100 ∧ c.f_Records.length ≤ 200 ∧ b1 = true ∧ b2 = true
 ·obtain ⟨a1, a2, rfl, rfl⟩ := hA
  have d1 : decide ((c.f_Customers.length : Int) > 100) = false := by simp; omega
  have d2 : decide ((c.f_Records.length : Int) > 200) = false := by simp; omega
  have hr1 := h1.1 rfl
  have hr2 := h2.1 rfl
  simp only [d1, d2, Bool.or_false, Bool.not_false, Bool.true_and, Bool.not_true, Bool.false_eq_true, if_false, idxR_eq c hc hn hr1, Option.bind_some]
  cases hB : c.f_Customers.any fun x => !okC x with
  | true =>
   refine ⟨false, rfl, by simp, fun h => ?_⟩
   obtain ⟨x, hx, hb⟩ := List.any_eq_true.1 hB
   have := h.2.2.2.2.1 x hx
   simp [this] at hb
  | false =>
   simp only [Bool.false_eq_true, if_false]
   refine ⟨_, rfl, ?_⟩
   have hC : ∀ x ∈ c.f_Customers, okC x = true := by simpa using hB
   unfold RightP
   simp only [a1, a2, hr1, hr2, true_and]
   simpa using fun _ => hC
 ·refine ⟨false, ?_, by simp, fun h => absurd ⟨h.1, h.2.1, h1.2 h.2.2.1, h2.2 h.2.2.2.1⟩ hA⟩
  rw [if_pos]
  by_cases a1 : c.f_Customers.length ≤ 100
  ·by_cases a2 : c.f_Records.length ≤ 200
   ·cases b1 <;> cases b2 <;> simp_all
   ·have : (c.f_Records.length : Int) > 200 := by omega
    simp [this]
  ·have : (c.f_Customers.length : Int) > 100 := by omega
   simp [this]
def Fits (c : T_api_Chart) : Prop := c.f_Customers.length < 1000 ∧ c.f_Records.length < 1000 ∧ ∀ x ∈ c.f_Customers, x.f_Name.length ≤ 9223372036854775807
theorem Right_at {c : T_api_Chart} (hf : Fits c) (h : RightP c) : chart_Right c = some true := by
 obtain ⟨b, e, hb⟩ := Right_spec c (by have := hf.1; omega) (by have := hf.2.1; omega)
 rw [e, hb.2 h]
theorem placeR_at {l : List T_api_Record} {a : Int} (hn : l.length < 1000) (hr : Rise (·.f_Acc) l) {i : Nat} (h : i < l.length) (he : l[i].f_Acc = a) : chart_place_Record_Account l a = some ((i : Int), true) := by
 obtain ⟨k, b, e, _, h1, h2, _, _⟩ := chart_place_Record_Account_spec l a (by omega) hr
 cases b with
 | false => exact absurd he (h2 rfl _ (List.getElem_mem h))
 | true =>
  obtain ⟨hk, he'⟩ := h1 rfl
  rw [e, hr.inj hk h (by omega)]
theorem placeR_none {l : List T_api_Record} {a : Int} (hn : l.length < 1000) (hr : Rise (·.f_Acc) l) (h : ∀ x ∈ l, x.f_Acc ≠ a) : ∃ k : Nat, k ≤ l.length ∧ chart_place_Record_Account l a = some ((k : Int), false) := by
 obtain ⟨k, b, e, hk, h1, h2, hlo, hup⟩ := chart_place_Record_Account_spec l a (by omega) hr
 cases b with
 | false => exact ⟨k, hk, e⟩
 | true =>
  obtain ⟨hk, he'⟩ := h1 rfl
  exact absurd he' (h _ (List.getElem_mem hk))
theorem Find_none {c : T_api_Chart} (hf : Fits c) (h : RightP c) {a : Int} (hn : ∀ x ∈ c.f_Records, x.f_Acc ≠ a) : chart_Find c a = some (⟨0, 0, 0, 0, 0, 0, 0, 0⟩, 8) := by
 unfold chart_Find
 obtain ⟨k, _, e⟩ := placeR_none hf.2.1 h.2.2.2.1 hn
 rw [Right_at hf h, e]
 rfl
theorem Find_at {c : T_api_Chart} (hf : Fits c) (h : RightP c) {a : Int} {i : Nat} (hi : i < c.f_Records.length) (he : c.f_Records[i].f_Acc = a) : chart_Find c a = some (c.f_Records[i], 0) := by
 unfold chart_Find
 rw [Right_at hf h, placeR_at hf.2.1 h.2.2.2.1 hi he]
 simp only [Option.bind_some, rdO_at hi]
 rfl
theorem slO_take {α : Type} {l : List α} {h : Int} (h0 : 0 ≤ h) (h1 : h ≤ l.length) : slO l 0 h = some (l.take h.toNat) := by
 unfold slO
 rw [if_pos ⟨by omega, h0, h1⟩]
 rfl
theorem slO_cap {α : Type} (l : List α) (m : Nat) : slO l 0 (if (m : Int) < (l.length : Int) then (m : Int) else (l.length : Int)) = some (l.take m) := by
 split
 ·rw [slO_take (by omega) (by omega)]; simp
 ·rw [slO_take (by omega) (by omega)]
  simp only [Int.toNat_natCast, Option.some.injEq]
  rw [List.take_of_length_le (Nat.le_refl _), List.take_of_length_le (by omega)]
theorem Is_at {c : T_api_Chart} (hf : Fits c) (h : RightP c) {a d : Int} {i : Nat} (hi : i < c.f_Records.length) (he : c.f_Records[i].f_Acc = a) : chart_Is c a d = some (if (decide (-50000 ≤ d) && decide (d ≤ 50000)) = true then (decide (d ≥ c.f_Records[i].f_From) && decide (d ≤ c.f_Records[i].f_To), 0) else (false, 11)) := by
 unfold chart_Is
 rw [Find_at hf h hi he]
 simp only [Option.bind_some, date_Right, chart_in_Date, ge_iff_le]
 cases (decide (-50000 ≤ d) && decide (d ≤ 50000)) <;> rfl
theorem any_idx {n : Nat} {q : Nat → Bool} : (List.range' 0 n).any q = false ↔ ∀ i, i < n → q i = false := by
 rw [List.any_eq_false]
 constructor
 ·intro h i hi; have := h i (by simpa using hi); simpa using this
 ·intro h i hi; have := h i (by simpa using hi); simpa using this
theorem descends_rise {α : Type} {key : α → Int} {l : List α} : (∀ i, i < l.length → (decide (0 < i) && descends key l i) = false) ↔ Rise key l := by
 constructor
 ·intro h i hi
  have := h (i + 1) hi
  rw [descends_at (by omega) hi] at this
  simp at this
  omega
 ·intro h i hi
  cases i with
  | zero => rfl
  | succ i =>
   rw [descends_at (by omega) hi]
   have := h i hi
   simp
   omega
theorem wN {x : Int} {n : Nat} (h : x = n) (hn : n < 4611686018427387904) : IntKind.wrap .i64 x = (n : Int) := by
 subst h
 exact wrap64 (by omega) (by omega)
theorem rd_mid {α : Type} {A B : List α} {x : α} {n : Nat} (h : n = A.length) : rdO (A ++ x :: B) (n : Int) = some x := by
 subst h
 rw [rdO_at (by simp)]
 simp
def okH (h : T_api_Hold) : Bool := decide (1 ≤ h.f_ID ∧ h.f_ID ≤ 1000000 ∧ 1 ≤ h.f_Acc ∧ h.f_Acc ≤ 999 ∧ 0 ≤ h.f_Rank ∧ h.f_Rank ≤ 9 ∧ 0 ≤ h.f_Amount.f_Cur ∧ h.f_Amount.f_Cur < 4 ∧ 0 < h.f_Amount.f_Minor ∧ h.f_Amount.f_Minor ≤ 1000000000000000 ∧
 0 ≤ h.f_Taken ∧ h.f_Taken ≤ h.f_Amount.f_Minor ∧ -50000 ≤ h.f_Made ∧ h.f_Made ≤ h.f_Until ∧ h.f_Until ≤ 50000)
def okM (m : T_api_Money) : Bool := decide (0 ≤ m.f_Cur ∧ m.f_Cur < 4 ∧ -1000000000000000 ≤ m.f_Minor ∧ m.f_Minor ≤ 1000000000000000)
theorem moneyRight_eq (m : T_api_Money) : money_Right m = some (okM m) := by
 simp only [money_Right, money_is, Option.bind_some, Option.some.injEq, okM]
 rw [Bool.eq_iff_iff]
 simp
 omega
theorem right_eq (h : T_api_Hold) : hold_right h = some (okH h) := by
 simp only [hold_right, moneyRight_eq, date_Right, gdO_and, Option.bind_some, Option.some.injEq, okH, okM]
 rw [Bool.eq_iff_iff]
 simp
 omega
def liveH (h : T_api_Hold) (now : Int) : Bool := okH h && !h.f_Done && decide (h.f_Made ≤ now ∧ now ≤ h.f_Until)
def restH (h : T_api_Hold) (now : Int) : Int := if liveH h now = true then h.f_Amount.f_Minor - h.f_Taken else 0
theorem live_eq (h : T_api_Hold) (now : Int) : hold_Live h now = some (liveH h now) := by
 simp only [hold_Live, right_eq, Option.bind_some, Option.some.injEq, liveH]
 rw [Bool.eq_iff_iff]
 simp [and_assoc]
theorem okH_spec {h : T_api_Hold} (hk : okH h = true) : 1 ≤ h.f_ID ∧ h.f_ID ≤ 1000000 ∧ 1 ≤ h.f_Acc ∧ h.f_Acc ≤ 999 ∧ 0 ≤ h.f_Rank ∧ h.f_Rank ≤ 9 ∧ 0 ≤ h.f_Amount.f_Cur ∧ h.f_Amount.f_Cur < 4 ∧ 0 < h.f_Amount.f_Minor ∧ h.f_Amount.f_Minor ≤ 1000000000000000 ∧
 0 ≤ h.f_Taken ∧ h.f_Taken ≤ h.f_Amount.f_Minor ∧ -50000 ≤ h.f_Made ∧ h.f_Made ≤ h.f_Until ∧ h.f_Until ≤ 50000 := of_decide_eq_true hk
theorem live_ok {h : T_api_Hold} {now : Int} (hl : liveH h now = true) : okH h = true := by
 unfold liveH at hl
 simp only [Bool.and_eq_true] at hl
 exact hl.1.1
theorem restH_range (h : T_api_Hold) (now : Int) : 0 ≤ restH h now ∧ restH h now ≤ 1000000000000000 := by
 unfold restH
 split
 ·rename_i hl
  have := okH_spec (live_ok hl)
  omega
 ·omega
theorem rest_eq (h : T_api_Hold) (now : Int) : hold_Rest h now = some (restH h now) := by
 simp only [hold_Rest, live_eq, Option.bind_some]
 unfold restH
 cases hl : liveH h now with
 | false => rfl
 | true =>
  have := okH_spec (live_ok hl)
  simp only [Bool.not_true, Bool.false_eq_true, if_false, if_true]
  rw [wrap64 (by omega) (by omega)]
def badI (l : List T_api_Hold) : Bool := (List.range' 1 (l.length - 1)).any (descends (fun x : T_api_Hold => x.f_ID) l)
def chkH (l : List T_api_Hold) : Int := if (l.any fun x => !okH x) = true then 1 else if badI l = true then 20 else if 200 < l.length then 6 else 0
structure GoodL (l : List T_api_Hold) : Prop where
 ok : ∀ x ∈ l, okH x = true
 rise : Rise (fun x : T_api_Hold => x.f_ID) l
 few : l.length ≤ 200
theorem chkH_good {l : List T_api_Hold} : chkH l = 0 ↔ GoodL l := by
 have h := any_rise (key := fun x : T_api_Hold => x.f_ID) (l := l)
 unfold chkH badI
 constructor
 ·intro hc
  split at hc
  ·cases hc
  ·rename_i h1
   split at hc
   ·cases hc
   ·rename_i h2
    split at hc
    ·cases hc
    ·rename_i h3
     refine ⟨by simpa using h1, Classical.byContradiction fun hr => h2 (h.2 hr), by omega⟩
 ·intro hg
  rw [if_neg (by simpa using hg.ok), if_neg (fun hb => h.1 hb hg.rise), if_neg (by have := hg.few; omega)]
theorem hcont_eq (l : List T_api_Hold) (hn : l.length < 4611686018427387904) : slices_ContainsFunc_Hold_Hold l = some (l.any fun x => !okH x) := by
 unfold slices_ContainsFunc_Hold_Hold slices_IndexFunc_Hold_Hold
 rw [loopL_idx (l := l) (fun x => !okH x) (o := fun i => (Sum.inr (i : Int) : Unit ⊕ Int)) (e := Sum.inl ()) hn]
 ·rw [← fst_neg]
  cases fstIdx l fun x => !okH x <;> rfl
 ·intro i h
  simp only [decide_eq_true_eq]
  rw [if_pos (by omega), rdO_at h]
  simp only [Option.bind_some, hold_Check_1, right_eq]
  split <;> rfl
 ·intro i h
  simp only [decide_eq_true_eq]
  rw [if_neg (by omega)]
theorem check_eq (l : List T_api_Hold) (hn : l.length < 4611686018427387904) : hold_Check l = some (chkH l) := by
 unfold hold_Check
 rw [hcont_eq l hn]
 simp only [Option.bind_some]
 unfold chkH
 split
 ·rfl
 ·rw [loopI_any1 (n := l.length) (o := (Sum.inr 20 : Unit ⊕ Int)) (e := Sum.inl ()) (q := descends (fun x : T_api_Hold => x.f_ID) l) hn]
  ·unfold badI
   cases (List.range' 1 (l.length - 1)).any (descends (fun x : T_api_Hold => x.f_ID) l) with
   | true => rfl
   | false =>
    simp only [Bool.false_eq_true, if_false, Option.bind_some, decide_eq_true_eq]
    by_cases h : 200 < l.length
    ·rw [if_pos h, if_pos (by omega)]
    ·rw [if_neg h, if_neg (by omega)]
  ·intro i h0 h
   have e1 : IntKind.wrap .i64 ((i : Int) - 1) = ((i - 1 : Nat) : Int) := by rw [wrap64 (by omega) (by omega)]; omega
   simp only [decide_eq_true_eq, e1]
   rw [if_pos (by omega), rdO_at (by omega), rdO_at h, descends_at h0 h]
   simp only [Option.bind_some, decide_eq_true_eq]
   split <;> rfl
  ·intro i h
   simp only [decide_eq_true_eq]
   rw [if_neg (by omega)]
theorem loopG {S O : Type} {f : S → Option (S ⊕ O)} {n : Nat} (g : Nat → S) {o : O} (hin : ∀ k, k < n → f (g k) = some (.inl (g (k + 1)))) (hout : f (g n) = some (.inr o)) : loopO f (g 0) = some o := by
 have key : ∀ k, k ≤ n → loopO f (g 0) = loopO f (g k) := by
  intro k
  induction k with
  | zero => intro _; rfl
  | succ k ih => intro hk; rw [ih (by omega), loopO_on (hin k (by omega))]
 rw [key n (Nat.le_refl _), loopO_out hout]
theorem wrapS {k : Nat} (h : k < 4611686018427387904) : IntKind.wrap .i64 ((k : Int) + 1) = ((k + 1 : Nat) : Int) := by rw [wrap64 (by omega) (by omega)]; rfl
theorem apO_eq {α : Type} {n : Nat} {xs ys : List α} (h : (xs.length + ys.length) * n ≤ 140737488355328) : apO n xs ys = some (xs ++ ys) := by
 unfold apO
 rw [if_pos h]
def selB (acc cur now : Int) (h : T_api_Hold) : Bool := h.f_Acc == acc && (h.f_Amount.f_Cur == cur && liveH h now)
def wH (acc cur now rank : Int) (h : T_api_Hold) : Int := if h.f_Acc = acc ∧ h.f_Amount.f_Cur = cur ∧ rank ≤ h.f_Rank then restH h now else 0
def sumL (l : List T_api_Hold) (acc cur now rank : Int) : Int := (l.map (wH acc cur now rank)).sum
theorem sel_eq (acc cur now : Int) (h : T_api_Hold) : selO acc cur now h = some (selB acc cur now h) := by
 unfold selO selB
 rw [live_eq]
 cases h.f_Acc == acc with
 | false => rfl
 | true =>
  cases h.f_Amount.f_Cur == cur with
  | false => rfl
  | true => rfl
theorem it_eq (acc cur now : Int) : ∀ l : List T_api_Hold, itO acc cur now l = some (l.filter (selB acc cur now))
 | [] => rfl
 | h :: t => by
  simp only [itO, sel_eq, it_eq acc cur now t, Option.bind_some, Option.map_some, List.filter_cons, Option.some.injEq]
  cases selB acc cur now h <;> rfl
theorem those_eq {l : List T_api_Hold} (hn : l.length ≤ 1000) (acc cur now : Int) : hold_those l acc cur now = some (l.filter (selB acc cur now)) := by
 unfold hold_those
 rw [if_pos (by omega), it_eq]
theorem wH_range (acc cur now rank : Int) (h : T_api_Hold) : 0 ≤ wH acc cur now rank h ∧ wH acc cur now rank h ≤ 1000000000000000 := by
 unfold wH
 split
 ·exact restH_range h now
 ·omega
theorem sumL_range (acc cur now rank : Int) : ∀ l : List T_api_Hold, 0 ≤ sumL l acc cur now rank ∧ sumL l acc cur now rank ≤ l.length * 1000000000000000
 | [] => by simp [sumL]
 | h :: t => by
  have h1 := wH_range acc cur now rank h
  have h2 := sumL_range acc cur now rank t
  unfold sumL at h2 ⊢
  simp only [List.map_cons, List.sum_cons, List.length_cons]
  omega
theorem sum_fold (acc cur now rank : Int) : ∀ (l : List T_api_Hold) (n : Int), 0 ≤ n → n + l.length * 1000000000000000 ≤ 4000000000000000000 → foldO (sumStep now rank) n (l.filter (selB acc cur now)) = some (n + sumL l acc cur now rank)
 | [], n, _, _ => by simp [foldO, sumL]
 | h :: t, n, h0, h1 => by
  simp only [List.length_cons] at h1
  have hr := restH_range h now
  have e : sumL (h :: t) acc cur now rank = wH acc cur now rank h + sumL t acc cur now rank := by simp [sumL]
  rw [e, List.filter_cons]
  cases hs : selB acc cur now h with
  | false =>
   have hw : wH acc cur now rank h = 0 := by
    unfold selB at hs
    unfold wH restH
    split
    ·rename_i hc
     simp only [hc.1, hc.2.1, beq_self_eq_true, Bool.true_and] at hs
     rw [hs]; simp
    ·rfl
   rw [if_neg (by simp), sum_fold acc cur now rank t n h0 (by omega), hw]
   simp
  | true =>
   unfold selB at hs
   simp only [Bool.and_eq_true, beq_iff_eq] at hs
   rw [if_pos rfl]
   simp only [foldO, sumStep, rest_eq, Option.bind_some, ge_iff_le]
   by_cases hk : rank ≤ h.f_Rank
   ·have hw : wH acc cur now rank h = restH h now := by unfold wH; rw [if_pos ⟨hs.1, hs.2.1, hk⟩]
    simp only [hk, decide_true, if_true, Option.bind_some]
    rw [wrap64 (by omega) (by omega), sum_fold acc cur now rank t _ (by omega) (by omega), hw, Int.add_assoc]
   ·have hw : wH acc cur now rank h = 0 := by unfold wH; rw [if_neg (fun hc => hk hc.2.2)]
    simp only [hk, decide_false, Bool.false_eq_true, if_false, Option.bind_some]
    rw [sum_fold acc cur now rank t n h0 (by omega), hw]
    simp
theorem sum_eq {l : List T_api_Hold} (hg : GoodL l) (acc cur now rank : Int) : hold_Sum l acc cur now rank = some (sumL l acc cur now rank, 0) := by
 have hf := hg.few
 unfold hold_Sum
 rw [check_eq l (by omega), chkH_good.2 hg]
 simp only [Option.bind_some, bne_self_eq_false, Bool.false_eq_true, if_false, those_eq (show l.length ≤ 1000 by omega), sum_fold acc cur now rank l 0 (by omega) (by omega), Int.zero_add]
end Go.Av.G
end
section
set_option linter.unusedVariables false
set_option linter.unusedSimpArgs false
set_option maxRecDepth 4000
set_option maxHeartbeats 4000000
namespace Go.Av.G
open Go Go.Av Go.Proofs
theorem bind_at {α β : Type} {a : Option α} {x : α} {f : α → Option β} {o : Option β} (h : a = some x) (h2 : f x = o) : a.bind f = o := by subst h; exact h2
def absI (n : Int) : Int := if n < 0 then -n else n
def selL (acc cur : Int) (x : T_api_Leg) : Bool := x.f_Acc == acc && x.f_Amount.f_Cur == cur
def flatP (acc cur : Int) (p : T_api_Posting) (l : List T_api_Leg) : List T_balance_leg := (l.filter (selL acc cur)).map fun x => ⟨p.f_Known, p.f_Value, x.f_Amount.f_Minor⟩
def flatL (acc cur : Int) : List T_api_Posting → List T_balance_leg
 | [] => []
 | p :: t => flatP acc cur p p.f_Legs ++ flatL acc cur t
def greatF : Int → List T_balance_leg → Option Int
 | g, [] => some g
 | g, x :: t => if 1000000000000000000 - g < absI x.f_minor then none else greatF (g + absI x.f_minor) t
def sumV (e : Int) : List T_balance_leg → Int
 | [] => 0
 | x :: t => (if x.f_value ≤ e then x.f_minor else 0) + sumV e t
theorem absI_pos (n : Int) : 0 ≤ absI n ∧ n ≤ absI n ∧ -absI n ≤ n := by unfold absI; split <;> omega
theorem greatF_append : ∀ (a b : List T_balance_leg) (g : Int), greatF g (a ++ b) = (greatF g a).bind fun g' => greatF g' b
 | [], b, g => rfl
 | x :: a, b, g => by
  show (if 1000000000000000000 - g < absI x.f_minor then none else greatF (g + absI x.f_minor) (a ++ b)) = ((if 1000000000000000000 - g < absI x.f_minor then none else greatF (g + absI x.f_minor) a).bind fun g' => greatF g' b)
  split
  ·rfl
  ·exact greatF_append a b _
theorem greatF_range : ∀ (a : List T_balance_leg) {g G : Int}, greatF g a = some G → 0 ≤ g → g ≤ 1000000000000000000 → g ≤ G ∧ G ≤ 1000000000000000000
 | [], g, G, h, h0, h1 => by cases h; omega
 | x :: a, g, G, h, h0, h1 => by
  have ha := absI_pos x.f_minor
  have h : (if 1000000000000000000 - g < absI x.f_minor then none else greatF (g + absI x.f_minor) a) = some G := h
  split at h
  ·cases h
  ·have := greatF_range a h (by omega) (by omega)
   omega
theorem sumV_range (e : Int) : ∀ (a : List T_balance_leg) {g G : Int}, greatF g a = some G → -(G - g) ≤ sumV e a ∧ sumV e a ≤ G - g
 | [], g, G, h => by cases h; simp [sumV]
 | x :: a, g, G, h => by
  have ha := absI_pos x.f_minor
  have h : (if 1000000000000000000 - g < absI x.f_minor then none else greatF (g + absI x.f_minor) a) = some G := h
  split at h
  ·cases h
  ·have := sumV_range e a h
   show -(G - g) ≤ (if x.f_value ≤ e then x.f_minor else 0) + sumV e a ∧ (if x.f_value ≤ e then x.f_minor else 0) + sumV e a ≤ G - g
   split <;> omega
def legI (x : T_api_Leg) : Prop := -9223372036854775808 ≤ x.f_Amount.f_Minor ∧ x.f_Amount.f_Minor < 9223372036854775808
theorem great_add_eq {n g : Int} (h1 : -9223372036854775808 ≤ n) (h2 : n < 9223372036854775808) (h3 : 0 ≤ g) (h4 : g ≤ 1000000000000000000) : balance_great_add n ⟨g⟩ = some (if 1000000000000000000 - g < absI n then (true, g) else (false, g + absI n)) := by
 have e1 : IntKind.wrap .i64 (1000000000000000000 - g) = 1000000000000000000 - g := wrap64 (by omega) (by omega)
 unfold balance_great_add absI
 simp only [decide_eq_true_eq, e1]
 by_cases hn : n < 0
 ·simp only [if_pos hn, Option.bind_some]
  by_cases hm : n = -9223372036854775808
  ·subst hm
   have e2 : IntKind.wrap .i64 (0 - (-9223372036854775808)) = -9223372036854775808 := by rfl
   simp only [e2]
   rw [if_pos (by simp), if_pos (by omega)]
  ·have e2 : IntKind.wrap .i64 (0 - n) = -n := by rw [wrap64 (by omega) (by omega)]; omega
   simp only [e2]
   by_cases hg : 1000000000000000000 - g < -n
   ·rw [if_pos (by simp; omega), if_pos hg]
   ·have e3 : IntKind.wrap .i64 (g + -n) = g + -n := wrap64 (by omega) (by omega)
    rw [if_neg (by simp; omega), if_neg hg, e3]
 ·simp only [if_neg hn, Option.bind_some]
  by_cases hg : 1000000000000000000 - g < n
  ·rw [if_pos (by simp; omega), if_pos hg]
  ·have e3 : IntKind.wrap .i64 (g + n) = g + n := wrap64 (by omega) (by omega)
   rw [if_neg (by simp; omega), if_neg hg, e3]
theorem legs_in {p : T_api_Posting} {acc cur : Int} (hp : ∀ x ∈ p.f_Legs, legI x) (hl : p.f_Legs.length ≤ 1000) : ∀ (t pre : List T_api_Leg) (g : Int) (row : List T_balance_leg), p.f_Legs = pre ++ t → 0 ≤ g → g ≤ 1000000000000000000 → row.length + t.length ≤ 1000000 →
  loopO (fun (qj9 : Int × Int × (List T_balance_leg)) => match qj9 with
     | (x10, g11, row12) => (
      if (decide (x10 < (p.f_Legs.length : Int))) = true then
       (((rdO p.f_Legs x10).bind fun x14 =>
       (some (x14.f_Acc != acc)).bind fun c15 =>
       if (c15 || (x14.f_Amount.f_Cur != cur)) = true then
        some (.inl (g11, row12))
       else
        (balance_great_add x14.f_Amount.f_Minor (⟨g11⟩ : T_balance_great)).bind fun x16 =>
        if x16.1 = true then
         some (.inr (.inr (.inr (.inr (.inr (([] : List T_balance_leg), 9))))))
        else
         (apO 16 row12 [(⟨p.f_Known, p.f_Value, x14.f_Amount.f_Minor⟩ : T_balance_leg)]).bind fun x17 =>
         some (.inl (x16.2, x17))) : Option ((Int × (List T_balance_leg)) ⊕ ((Int × Int × (List T_balance_leg)) ⊕ ((Int × (List T_balance_leg)) ⊕ ((Int × Int × (List T_balance_leg)) ⊕ ((List T_balance_leg) ⊕ ((List T_balance_leg) × Int))))))).bind fun j13 => match j13 with
       | .inr o => some o
       | .inl (g18, row19) =>
       some (.inl (IntKind.wrap .i64 (x10 + 1), g18, row19))
      else
       some (.inr (.inl (g11, row12))) : Option ((Int × Int × (List T_balance_leg)) ⊕ ((Int × (List T_balance_leg)) ⊕ ((Int × Int × (List T_balance_leg)) ⊕ ((List T_balance_leg) ⊕ ((List T_balance_leg) × Int))))))) ((pre.length : Int), g, row)
   = some (match greatF g (flatP acc cur p t) with | none => .inr (.inr (.inr ([], 9))) | some g' => .inl (g', row ++ flatP acc cur p t)) := by
 intro t
 induction t with
 | nil =>
  intro pre g row he _ _ _
  rw [loopO_out (o := .inl (g, row))]
  ·simp [flatP, greatF]
  ·have : decide ((pre.length : Int) < (p.f_Legs.length : Int)) = false := by rw [he]; simp
   simp only [this, Bool.false_eq_true, if_false]
 | cons x t ih =>
  intro pre g row he h0 h1 hrow
  have hlen : p.f_Legs.length = pre.length + (t.length + 1) := by rw [he]; simp
  simp only [List.length_cons] at hrow
  have hd : decide ((pre.length : Int) < (p.f_Legs.length : Int)) = true := by simp; omega
  have hx : rdO p.f_Legs (pre.length : Int) = some x := by rw [he]; exact rd_mid rfl
  have e1 : IntKind.wrap .i64 ((pre.length : Int) + 1) = (((pre ++ [x]).length : Nat) : Int) := wN (by simp) (by simp; omega)
  have hi : legI x := hp x (by rw [he]; simp)
  have ha := absI_pos x.f_Amount.f_Minor
  by_cases hs : selL acc cur x = true
  ·have hf : flatP acc cur p (x :: t) = ⟨p.f_Known, p.f_Value, x.f_Amount.f_Minor⟩ :: flatP acc cur p t := by simp [flatP, List.filter_cons, hs]
   have hs' : ((x.f_Acc != acc) || (x.f_Amount.f_Cur != cur)) = false := by
    simp only [selL, Bool.and_eq_true, beq_iff_eq] at hs
    simp [hs.1, hs.2]
   rw [hf]
   have hgf : greatF g ((⟨p.f_Known, p.f_Value, x.f_Amount.f_Minor⟩ : T_balance_leg) :: flatP acc cur p t) = if 1000000000000000000 - g < absI x.f_Amount.f_Minor then none else greatF (g + absI x.f_Amount.f_Minor) (flatP acc cur p t) := rfl
   rw [hgf]
   by_cases hg : 1000000000000000000 - g < absI x.f_Amount.f_Minor
   ·rw [if_pos hg, loopO_out (o := .inr (.inr (.inr ([], 9))))]
    simp only [hd, if_true, hx, Option.bind_some, hs', Bool.false_eq_true, if_false, great_add_eq hi.1 hi.2 h0 h1, if_pos hg]
   ·rw [if_neg hg]
    have ea : apO 16 row [(⟨p.f_Known, p.f_Value, x.f_Amount.f_Minor⟩ : T_balance_leg)] = some (row ++ [⟨p.f_Known, p.f_Value, x.f_Amount.f_Minor⟩]) := apO_eq (by simp; omega)
    have := ih (pre ++ [x]) (g + absI x.f_Amount.f_Minor) (row ++ [⟨p.f_Known, p.f_Value, x.f_Amount.f_Minor⟩]) (by simp [he]) (by omega) (by omega) (by simp; omega)
    rw [loopO_on (s' := ((((pre ++ [x]).length : Nat) : Int), g + absI x.f_Amount.f_Minor, row ++ [⟨p.f_Known, p.f_Value, x.f_Amount.f_Minor⟩])), this]
    ·simp
    ·simp only [hd, if_true, hx, Option.bind_some, hs', Bool.false_eq_true, if_false, great_add_eq hi.1 hi.2 h0 h1, if_neg hg, ea, e1]
  ·have hf : flatP acc cur p (x :: t) = flatP acc cur p t := by simp [flatP, List.filter_cons, hs]
   have hs' : ((x.f_Acc != acc) || (x.f_Amount.f_Cur != cur)) = true := by
    simp only [selL, Bool.and_eq_true, beq_iff_eq] at hs
    by_cases h : x.f_Acc = acc
    ·simp [h] at hs ⊢
     exact hs
    ·simp [h]
   rw [hf]
   have := ih (pre ++ [x]) g row (by simp [he]) h0 h1 (by omega)
   rw [loopO_on (s' := ((((pre ++ [x]).length : Nat) : Int), g, row)), this]
   simp only [hd, if_true, hx, Option.bind_some, hs', e1]
theorem flatP_len (acc cur : Int) (p : T_api_Posting) (l : List T_api_Leg) : (flatP acc cur p l).length ≤ l.length := by
 unfold flatP
 rw [List.length_map]
 exact List.length_filter_le _ _
structure FitL (l : List T_api_Posting) : Prop where
 few : l.length ≤ 40
 legs : ∀ p ∈ l, p.f_Legs.length ≤ 6
 fits : ∀ p ∈ l, ∀ x ∈ p.f_Legs, legI x
theorem legs_out {l : List T_api_Posting} {acc cur : Int} (hl : FitL l) : ∀ (t pre : List T_api_Posting) (g : Int) (row : List T_balance_leg), l = pre ++ t → 0 ≤ g → g ≤ 1000000000000000000 → row.length + t.length * 6 ≤ 1000000 →
  loopO (fun (qj4 : Int × Int × (List T_balance_leg)) => match qj4 with
  | (x5, g6, row7) => (
   if (decide (x5 < (l.length : Int))) = true then
    (rdO l x5).bind fun x8 =>
    ((loopO (fun (qj9 : Int × Int × (List T_balance_leg)) => match qj9 with
      | (x10, g11, row12) => (
       if (decide (x10 < (x8.f_Legs.length : Int))) = true then
        (((rdO x8.f_Legs x10).bind fun x14 =>
        (some (x14.f_Acc != acc)).bind fun c15 =>
        if (c15 || (x14.f_Amount.f_Cur != cur)) = true then
         some (.inl (g11, row12))
        else
         (balance_great_add x14.f_Amount.f_Minor (⟨g11⟩ : T_balance_great)).bind fun x16 =>
         if x16.1 = true then
          some (.inr (.inr (.inr (.inr (.inr (([] : List T_balance_leg), 9))))))
         else
          (apO 16 row12 [(⟨x8.f_Known, x8.f_Value, x14.f_Amount.f_Minor⟩ : T_balance_leg)]).bind fun x17 =>
          some (.inl (x16.2, x17))) : Option ((Int × (List T_balance_leg)) ⊕ ((Int × Int × (List T_balance_leg)) ⊕ ((Int × (List T_balance_leg)) ⊕ ((Int × Int × (List T_balance_leg)) ⊕ ((List T_balance_leg) ⊕ ((List T_balance_leg) × Int))))))).bind fun j13 => match j13 with
        | .inr o => some o
        | .inl (g18, row19) =>
        some (.inl (IntKind.wrap .i64 (x10 + 1), g18, row19))
       else
        some (.inr (.inl (g11, row12))) : Option ((Int × Int × (List T_balance_leg)) ⊕ ((Int × (List T_balance_leg)) ⊕ ((Int × Int × (List T_balance_leg)) ⊕ ((List T_balance_leg) ⊕ ((List T_balance_leg) × Int))))))) (0, g6, row7)) : Option ((Int × (List T_balance_leg)) ⊕ ((Int × Int × (List T_balance_leg)) ⊕ ((List T_balance_leg) ⊕ ((List T_balance_leg) × Int))))).bind fun j9 => match j9 with
    | .inr o => some o
    | .inl (g20, row21) =>
    some (.inl (IntKind.wrap .i64 (x5 + 1), g20, row21))
   else
    some (.inr (.inl row7)) : Option ((Int × Int × (List T_balance_leg)) ⊕ ((List T_balance_leg) ⊕ ((List T_balance_leg) × Int))))) ((pre.length : Int), g, row)
   = some (match greatF g (flatL acc cur t) with | none => .inr ([], 9) | some g' => .inl (row ++ flatL acc cur t)) := by
 intro t
 induction t with
 | nil =>
  intro pre g row he _ _ _
  rw [loopO_out (o := .inl row)]
  ·simp [flatL, greatF]
  ·have : decide ((pre.length : Int) < (l.length : Int)) = false := by rw [he]; simp
   simp only [this, Bool.false_eq_true, if_false]
 | cons p t ih =>
  intro pre g row he h0 h1 hrow
  have hlen : l.length = pre.length + (t.length + 1) := by rw [he]; simp
  have hf := hl.few
  have hmem : p ∈ l := by rw [he]; simp
  have h6 := hl.legs p hmem
  simp only [List.length_cons] at hrow
  have hd : decide ((pre.length : Int) < (l.length : Int)) = true := by simp; omega
  have hx : rdO l (pre.length : Int) = some p := by rw [he]; exact rd_mid rfl
  have e1 : IntKind.wrap .i64 ((pre.length : Int) + 1) = (((pre ++ [p]).length : Nat) : Int) := wN (by simp) (by simp; omega)
  have hin := legs_in (p := p) (acc := acc) (cur := cur) (hl.fits p hmem) (by omega) p.f_Legs [] g row rfl h0 h1 (by omega)
  have e0 : (((([] : List T_api_Leg).length : Nat)) : Int) = 0 := rfl
  rw [e0] at hin
  have hfl : flatL acc cur (p :: t) = flatP acc cur p p.f_Legs ++ flatL acc cur t := rfl
  rw [hfl, greatF_append]
  cases hg : greatF g (flatP acc cur p p.f_Legs) with
  | none =>
   rw [hg] at hin
   rw [loopO_out (o := .inr ([], 9))]
   ·rfl
   ·simp only [hd, if_true, hx, Option.bind_some]
    exact bind_at hin rfl
  | some g' =>
   rw [hg] at hin
   have hr := greatF_range _ hg h0 h1
   have := ih (pre ++ [p]) g' (row ++ flatP acc cur p p.f_Legs) (by simp [he]) (by omega) (by omega) (by have := flatP_len acc cur p p.f_Legs; simp; omega)
   rw [loopO_on (s' := ((((pre ++ [p]).length : Nat) : Int), g', row ++ flatP acc cur p p.f_Legs)), this]
   ·simp
   ·simp only [hd, if_true, hx, Option.bind_some, e1]
    exact bind_at hin rfl
theorem legs_eq {l : List T_api_Posting} (hl : FitL l) (acc cur : Int) : balance_legs l acc cur = some (match greatF 0 (flatL acc cur l) with | none => ([], 9) | some _ => (flatL acc cur l, 0)) := by
 unfold balance_legs
 have := legs_out (acc := acc) (cur := cur) hl l [] 0 [] rfl (by omega) (by omega) (by have := hl.few; simp; omega)
 have e0 : (((([] : List T_api_Posting).length : Nat)) : Int) = 0 := rfl
 rw [e0] at this
 refine bind_at this ?_
 cases greatF 0 (flatL acc cur l) <;> rfl
theorem sum_loop {l : List T_balance_leg} {e : Int} (hl : l.length < 1000000) : ∀ (t pre : List T_balance_leg) (n g G : Int), l = pre ++ t → greatF g t = some G → 0 ≤ g → g ≤ 1000000000000000000 → -g ≤ n → n ≤ g →
  loopO (fun (qj3 : Int × Int) => match qj3 with
  | (n4, x5) => (
   if (decide (x5 < (l.length : Int))) = true then
    (rdO l x5).bind fun x6 =>
    (balance_Of_1 x6 e).bind fun x7 =>
    ((if x7 = true then
      some (IntKind.wrap .i64 (n4 + x6.f_minor))
    else
     some n4) : Option Int).bind fun j8 =>
    some (.inl (j8, IntKind.wrap .i64 (x5 + 1)))
   else
    some (.inr n4) : Option ((Int × Int) ⊕ Int))) (n, (pre.length : Int)) = some (n + sumV e t) := by
 intro t
 induction t with
 | nil =>
  intro pre n g G he _ _ _ _ _
  rw [loopO_out (o := n)]
  ·simp [sumV]
  ·have : decide ((pre.length : Int) < (l.length : Int)) = false := by rw [he]; simp
   simp only [this, Bool.false_eq_true, if_false]
 | cons x t ih =>
  intro pre n g G he hg h0 h1 h2 h3
  have hlen : l.length = pre.length + (t.length + 1) := by rw [he]; simp
  have hd : decide ((pre.length : Int) < (l.length : Int)) = true := by simp; omega
  have hx : rdO l (pre.length : Int) = some x := by rw [he]; exact rd_mid rfl
  have e1 : IntKind.wrap .i64 ((pre.length : Int) + 1) = (((pre ++ [x]).length : Nat) : Int) := wN (by simp) (by simp; omega)
  have ha := absI_pos x.f_minor
  have hg' : (if 1000000000000000000 - g < absI x.f_minor then none else greatF (g + absI x.f_minor) t) = some G := hg
  split at hg'
  ·cases hg'
  ·have hsv : sumV e (x :: t) = (if x.f_value ≤ e then x.f_minor else 0) + sumV e t := rfl
   rw [hsv]
   by_cases hv : x.f_value ≤ e
   ·have ew : IntKind.wrap .i64 (n + x.f_minor) = n + x.f_minor := wrap64 (by omega) (by omega)
    have := ih (pre ++ [x]) (n + x.f_minor) _ _ (by simp [he]) hg' (by omega) (by omega) (by omega) (by omega)
    rw [loopO_on (s' := (n + x.f_minor, (((pre ++ [x]).length : Nat) : Int))), this, if_pos hv, Int.add_assoc]
    simp only [hd, if_true, hx, Option.bind_some, balance_Of_1, decide_eq_true hv, ew, e1]
   ·have := ih (pre ++ [x]) n _ _ (by simp [he]) hg' (by omega) (by omega) (by omega) (by omega)
    rw [loopO_on (s' := (n, (((pre ++ [x]).length : Nat) : Int))), this, if_neg hv, Int.zero_add]
    simp only [hd, if_true, hx, Option.bind_some, balance_Of_1, decide_eq_false hv, Bool.false_eq_true, if_false, e1]
theorem flatL_len (acc cur : Int) : ∀ {l : List T_api_Posting}, (∀ p ∈ l, p.f_Legs.length ≤ 6) → (flatL acc cur l).length ≤ l.length * 6
 | [], _ => by simp [flatL]
 | p :: t, h => by
  have h1 := flatP_len acc cur p p.f_Legs
  have h2 := flatL_len acc cur (l := t) (fun q hq => h q (by simp [hq]))
  have h3 := h p (by simp)
  simp only [flatL, List.length_append, List.length_cons]
  omega
theorem bsum_eq {l : List T_balance_leg} {G : Int} (hl : l.length < 1000000) (hg : greatF 0 l = some G) (e : Int) : balance_sum l e = some (sumV e l) := by
 unfold balance_sum
 have := sum_loop (e := e) hl l [] 0 0 G rfl hg (by omega) (by omega) (by omega) (by omega)
 have e0 : (((([] : List T_balance_leg).length : Nat)) : Int) = 0 := rfl
 rw [e0] at this
 rw [this, Int.zero_add]
 rfl
theorem bsum_nil (e : Int) : balance_sum [] e = some 0 := bsum_eq (G := 0) (by simp) rfl e
theorem bmay_eq {l : List T_api_Posting} (hl : l.length ≤ 2000) {d : Int} (hd : -50000 ≤ d) (hd' : d ≤ 50000) : balance_may l d d [] = some 0 := by
 have h1 : balance_may_1 d = some false := by simp [balance_may_1, date_Right, hd, hd']
 have h2 : slices_ContainsFunc_Date_Date [] = some false := by
  unfold slices_ContainsFunc_Date_Date slices_IndexFunc_Date_Date
  rw [loopO_out (o := Sum.inl ())]
  ·rfl
  ·rfl
 have h3 : decide ((l.length : Int) > 2000) = false := decide_eq_false (by omega)
 have h4 : decide (d > d) = false := decide_eq_false (by omega)
 unfold balance_may
 simp only [h3, h1, gdO_some, h2, h4, Option.bind_some, Bool.false_eq_true, if_false, Bool.not_false, Bool.or_self, cond_true]
theorem bof_eq {l : List T_api_Posting} (hl : FitL l) (acc cur : Int) {d : Int} (hd : -50000 ≤ d) (hd' : d ≤ 50000) : balance_Of l acc cur d = some (match greatF 0 (flatL acc cur l) with | none => (0, 9) | some _ => (sumV d (flatL acc cur l), 0)) := by
 unfold balance_Of
 rw [bmay_eq (by have := hl.few; omega) hd hd']
 simp only [Option.bind_some, bne_self_eq_false, Bool.false_eq_true, if_false, legs_eq hl]
 have hlen := flatL_len acc cur hl.legs
 have hf := hl.few
 cases hg : greatF 0 (flatL acc cur l) with
 | none => simp only [bsum_nil, Option.bind_some]
 | some G => simp only [bsum_eq (show (flatL acc cur l).length < 1000000 by omega) hg, Option.bind_some]
end Go.Av.G
end
section
set_option linter.unusedVariables false
set_option linter.unusedSimpArgs false
set_option maxRecDepth 4000
set_option maxHeartbeats 4000000
namespace Go.Av.G
open Go Go.Av Go.Proofs
def okLim (x : T_api_Limit) : Bool := decide (1 ≤ x.f_Acc ∧ x.f_Acc ≤ 999 ∧ 0 ≤ x.f_Minor ∧ x.f_Minor ≤ 1000000000000000)
structure LimP (l : List T_api_Limit) : Prop where
 ok : ∀ x ∈ l, okLim x = true
 rise : Rise (fun x : T_api_Limit => x.f_Acc) l
 few : l.length ≤ 200
def limQ (l : List T_api_Limit) (i : Nat) : Bool := ((l[i]?).any fun x => !okLim x) || (decide (0 < i) && descends (fun x : T_api_Limit => x.f_Acc) l i)
theorem limQ_iff {l : List T_api_Limit} (h : l.length ≤ 200) : (List.range' 0 l.length).any (limQ l) = false ↔ LimP l := by
 rw [any_idx]
 constructor
 ·intro hq
  refine ⟨fun x hx => ?_, descends_rise.1 fun i hi => ?_, h⟩
  ·obtain ⟨i, hi, rfl⟩ := List.getElem_of_mem hx
   have := hq i hi
   unfold limQ at this
   rw [List.getElem?_eq_getElem hi] at this
   simp at this
   exact this.1
  ·have := hq i hi
   unfold limQ at this
   simp only [Bool.or_eq_false_iff] at this
   exact this.2
 ·intro hl i hi
  unfold limQ
  rw [descends_rise.2 hl.rise i hi, List.getElem?_eq_getElem hi]
  simp [hl.ok _ (List.getElem_mem hi)]
def limR (l : List T_api_Limit) (acc : Int) : Int := match fstIdx l (fun x => x.f_Acc == acc) with | some i => ((l[i]?).getD default).f_Minor | none => 0
theorem limR_range {l : List T_api_Limit} (hl : LimP l) (acc : Int) : 0 ≤ limR l acc ∧ limR l acc ≤ 1000000000000000 := by
 unfold limR
 cases hi : fstIdx l (fun x => x.f_Acc == acc) with
 | none => simp
 | some i =>
  obtain ⟨h, _, _⟩ := fstIdx_some hi
  have := of_decide_eq_true (hl.ok _ (List.getElem_mem h))
  simp only [List.getElem?_eq_getElem h, Option.getD_some]
  omega
theorem idxLim_eq (l : List T_api_Limit) (acc : Int) (hn : l.length < 4611686018427387904) : slices_IndexFunc_Limit_Limit l acc = some (match fstIdx l (fun x => x.f_Acc == acc) with | some i => ((i : Nat) : Int) | none => -1) := by
 unfold slices_IndexFunc_Limit_Limit
 rw [loopL_idx (l := l) (fun x => x.f_Acc == acc) (o := fun i => (Sum.inr (i : Int) : Unit ⊕ Int)) (e := Sum.inl ()) hn]
 ·cases fstIdx l (fun x => x.f_Acc == acc) <;> rfl
 ·intro i h
  simp only [decide_eq_true_eq]
  rw [if_pos (by omega), rdO_at h]
  simp only [Option.bind_some, avail_ask_1]
  split <;> rfl
 ·intro i h
  simp only [decide_eq_true_eq]
  rw [if_neg (by omega)]
structure RightT (t : T_api_Till) : Prop where
 chart : RightP t.f_Chart
 few : t.f_L.length ≤ 2000
 holds : GoodL t.f_Holds
 limits : LimP t.f_Limits
structure FewT (t : T_api_Till) : Prop where
 chart : Fits t.f_Chart
 legs : t.f_L.length ≤ 2000 → FitL t.f_L
 holds : t.f_Holds.length ≤ 100
 limits : t.f_Limits.length ≤ 40
theorem in_Account_eq (n lo hi : Int) : avail_in_Account n lo hi = some (decide (n ≥ lo) && decide (n ≤ hi)) := by simp [avail_in_Account]
theorem in_int64_eq (n lo hi : Int) : avail_in_int64 n lo hi = some (decide (n ≥ lo) && decide (n ≤ hi)) := by simp [avail_in_int64]
theorem Right_loop {l : List T_api_Limit} (hn : l.length < 4611686018427387904) :
  loopO (fun (qj2 : Int) => match qj2 with
  | x3 => (
   if (decide (x3 < (l.length : Int))) = true then
    (rdO l x3).bind fun x4 =>
    (avail_in_Account x4.f_Acc 1 999).bind fun x5 =>
    (some (!x5)).bind fun c6 =>
    (gdO (!c6) (avail_in_int64 x4.f_Minor 0 1000000000000000) (default : Bool)).bind fun x7 =>
    (some (c6 || (!x7))).bind fun c8 =>
    (some (decide (x3 > 0))).bind fun c9 =>
    (gdO ((!c8) && c9) (rdO l (IntKind.wrap .i64 (x3 - 1))) (default : T_api_Limit)).bind fun x10 =>
    if (c8 || (c9 && (decide (x10.f_Acc ≥ x4.f_Acc)))) = true then
     some (.inr (.inr false))
    else
     some (.inl (IntKind.wrap .i64 (x3 + 1)))
   else
    some (.inr (.inl ())) : Option (Int ⊕ (Unit ⊕ Bool)))) 0 = some (if (List.range' 0 l.length).any (limQ l) = true then .inr false else .inl ()) := by
 rw [loopI_any0 (n := l.length) (q := limQ l) (o := (Sum.inr false : Unit ⊕ Bool)) (e := Sum.inl ()) hn]
 ·intro i h
  simp only [decide_eq_true_eq]
  rw [if_pos (by omega), rdO_at h]
  simp only [Option.bind_some, in_Account_eq, in_int64_eq, gdO_some]
  unfold limQ
  rw [List.getElem?_eq_getElem h]
  simp only [Option.any_some]
  have hb : (!(decide (l[i].f_Acc ≥ 1) && decide (l[i].f_Acc ≤ 999)) || !(bif (!!(decide (l[i].f_Acc ≥ 1) && decide (l[i].f_Acc ≤ 999))) then (decide (l[i].f_Minor ≥ 0) && decide (l[i].f_Minor ≤ 1000000000000000)) else default)) = !okLim l[i] := by
   unfold okLim
   by_cases h1 : 1 ≤ l[i].f_Acc <;> by_cases h2 : l[i].f_Acc ≤ 999 <;> by_cases h3 : 0 ≤ l[i].f_Minor <;> by_cases h4 : l[i].f_Minor ≤ 1000000000000000 <;> simp [h1, h2, h3, h4]
  rw [hb]
  by_cases hk : okLim l[i] = true
  ·cases i with
   | zero => simp [hk, gdO]
   | succ i =>
    have e1 : IntKind.wrap .i64 (((i + 1 : Nat) : Int) - 1) = (i : Int) := by rw [wrap64 (by omega) (by omega)]; omega
    have e2 : decide (((i + 1 : Nat) : Int) > 0) = true := decide_eq_true (by omega)
    rw [e1, e2, rdO_at (by omega), descends_at (by omega) h]
    by_cases hd : (l[i]).f_Acc ≥ (l[i + 1]).f_Acc <;> simp [hk, gdO, hd]
  ·have hk' : okLim l[i] = false := by simpa using hk
   simp [hk', gdO]
 ·intro i h
  simp only [decide_eq_true_eq]
  rw [if_neg (by omega)]
theorem ARight_spec {t : T_api_Till} (hf : FewT t) : ∃ b, avail_Right t = some b ∧ (b = true ↔ RightT t) := by
 unfold avail_Right
 obtain ⟨c, ec, hc⟩ := Right_spec t.f_Chart (by have := hf.chart.1; omega) (by have := hf.chart.2.1; omega)
 have hlim := hf.limits
 have hh := hf.holds
 have e := Right_loop (l := t.f_Limits) (by omega)
 by_cases hq : (List.range' 0 t.f_Limits.length).any (limQ t.f_Limits) = true
 ·rw [if_pos hq] at e
  refine ⟨false, bind_at e rfl, by simp, fun hr => ?_⟩
  rw [(limQ_iff (by omega)).2 hr.limits] at hq
  cases hq
 ·rw [if_neg hq] at e
  have hl := (limQ_iff (by omega)).1 (Bool.eq_false_iff.2 hq)
  refine ⟨_, bind_at e (by simp only [ec, check_eq t.f_Holds (by omega), gdO_some, Option.bind_some]; rfl), ?_⟩
  have h200 : decide ((t.f_Limits.length : Int) ≤ 200) = true := decide_eq_true (by omega)
  rw [h200]
  constructor
  ·intro hb
   cases c with
   | false => simp at hb
   | true =>
    by_cases h2 : t.f_L.length ≤ 2000
    ·have h2' : decide ((t.f_L.length : Int) ≤ 2000) = true := decide_eq_true (by omega)
     rw [h2'] at hb
     simp at hb
     exact ⟨hc.1 rfl, h2, chkH_good.1 hb, hl⟩
    ·have h2' : decide ((t.f_L.length : Int) ≤ 2000) = false := decide_eq_false (by omega)
     rw [h2'] at hb
     simp at hb
  ·intro hr
   have h2' : decide ((t.f_L.length : Int) ≤ 2000) = true := decide_eq_true (by have := hr.few; omega)
   rw [hc.2 hr.chart, h2', chkH_good.2 hr.holds]
   rfl
theorem ARight_at {t : T_api_Till} (hf : FewT t) (h : RightT t) : avail_Right t = some true := by
 obtain ⟨b, e, hb⟩ := ARight_spec hf
 rw [e, hb.2 h]
theorem ARight_not {t : T_api_Till} (hf : FewT t) (h : ¬ RightT t) : avail_Right t = some false := by
 obtain ⟨b, e, hb⟩ := ARight_spec hf
 cases b with
 | true => exact absurd (hb.1 rfl) h
 | false => exact e
def recI (t : T_api_Till) (acc : Int) : Option Nat := fstIdx t.f_Chart.f_Records (fun r => r.f_Acc == acc)
def recT (t : T_api_Till) (acc : Int) : T_api_Record := match recI t acc with | some i => (t.f_Chart.f_Records[i]?).getD default | none => default
def whyR (t : T_api_Till) (r : T_api_Record) (acc now : Int) : Int :=
 if r.f_Kind ≠ 1 then 13 else if ¬ (-50000 ≤ now ∧ now ≤ 50000) then 11 else if ¬ (r.f_From ≤ now ∧ now ≤ r.f_To) then 16 else match greatF 0 (flatL acc r.f_Cur t.f_L) with | none => 9 | some _ => 0
def whyT (t : T_api_Till) (acc now : Int) : Int := match recI t acc with | none => 8 | some _ => whyR t (recT t acc) acc now
def fundsT (t : T_api_Till) (acc now : Int) : Int := - sumV now (flatL acc (recT t acc).f_Cur t.f_L)
def freeT (t : T_api_Till) (acc now rank : Int) : Int := fundsT t acc now + limR t.f_Limits acc - sumL t.f_Holds acc (recT t acc).f_Cur now rank
theorem whyR_ok {t : T_api_Till} {r : T_api_Record} {acc now : Int} (h : whyR t r acc now = 0) : r.f_Kind = 1 ∧ -50000 ≤ now ∧ now ≤ 50000 ∧ r.f_From ≤ now ∧ now ≤ r.f_To ∧ ∃ G, greatF 0 (flatL acc r.f_Cur t.f_L) = some G := by
 unfold whyR at h
 split at h
 ·cases h
 ·split at h
  ·cases h
  ·split at h
   ·cases h
   ·rename_i h1 h2 h3
    cases hg : greatF 0 (flatL acc r.f_Cur t.f_L) with
    | none => rw [hg] at h; cases h
    | some G => exact ⟨by simpa using h1, by omega, by omega, by omega, by omega, G, rfl⟩
theorem whyT_rec {t : T_api_Till} {acc now : Int} (h : whyT t acc now = 0) : ∃ (i : Nat) (hi : i < t.f_Chart.f_Records.length), recI t acc = some i ∧ recT t acc = t.f_Chart.f_Records[i] ∧ t.f_Chart.f_Records[i].f_Acc = acc ∧ whyR t (recT t acc) acc now = 0 := by
 unfold whyT at h
 cases hi : recI t acc with
 | none => rw [hi] at h; cases h
 | some i =>
  rw [hi] at h
  obtain ⟨h1, h2, _⟩ := fstIdx_some hi
  refine ⟨i, h1, rfl, ?_, by simpa using h2, h⟩
  unfold recT
  rw [hi]
  simp [List.getElem?_eq_getElem h1]
theorem funds_range {t : T_api_Till} {acc now : Int} (h : whyT t acc now = 0) : -1000000000000000000 ≤ fundsT t acc now ∧ fundsT t acc now ≤ 1000000000000000000 := by
 obtain ⟨i, hi, _, _, _, hw⟩ := whyT_rec h
 obtain ⟨_, _, _, _, _, G, hG⟩ := whyR_ok hw
 have h1 := sumV_range now _ hG
 have h2 := greatF_range _ hG (by omega) (by omega)
 unfold fundsT
 omega
theorem chk0 : avail_check 0 = some none := rfl
theorem chkS {e : Int} (h : e ≠ 0) : avail_check e = some (some e) := by
 unfold avail_check
 rw [if_neg (by simpa using h)]
theorem ask_spec {t : T_api_Till} (hf : FewT t) (hr : RightT t) (acc now : Int) : ∃ a, avail_ask t acc now = some (a, if whyT t acc now = 0 then none else some (whyT t acc now)) ∧ (whyT t acc now = 0 → a = ⟨(recT t acc).f_Cur, fundsT t acc now, limR t.f_Limits acc⟩) := by
 have hF := hf.legs hr.few
 unfold avail_ask
 cases hi : recI t acc with
 | none =>
  have hno : ∀ x ∈ t.f_Chart.f_Records, x.f_Acc ≠ acc := fun x hx => by simpa using fstIdx_none hi x hx
  have hw : whyT t acc now = 8 := by unfold whyT; rw [hi]
  rw [hw, Find_none hf.chart hr.chart hno]
  exact ⟨⟨0, 0, 0⟩, rfl, fun h => by cases h⟩
 | some i =>
  obtain ⟨h1, h2, _⟩ := fstIdx_some hi
  have h2 : t.f_Chart.f_Records[i].f_Acc = acc := by simpa using h2
  have hrec : recT t acc = t.f_Chart.f_Records[i] := by unfold recT; rw [hi]; simp [List.getElem?_eq_getElem h1]
  have hw : whyT t acc now = whyR t t.f_Chart.f_Records[i] acc now := by unfold whyT; rw [hi, ← hrec]
  have hlim := hf.limits
  have hfun : fundsT t acc now = - sumV now (flatL acc t.f_Chart.f_Records[i].f_Cur t.f_L) := by unfold fundsT; rw [hrec]
  have hIs := Is_at hf.chart hr.chart (d := now) h1 h2
  rw [hw, Find_at hf.chart hr.chart h1 h2, hrec, hfun]
  generalize t.f_Chart.f_Records[i] = r at h2 hIs ⊢
  simp only [Option.bind_some, chk0, Option.isSome_none, Bool.false_eq_true, if_false, hIs]
  by_cases hk : r.f_Kind = 1
  ·have hk' : (r.f_Kind != 1) = false := by simpa using hk
   simp only [hk', Bool.false_eq_true, if_false]
   by_cases hn : -50000 ≤ now ∧ now ≤ 50000
   ·have hn' : (decide (-50000 ≤ now) && decide (now ≤ 50000)) = true := by simp [hn]
    simp only [hn', if_true, Option.bind_some, chk0, Option.isSome_none, Bool.false_eq_true, if_false]
    by_cases ho : r.f_From ≤ now ∧ now ≤ r.f_To
    ·have ho' : (!(decide (now ≥ r.f_From) && decide (now ≤ r.f_To))) = false := by simp [ho]
     have hx : ∃ q : Int, slices_IndexFunc_Limit_Limit t.f_Limits acc = some q ∧ ((if (decide (q ≥ 0)) = true then (rdO t.f_Limits q).bind fun x11 => some x11.f_Minor else some 0) : Option Int) = some (limR t.f_Limits acc) := by
      refine ⟨_, idxLim_eq t.f_Limits acc (by omega), ?_⟩
      unfold limR
      cases hx : fstIdx t.f_Limits (fun x => x.f_Acc == acc) with
      | none => rfl
      | some k =>
       obtain ⟨hk, _, _⟩ := fstIdx_some hx
       simp only [rdO_at hk, List.getElem?_eq_getElem hk, Option.getD_some, Option.bind_some]
       rw [if_pos (by simp)]
     obtain ⟨q, hq, hj⟩ := hx
     simp only [ho', Bool.false_eq_true, if_false, bof_eq hF acc r.f_Cur hn.1 hn.2, hq, Option.bind_some, hj]
     cases hg : greatF 0 (flatL acc r.f_Cur t.f_L) with
     | none =>
      have hwv : whyR t r acc now = 9 := by
       unfold whyR
       rw [if_neg (not_not_intro hk), if_neg (not_not_intro hn), if_neg (not_not_intro ho), hg]
      rw [hwv]
      exact ⟨_, rfl, fun h => by cases h⟩
     | some G =>
      have hwv : whyR t r acc now = 0 := by
       unfold whyR
       rw [if_neg (not_not_intro hk), if_neg (not_not_intro hn), if_neg (not_not_intro ho), hg]
      have h3 := sumV_range now _ hg
      have h4 := greatF_range _ hg (by omega) (by omega)
      have ew : IntKind.wrap .i64 (0 - sumV now (flatL acc r.f_Cur t.f_L)) = - sumV now (flatL acc r.f_Cur t.f_L) := by rw [wrap64 (by omega) (by omega)]; omega
      rw [hwv]
      refine ⟨⟨r.f_Cur, - sumV now (flatL acc r.f_Cur t.f_L), limR t.f_Limits acc⟩, ?_, fun _ => rfl⟩
      simp only [chk0, Option.bind_some, ew, if_true]
    ·have ho' : (!(decide (now ≥ r.f_From) && decide (now ≤ r.f_To))) = true := by
      rw [Bool.not_eq_true', Bool.eq_false_iff]
      intro h
      simp at h
      exact ho h
     have hwv : whyR t r acc now = 16 := by
      unfold whyR
      rw [if_neg (not_not_intro hk), if_neg (not_not_intro hn), if_pos ho]
     rw [hwv]
     simp only [ho', if_true]
     exact ⟨_, rfl, fun h => by cases h⟩
   ·have hn' : (decide (-50000 ≤ now) && decide (now ≤ 50000)) = false := by
     rw [Bool.eq_false_iff]
     intro h
     simp at h
     exact hn h
    have hwv : whyR t r acc now = 11 := by
     unfold whyR
     rw [if_neg (not_not_intro hk), if_pos hn]
    rw [hwv]
    simp only [hn', Bool.false_eq_true, if_false, Option.bind_some, chkS (show (11 : Int) ≠ 0 by decide), Option.isSome_some, if_true]
    exact ⟨_, rfl, fun h => by cases h⟩
  ·have hk' : (r.f_Kind != 1) = true := by simpa using hk
   have hwv : whyR t r acc now = 13 := by
    unfold whyR
    rw [if_pos hk]
   rw [hwv]
   simp only [hk', if_true]
   exact ⟨_, rfl, fun h => by cases h⟩
theorem in_int_eq (n lo hi : Int) : avail_in_int n lo hi = some (decide (n ≥ lo) && decide (n ≤ hi)) := by simp [avail_in_int]
theorem lims_range {t : T_api_Till} (hf : FewT t) (hr : RightT t) {acc now : Int} (hw : whyT t acc now = 0) (rank : Int) : -1000000000000000000 ≤ fundsT t acc now ∧ fundsT t acc now ≤ 1000000000000000000 ∧ 0 ≤ limR t.f_Limits acc ∧ limR t.f_Limits acc ≤ 1000000000000000 ∧
  0 ≤ sumL t.f_Holds acc (recT t acc).f_Cur now rank ∧ sumL t.f_Holds acc (recT t acc).f_Cur now rank ≤ 100000000000000000 := by
 have h1 := funds_range hw
 have h2 := limR_range hr.limits acc
 have h3 := sumL_range acc (recT t acc).f_Cur now rank t.f_Holds
 have h4 := hf.holds
 refine ⟨h1.1, h1.2, h2.1, h2.2, h3.1, ?_⟩
 have h5 : ((t.f_Holds.length : Nat) : Int) ≤ 100 := by omega
 omega
theorem free_eq {t : T_api_Till} (hf : FewT t) (hr : RightT t) {acc now : Int} (hw : whyT t acc now = 0) (rank : Int) : avail_account_free ⟨(recT t acc).f_Cur, fundsT t acc now, limR t.f_Limits acc⟩ t acc now rank = some (freeT t acc now rank) := by
 have h := lims_range hf hr hw rank
 unfold avail_account_free
 rw [sum_eq hr.holds]
 have e1 : IntKind.wrap .i64 (fundsT t acc now + limR t.f_Limits acc) = fundsT t acc now + limR t.f_Limits acc := wrap64 (by omega) (by omega)
 have e2 : IntKind.wrap .i64 (fundsT t acc now + limR t.f_Limits acc - sumL t.f_Holds acc (recT t acc).f_Cur now rank) = fundsT t acc now + limR t.f_Limits acc - sumL t.f_Holds acc (recT t acc).f_Cur now rank := wrap64 (by omega) (by omega)
 simp only [Option.bind_some, e1, e2]
 rfl
theorem Free_at {t : T_api_Till} (hf : FewT t) (hr : RightT t) {acc now rank : Int} (hk : 0 ≤ rank ∧ rank ≤ 9) (hw : whyT t acc now = 0) : avail_Free t acc now rank = some (freeT t acc now rank, 0) := by
 obtain ⟨a, ha, hv⟩ := ask_spec hf hr acc now
 rw [if_pos hw] at ha
 obtain rfl := hv hw
 have hk' : (decide (rank ≥ 0) && decide (rank ≤ 9)) = true := by simp [hk]
 unfold avail_Free
 rw [ARight_at hf hr]
 simp only [Option.bind_some, in_int_eq, hk', gdO_some, Bool.not_true, Bool.not_false, cond_true, Bool.or_self, Bool.false_eq_true, if_false, ha, Option.isSome_none, free_eq hf hr hw]
def oneT : T_api_Till := ⟨⟨[], [⟨5, 1, 0, 0, 0, 0, 0, 50000⟩]⟩, [⟨0, 0, 3, [⟨5, ⟨0, (-100)⟩⟩], 0, 0, []⟩], [⟨1, 5, ⟨0, 30⟩, 2, 3, 9, 0, false⟩], []⟩
theorem one_few : FewT oneT := by
 refine ⟨⟨by simp [oneT], by simp [oneT], by simp [oneT]⟩, fun _ => ⟨by simp [oneT], by simp [oneT], ?_⟩, by simp [oneT], by simp [oneT]⟩
 intro p hp x hx
 simp [oneT] at hp
 subst hp
 simp at hx
 subst hx
 simp [legI]
theorem one_right : RightT oneT := by
 refine ⟨⟨by simp [oneT], by simp [oneT], ?_, ?_, by simp [oneT], ?_⟩, by simp [oneT], ⟨?_, ?_, by simp [oneT]⟩, ⟨by simp [oneT], ?_, by simp [oneT]⟩⟩
 ·intro i h; simp [oneT] at h
 ·intro i h; simp [oneT] at h
 ·intro x hx
  simp [oneT] at hx
  subst hx
  decide
 ·intro x hx
  simp [oneT] at hx
  subst hx
  decide
 ·intro i h; simp [oneT] at h
 ·intro i h; simp [oneT] at h
theorem one_why : whyT oneT 5 4 = 0 := by decide
theorem alive : cashbooklaw26_alive = some true := by
 unfold cashbooklaw26_alive
 have h1 : cashbooklaw26_one = some oneT := rfl
 have h2 := Free_at one_few one_right (acc := 5) (now := 4) (rank := 0) ⟨by omega, by omega⟩ one_why
 have h3 := Free_at one_few one_right (acc := 5) (now := 4) (rank := 3) ⟨by omega, by omega⟩ one_why
 have e2 : freeT oneT 5 4 0 = 70 := by decide
 have e3 : freeT oneT 5 4 3 = 100 := by decide
 simp only [h1, Option.bind_some, h2, h3, e2, e3]
 rfl
end Go.Av.G
end
section
set_option linter.unusedVariables false
set_option linter.unusedSimpArgs false
set_option maxRecDepth 4000
set_option maxHeartbeats 4000000
namespace Go.Av.G
open Go Go.Av Go.Proofs
def cutP (p : T_api_Posting) : T_api_Posting := ⟨p.f_ID, p.f_Known, p.f_Value, p.f_Legs.take 6, p.f_Reverses, p.f_Kind, p.f_Memo⟩
def cutT (t : T_api_Till) : T_api_Till := ⟨⟨t.f_Chart.f_Customers.take 20, t.f_Chart.f_Records.take 30⟩, if t.f_L.length ≤ 2000 then (t.f_L.take 40).map cutP else t.f_L, t.f_Holds.take 40, t.f_Limits.take 40⟩
theorem foldl_map {α β : Type} (f : α → β) : ∀ (l : List α) (s : List β), l.foldl (fun s x => s ++ [f x]) s = s ++ l.map f
 | [], s => by simp
 | x :: l, s => by rw [List.foldl_cons, foldl_map f l]; simp
theorem few_loop {l : List T_api_Posting} (hl : l.length ≤ 40) :
  loopO (fun (qj6 : Int × (List T_api_Posting)) => match qj6 with
   | (x7, row8) => (
    if (decide (x7 < (l.length : Int))) = true then
     (rdO l x7).bind fun x9 =>
     (slO x9.f_Legs 0 (if 6 < (x9.f_Legs.length : Int) then 6 else (x9.f_Legs.length : Int))).bind fun x10 =>
     (apO 72 row8 [(⟨x9.f_ID, x9.f_Known, x9.f_Value, x10, x9.f_Reverses, x9.f_Kind, x9.f_Memo⟩ : T_api_Posting)]).bind fun x11 =>
     some (.inl (IntKind.wrap .i64 (x7 + 1), x11))
    else
     some (.inr row8) : Option ((Int × (List T_api_Posting)) ⊕ (List T_api_Posting)))) (0, ([] : List T_api_Posting)) = some (l.map cutP) := by
 have hm : l.map cutP = l.foldl (fun s x => s ++ [cutP x]) [] := by rw [foldl_map]; rfl
 rw [hm, loopL_fold (l := l) (fun s x => s ++ [cutP x]) (fun s => s) (by omega)]
 ·intro i h
  have h3 := slO_cap (l[i]).f_Legs 6
  rw [show ((6 : Nat) : Int) = 6 from rfl] at h3
  have hap : ∀ x, apO 72 ((l.take i).foldl (fun s x => s ++ [cutP x]) []) [x] = some ((l.take i).foldl (fun s x => s ++ [cutP x]) [] ++ [x]) := by
   intro x
   refine apO_eq ?_
   rw [foldl_map]
   simp
   omega
  simp only [decide_eq_true_eq]
  rw [if_pos (by omega), rdO_at h]
  simp only [Option.bind_some, h3, hap]
  rfl
 ·simp only [decide_eq_true_eq]
  rw [if_neg (by omega)]
theorem few_eq (t : T_api_Till) : cashbooklaw26_few t = some (cutT t) := by
 have h1 := slO_cap t.f_Chart.f_Customers 20
 have h2 := slO_cap t.f_Chart.f_Records 30
 have h3 := slO_cap t.f_L 40
 have h4 := slO_cap t.f_Holds 40
 have h5 := slO_cap t.f_Limits 40
 rw [show ((20 : Nat) : Int) = 20 from rfl] at h1
 rw [show ((30 : Nat) : Int) = 30 from rfl] at h2
 rw [show ((40 : Nat) : Int) = 40 from rfl] at h3 h4 h5
 unfold cashbooklaw26_few cutT
 simp only [h1, h2, h4, h5, Option.bind_some]
 by_cases hl : t.f_L.length ≤ 2000
 ·have hl' : decide ((t.f_L.length : Int) ≤ 2000) = true := decide_eq_true (by omega)
  have hloop := few_loop (l := t.f_L.take 40) (by simp; omega)
  simp only [hl', if_true, h3, Option.bind_some, hl]
  rw [hloop]
  rfl
 ·have hl' : decide ((t.f_L.length : Int) ≤ 2000) = false := decide_eq_false (by omega)
  simp only [hl', Bool.false_eq_true, if_false, Option.bind_some, hl]
theorem cut_few {t : T_api_Till} (h : t.wf) : FewT (cutT t) := by
 obtain ⟨⟨⟨_, hc⟩, ⟨_, hr⟩⟩, ⟨hll, hp⟩, ⟨_, hh⟩, ⟨_, hm⟩⟩ := h
 refine ⟨⟨?_, ?_, ?_⟩, fun hl => ⟨?_, ?_, ?_⟩, ?_, ?_⟩
 ·simp [cutT]; omega
 ·simp [cutT]; omega
 ·intro x hx
  have := (hc x (List.mem_of_mem_take hx)).2.1
  have hm : maxLen ≤ 9223372036854775807 := by decide
  omega
 ·unfold cutT at hl ⊢
  by_cases h2 : t.f_L.length ≤ 2000
  ·simp only [h2, if_true, List.length_map, List.length_take]; omega
  ·rw [if_neg h2] at hl
   exact absurd hl h2
 ·intro p hpm
  unfold cutT at hl hpm
  by_cases h2 : t.f_L.length ≤ 2000
  ·simp only [h2, if_true] at hpm
   obtain ⟨q, hq, rfl⟩ := List.mem_map.1 hpm
   simp [cutP]; omega
  ·rw [if_neg h2] at hl
   exact absurd hl h2
 ·intro p hpm x hx
  unfold cutT at hl hpm
  by_cases h2 : t.f_L.length ≤ 2000
  ·simp only [h2, if_true] at hpm
   obtain ⟨q, hq, rfl⟩ := List.mem_map.1 hpm
   have := (hp q (List.mem_of_mem_take hq)).2.2.2.1.2 x (List.mem_of_mem_take hx)
   have h3 := this.2.2
   unfold inR at h3
   have e1 : IntKind.min .i64 = -9223372036854775808 := by decide
   have e2 : IntKind.max .i64 = 9223372036854775807 := by decide
   rw [e1, e2] at h3
   exact ⟨h3.1, by omega⟩
  ·rw [if_neg h2] at hl
   exact absurd hl h2
 ·simp [cutT]; omega
 ·simp [cutT]; omega
end Go.Av.G
end
section
set_option linter.unusedVariables false
set_option linter.unusedSimpArgs false
set_option maxRecDepth 4000
set_option maxHeartbeats 4000000
namespace Go.Av.G
open Go Go.Av Go.Proofs
theorem hold_place_1_eq (x : T_api_Hold) (n : Int) : hold_place_1 x n = some (if x.f_ID < n then -1 else if x.f_ID > n then 1 else 0) := by
 simp only [hold_place_1, cmp_Compare_int, cmp_isNaN_int, Option.bind_some, bne_self_eq_false, Bool.false_eq_true, if_false, decide_eq_true_eq]
 split
 ·rfl
 ·split <;> rfl
theorem hold_place_spec (l : List T_api_Hold) (n : Int) (hn : l.length < 4611686018427387904) (hr : Rise (·.f_ID) l) :
  ∃ (k : Nat) (b : Bool), hold_place l n = some ((k : Int), b) ∧ k ≤ l.length ∧ (b = true → ∃ h : k < l.length, l[k].f_ID = n) ∧ (b = false → ∀ x ∈ l, x.f_ID ≠ n) ∧ (∀ i (hi : i < l.length), i < k → l[i].f_ID < n) ∧ (b = false → ∀ i (hi : i < l.length), k ≤ i → n < l[i].f_ID) := by
 have hbs : ∃ (k : Nat) (b : Bool), slices_BinarySearchFunc_Hold_Hold_int l n = some ((k : Int), b) ∧ k ≤ l.length ∧ (b = true → ∃ h : k < l.length, l[k].f_ID = n) ∧ (b = false → ∀ x ∈ l, x.f_ID ≠ n) ∧ (∀ i (hi : i < l.length), i < k → l[i].f_ID < n) ∧ (b = false → ∀ i (hi : i < l.length), k ≤ i → n < l[i].f_ID) := by
  unfold slices_BinarySearchFunc_Hold_Hold_int
  obtain ⟨k, hk, hl, h1, h2⟩ := bsearch (n := l.length) (lt := fun i => (l[i]?).any fun x => decide (x.f_ID < n)) (f := fun (qj3 : Int × Int) => match qj3 with
  | (i4, j5) => (
   if (decide (i4 < j5)) = true then
    (rdO l (IntKind.wrap .i64 (Int.fdiv (IntKind.wrap .u64 (IntKind.wrap .i64 (i4 + j5))) 2))).bind fun x7 =>
    (hold_place_1 x7 n).bind fun x8 =>
    if (decide (x8 < 0)) = true then
     some (.inl (IntKind.wrap .i64 ((IntKind.wrap .i64 (Int.fdiv (IntKind.wrap .u64 (IntKind.wrap .i64 (i4 + j5))) 2)) + 1), j5))
    else
     some (.inl (i4, IntKind.wrap .i64 (Int.fdiv (IntKind.wrap .u64 (IntKind.wrap .i64 (i4 + j5))) 2)))
   else
    some (.inr i4))) hn
   (by
    intro i j hij hj
    simp only [decide_eq_true_eq, half hij (show j < 4611686018427387904 by omega)]
    have hm : (i + j) / 2 < l.length := by omega
    rw [if_pos (by omega), rdO_at hm]
    simp only [Option.bind_some, hold_place_1_eq]
    rw [List.getElem?_eq_getElem hm]
    have e : IntKind.wrap .i64 ((((i + j) / 2 : Nat) : Int) + 1) = (((i + j) / 2 + 1 : Nat) : Int) := by rw [wrap64 (by omega) (by omega)]; rfl
    by_cases h : (l[(i + j) / 2]).f_ID < n
    ·simp [h]
     exact e
    ·simp [h]
     split <;> simp)
   (by
    intro i
    simp only [decide_eq_true_eq]
    rw [if_neg (by omega)])
  have hless : ∀ i (hi : i < l.length), i < k → l[i].f_ID < n := by
   intro i hi hik
   have h3 := h1 (by omega)
   rw [List.getElem?_eq_getElem (by omega)] at h3
   simp only [Option.any_some, decide_eq_true_eq] at h3
   by_cases he : i = k - 1
   ·subst he; exact h3
   ·have := hr.lt (j := k - 1) (i := i) (by omega) (by omega)
    try simp only at this
    omega
  rw [hl]
  simp only [Option.bind_some]
  by_cases hkl : k < l.length
  ·have h4 := h2 hkl
   rw [List.getElem?_eq_getElem hkl] at h4
   simp only [Option.any_some, decide_eq_false_iff_not] at h4
   have hdec : decide ((k : Int) < (l.length : Int)) = true := by simpa using hkl
   rw [hdec]
   simp only [gdO, rdO_at hkl, Option.bind_some, hold_place_1_eq, Bool.true_and]
   by_cases he : l[k].f_ID = n
   ·refine ⟨k, true, ?_, hk, fun _ => ⟨hkl, he⟩, (fun h => by cases h), hless, (fun h => by cases h)⟩
    simp [he]
   ·have hup : ∀ i (hi : i < l.length), k ≤ i → n < l[i].f_ID := fun i hi hik => by
     have : ¬ l[k].f_ID < n := h4
     have h5 : l[k].f_ID > n := by omega
     by_cases hik' : i = k
     ·subst hik'; omega
     ·have := hr.lt (j := i) (i := k) hi (by omega)
      try simp only at this
      omega
    refine ⟨k, false, ?_, hk, (fun h => by cases h), (fun _ x hx hxn => ?_), hless, fun _ => hup⟩
    ·have : ¬ l[k].f_ID < n := h4
     have h5 : l[k].f_ID > n := by omega
     simp [this, h5]
    ·obtain ⟨i, hi, rfl⟩ := List.getElem_of_mem hx
     by_cases hik : i < k
     ·have := hless i hi hik; omega
     ·by_cases hik' : i = k
      ·subst hik'; exact he hxn
      ·have := hr.lt (j := i) (i := k) hi (by omega)
       try simp only at this
       omega
  ·have hdec : decide ((k : Int) < (l.length : Int)) = false := by simpa using hkl
   rw [hdec]
   simp only [gdO, Option.bind_some, Bool.false_and]
   refine ⟨k, false, rfl, hk, (fun h => by cases h), (fun _ x hx hxn => ?_), hless, fun _ i hi hik => by omega⟩
   obtain ⟨i, hi, rfl⟩ := List.getElem_of_mem hx
   have := hless i hi (by omega)
   omega
 obtain ⟨k, b, h1, hk, h2, h3, h4, h5⟩ := hbs
 refine ⟨k, b, ?_, hk, h2, h3, h4, h5⟩
 unfold hold_place
 rw [h1]
 rfl
theorem place_at {l : List T_api_Hold} {n : Int} (hg : GoodL l) {i : Nat} (h : i < l.length) (he : l[i].f_ID = n) : hold_place l n = some ((i : Int), true) := by
 obtain ⟨k, b, e, _, h1, h2, _, _⟩ := hold_place_spec l n (by have := hg.few; omega) hg.rise
 cases b with
 | false => exact absurd he (h2 rfl _ (List.getElem_mem h))
 | true =>
  obtain ⟨hk, he'⟩ := h1 rfl
  rw [e, hg.rise.inj hk h (by omega)]
theorem place_none {l : List T_api_Hold} {n : Int} (hg : GoodL l) (h : ∀ x ∈ l, x.f_ID ≠ n) : ∃ k : Nat, k ≤ l.length ∧ hold_place l n = some ((k : Int), false) ∧ (∀ i (hi : i < l.length), i < k → l[i].f_ID < n) ∧ (∀ i (hi : i < l.length), k ≤ i → n < l[i].f_ID) := by
 obtain ⟨k, b, e, hk, h1, h2, hlo, hup⟩ := hold_place_spec l n (by have := hg.few; omega) hg.rise
 cases b with
 | false => exact ⟨k, hk, e, hlo, hup rfl⟩
 | true =>
  obtain ⟨hk, he'⟩ := h1 rfl
  exact absurd he' (h _ (List.getElem_mem hk))
theorem clone_eq {l : List T_api_Hold} (h : l.length ≤ 1000) : slices_Clone 64 l = some l := by
 unfold slices_Clone
 rw [if_pos (by omega)]
def insH (h : T_api_Hold) : List T_api_Hold → List T_api_Hold
 | [] => [h]
 | x :: t => if h.f_ID < x.f_ID then h :: x :: t else x :: insH h t
theorem insH_split {h : T_api_Hold} : ∀ {a b : List T_api_Hold}, (∀ x ∈ a, ¬ h.f_ID < x.f_ID) → (∀ x ∈ b, h.f_ID < x.f_ID) → insH h (a ++ b) = a ++ h :: b
 | [], [], _, _ => rfl
 | [], x :: t, _, hb => by
  show (if h.f_ID < x.f_ID then h :: x :: t else x :: insH h t) = h :: x :: t
  rw [if_pos (hb x (by simp))]
 | x :: t, b, ha, hb => by
  show (if h.f_ID < x.f_ID then h :: x :: (t ++ b) else x :: insH h (t ++ b)) = x :: (t ++ h :: b)
  rw [if_neg (ha x (by simp)), insH_split (fun y hy => ha y (by simp [hy])) hb]
theorem insH_length {h : T_api_Hold} : ∀ {l : List T_api_Hold}, (insH h l).length = l.length + 1
 | [] => rfl
 | x :: t => by
  show (if h.f_ID < x.f_ID then h :: x :: t else x :: insH h t).length = _
  split
  ·simp
  ·simp [insH_length (l := t)]
theorem any_id {l : List T_api_Hold} {n : Int} : (l.any fun x => x.f_ID == n) = false ↔ ∀ x ∈ l, x.f_ID ≠ n := by simp
theorem id_at {l : List T_api_Hold} {n : Int} (h : (l.any fun x => x.f_ID == n) = true) : ∃ (i : Nat) (hi : i < l.length), l[i].f_ID = n := by
 obtain ⟨x, hx, he⟩ := List.any_eq_true.1 h
 obtain ⟨i, hi, rfl⟩ := List.getElem_of_mem hx
 exact ⟨i, hi, by simpa using he⟩
def addH (l : List T_api_Hold) (h : T_api_Hold) : List T_api_Hold × Int :=
 if (!okH h || decide (0 < h.f_Taken) || h.f_Done) = true then ([], 1) else if (l.any fun x => x.f_ID == h.f_ID) = true then ([], 26) else if 200 ≤ l.length then ([], 6) else (insH h l, 0)
theorem add_eq {l : List T_api_Hold} (hg : GoodL l) (h : T_api_Hold) : hold_Add l h = some (addH l h) := by
 have hf := hg.few
 unfold hold_Add addH
 rw [check_eq l (by omega), chkH_good.2 hg]
 simp only [Option.bind_some, bne_self_eq_false, Bool.false_eq_true, if_false, right_eq]
 cases ha : l.any fun x => x.f_ID == h.f_ID with
 | true =>
  obtain ⟨i, hi, he⟩ := id_at ha
  rw [place_at hg hi he]
  simp only [Option.bind_some, if_true, gt_iff_lt]
  split <;> rfl
 | false =>
  obtain ⟨k, hk, e, hlo, hup⟩ := place_none hg (any_id.1 ha)
  rw [e]
  simp only [Option.bind_some, Bool.false_eq_true, if_false, gt_iff_lt]
  split
  ·rfl
  ·by_cases h2 : 200 ≤ l.length
   ·rw [if_pos (by rw [decide_eq_true_eq]; omega), if_pos h2]
   ·rw [if_neg (by rw [decide_eq_true_eq]; omega), if_neg h2, clone_eq (by omega)]
    have hi : insO 64 l (k : Int) h = some (insH h l) := by
     unfold insO
     rw [if_pos ⟨by omega, by omega, by omega⟩]
     have e2 : insH h (l.take k ++ l.drop k) = l.take k ++ h :: l.drop k := insH_split (fun x hx => by
      obtain ⟨j, hj, rfl⟩ := List.getElem_of_mem hx
      simp only [List.length_take] at hj
      rw [List.getElem_take]
      have := hlo j (by omega) (by omega)
      omega) (fun x hx => by
      obtain ⟨j, hj, rfl⟩ := List.getElem_of_mem hx
      simp only [List.length_drop] at hj
      rw [List.getElem_drop]
      exact hup (k + j) (by omega) (by omega))
     rw [List.take_append_drop] at e2
     rw [e2]; rfl
    simp only [Option.bind_some, hi]
def Ids (l : List T_api_Hold) : Prop := l.Pairwise fun x y => x.f_ID < y.f_ID
theorem ids_of_rise {l : List T_api_Hold} (h : Rise (fun x : T_api_Hold => x.f_ID) l) : Ids l := by
 unfold Ids
 rw [List.pairwise_iff_getElem]
 intro i j hi hj hij
 exact h.lt hj hij
theorem rise_of_ids {l : List T_api_Hold} (h : Ids l) : Rise (fun x : T_api_Hold => x.f_ID) l := by
 intro i hi
 exact (List.pairwise_iff_getElem.1 h) i (i + 1) (by omega) hi (by omega)
theorem mem_insH {h y : T_api_Hold} : ∀ {l : List T_api_Hold}, y ∈ insH h l → y = h ∨ y ∈ l
 | [], hy => .inl (by simpa [insH] using hy)
 | x :: t, hy => by
  by_cases hc : h.f_ID < x.f_ID
  ·have e : insH h (x :: t) = h :: x :: t := by show (if h.f_ID < x.f_ID then h :: x :: t else x :: insH h t) = _; rw [if_pos hc]
   rw [e] at hy
   rcases List.mem_cons.1 hy with q | q
   ·exact .inl q
   ·exact .inr q
  ·have e : insH h (x :: t) = x :: insH h t := by show (if h.f_ID < x.f_ID then h :: x :: t else x :: insH h t) = _; rw [if_neg hc]
   rw [e] at hy
   rcases List.mem_cons.1 hy with q | q
   ·exact .inr (by simp [q])
   ·rcases mem_insH q with q | q
    ·exact .inl q
    ·exact .inr (by simp [q])
theorem ids_insH {h : T_api_Hold} : ∀ {l : List T_api_Hold}, Ids l → (∀ x ∈ l, x.f_ID ≠ h.f_ID) → Ids (insH h l)
 | [], _, _ => by unfold Ids insH; simp
 | x :: t, hl, hn => by
  unfold Ids at hl
  rw [List.pairwise_cons] at hl
  have hx := hn x (by simp)
  by_cases hc : h.f_ID < x.f_ID
  ·have e : insH h (x :: t) = h :: x :: t := by show (if h.f_ID < x.f_ID then h :: x :: t else x :: insH h t) = _; rw [if_pos hc]
   rw [e]
   unfold Ids
   rw [List.pairwise_cons, List.pairwise_cons]
   refine ⟨fun y hy => ?_, hl⟩
   rcases List.mem_cons.1 hy with rfl | hy
   ·exact hc
   ·have := hl.1 y hy; omega
  ·have e : insH h (x :: t) = x :: insH h t := by show (if h.f_ID < x.f_ID then h :: x :: t else x :: insH h t) = _; rw [if_neg hc]
   rw [e]
   unfold Ids
   rw [List.pairwise_cons]
   refine ⟨fun y hy => ?_, ids_insH hl.2 (fun y hy => hn y (by simp [hy]))⟩
   rcases mem_insH hy with rfl | hy
   ·omega
   ·exact hl.1 y hy
theorem good_insH {l : List T_api_Hold} (hg : GoodL l) {h : T_api_Hold} (ho : okH h = true) (hn : ∀ x ∈ l, x.f_ID ≠ h.f_ID) (hf : l.length < 200) : GoodL (insH h l) := by
 refine ⟨fun x hx => ?_, rise_of_ids (ids_insH (ids_of_rise hg.rise) hn), by rw [insH_length]; omega⟩
 rcases mem_insH hx with rfl | hx
 ·exact ho
 ·exact hg.ok x hx
theorem sumL_insH (acc cur now rank : Int) (h : T_api_Hold) : ∀ l : List T_api_Hold, sumL (insH h l) acc cur now rank = sumL l acc cur now rank + wH acc cur now rank h
 | [] => by simp [sumL, insH]
 | x :: t => by
  have ih := sumL_insH acc cur now rank h t
  show sumL (if h.f_ID < x.f_ID then h :: x :: t else x :: insH h t) acc cur now rank = _
  unfold sumL at ih ⊢
  split
  ·simp only [List.map_cons, List.sum_cons]; omega
  ·simp only [List.map_cons, List.sum_cons]; omega
end Go.Av.G
end
section
set_option linter.unusedVariables false
set_option linter.unusedSimpArgs false
set_option maxRecDepth 4000
set_option maxHeartbeats 4000000
namespace Go.Av.G
open Go Go.Av Go.Proofs
def bef (x y : T_api_Hold) : Prop := y.f_Rank < x.f_Rank ∨ (x.f_Rank = y.f_Rank ∧ x.f_ID < y.f_ID)
theorem bef_trans {x y z : T_api_Hold} (h1 : bef x y) (h2 : bef y z) : bef x z := by unfold bef at *; omega
theorem cover_cmp (a b : T_api_Hold) : ∃ c, hold_Cover_1 a b = some c ∧ decide (c < 0) = decide (b.f_Rank < a.f_Rank) := by
 simp only [hold_Cover_1, cmp_Compare_int, cmp_isNaN_int, Option.bind_some, bne_self_eq_false, Bool.false_eq_true, if_false, decide_eq_true_eq]
 by_cases h : b.f_Rank < a.f_Rank
 ·exact ⟨-1, by simp [h], by simp [h]⟩
 ·by_cases h2 : b.f_Rank > a.f_Rank
  ·exact ⟨1, by simp [h, h2], by simp [h]⟩
  ·exact ⟨0, by simp [h, h2], by simp [h]⟩
theorem set_mid {α : Type} {A B : List α} {x y : α} {n : Nat} (h : n = A.length) : (A ++ x :: B).set n y = A ++ y :: B := by
 subst h
 rw [List.set_append_right _ _ (Nat.le_refl _)]
 simp
theorem rd_mid2 {α : Type} {A B : List α} {x y : α} {n : Nat} (h : n = A.length + 1) : rdO (A ++ x :: y :: B) (n : Int) = some y := by
 have := rd_mid (A := A ++ [x]) (B := B) (x := y) (n := n) (by simp [h])
 simpa using this
theorem set_mid2 {α : Type} {A B : List α} {x y z : α} {n : Nat} (h : n = A.length + 1) : (A ++ x :: y :: B).set n z = A ++ x :: z :: B := by
 have := set_mid (A := A ++ [x]) (B := B) (x := y) (y := z) (n := n) (by simp [h])
 simpa using this
theorem ins_inner {a : Nat} {A R : List T_api_Hold} {y : T_api_Hold} (ha : a = A.length) : ∀ (P1 P2 : List T_api_Hold), (A.length + P1.length < 4611686018427387900) → (∀ x ∈ P2, x.f_Rank < y.f_Rank) →
  ∃ Q1 Q2, loopO (fun (qj7 : Int × (List T_api_Hold)) => match qj7 with
     | (j8, row9) => (
      (some (decide (j8 > (a : Int)))).bind fun c10 =>
      (gdO c10 (rdO row9 j8) (default : T_api_Hold)).bind fun x11 =>
      (gdO c10 (rdO row9 (IntKind.wrap .i64 (j8 - 1))) (default : T_api_Hold)).bind fun x12 =>
      (gdO c10 (hold_Cover_1 x11 x12) (default : Int)).bind fun x13 =>
      if (c10 && (decide (x13 < 0))) = true then
       (rdO row9 (IntKind.wrap .i64 (j8 - 1))).bind fun x14 =>
       (rdO row9 j8).bind fun x15 =>
       (rdO row9 j8).bind fun x16 =>
       (rdO (List.set row9 (Int.toNat j8) x14) (IntKind.wrap .i64 (j8 - 1))).bind fun x17 =>
       some (.inl (IntKind.wrap .i64 (j8 - 1), (List.set (List.set row9 (Int.toNat j8) x14) (Int.toNat (IntKind.wrap .i64 (j8 - 1))) x15)))
      else
       some (.inr row9) : Option ((Int × (List T_api_Hold)) ⊕ (List T_api_Hold)))) (((A.length + P1.length : Nat) : Int), A ++ P1 ++ y :: P2 ++ R) = some (A ++ Q1 ++ y :: Q2 ++ R) ∧ Q1 ++ Q2 = P1 ++ P2 ∧ (∀ x ∈ Q2, x.f_Rank < y.f_Rank) ∧ (∀ z, Q1.getLast? = some z → ¬ z.f_Rank < y.f_Rank) := by
 intro P1
 induction hn : P1.length generalizing P1 with
 | zero =>
  intro P2 hb hP2
  obtain rfl : P1 = [] := List.length_eq_zero_iff.1 hn
  refine ⟨[], P2, ?_, rfl, hP2, by simp⟩
  rw [loopO_out]
  have : decide (((A.length + 0 : Nat) : Int) > (a : Int)) = false := by simp [ha]
  simp only [this, Option.bind_some, gdO, Bool.false_and, Bool.false_eq_true, if_false]
 | succ n ih =>
  intro P2 hb hP2
  rcases List.eq_nil_or_concat P1 with rfl | ⟨P1', z, rfl⟩
  ·simp at hn
  ·have hn' : P1'.length = n := by simpa using hn
   have hd : decide (((A.length + (n + 1) : Nat) : Int) > (a : Int)) = true := by simp [ha]; omega
   have hw : IntKind.wrap .i64 (((A.length + (n + 1) : Nat) : Int) - 1) = ((A.length + n : Nat) : Int) := wN (by omega) (by omega)
   have hrow : A ++ (P1'.concat z) ++ y :: P2 ++ R = (A ++ P1') ++ z :: y :: (P2 ++ R) := by simp
   obtain ⟨c, hc, hcd⟩ := cover_cmp y z
   by_cases hlt : z.f_Rank < y.f_Rank
   ·obtain ⟨Q1, Q2, q1, q2, q3, q4⟩ := ih P1' hn' (z :: P2) (by omega) (fun x hx => (List.mem_cons.1 hx).elim (fun e => e ▸ hlt) (hP2 x))
    refine ⟨Q1, Q2, ?_, by simpa using q2, q3, q4⟩
    have hrow2 : A ++ P1' ++ y :: (z :: P2) ++ R = (A ++ P1') ++ y :: z :: (P2 ++ R) := by simp
    rw [hrow2] at q1
    rw [hrow, loopO_on, q1]
    simp only [hd, hw, gdO, Option.bind_some, Bool.true_and, rd_mid (A := A ++ P1') (show A.length + n = (A ++ P1').length by simp [hn']), rd_mid2 (A := A ++ P1') (show A.length + (n + 1) = (A ++ P1').length + 1 by simp [hn']; omega), hc, hcd, hlt, decide_true, if_true, Int.toNat_natCast,
     set_mid2 (A := A ++ P1') (show A.length + (n + 1) = (A ++ P1').length + 1 by simp [hn']; omega), set_mid (A := A ++ P1') (show A.length + n = (A ++ P1').length by simp [hn'])]
   ·refine ⟨P1'.concat z, P2, ?_, rfl, hP2, by intro w hw; simp at hw; subst hw; exact hlt⟩
    rw [hrow, loopO_out]
    simp only [hd, hw, gdO, Option.bind_some, Bool.true_and, rd_mid (A := A ++ P1') (show A.length + n = (A ++ P1').length by simp [hn']), rd_mid2 (A := A ++ P1') (show A.length + (n + 1) = (A ++ P1').length + 1 by simp [hn']; omega), hc, hcd, hlt, decide_false, Bool.false_eq_true, if_false]
def Asc (l : List T_api_Hold) : Prop := l.Pairwise bef
theorem asc_ins {Q1 Q2 : List T_api_Hold} {y : T_api_Hold} (h : Asc (Q1 ++ Q2)) (hid : ∀ x ∈ Q1 ++ Q2, x.f_ID < y.f_ID) (h2 : ∀ x ∈ Q2, x.f_Rank < y.f_Rank) (h1 : ∀ z, Q1.getLast? = some z → ¬ z.f_Rank < y.f_Rank) : Asc (Q1 ++ y :: Q2) := by
 unfold Asc at *
 rw [List.pairwise_append] at h ⊢
 obtain ⟨a1, a2, a3⟩ := h
 have hq : ∀ x ∈ Q1, bef x y := by
  intro x hx
  rcases List.eq_nil_or_concat Q1 with rfl | ⟨Q, z, rfl⟩
  ·cases hx
  ·have hz := h1 z (by simp)
   have hix := hid x (List.mem_append_left _ hx)
   rw [List.concat_eq_append, List.pairwise_append] at a1
   simp only [List.concat_eq_append, List.mem_append, List.mem_singleton] at hx
   rcases hx with hx | rfl
   ·have := a1.2.2 x hx z (by simp)
    unfold bef at *
    omega
   ·unfold bef
    omega
 refine ⟨a1, List.pairwise_cons.2 ⟨fun x hx => .inl (h2 x hx), a2⟩, fun x hx w hw => ?_⟩
 rcases List.mem_cons.1 hw with rfl | hw
 ·exact hq x hx
 ·exact a3 x hx w hw
theorem isort_spec {A X B : List T_api_Hold} {a b : Nat} (ha : a = A.length) (hb : b = A.length + X.length) (hn : (A ++ X ++ B).length < 4611686018427387000) (hid : Ids X) :
  ∃ Y, slices_insertionSortCmpFunc_Hold (a : Int) (b : Int) (A ++ X ++ B) = some (A ++ Y ++ B) ∧ Y.Perm X ∧ Asc Y := by
 have hlen : A.length + X.length < 4611686018427387000 := by simp at hn; omega
 unfold slices_insertionSortCmpFunc_Hold
 have key : ∀ (Q P X0 : List T_api_Hold), X = X0 ++ Q → P.Perm X0 → Asc P → ∃ Y, loopO (fun (qj4 : Int × (List T_api_Hold)) => match qj4 with
  | (i5, row6) => (
   if (decide (i5 < (b : Int))) = true then
    ((loopO (fun (qj7 : Int × (List T_api_Hold)) => match qj7 with
      | (j8, row9) => (
       (some (decide (j8 > (a : Int)))).bind fun c10 =>
       (gdO c10 (rdO row9 j8) (default : T_api_Hold)).bind fun x11 =>
       (gdO c10 (rdO row9 (IntKind.wrap .i64 (j8 - 1))) (default : T_api_Hold)).bind fun x12 =>
       (gdO c10 (hold_Cover_1 x11 x12) (default : Int)).bind fun x13 =>
       if (c10 && (decide (x13 < 0))) = true then
        (rdO row9 (IntKind.wrap .i64 (j8 - 1))).bind fun x14 =>
        (rdO row9 j8).bind fun x15 =>
        (rdO row9 j8).bind fun x16 =>
        (rdO (List.set row9 (Int.toNat j8) x14) (IntKind.wrap .i64 (j8 - 1))).bind fun x17 =>
        some (.inl (IntKind.wrap .i64 (j8 - 1), (List.set (List.set row9 (Int.toNat j8) x14) (Int.toNat (IntKind.wrap .i64 (j8 - 1))) x15)))
       else
        some (.inr row9) : Option ((Int × (List T_api_Hold)) ⊕ (List T_api_Hold)))) (i5, row6)) : Option (List T_api_Hold)).bind fun j7 =>
    some (.inl (IntKind.wrap .i64 (i5 + 1), j7))
   else
    some (.inr row6) : Option ((Int × (List T_api_Hold)) ⊕ (List T_api_Hold)))) (((A.length + P.length : Nat) : Int), A ++ P ++ Q ++ B) = some (A ++ Y ++ B) ∧ Y.Perm X ∧ Asc Y := by
  intro Q
  induction Q with
  | nil =>
   intro P X0 hX hP hA
   have hl := hP.length_eq
   refine ⟨P, ?_, by rw [hX, List.append_nil]; exact hP, hA⟩
   rw [loopO_out (o := A ++ P ++ B)]
   have : decide (((A.length + P.length : Nat) : Int) < (b : Int)) = false := by rw [hX] at hb; simp at hb; simp; omega
   simp only [this, Bool.false_eq_true, if_false, List.append_nil]
  | cons y Q ih =>
   intro P X0 hX hP hA
   have hl := hP.length_eq
   have hXl : X.length = X0.length + (Q.length + 1) := by rw [hX]; simp
   obtain ⟨Q1, Q2, q1, q2, q3, q4⟩ := ins_inner (a := a) (A := A) (R := Q ++ B) (y := y) ha P [] (by omega) (by simp)
   rw [List.append_nil] at q2
   have hPy : ∀ x ∈ Q1 ++ Q2, x.f_ID < y.f_ID := by
    intro x hx
    rw [q2] at hx
    have hx0 := hP.mem_iff.1 hx
    unfold Ids at hid
    rw [hX, List.pairwise_append] at hid
    exact hid.2.2 x hx0 y (by simp)
   have hA2 : Asc (Q1 ++ y :: Q2) := asc_ins (by rw [q2]; exact hA) hPy q3 q4
   obtain ⟨Y, y1, y2, y3⟩ := ih (Q1 ++ y :: Q2) (X0 ++ [y]) (by simp [hX]) (by
    refine (List.perm_middle).trans ?_
    rw [q2]
    exact (List.Perm.cons y hP).trans (List.perm_append_singleton y X0).symm) hA2
   refine ⟨Y, ?_, y2, y3⟩
   rw [← y1]
   have hd : decide (((A.length + P.length : Nat) : Int) < (b : Int)) = true := by simp; omega
   have e1 : A ++ P ++ y :: Q ++ B = A ++ P ++ [y] ++ (Q ++ B) := by simp
   have hq2 := congrArg List.length q2
   simp only [List.length_append] at hq2
   rw [loopO_on]
   simp only [hd, if_true]
   rw [e1, q1]
   simp only [Option.bind_some, Option.some.injEq, Sum.inl.injEq, Prod.mk.injEq]
   refine ⟨?_, by simp⟩
   rw [wN (n := A.length + (Q1 ++ y :: Q2).length) (by simp; omega) (by simp; omega)]
 have h1 : IntKind.wrap .i64 ((a : Int) + 1) = ((A.length + 1 : Nat) : Int) := wN (by omega) (by omega)
 cases X with
 | nil =>
  refine ⟨[], ?_, List.Perm.refl _, List.Pairwise.nil⟩
  rw [h1, loopO_out (o := A ++ [] ++ B)]
  ·rfl
  ·have : decide (((A.length + 1 : Nat) : Int) < (b : Int)) = false := by simp at hb; simp; omega
   simp only [this, Bool.false_eq_true, if_false]
 | cons x X =>
  obtain ⟨Y, y1, y2, y3⟩ := key X [x] [x] rfl (List.Perm.refl _) (by unfold Asc; simp)
  refine ⟨Y, ?_, y2, y3⟩
  rw [h1]
  have e : A ++ x :: X ++ B = A ++ [x] ++ X ++ B := by simp
  have e2 : ((A.length + [x].length : Nat) : Int) = ((A.length + 1 : Nat) : Int) := rfl
  rw [e2] at y1
  rw [e, y1]
  rfl
theorem swap_loop {a b n : Nat} (hn : n < 4611686018427387000) (ha : a < 1000000000000) (hb : b < 1000000000000) (hnn : n < 1000000000000) : ∀ (X Y A C B : List T_api_Hold) (i : Nat), X.length = Y.length → i + X.length = n → a + i = A.length → b + i = A.length + X.length + C.length →
  loopO (fun (qj5 : Int × (List T_api_Hold)) => match qj5 with
  | (i6, row7) => (
   if (decide (i6 < (n : Int))) = true then
    (rdO row7 (IntKind.wrap .i64 ((b : Int) + i6))).bind fun x8 =>
    (rdO row7 (IntKind.wrap .i64 ((a : Int) + i6))).bind fun x9 =>
    (rdO row7 (IntKind.wrap .i64 ((a : Int) + i6))).bind fun x10 =>
    (rdO (List.set row7 (Int.toNat (IntKind.wrap .i64 ((a : Int) + i6))) x8) (IntKind.wrap .i64 ((b : Int) + i6))).bind fun x11 =>
    some (.inl (IntKind.wrap .i64 (i6 + 1), (List.set (List.set row7 (Int.toNat (IntKind.wrap .i64 ((a : Int) + i6))) x8) (Int.toNat (IntKind.wrap .i64 ((b : Int) + i6))) x9)))
   else
    some (.inr row7) : Option ((Int × (List T_api_Hold)) ⊕ (List T_api_Hold)))) ((i : Int), A ++ (X ++ (C ++ (Y ++ B)))) = some (A ++ (Y ++ (C ++ (X ++ B)))) := by
 intro X
 induction X with
 | nil =>
  intro Y A C B i hl hi _ _
  obtain rfl : Y = [] := List.length_eq_zero_iff.1 hl.symm
  rw [loopO_out]
  have : decide ((i : Int) < (n : Int)) = false := by simp at hi; simp; omega
  simp only [this, Bool.false_eq_true, if_false]
 | cons x X ih =>
  intro Y A C B i hl hi h1 h2
  cases Y with
  | nil => simp at hl
  | cons y Y =>
   simp only [List.length_cons] at hl hi h2
   have hl : X.length = Y.length := by omega
   have := ih Y (A ++ [y]) (C ++ [x]) B (i + 1) hl (by omega) (by simp; omega) (by simp; omega)
   have hd : decide ((i : Int) < (n : Int)) = true := by simp; omega
   have ea : IntKind.wrap .i64 ((a : Int) + (i : Int)) = ((a + i : Nat) : Int) := wN (by omega) (by omega)
   have eb : IntKind.wrap .i64 ((b : Int) + (i : Int)) = ((b + i : Nat) : Int) := wN (by omega) (by omega)
   have e1 : A ++ (x :: X ++ (C ++ (y :: Y ++ B))) = (A ++ x :: X ++ C) ++ y :: (Y ++ B) := by simp
   have e2 : ∀ z, A ++ (z :: X ++ (C ++ (y :: Y ++ B))) = A ++ z :: (X ++ (C ++ (y :: Y ++ B))) := fun z => by simp
   have r1 : rdO (A ++ (x :: X ++ (C ++ (y :: Y ++ B)))) ((b + i : Nat) : Int) = some y := by
    rw [e1]; exact rd_mid (by simp; omega)
   have r2 : rdO (A ++ (x :: X ++ (C ++ (y :: Y ++ B)))) ((a + i : Nat) : Int) = some x := by
    rw [e2]; exact rd_mid h1
   have s1 : (A ++ (x :: X ++ (C ++ (y :: Y ++ B)))).set (a + i) y = (A ++ y :: X ++ C) ++ y :: (Y ++ B) := by
    rw [e2, set_mid h1]; simp
   have r3 : rdO ((A ++ y :: X ++ C) ++ y :: (Y ++ B)) ((b + i : Nat) : Int) = some y := rd_mid (by simp; omega)
   have s2 : ((A ++ y :: X ++ C) ++ y :: (Y ++ B)).set (b + i) x = (A ++ y :: X ++ C) ++ x :: (Y ++ B) := set_mid (by simp; omega)
   have ei : IntKind.wrap .i64 ((i : Int) + 1) = ((i + 1 : Nat) : Int) := wN (by omega) (by omega)
   rw [loopO_on (s' := (((i + 1 : Nat) : Int), (A ++ [y]) ++ (X ++ ((C ++ [x]) ++ (Y ++ B)))))]
   ·rw [this]; simp
   ·simp only [hd, if_true, ea, eb, r1, r2, Option.bind_some, Int.toNat_natCast, s1, r3, s2, ei, Option.some.injEq, Sum.inl.injEq, Prod.mk.injEq, true_and]
    simp
theorem swap_eq {a b n : Nat} {A X C Y B : List T_api_Hold} (hl : (A ++ (X ++ (C ++ (Y ++ B)))).length < 1000000000) (ha : a = A.length) (hx : X.length = n) (hy : Y.length = n) (hb : b = A.length + X.length + C.length) :
  slices_swapRangeCmpFunc_Hold (a : Int) (b : Int) (n : Int) (A ++ (X ++ (C ++ (Y ++ B)))) = some (A ++ (Y ++ (C ++ (X ++ B)))) := by
 simp only [List.length_append] at hl
 unfold slices_swapRangeCmpFunc_Hold
 have := swap_loop (a := a) (b := b) (n := n) (by omega) (by omega) (by omega) (by omega) X Y A C B 0 (by omega) (by omega) (by omega) (by omega)
 have e : ((0 : Nat) : Int) = 0 := rfl
 rw [e] at this
 rw [this]
 rfl
theorem rot_loop {m : Nat} : ∀ (k : Nat) (X Y A B : List T_api_Hold), X.length + Y.length ≤ k → X ≠ [] → Y ≠ [] → m = A.length + X.length → (A ++ (X ++ (Y ++ B))).length < 1000000000 →
  ((loopO (fun (qj5 : Int × Int × (List T_api_Hold)) => match qj5 with
  | (i6, j7, row8) => (
   if (i6 != j7) = true then
    if (decide (i6 > j7)) = true then
     (slices_swapRangeCmpFunc_Hold (IntKind.wrap .i64 ((m : Int) - i6)) (m : Int) j7 row8).bind fun x9 =>
     some (.inl (IntKind.wrap .i64 (i6 - j7), j7, x9))
    else
     (slices_swapRangeCmpFunc_Hold (IntKind.wrap .i64 ((m : Int) - i6)) (IntKind.wrap .i64 ((IntKind.wrap .i64 ((m : Int) + j7)) - i6)) i6 row8).bind fun x10 =>
     some (.inl (i6, IntKind.wrap .i64 (j7 - i6), x10))
   else
    some (.inr (i6, row8)) : Option ((Int × Int × (List T_api_Hold)) ⊕ (Int × (List T_api_Hold))))) ((X.length : Int), (Y.length : Int), A ++ (X ++ (Y ++ B)))) : Option (Int × (List T_api_Hold))).bind (fun (i11, row12) =>
 (slices_swapRangeCmpFunc_Hold (IntKind.wrap .i64 ((m : Int) - i11)) (m : Int) i11 row12).bind fun x13 =>
 some x13) = some (A ++ (Y ++ (X ++ B))) := by
 intro k
 induction k with
 | zero =>
  intro X Y A B hk hX hY
  exact absurd (List.length_eq_zero_iff.1 (by omega : X.length = 0)) hX
 | succ k ih =>
  intro X Y A B hk hX hY hm hl
  have hx0 : 0 < X.length := List.length_pos_iff.2 hX
  have hy0 : 0 < Y.length := List.length_pos_iff.2 hY
  have hl' := hl
  simp only [List.length_append] at hl
  have ew : IntKind.wrap .i64 ((m : Int) - (X.length : Int)) = (A.length : Int) := wN (by omega) (by omega)
  by_cases heq : X.length = Y.length
  ·have hs := swap_eq (a := A.length) (b := m) (n := X.length) (A := A) (X := X) (C := []) (Y := Y) (B := B) (by simpa using hl') rfl rfl heq.symm (by simpa using hm)
   rw [loopO_out (o := ((X.length : Int), A ++ (X ++ (Y ++ B))))]
   ·simp only [Option.bind_some, ew]
    rw [List.nil_append] at hs
    rw [hs]
    simp
   ·have : ((X.length : Int) != (Y.length : Int)) = false := by rw [heq]; simp
    simp only [this, Bool.false_eq_true, if_false]
  ·have hne : ((X.length : Int) != (Y.length : Int)) = true := by simp; omega
   by_cases hgt : Y.length < X.length
   ·obtain ⟨X1, X2, rfl, hX1⟩ : ∃ X1 X2, X = X1 ++ X2 ∧ X1.length = Y.length := ⟨X.take Y.length, X.drop Y.length, (List.take_append_drop _ _).symm, by rw [List.length_take]; omega⟩
    simp only [List.length_append] at hgt hm hk hl heq hx0
    have hs := swap_eq (a := A.length) (b := m) (n := Y.length) (A := A) (X := X1) (C := X2) (Y := Y) (B := B) (by simpa using hl') rfl hX1 rfl (by omega)
    have hi := ih X2 X1 (A ++ Y) B (by omega) (by intro e; subst e; simp at hgt; omega) (by intro e; subst e; simp at hX1; omega) (by simp only [List.length_append]; omega) (by simp only [List.length_append]; omega)
    rw [loopO_on (s' := ((X2.length : Int), (X1.length : Int), (A ++ Y) ++ (X2 ++ (X1 ++ B)))), hi]
    ·simp
    ·have hg : decide (((X1 ++ X2).length : Int) > (Y.length : Int)) = true := by simp; omega
     have e3 : IntKind.wrap .i64 (((X1 ++ X2).length : Int) - (Y.length : Int)) = (X2.length : Int) := wN (by simp; omega) (by omega)
     have e4 : A ++ (X1 ++ X2 ++ (Y ++ B)) = A ++ (X1 ++ (X2 ++ (Y ++ B))) := by simp
     simp only [hne, if_true, hg, ew, e4, hs, Option.bind_some, e3, hX1, Option.some.injEq, Sum.inl.injEq, Prod.mk.injEq, true_and]
     simp
   ·obtain ⟨Y1, Y2, rfl, hY2⟩ : ∃ Y1 Y2, Y = Y1 ++ Y2 ∧ Y2.length = X.length := ⟨Y.take (Y.length - X.length), Y.drop (Y.length - X.length), (List.take_append_drop _ _).symm, by rw [List.length_drop]; omega⟩
    simp only [List.length_append] at hgt hk hl heq hy0
    have hs := swap_eq (a := A.length) (b := A.length + X.length + Y1.length) (n := X.length) (A := A) (X := X) (C := Y1) (Y := Y2) (B := B) (by simpa using hl') rfl rfl hY2 rfl
    have hi := ih Y2 Y1 A (X ++ B) (by omega) (by intro e; subst e; simp at hY2; omega) (by intro e; subst e; simp at heq; omega) (by omega) (by simp only [List.length_append]; omega)
    rw [loopO_on (s' := ((Y2.length : Int), (Y1.length : Int), A ++ (Y2 ++ (Y1 ++ (X ++ B))))), hi]
    ·simp
    ·have hg : decide ((X.length : Int) > ((Y1 ++ Y2).length : Int)) = false := by simp; omega
     have e3 : IntKind.wrap .i64 (((Y1 ++ Y2).length : Int) - (X.length : Int)) = (Y1.length : Int) := wN (by simp; omega) (by omega)
     have e4 : A ++ (X ++ (Y1 ++ Y2 ++ B)) = A ++ (X ++ (Y1 ++ (Y2 ++ B))) := by simp
     have e5 : IntKind.wrap .i64 ((m : Int) + ((Y1 ++ Y2).length : Int)) = ((m + Y1.length + X.length : Nat) : Int) := wN (by simp; omega) (by omega)
     have e6 : IntKind.wrap .i64 (((m + Y1.length + X.length : Nat) : Int) - (X.length : Int)) = ((A.length + X.length + Y1.length : Nat) : Int) := wN (by omega) (by omega)
     simp only [hne, if_true, hg, Bool.false_eq_true, if_false, ew, e4, e5, e6, hs, Option.bind_some, e3, hY2]
theorem rot_eq {a m b : Nat} {A X Y B : List T_api_Hold} (hl : (A ++ (X ++ (Y ++ B))).length < 1000000000) (ha : a = A.length) (hm : m = A.length + X.length) (hb : b = A.length + X.length + Y.length) (hX : X ≠ []) (hY : Y ≠ []) :
  slices_rotateCmpFunc_Hold (a : Int) (m : Int) (b : Int) (A ++ (X ++ (Y ++ B))) = some (A ++ (Y ++ (X ++ B))) := by
 have h := rot_loop (m := m) _ X Y A B (Nat.le_refl _) hX hY hm hl
 simp only [List.length_append] at hl
 unfold slices_rotateCmpFunc_Hold
 have e1 : IntKind.wrap .i64 ((m : Int) - (a : Int)) = (X.length : Int) := wN (by omega) (by omega)
 have e2 : IntKind.wrap .i64 ((b : Int) - (m : Int)) = (Y.length : Int) := wN (by omega) (by omega)
 rw [e1, e2]
 exact h
theorem bsearchG {f : Int × Int → Option ((Int × Int) ⊕ Int)} {lo hi : Nat} {lt : Nat → Bool} (hle : lo ≤ hi)
  (hin : ∀ i j : Nat, lo ≤ i → i < j → j ≤ hi → f ((i : Int), (j : Int)) = some (if lt ((i + j) / 2) = true then .inl ((((i + j) / 2 + 1 : Nat) : Int), (j : Int)) else .inl ((i : Int), (((i + j) / 2 : Nat) : Int))))
  (hout : ∀ i : Nat, f ((i : Int), (i : Int)) = some (.inr (i : Int))) :
  ∃ k : Nat, lo ≤ k ∧ k ≤ hi ∧ loopO f ((lo : Int), (hi : Int)) = some (k : Int) ∧ (lo < k → lt (k - 1) = true) ∧ (k < hi → lt k = false) := by
 have key : ∀ n i j : Nat, j - i ≤ n → lo ≤ i → i ≤ j → j ≤ hi → (lo < i → lt (i - 1) = true) → (j < hi → lt j = false) → ∃ k : Nat, lo ≤ k ∧ k ≤ hi ∧ loopO f ((i : Int), (j : Int)) = some (k : Int) ∧ (lo < k → lt (k - 1) = true) ∧ (k < hi → lt k = false) := by
  intro n
  induction n with
  | zero =>
   intro i j h1 h0 h2 h3 h4 h5
   obtain rfl : i = j := by omega
   exact ⟨i, h0, h3, loopO_out (hout i), h4, h5⟩
  | succ n ih =>
   intro i j h1 h0 h2 h3 h4 h5
   by_cases hij : i = j
   ·subst hij
    exact ⟨i, h0, h3, loopO_out (hout i), h4, h5⟩
   ·have := hin i j h0 (by omega) h3
    cases hl : lt ((i + j) / 2) with
    | true =>
     rw [hl, if_pos rfl] at this
     rw [loopO_on this]
     exact ih _ j (by omega) (by omega) (by omega) h3 (fun _ => by rw [Nat.add_sub_cancel]; exact hl) h5
    | false =>
     rw [hl, if_neg (by simp)] at this
     rw [loopO_on this]
     exact ih i _ (by omega) h0 (by omega) (by omega) h4 (fun _ => hl)
 exact key (hi - lo) lo hi (Nat.le_refl _) (Nat.le_refl _) hle (Nat.le_refl _) (by omega) (by omega)
theorem shift_up {e : Nat} {u : T_api_Hold} : ∀ (R1 A Z : List T_api_Hold) (k : Nat), k = A.length → k + R1.length = e → e < 1000000000 →
  loopO (fun (qj12 : Int × (List T_api_Hold)) => match qj12 with
    | (k13, row14) => (
     if (decide (k13 < (e : Int))) = true then
      (rdO row14 (IntKind.wrap .i64 (k13 + 1))).bind fun x15 =>
      (rdO row14 k13).bind fun x16 =>
      (rdO row14 k13).bind fun x17 =>
      (rdO (List.set row14 (Int.toNat k13) x15) (IntKind.wrap .i64 (k13 + 1))).bind fun x18 =>
      some (.inl (IntKind.wrap .i64 (k13 + 1), (List.set (List.set row14 (Int.toNat k13) x15) (Int.toNat (IntKind.wrap .i64 (k13 + 1))) x16)))
     else
      some (.inr row14) : Option ((Int × (List T_api_Hold)) ⊕ (List T_api_Hold)))) ((k : Int), A ++ u :: (R1 ++ Z)) = some (A ++ (R1 ++ u :: Z)) := by
 intro R1
 induction R1 with
 | nil =>
  intro A Z k hk he hb
  rw [loopO_out]
  have : decide ((k : Int) < (e : Int)) = false := by simp at he; simp; omega
  simp only [this, Bool.false_eq_true, if_false, List.nil_append]
 | cons r R1 ih =>
  intro A Z k hk he hb
  simp only [List.length_cons] at he
  have hd : decide ((k : Int) < (e : Int)) = true := by simp; omega
  have ew : IntKind.wrap .i64 ((k : Int) + 1) = ((k + 1 : Nat) : Int) := wN (by omega) (by omega)
  have := ih (A ++ [r]) Z (k + 1) (by simp [hk]) (by omega) hb
  rw [loopO_on (s' := (((k + 1 : Nat) : Int), (A ++ [r]) ++ u :: (R1 ++ Z))), this]
  ·simp
  ·have e1 : A ++ u :: (r :: R1 ++ Z) = A ++ u :: r :: (R1 ++ Z) := by simp
   simp only [hd, if_true, ew, e1, rd_mid hk, rd_mid2 (show k + 1 = A.length + 1 by omega), Option.bind_some, Int.toNat_natCast, set_mid hk, set_mid2 (show k + 1 = A.length + 1 by omega)]
   simp
theorem shift_down {e : Nat} {A : List T_api_Hold} {v : T_api_Hold} (he : e = A.length) : ∀ (L2 Z : List T_api_Hold) (k : Nat), k = A.length + L2.length → k < 1000000000 →
  loopO (fun (qj27 : Int × (List T_api_Hold)) => match qj27 with
     | (k28, row29) => (
      if (decide (k28 > (e : Int))) = true then
       (rdO row29 (IntKind.wrap .i64 (k28 - 1))).bind fun x30 =>
       (rdO row29 k28).bind fun x31 =>
       (rdO row29 k28).bind fun x32 =>
       (rdO (List.set row29 (Int.toNat k28) x30) (IntKind.wrap .i64 (k28 - 1))).bind fun x33 =>
       some (.inl (IntKind.wrap .i64 (k28 - 1), (List.set (List.set row29 (Int.toNat k28) x30) (Int.toNat (IntKind.wrap .i64 (k28 - 1))) x31)))
      else
       some (.inr row29) : Option ((Int × (List T_api_Hold)) ⊕ (List T_api_Hold)))) ((k : Int), A ++ (L2 ++ v :: Z)) = some (A ++ v :: (L2 ++ Z)) := by
 intro L2
 induction hn : L2.length generalizing L2 with
 | zero =>
  intro Z k hk hb
  obtain rfl : L2 = [] := List.length_eq_zero_iff.1 hn
  rw [loopO_out]
  have : decide ((k : Int) > (e : Int)) = false := by simp; omega
  simp only [this, Bool.false_eq_true, if_false, List.nil_append]
 | succ n ih =>
  intro Z k hk hb
  rcases List.eq_nil_or_concat L2 with rfl | ⟨L', z, rfl⟩
  ·simp at hn
  ·have hn' : L'.length = n := by simpa using hn
   have hd : decide ((k : Int) > (e : Int)) = true := by simp; omega
   have ew : IntKind.wrap .i64 ((k : Int) - 1) = ((A.length + n : Nat) : Int) := wN (by omega) (by omega)
   have := ih L' hn' (z :: Z) (A.length + n) rfl (by omega)
   have e1 : A ++ (L'.concat z ++ v :: Z) = (A ++ L') ++ z :: v :: Z := by simp
   have q1 : A.length + n = (A ++ L').length := by simp [hn']
   have q2 : k = (A ++ L').length + 1 := by simp [hn']; omega
   rw [loopO_on (s' := (((A.length + n : Nat) : Int), A ++ (L' ++ v :: (z :: Z)))), this]
   ·simp
   ·simp only [hd, if_true, ew, e1, rd_mid q1, rd_mid2 q2, Option.bind_some, Int.toNat_natCast, set_mid q1, set_mid2 q2]
    simp
def Ties (L R : List T_api_Hold) : Prop := ∀ u ∈ L, ∀ v ∈ R, u.f_Rank = v.f_Rank → u.f_ID < v.f_ID
theorem cut_spec {R : List T_api_Hold} (hR : Asc R) {p : T_api_Hold → Prop} (hp : ∀ x y, bef x y → p y → p x) {s : Nat} (hs : s ≤ R.length) (h1 : 0 < s → ∀ h : s - 1 < R.length, p R[s - 1]) (h2 : ∀ h : s < R.length, ¬ p R[s]) :
  (∀ x ∈ R.take s, p x) ∧ (∀ x ∈ R.drop s, ¬ p x) := by
 unfold Asc at hR
 rw [List.pairwise_iff_getElem] at hR
 constructor
 ·intro x hx
  obtain ⟨i, hi, rfl⟩ := List.getElem_of_mem hx
  simp only [List.length_take] at hi
  rw [List.getElem_take]
  by_cases e : i = s - 1
  ·subst e; exact h1 (by omega) (by omega)
  ·exact hp _ _ (hR i (s - 1) (by omega) (by omega) (by omega)) (h1 (by omega) (by omega))
 ·intro x hx
  obtain ⟨i, hi, rfl⟩ := List.getElem_of_mem hx
  simp only [List.length_drop] at hi
  rw [List.getElem_drop]
  by_cases e : i = 0
  ·subst e; exact h2 (by omega)
  ·intro hc
   exact h2 (by omega) (hp _ _ (hR s (s + i) (by omega) (by omega) (by omega)) hc)
theorem asc_app {X Y : List T_api_Hold} (h1 : Asc X) (h2 : Asc Y) (h : ∀ x ∈ X, ∀ y ∈ Y, bef x y) : Asc (X ++ Y) := List.pairwise_append.2 ⟨h1, h2, h⟩
theorem asc_cons {x : T_api_Hold} {Y : List T_api_Hold} (h2 : Asc Y) (h : ∀ y ∈ Y, bef x y) : Asc (x :: Y) := List.pairwise_cons.2 ⟨h, h2⟩
theorem asc_take {X : List T_api_Hold} (h : Asc X) (n : Nat) : Asc (X.take n) := List.Pairwise.sublist (List.take_sublist n X) h
theorem asc_drop {X : List T_api_Hold} (h : Asc X) (n : Nat) : Asc (X.drop n) := List.Pairwise.sublist (List.drop_sublist n X) h
theorem sym_one {fuel : Nat} {A R B : List T_api_Hold} {u : T_api_Hold} {a m b : Nat} (ha : a = A.length) (hm : m = A.length + 1) (hb : b = m + R.length) (hl : (A ++ ([u] ++ (R ++ B))).length < 1000000000) (hR : Asc R) (hT : Ties [u] R) :
  ∃ M, slices_symMergeCmpFunc_Hold (fuel + 1) (a : Int) (m : Int) (b : Int) (A ++ ([u] ++ (R ++ B))) = some (A ++ (M ++ B)) ∧ M.Perm ([u] ++ R) ∧ Asc M := by
 have hl' := hl
 simp only [List.length_append, List.length_cons, List.length_nil] at hl
 obtain ⟨row, hrow⟩ : ∃ row, A ++ ([u] ++ (R ++ B)) = row := ⟨_, rfl⟩
 have hga : rdO row (a : Int) = some u := by rw [← hrow]; exact rd_mid (B := R ++ B) ha
 have hgr : ∀ h (hh : h < R.length), rdO row ((m + h : Nat) : Int) = some R[h] := by
  intro h hh
  rw [rdO_at (by rw [← hrow]; simp; omega)]
  subst hrow
  congr 1
  rw [List.getElem_append_right (by omega), List.getElem_append_right (by simp; omega), List.getElem_append_left (by simp; omega)]
  congr 1
  simp; omega
 obtain ⟨k, k1, k2, k3, k4, k5⟩ := bsearchG (lo := m) (hi := b) (lt := fun h => (R[h - m]?).any fun x => decide (u.f_Rank < x.f_Rank)) (f := fun (qj5 : Int × Int) => match qj5 with
    | (i6, j7) => (
     if (decide (i6 < j7)) = true then
      (rdO row (IntKind.wrap .i64 (Int.fdiv (IntKind.wrap .u64 (IntKind.wrap .i64 (i6 + j7))) 2))).bind fun x8 =>
      (rdO row (a : Int)).bind fun x9 =>
      (hold_Cover_1 x8 x9).bind fun x10 =>
      if (decide (x10 < 0)) = true then
       some (.inl (IntKind.wrap .i64 ((IntKind.wrap .i64 (Int.fdiv (IntKind.wrap .u64 (IntKind.wrap .i64 (i6 + j7))) 2)) + 1), j7))
      else
       some (.inl (i6, IntKind.wrap .i64 (Int.fdiv (IntKind.wrap .u64 (IntKind.wrap .i64 (i6 + j7))) 2)))
     else
      some (.inr i6))) (by omega) (by
   intro i j h0 hij hj
   simp only [half hij (show j < 4611686018427387904 by omega)]
   have hq : (i + j) / 2 = m + ((i + j) / 2 - m) := by omega
   have hlt : (i + j) / 2 - m < R.length := by omega
   have hd : decide ((i : Int) < (j : Int)) = true := by simp; omega
   rw [hd, if_pos rfl, hq, hgr _ hlt, hga]
   obtain ⟨c, hc, hcd⟩ := cover_cmp R[(i + j) / 2 - m] u
   have e : IntKind.wrap .i64 (((m + ((i + j) / 2 - m) : Nat) : Int) + 1) = ((m + ((i + j) / 2 - m) + 1 : Nat) : Int) := wN (by omega) (by omega)
   simp only [Option.bind_some, hc, hcd, e, Nat.add_sub_cancel_left, List.getElem?_eq_getElem hlt, Option.any_some]
   split <;> rfl) (by
   intro i
   have hd : decide ((i : Int) < (i : Int)) = false := by simp
   simp only [hd, Bool.false_eq_true, if_false])
 obtain ⟨s, hs⟩ : ∃ s, k = m + s := ⟨k - m, by omega⟩
 subst hs
 have hsl : s ≤ R.length := by omega
 obtain ⟨c1, c2⟩ := cut_spec hR (p := fun x => u.f_Rank < x.f_Rank) (by intro x y hxy hy; unfold bef at hxy; omega) hsl (fun h0 h => by
   have := k4 (by omega)
   rw [show m + s - 1 - m = s - 1 by omega, List.getElem?_eq_getElem h] at this
   simpa using this) (fun h => by
   have := k5 (by omega)
   rw [show m + s - m = s by omega, List.getElem?_eq_getElem h] at this
   simpa using this)
 have hup := shift_up (e := a + s) (u := u) (R.take s) A (R.drop s ++ B) a ha (by rw [List.length_take]; omega) (by omega)
 refine ⟨R.take s ++ u :: R.drop s, ?_, ?_, ?_⟩
 ·rw [slices_symMergeCmpFunc_Hold]
  have e1 : (IntKind.wrap .i64 ((m : Int) - (a : Int)) == 1) = true := by rw [wN (n := 1) (by omega) (by omega)]; rfl
  have e2 : IntKind.wrap .i64 (((m + s : Nat) : Int) - 1) = ((a + s : Nat) : Int) := wN (by omega) (by omega)
  rw [if_pos e1, hrow, k3]
  simp only [Option.bind_some, e2]
  have e3 : row = A ++ u :: (R.take s ++ (R.drop s ++ B)) := by rw [← hrow, ← List.append_assoc (R.take s), List.take_append_drop]; rfl
  rw [e3, hup]
  simp
 ·have : ([u] ++ R) = u :: (R.take s ++ R.drop s) := by rw [List.take_append_drop]; rfl
  rw [this]
  exact List.perm_middle
 ·refine asc_app (asc_take hR s) (asc_cons (asc_drop hR s) fun y hy => ?_) (fun x hx y hy => ?_)
  ·have h1 := c2 y hy
   have h2 := hT u (by simp) y (List.mem_of_mem_drop hy)
   unfold bef; omega
  ·have h1 := c1 x hx
   rcases List.mem_cons.1 hy with rfl | hy
   ·exact .inl h1
   ·have h2 := c2 y hy
    unfold bef; omega
theorem sym_last {fuel : Nat} {A L B : List T_api_Hold} {v : T_api_Hold} {a m b : Nat} (ha : a = A.length) (hm : m = A.length + L.length) (hb : b = m + 1) (hl : (A ++ (L ++ ([v] ++ B))).length < 1000000000) (h1 : L.length ≠ 1) (hL : Asc L) (hT : Ties L [v]) :
  ∃ M, slices_symMergeCmpFunc_Hold (fuel + 1) (a : Int) (m : Int) (b : Int) (A ++ (L ++ ([v] ++ B))) = some (A ++ (M ++ B)) ∧ M.Perm (L ++ [v]) ∧ Asc M := by
 have hl' := hl
 simp only [List.length_append, List.length_cons, List.length_nil] at hl
 obtain ⟨row, hrow⟩ : ∃ row, A ++ (L ++ ([v] ++ B)) = row := ⟨_, rfl⟩
 have hgm : rdO row (m : Int) = some v := by rw [← hrow, ← List.append_assoc]; exact rd_mid (B := B) (by simp [hm])
 have hgl : ∀ h (hh : h < L.length), rdO row ((a + h : Nat) : Int) = some L[h] := by
  intro h hh
  rw [rdO_at (by rw [← hrow]; simp; omega)]
  subst hrow
  congr 1
  rw [List.getElem_append_right (by omega), List.getElem_append_left (by omega)]
  congr 1
  omega
 obtain ⟨k, k1, k2, k3, k4, k5⟩ := bsearchG (lo := a) (hi := m) (lt := fun h => (L[h - a]?).any fun x => !decide (x.f_Rank < v.f_Rank)) (f := fun (qj20 : Int × Int) => match qj20 with
         | (i21, j22) => (
          if (decide (i21 < j22)) = true then
           (rdO row (m : Int)).bind fun x23 =>
           (rdO row (IntKind.wrap .i64 (Int.fdiv (IntKind.wrap .u64 (IntKind.wrap .i64 (i21 + j22))) 2))).bind fun x24 =>
           (hold_Cover_1 x23 x24).bind fun x25 =>
           if (!(decide (x25 < 0))) = true then
            some (.inl (IntKind.wrap .i64 ((IntKind.wrap .i64 (Int.fdiv (IntKind.wrap .u64 (IntKind.wrap .i64 (i21 + j22))) 2)) + 1), j22))
           else
            some (.inl (i21, IntKind.wrap .i64 (Int.fdiv (IntKind.wrap .u64 (IntKind.wrap .i64 (i21 + j22))) 2)))
          else
           some (.inr i21))) (by omega) (by
   intro i j h0 hij hj
   simp only [half hij (show j < 4611686018427387904 by omega)]
   have hq : (i + j) / 2 = a + ((i + j) / 2 - a) := by omega
   have hlt : (i + j) / 2 - a < L.length := by omega
   have hd : decide ((i : Int) < (j : Int)) = true := by simp; omega
   rw [hd, if_pos rfl, hq, hgl _ hlt, hgm]
   obtain ⟨c, hc, hcd⟩ := cover_cmp v L[(i + j) / 2 - a]
   have e : IntKind.wrap .i64 (((a + ((i + j) / 2 - a) : Nat) : Int) + 1) = ((a + ((i + j) / 2 - a) + 1 : Nat) : Int) := wN (by omega) (by omega)
   simp only [Option.bind_some, hc, hcd, e, Nat.add_sub_cancel_left, List.getElem?_eq_getElem hlt, Option.any_some]
   split <;> rfl) (by
   intro i
   have hd : decide ((i : Int) < (i : Int)) = false := by simp
   simp only [hd, Bool.false_eq_true, if_false])
 obtain ⟨s, hs⟩ : ∃ s, k = a + s := ⟨k - a, by omega⟩
 subst hs
 have hsl : s ≤ L.length := by omega
 obtain ⟨c1, c2⟩ := cut_spec hL (p := fun x => ¬ x.f_Rank < v.f_Rank) (by intro x y hxy hy; unfold bef at hxy; omega) hsl (fun h0 h => by
   have := k4 (by omega)
   rw [show a + s - 1 - a = s - 1 by omega, List.getElem?_eq_getElem h] at this
   simpa using this) (fun h => by
   have := k5 (by omega)
   rw [show a + s - a = s by omega, List.getElem?_eq_getElem h] at this
   simpa using this)
 have hdn := shift_down (e := a + s) (A := A ++ L.take s) (v := v) (by rw [List.length_append, List.length_take]; omega) (L.drop s) B m (by rw [List.length_append, List.length_take, List.length_drop]; omega) (by omega)
 refine ⟨L.take s ++ v :: L.drop s, ?_, ?_, ?_⟩
 ·rw [slices_symMergeCmpFunc_Hold]
  have e1 : ¬ (IntKind.wrap .i64 ((m : Int) - (a : Int)) == 1) = true := by rw [wN (n := L.length) (by omega) (by omega)]; simp; omega
  have e2 : (IntKind.wrap .i64 ((b : Int) - (m : Int)) == 1) = true := by rw [wN (n := 1) (by omega) (by omega)]; rfl
  rw [if_neg e1, if_pos e2, hrow, k3]
  simp only [Option.bind_some]
  have e3 : row = (A ++ L.take s) ++ (L.drop s ++ v :: B) := by
   rw [← hrow, List.append_assoc, ← List.append_assoc (L.take s), List.take_append_drop]; rfl
  rw [e3, hdn]
  simp
 ·have : (L ++ [v]) = (L.take s ++ L.drop s) ++ [v] := by rw [List.take_append_drop]
  rw [this]
  exact (List.perm_middle).trans (List.perm_append_singleton v _).symm
 ·refine asc_app (asc_take hL s) (asc_cons (asc_drop hL s) fun y hy => ?_) (fun x hx y hy => ?_)
  ·have h1 := c2 y hy
   exact .inl (Classical.not_not.1 h1)
  ·have h1 := c1 x hx
   rcases List.mem_cons.1 hy with rfl | hy
   ·have h2 := hT x (List.mem_of_mem_take hx) y (by simp)
    unfold bef; omega
   ·have h2 := Classical.not_not.1 (c2 y hy)
    unfold bef; omega
theorem asc_get {X : List T_api_Hold} (h : Asc X) {i j : Nat} (hj : j < X.length) (hij : i < j) : bef (X[i]'(by omega)) X[j] := (List.pairwise_iff_getElem.1 h) i j (by omega) hj hij
theorem cut_low {L R : List T_api_Hold} (hL : Asc L) (hR : Asc R) (hT : Ties L R) {s e : Nat} (hs : s ≤ L.length) (h : 0 < s → ∀ (h1 : s - 1 < L.length) (h2 : e < R.length), ¬ (L[s - 1]).f_Rank < (R[e]).f_Rank) : ∀ u ∈ L.take s, ∀ v ∈ R.drop e, bef u v := by
 intro u hu v hv
 obtain ⟨i, hi, rfl⟩ := List.getElem_of_mem hu
 obtain ⟨j, hj, rfl⟩ := List.getElem_of_mem hv
 simp only [List.length_take, List.length_drop] at hi hj
 rw [List.getElem_take, List.getElem_drop]
 have h0 := h (by omega) (by omega) (by omega)
 have ht := hT (L[s - 1]'(by omega)) (List.getElem_mem _) (R[e]'(by omega)) (List.getElem_mem _)
 have hm : bef (L[s - 1]'(by omega)) (R[e]'(by omega)) := by unfold bef; omega
 have h1 : bef (L[i]'(by omega)) (R[e]'(by omega)) := by
  by_cases q : i = s - 1
  ·subst q; exact hm
  ·exact bef_trans (asc_get hL (by omega) (by omega)) hm
 by_cases q : j = 0
 ·subst q; exact h1
 ·exact bef_trans h1 (asc_get hR (by omega) (by omega))
theorem cut_high {L R : List T_api_Hold} (hL : Asc L) (hR : Asc R) {s e : Nat} (he : e ≤ R.length) (h : 0 < e → ∀ (h1 : s < L.length) (h2 : e - 1 < R.length), (L[s]).f_Rank < (R[e - 1]).f_Rank) : ∀ v ∈ R.take e, ∀ u ∈ L.drop s, bef v u := by
 intro v hv u hu
 obtain ⟨i, hi, rfl⟩ := List.getElem_of_mem hv
 obtain ⟨j, hj, rfl⟩ := List.getElem_of_mem hu
 simp only [List.length_take, List.length_drop] at hi hj
 rw [List.getElem_take, List.getElem_drop]
 have hm : bef (R[e - 1]'(by omega)) (L[s]'(by omega)) := .inl (h (by omega) (by omega) (by omega))
 have h1 : bef (R[i]'(by omega)) (L[s]'(by omega)) := by
  by_cases q : i = e - 1
  ·subst q; exact hm
  ·exact bef_trans (asc_get hR (by omega) (by omega)) hm
 by_cases q : j = 0
 ·subst q; exact h1
 ·exact bef_trans h1 (asc_get hL (by omega) (by omega))
theorem ties_sub {L R L' R' : List T_api_Hold} (h : Ties L R) (h1 : ∀ x ∈ L', x ∈ L) (h2 : ∀ x ∈ R', x ∈ R) : Ties L' R' := fun u hu v hv => h u (h1 u hu) v (h2 v hv)
theorem sym_spec : ∀ (fuel : Nat) (A L R B : List T_api_Hold) (a m b : Nat), a = A.length → m = A.length + L.length → b = m + R.length → (A ++ (L ++ (R ++ B))).length < 1000000000 → L.length + R.length ≤ fuel → L ≠ [] → R ≠ [] → Asc L → Asc R → Ties L R →
  ∃ M, slices_symMergeCmpFunc_Hold fuel (a : Int) (m : Int) (b : Int) (A ++ (L ++ (R ++ B))) = some (A ++ (M ++ B)) ∧ M.Perm (L ++ R) ∧ Asc M := by
 intro fuel
 induction fuel with
 | zero =>
  intro A L R B a m b _ _ _ _ hf hLn
  exact absurd (List.length_eq_zero_iff.1 (by omega : L.length = 0)) hLn
 | succ fuel ih =>
  intro A L R B a m b ha hm hb hl hf hLn hRn hL hR hT
  have hl0 : 0 < L.length := List.length_pos_iff.2 hLn
  have hr0 : 0 < R.length := List.length_pos_iff.2 hRn
  by_cases h1 : L.length = 1
  ·obtain ⟨u, rfl⟩ := List.length_eq_one_iff.1 h1
   exact sym_one ha (by simpa using hm) hb hl hR hT
  by_cases h2 : R.length = 1
  ·obtain ⟨v, rfl⟩ := List.length_eq_one_iff.1 h2
   exact sym_last ha hm (by simpa using hb) hl h1 hL hT
  have hl' := hl
  simp only [List.length_append] at hl
  obtain ⟨row, hrow⟩ : ∃ row, A ++ (L ++ (R ++ B)) = row := ⟨_, rfl⟩
  have hgl : ∀ h (hh : h < L.length), rdO row ((a + h : Nat) : Int) = some L[h] := by
   intro h hh
   rw [rdO_at (by rw [← hrow]; simp; omega)]
   subst hrow
   congr 1
   rw [List.getElem_append_right (by omega), List.getElem_append_left (by omega)]
   congr 1
   omega
  have hgr : ∀ h (hh : h < R.length), rdO row ((m + h : Nat) : Int) = some R[h] := by
   intro h hh
   rw [rdO_at (by rw [← hrow]; simp; omega)]
   subst hrow
   congr 1
   rw [List.getElem_append_right (by omega), List.getElem_append_right (by omega), List.getElem_append_left (by omega)]
   congr 1
   omega
  obtain ⟨mid, hmid⟩ : ∃ mid, mid = (a + b) / 2 := ⟨_, rfl⟩
  have hab : a < b := by omega
  have em : IntKind.wrap .i64 (Int.fdiv (IntKind.wrap .u64 (IntKind.wrap .i64 ((a : Int) + (b : Int)))) 2) = (mid : Int) := by rw [half hab (by omega), hmid]
  have en : IntKind.wrap .i64 ((mid : Int) + (m : Int)) = ((mid + m : Nat) : Int) := wN (by omega) (by omega)
  obtain ⟨st, rr, hst, hsr, hsm, hs0, hs1, hs2, hs3, hif⟩ : ∃ st rr : Nat, (a ≤ st) ∧ st ≤ rr ∧ rr ≤ mid ∧ (st = a ∨ mid + m - st = b) ∧ (rr = m ∨ mid + m - rr = m) ∧ rr ≤ m ∧ mid + m - st ≤ b ∧ ((if (decide ((m : Int) > (mid : Int))) = true then
     some (IntKind.wrap .i64 (((mid + m : Nat) : Int) - (b : Int)), (mid : Int))
    else
     some ((a : Int), (m : Int))) : Option (Int × Int)) = some ((st : Int), (rr : Int)) := by
   by_cases h : mid < m
   ·refine ⟨mid + m - b, mid, by omega, by omega, by omega, .inr (by omega), .inr (by omega), by omega, by omega, ?_⟩
    rw [if_pos (by simp; omega), wN (n := mid + m - b) (by omega) (by omega)]
   ·refine ⟨a, m, by omega, by omega, by omega, .inl rfl, .inl rfl, by omega, by omega, ?_⟩
    rw [if_neg (by simp; omega)]
  have hrr : mid + m - rr ≥ m := by omega
  obtain ⟨k, k1, k2, k3, k4, k5⟩ := bsearchG (lo := st) (hi := rr) (lt := fun c => !decide (((L[c - a]?).any fun x => (R[mid + m - 1 - c - m]?).any fun y => decide (x.f_Rank < y.f_Rank)) = true)) (f := fun (qj38 : Int × Int) => match qj38 with
     | (start39, r40) => (
      if (decide (start39 < r40)) = true then
       (rdO row (IntKind.wrap .i64 ((IntKind.wrap .i64 (((mid + m : Nat) : Int) - 1)) - (IntKind.wrap .i64 (Int.fdiv (IntKind.wrap .u64 (IntKind.wrap .i64 (start39 + r40))) 2))))).bind fun x41 =>
       (rdO row (IntKind.wrap .i64 (Int.fdiv (IntKind.wrap .u64 (IntKind.wrap .i64 (start39 + r40))) 2))).bind fun x42 =>
       (hold_Cover_1 x41 x42).bind fun x43 =>
       if (!(decide (x43 < 0))) = true then
        some (.inl (IntKind.wrap .i64 ((IntKind.wrap .i64 (Int.fdiv (IntKind.wrap .u64 (IntKind.wrap .i64 (start39 + r40))) 2)) + 1), r40))
       else
        some (.inl (start39, IntKind.wrap .i64 (Int.fdiv (IntKind.wrap .u64 (IntKind.wrap .i64 (start39 + r40))) 2)))
      else
       some (.inr start39))) hsr (by
    intro i j h0 hij hj
    simp only [half hij (show j < 4611686018427387904 by omega)]
    have hq : (i + j) / 2 = a + ((i + j) / 2 - a) := by omega
    have hc1 : (i + j) / 2 - a < L.length := by omega
    have hc2 : mid + m - 1 - (i + j) / 2 - m < R.length := by omega
    have hd : decide ((i : Int) < (j : Int)) = true := by simp; omega
    have ep : IntKind.wrap .i64 ((IntKind.wrap .i64 (((mid + m : Nat) : Int) - 1)) - (((i + j) / 2 : Nat) : Int)) = ((m + (mid + m - 1 - (i + j) / 2 - m) : Nat) : Int) := by
     have e0 : IntKind.wrap .i64 (((mid + m : Nat) : Int) - 1) = ((mid + m - 1 : Nat) : Int) := wN (by omega) (by omega)
     rw [e0]
     exact wN (by omega) (by omega)
    rw [hd, if_pos rfl, ep, hgr _ hc2]
    have e : IntKind.wrap .i64 ((((i + j) / 2 : Nat) : Int) + 1) = (((i + j) / 2 + 1 : Nat) : Int) := wN (by omega) (by omega)
    have hg2 : rdO row (((i + j) / 2 : Nat) : Int) = some L[(i + j) / 2 - a] := by have := hgl _ hc1; rwa [← hq] at this
    obtain ⟨c, hc, hcd⟩ := cover_cmp R[mid + m - 1 - (i + j) / 2 - m] L[(i + j) / 2 - a]
    simp only [Option.bind_some, hg2, hc, hcd, e, List.getElem?_eq_getElem hc1, List.getElem?_eq_getElem hc2, Option.any_some, decide_eq_true_eq]
    split <;> rfl) (by
    intro i
    have hd : decide ((i : Int) < (i : Int)) = false := by simp
    simp only [hd, Bool.false_eq_true, if_false])
  obtain ⟨s, hs⟩ : ∃ s, k = a + s := ⟨k - a, by omega⟩
  obtain ⟨e, he⟩ : ∃ e, mid + m - k = m + e := ⟨mid + m - k - m, by omega⟩
  have hsl : s ≤ L.length := by omega
  have hel : e ≤ R.length := by omega
  have hlow : ∀ u ∈ L.take s, ∀ v ∈ R.drop e, bef u v := cut_low hL hR hT hsl (fun h0 q1 q2 hc => by
   have hk : st < k := by omega
   have := k4 hk
   rw [show k - 1 - a = s - 1 by omega, show mid + m - 1 - (k - 1) - m = e by omega, List.getElem?_eq_getElem q1, List.getElem?_eq_getElem q2] at this
   simp only [Option.any_some, decide_eq_true_eq, Bool.not_eq_true', decide_eq_false_iff_not] at this
   exact this hc)
  have hhigh : ∀ v ∈ R.take e, ∀ u ∈ L.drop s, bef v u := cut_high hL hR hel (fun h0 q1 q2 => by
   have hk : k < rr := by omega
   have := k5 hk
   rw [show k - a = s by omega, show mid + m - 1 - k - m = e - 1 by omega, List.getElem?_eq_getElem q1, List.getElem?_eq_getElem q2] at this
   simpa using this)
  obtain ⟨L1, hL1⟩ : ∃ x, L.take s = x := ⟨_, rfl⟩
  obtain ⟨L2, hL2⟩ : ∃ x, L.drop s = x := ⟨_, rfl⟩
  obtain ⟨R1, hR1⟩ : ∃ x, R.take e = x := ⟨_, rfl⟩
  obtain ⟨R2, hR2⟩ : ∃ x, R.drop e = x := ⟨_, rfl⟩
  have eL : L = L1 ++ L2 := by rw [← hL1, ← hL2, List.take_append_drop]
  have eR : R = R1 ++ R2 := by rw [← hR1, ← hR2, List.take_append_drop]
  have n1 : L1.length = s := by rw [← hL1, List.length_take]; omega
  have n2 : L2.length = L.length - s := by rw [← hL2, List.length_drop]
  have n3 : R1.length = e := by rw [← hR1, List.length_take]; omega
  have n4 : R2.length = R.length - e := by rw [← hR2, List.length_drop]
  have aL1 : Asc L1 := hL1 ▸ asc_take hL s
  have aL2 : Asc L2 := hL2 ▸ asc_drop hL s
  have aR1 : Asc R1 := hR1 ▸ asc_take hR e
  have aR2 : Asc R2 := hR2 ▸ asc_drop hR e
  rw [hL1, hR2] at hlow
  rw [hR1, hL2] at hhigh
  have cL : ∀ x ∈ L1, ∀ y ∈ L2, bef x y := by have := hL; unfold Asc at this; rw [eL, List.pairwise_append] at this; exact this.2.2
  have cR : ∀ x ∈ R1, ∀ y ∈ R2, bef x y := by have := hR; unfold Asc at this; rw [eR, List.pairwise_append] at this; exact this.2.2
  have ek : IntKind.wrap .i64 (((mid + m : Nat) : Int) - (k : Int)) = ((m + e : Nat) : Int) := wN (by omega) (by omega)
  have hrot : ((if (decide ((k : Int) < (m : Int)) && (decide ((m : Int) < ((m + e : Nat) : Int)))) = true then
     (slices_rotateCmpFunc_Hold (k : Int) (m : Int) ((m + e : Nat) : Int) row).bind fun x47 =>
     some x47
    else
     some row) : Option (List T_api_Hold)) = some (A ++ (L1 ++ (R1 ++ (L2 ++ (R2 ++ B))))) := by
   by_cases hc : k < m ∧ 0 < e
   ·rw [if_pos (by simp; omega)]
    have := rot_eq (a := k) (m := m) (b := m + e) (A := A ++ L1) (X := L2) (Y := R1) (B := R2 ++ B) (by simp; omega) (by simp; omega) (by simp; omega) (by simp; omega) (by intro q; subst q; simp at n2; omega) (by intro q; subst q; simp at n3; omega)
    have er : row = (A ++ L1) ++ (L2 ++ (R1 ++ (R2 ++ B))) := by rw [← hrow, eL, eR]; simp
    rw [er, this]
    simp
   ·rw [if_neg (by simp; omega), ← hrow, eL, eR]
    by_cases q : k < m
    ·obtain rfl : R1 = [] := List.length_eq_zero_iff.1 (by omega)
     simp
    ·obtain rfl : L2 = [] := List.length_eq_zero_iff.1 (by omega)
     simp
  obtain ⟨M1, hM1, pM1, aM1⟩ : ∃ M1, ((if (decide ((a : Int) < (k : Int)) && (decide ((k : Int) < (mid : Int)))) = true then
     (slices_symMergeCmpFunc_Hold fuel (a : Int) (k : Int) (mid : Int) (A ++ (L1 ++ (R1 ++ (L2 ++ (R2 ++ B)))))).bind fun x51 =>
     some x51
    else
     some (A ++ (L1 ++ (R1 ++ (L2 ++ (R2 ++ B)))))) : Option (List T_api_Hold)) = some (A ++ (M1 ++ (L2 ++ (R2 ++ B)))) ∧ M1.Perm (L1 ++ R1) ∧ Asc M1 := by
   by_cases hc : a < k ∧ k < mid
   ·obtain ⟨M1, q1, q2, q3⟩ := ih A L1 R1 (L2 ++ (R2 ++ B)) a k mid ha (by omega) (by omega) (by simp; omega) (by omega) (by intro q; subst q; simp at n1; omega) (by intro q; subst q; simp at n3; omega) aL1 aR1 (ties_sub hT (fun x hx => by rw [eL]; simp [hx]) (fun x hx => by rw [eR]; simp [hx]))
    exact ⟨M1, by rw [if_pos (by simp; omega), q1]; rfl, q2, q3⟩
   ·refine ⟨L1 ++ R1, by rw [if_neg (by simp; omega)]; simp, List.Perm.refl _, ?_⟩
    by_cases q : a < k
    ·obtain rfl : R1 = [] := List.length_eq_zero_iff.1 (by omega)
     rw [List.append_nil]; exact aL1
    ·obtain rfl : L1 = [] := List.length_eq_zero_iff.1 (by omega)
     exact aR1
  have nM1 : M1.length = s + e := by rw [pM1.length_eq, List.length_append, n1, n3]
  obtain ⟨M2, hM2, pM2, aM2⟩ : ∃ M2, ((if (decide ((mid : Int) < ((m + e : Nat) : Int)) && (decide (((m + e : Nat) : Int) < (b : Int)))) = true then
     (slices_symMergeCmpFunc_Hold fuel (mid : Int) ((m + e : Nat) : Int) (b : Int) (A ++ (M1 ++ (L2 ++ (R2 ++ B))))).bind fun x54 =>
     some x54
    else
     some (A ++ (M1 ++ (L2 ++ (R2 ++ B))))) : Option (List T_api_Hold)) = some (A ++ (M1 ++ (M2 ++ B))) ∧ M2.Perm (L2 ++ R2) ∧ Asc M2 := by
   by_cases hc : mid < m + e ∧ m + e < b
   ·obtain ⟨M2, q1, q2, q3⟩ := ih (A ++ M1) L2 R2 B mid (m + e) b (by simp; omega) (by simp; omega) (by omega) (by simp; omega) (by omega) (by intro q; subst q; simp at n2; omega) (by intro q; subst q; simp at n4; omega) aL2 aR2 (ties_sub hT (fun x hx => by rw [eL]; simp [hx]) (fun x hx => by rw [eR]; simp [hx]))
    refine ⟨M2, ?_, q2, q3⟩
    have e1 : A ++ (M1 ++ (L2 ++ (R2 ++ B))) = (A ++ M1) ++ (L2 ++ (R2 ++ B)) := by simp
    rw [if_pos (by simp; omega), e1, q1]
    simp
   ·refine ⟨L2 ++ R2, by rw [if_neg (by simp; omega)]; simp, List.Perm.refl _, ?_⟩
    by_cases q : mid < m + e
    ·obtain rfl : R2 = [] := List.length_eq_zero_iff.1 (by omega)
     rw [List.append_nil]; exact aL2
    ·obtain rfl : L2 = [] := List.length_eq_zero_iff.1 (by omega)
     exact aR2
  refine ⟨M1 ++ M2, ?_, ?_, ?_⟩
  ·rw [slices_symMergeCmpFunc_Hold]
   have e1 : ¬ (IntKind.wrap .i64 ((m : Int) - (a : Int)) == 1) = true := by rw [wN (n := L.length) (by omega) (by omega)]; simp; omega
   have e2 : ¬ (IntKind.wrap .i64 ((b : Int) - (m : Int)) == 1) = true := by rw [wN (n := R.length) (by omega) (by omega)]; simp; omega
   rw [if_neg e1, if_neg e2]
   simp only [em, en, hif, Option.bind_some, hrow, k3, ek, hrot, hM1]
   rw [hM2]
   simp
  ·refine (pM1.append pM2).trans ?_
   rw [eL, eR]
   simp only [List.append_assoc]
   refine List.Perm.append_left L1 ?_
   rw [← List.append_assoc, ← List.append_assoc]
   exact List.Perm.append_right R2 List.perm_append_comm
  ·refine asc_app aM1 aM2 (fun x hx y hy => ?_)
   have hx := pM1.mem_iff.1 hx
   have hy := pM2.mem_iff.1 hy
   simp only [List.mem_append] at hx hy
   rcases hx with hx | hx <;> rcases hy with hy | hy
   ·exact cL x hx y hy
   ·exact hlow x hx y hy
   ·exact hhigh x hx y hy
   ·exact cR x hx y hy
inductive Chunks (bs : Nat) : List T_api_Hold → List T_api_Hold → Prop
 | last (d o : List T_api_Hold) (h : d.length ≤ bs) (p : d.Perm o) (s : Asc d) : Chunks bs d o
 | more (d o r l : List T_api_Hold) (h : d.length = bs) (p : d.Perm o) (s : Asc d) (t : Chunks bs r l) : Chunks bs (d ++ r) (o ++ l)
theorem Chunks.perm {bs : Nat} {r l : List T_api_Hold} (h : Chunks bs r l) : r.Perm l := by
 induction h with
 | last d o _ p _ => exact p
 | more d o r l _ p _ _ ih => exact p.append ih
theorem Chunks.one {bs : Nat} {r l : List T_api_Hold} (h : Chunks bs r l) (hl : r.length ≤ bs) : Asc r := by
 cases h with
 | last d o _ p s => exact s
 | more d o r l h p s t =>
  simp only [List.length_append] at hl
  obtain rfl : r = [] := List.length_eq_zero_iff.1 (by omega)
  rw [List.append_nil]; exact s
theorem ids_append {X Y : List T_api_Hold} (h : Ids (X ++ Y)) : Ids X ∧ Ids Y ∧ ∀ x ∈ X, ∀ y ∈ Y, x.f_ID < y.f_ID := by
 unfold Ids at h
 exact List.pairwise_append.1 h
theorem pass0 {n : Nat} (hn : n < 1000000) : ∀ (k : Nat) (E A : List T_api_Hold), E.length ≤ k → Ids E → n = A.length + E.length →
  ∃ E', ((loopO (fun (qj3 : Int × Int × (List T_api_Hold)) => match qj3 with
  | (a4, b5, row6) => (
   if (decide (b5 ≤ (n : Int))) = true then
    (slices_insertionSortCmpFunc_Hold a4 b5 row6).bind fun x7 =>
    some (.inl (b5, IntKind.wrap .i64 (b5 + 20), x7))
   else
    some (.inr (a4, row6)) : Option ((Int × Int × (List T_api_Hold)) ⊕ (Int × (List T_api_Hold))))) ((A.length : Int), ((A.length + 20 : Nat) : Int), A ++ E)) : Option (Int × (List T_api_Hold))).bind (fun (a8, row9) =>
 (slices_insertionSortCmpFunc_Hold a8 (n : Int) row9)) = some (A ++ E') ∧ Chunks 20 E' E := by
 intro k
 induction k with
 | zero =>
  intro E A hk hI hN
  obtain rfl : E = [] := List.length_eq_zero_iff.1 (by omega)
  rw [loopO_out (o := ((A.length : Int), A ++ []))]
  ·obtain ⟨Y, y1, y2, y3⟩ := isort_spec (A := A) (X := []) (B := []) (a := A.length) (b := n) rfl (by simpa using hN) (by simp at hN ⊢; omega) hI
   simp only [List.append_nil] at y1
   exact ⟨Y, by simpa using y1, .last _ _ (by rw [y2.length_eq]; simp) y2 y3⟩
  ·have : decide (((A.length + 20 : Nat) : Int) ≤ (n : Int)) = false := by simp at hN; simp; omega
   simp only [this, Bool.false_eq_true, if_false]
 | succ k ih =>
  intro E A hk hI hN
  by_cases h20 : 20 ≤ E.length
  ·obtain ⟨X, E2, rfl, hX⟩ : ∃ X E2, E = X ++ E2 ∧ X.length = 20 := ⟨E.take 20, E.drop 20, (List.take_append_drop _ _).symm, by rw [List.length_take]; omega⟩
   simp only [List.length_append] at hk hN
   obtain ⟨i1, i2, _⟩ := ids_append hI
   obtain ⟨Y, y1, y2, y3⟩ := isort_spec (A := A) (X := X) (B := E2) (a := A.length) (b := A.length + 20) rfl (by omega) (by simp; omega) i1
   have hY := y2.length_eq
   obtain ⟨E', e1, e2⟩ := ih E2 (A ++ Y) (by omega) i2 (by simp; omega)
   refine ⟨Y ++ E', ?_, .more _ _ _ _ (by omega) y2 y3 e2⟩
   rw [loopO_on (s' := (((A ++ Y).length : Int), (((A ++ Y).length + 20 : Nat) : Int), (A ++ Y) ++ E2)), e1]
   ·simp
   ·have hd : decide (((A.length + 20 : Nat) : Int) ≤ (n : Int)) = true := by simp; omega
    have e3 : A ++ (X ++ E2) = A ++ X ++ E2 := by simp
    have e4 : IntKind.wrap .i64 (((A.length + 20 : Nat) : Int) + 20) = (((A ++ Y).length + 20 : Nat) : Int) := wN (by simp; omega) (by simp; omega)
    have e5 : ((A.length + 20 : Nat) : Int) = (((A ++ Y).length : Nat) : Int) := by simp; omega
    simp only [hd, if_true, e3, y1, Option.bind_some, e4]
    rw [e5]
  ·rw [loopO_out (o := ((A.length : Int), A ++ E))]
   ·obtain ⟨Y, y1, y2, y3⟩ := isort_spec (A := A) (X := E) (B := []) (a := A.length) (b := n) rfl hN (by simp; omega) hI
    simp only [List.append_nil] at y1
    exact ⟨Y, by simpa using y1, .last _ _ (by rw [y2.length_eq]; omega) y2 y3⟩
   ·have : decide (((A.length + 20 : Nat) : Int) ≤ (n : Int)) = false := by simp; omega
    simp only [this, Bool.false_eq_true, if_false]
theorem ties_of {d1 d2 o1 o2 : List T_api_Hold} (p1 : d1.Perm o1) (p2 : d2.Perm o2) (h : ∀ x ∈ o1, ∀ y ∈ o2, x.f_ID < y.f_ID) : Ties d1 d2 := fun u hu v hv _ => h u (p1.mem_iff.1 hu) v (p2.mem_iff.1 hv)
theorem pass1 {n bs : Nat} (hn : n ≤ 1000) (hb0 : 0 < bs) (hb : bs ≤ 1000) : ∀ (k : Nat) (row l A : List T_api_Hold), row.length ≤ k → Chunks bs row l → Ids l → n = A.length + row.length →
  ∃ row', ((loopO (fun (qj14 : Int × Int × (List T_api_Hold)) => match qj14 with
     | (a15, b16, row17) => (
      if (decide (b16 ≤ (n : Int))) = true then
       (slices_symMergeCmpFunc_Hold 1000 a15 (IntKind.wrap .i64 (a15 + (bs : Int))) b16 row17).bind fun x18 =>
       some (.inl (b16, IntKind.wrap .i64 (b16 + (IntKind.wrap .i64 (2 * (bs : Int)))), x18))
      else
       some (.inr (a15, row17)) : Option ((Int × Int × (List T_api_Hold)) ⊕ (Int × (List T_api_Hold))))) ((A.length : Int), ((A.length + 2 * bs : Nat) : Int), A ++ row)) : Option (Int × (List T_api_Hold))).bind (fun (a19, row20) =>
    ((if (decide ((IntKind.wrap .i64 (a19 + (bs : Int))) < (n : Int))) = true then
      (slices_symMergeCmpFunc_Hold 1000 a19 (IntKind.wrap .i64 (a19 + (bs : Int))) (n : Int) row20).bind fun x22 =>
      some x22
    else
     some row20) : Option (List T_api_Hold))) = some (A ++ row') ∧ Chunks (2 * bs) row' l := by
 intro k
 induction k with
 | zero =>
  intro row l A hk hc hI hN
  obtain rfl : row = [] := List.length_eq_zero_iff.1 (by omega)
  simp only [List.length_nil, Nat.add_zero] at hN
  refine ⟨[], ?_, .last _ _ (by simp) hc.perm (by unfold Asc; simp)⟩
  rw [loopO_out (o := ((A.length : Int), A ++ []))]
  ·have ew : IntKind.wrap .i64 ((A.length : Int) + (bs : Int)) = ((A.length + bs : Nat) : Int) := wN (by omega) (by omega)
   have : decide (((A.length + bs : Nat) : Int) < (n : Int)) = false := by simp; omega
   simp only [Option.bind_some, ew, this, Bool.false_eq_true, if_false]
  ·have : decide (((A.length + 2 * bs : Nat) : Int) ≤ (n : Int)) = false := by simp; omega
   simp only [this, Bool.false_eq_true, if_false]
 | succ k ih =>
  intro row l A hk hc hI hN
  have ew : IntKind.wrap .i64 ((A.length : Int) + (bs : Int)) = ((A.length + bs : Nat) : Int) := wN (by omega) (by omega)
  have two : ∀ (d o d2 o2 r2 l2 : List T_api_Hold), row = d ++ (d2 ++ r2) → l = o ++ (o2 ++ l2) → d.length = bs → d2.length = bs → d.Perm o → d2.Perm o2 → Asc d → Asc d2 → Chunks bs r2 l2 → ∃ row', ((loopO (fun (qj14 : Int × Int × (List T_api_Hold)) => match qj14 with
     | (a15, b16, row17) => (
      if (decide (b16 ≤ (n : Int))) = true then
       (slices_symMergeCmpFunc_Hold 1000 a15 (IntKind.wrap .i64 (a15 + (bs : Int))) b16 row17).bind fun x18 =>
       some (.inl (b16, IntKind.wrap .i64 (b16 + (IntKind.wrap .i64 (2 * (bs : Int)))), x18))
      else
       some (.inr (a15, row17)) : Option ((Int × Int × (List T_api_Hold)) ⊕ (Int × (List T_api_Hold))))) ((A.length : Int), ((A.length + 2 * bs : Nat) : Int), A ++ row)) : Option (Int × (List T_api_Hold))).bind (fun (a19, row20) =>
    ((if (decide ((IntKind.wrap .i64 (a19 + (bs : Int))) < (n : Int))) = true then
      (slices_symMergeCmpFunc_Hold 1000 a19 (IntKind.wrap .i64 (a19 + (bs : Int))) (n : Int) row20).bind fun x22 =>
      some x22
    else
     some row20) : Option (List T_api_Hold))) = some (A ++ row') ∧ Chunks (2 * bs) row' l := by
   intro d o d2 o2 r2 l2 er el h1 h2 p1 p2 s1 s2 t2
   subst er; subst el
   simp only [List.length_append] at hk hN
   obtain ⟨i1, i2, i3⟩ := ids_append hI
   obtain ⟨i4, i5, i6⟩ := ids_append i2
   obtain ⟨M, m1, m2, m3⟩ := sym_spec 1000 A d d2 r2 A.length (A.length + bs) (A.length + 2 * bs) rfl (by omega) (by omega) (by simp; omega) (by omega) (by intro e; subst e; simp at h1; omega) (by intro e; subst e; simp at h2; omega) s1 s2 (ties_of p1 p2 (fun x hx y hy => i3 x hx y (by simp [hy])))
   have hM : M.length = 2 * bs := by rw [m2.length_eq]; simp; omega
   obtain ⟨row', e1, e2⟩ := ih r2 l2 (A ++ M) (by omega) t2 i5 (by simp; omega)
   refine ⟨M ++ row', ?_, ?_⟩
   ·rw [loopO_on (s' := (((A ++ M).length : Int), (((A ++ M).length + 2 * bs : Nat) : Int), (A ++ M) ++ r2)), e1]
    ·simp
    ·have hd : decide (((A.length + 2 * bs : Nat) : Int) ≤ (n : Int)) = true := by simp; omega
     have e3 : IntKind.wrap .i64 (2 * (bs : Int)) = ((2 * bs : Nat) : Int) := wN (by omega) (by omega)
     have e4 : IntKind.wrap .i64 (((A.length + 2 * bs : Nat) : Int) + ((2 * bs : Nat) : Int)) = (((A ++ M).length + 2 * bs : Nat) : Int) := wN (by simp; omega) (by simp; omega)
     have e5 : ((A.length + 2 * bs : Nat) : Int) = (((A ++ M).length : Nat) : Int) := by simp; omega
     simp only [hd, if_true, ew, m1, Option.bind_some, e3, e4]
     rw [e5]
     simp
   ·have : o ++ (o2 ++ l2) = (o ++ o2) ++ l2 := by simp
    rw [this]
    exact .more _ _ _ _ hM (m2.trans (p1.append p2)) m3 e2
  cases hc with
  | last d o h p s =>
   refine ⟨row, ?_, .last _ _ (by omega) p s⟩
   rw [loopO_out (o := ((A.length : Int), A ++ row))]
   ·have : decide (((A.length + bs : Nat) : Int) < (n : Int)) = false := by simp; omega
    simp only [Option.bind_some, ew, this, Bool.false_eq_true, if_false]
   ·have : decide (((A.length + 2 * bs : Nat) : Int) ≤ (n : Int)) = false := by simp; omega
    simp only [this, Bool.false_eq_true, if_false]
  | more d o r l h p s t =>
   cases t with
   | more d2 o2 r2 l2 h2 p2 s2 t2 => exact two d o d2 o2 r2 l2 rfl rfl h h2 p p2 s s2 t2
   | last _ _ h2 p2 s2 =>
    by_cases hw : r.length = bs
    ·exact two d o r l [] [] (by simp) (by simp) h hw p p2 s s2 (.last _ _ (by simp) (List.Perm.refl _) (by unfold Asc; simp))
    ·simp only [List.length_append] at hk hN
     have hlen := p2.length_eq
     have hout : ∀ Z : List T_api_Hold, (fun (qj14 : Int × Int × (List T_api_Hold)) => match qj14 with
     | (a15, b16, row17) => (
      if (decide (b16 ≤ (n : Int))) = true then
       (slices_symMergeCmpFunc_Hold 1000 a15 (IntKind.wrap .i64 (a15 + (bs : Int))) b16 row17).bind fun x18 =>
       some (.inl (b16, IntKind.wrap .i64 (b16 + (IntKind.wrap .i64 (2 * (bs : Int)))), x18))
      else
       some (.inr (a15, row17)) : Option ((Int × Int × (List T_api_Hold)) ⊕ (Int × (List T_api_Hold))))) ((A.length : Int), ((A.length + 2 * bs : Nat) : Int), Z) = some (.inr ((A.length : Int), Z)) := fun Z => by
      have : decide (((A.length + 2 * bs : Nat) : Int) ≤ (n : Int)) = false := by simp; omega
      simp only [this, Bool.false_eq_true, if_false]
     rw [loopO_out (hout _)]
     by_cases h0 : r = []
     ·subst h0
      obtain rfl : l = [] := List.length_eq_zero_iff.1 (by simpa using hlen.symm)
      refine ⟨d, ?_, by rw [List.append_nil]; exact .last _ _ (by omega) p s⟩
      have : decide (((A.length + bs : Nat) : Int) < (n : Int)) = false := by simp at hN; simp; omega
      simp only [Option.bind_some, ew, this, Bool.false_eq_true, if_false, List.append_nil]
     ·have hr0 : 0 < r.length := List.length_pos_iff.2 h0
      obtain ⟨i1, i2, i3⟩ := ids_append hI
      obtain ⟨M, m1, m2, m3⟩ := sym_spec 1000 A d r [] A.length (A.length + bs) n rfl (by omega) (by omega) (by simp; omega) (by omega) (by intro e; subst e; simp at h; omega) h0 s s2 (ties_of p p2 i3)
      have hM := m2.length_eq
      simp only [List.length_append] at hM
      refine ⟨M, ?_, .last _ _ (by omega) (m2.trans (p.append p2)) m3⟩
      have hd : decide (((A.length + bs : Nat) : Int) < (n : Int)) = true := by simp; omega
      rw [List.append_nil, List.append_nil] at m1
      simp only [Option.bind_some, ew, hd, if_true, m1]
theorem stable_spec {l : List T_api_Hold} (hn : l.length ≤ 500) (hI : Ids l) : ∃ r, slices_SortStableFunc_Hold_Hold l = some r ∧ r.Perm l ∧ Asc r := by
 have key : ∀ (k bs : Nat) (row : List T_api_Hold), l.length - bs ≤ k → 0 < bs → bs ≤ 1000 → Chunks bs row l → ∃ r, loopO (fun (qj11 : Int × (List T_api_Hold)) => match qj11 with
  | (blockSize12, row13) => (
   if (decide (blockSize12 < (l.length : Int))) = true then
    ((loopO (fun (qj14 : Int × Int × (List T_api_Hold)) => match qj14 with
      | (a15, b16, row17) => (
       if (decide (b16 ≤ (l.length : Int))) = true then
        (slices_symMergeCmpFunc_Hold 1000 a15 (IntKind.wrap .i64 (a15 + blockSize12)) b16 row17).bind fun x18 =>
        some (.inl (b16, IntKind.wrap .i64 (b16 + (IntKind.wrap .i64 (2 * blockSize12))), x18))
       else
        some (.inr (a15, row17)) : Option ((Int × Int × (List T_api_Hold)) ⊕ (Int × (List T_api_Hold))))) (0, IntKind.wrap .i64 (2 * blockSize12), row13)) : Option (Int × (List T_api_Hold))).bind fun (a19, row20) =>
    ((if (decide ((IntKind.wrap .i64 (a19 + blockSize12)) < (l.length : Int))) = true then
      (slices_symMergeCmpFunc_Hold 1000 a19 (IntKind.wrap .i64 (a19 + blockSize12)) (l.length : Int) row20).bind fun x22 =>
      some x22
    else
     some row20) : Option (List T_api_Hold)).bind fun j21 =>
    some (.inl (IntKind.wrap .i64 (blockSize12 * 2), j21))
   else
    some (.inr row13) : Option ((Int × (List T_api_Hold)) ⊕ (List T_api_Hold)))) ((bs : Int), row) = some r ∧ r.Perm l ∧ Asc r := by
  intro k
  induction k with
  | zero =>
   intro bs row hk h0 hb hc
   have hp := hc.perm
   have hlen := hp.length_eq
   refine ⟨row, ?_, hp, hc.one (by omega)⟩
   rw [loopO_out]
   have : decide ((bs : Int) < (l.length : Int)) = false := by simp; omega
   simp only [this, Bool.false_eq_true, if_false]
  | succ k ih =>
   intro bs row hk h0 hb hc
   have hp := hc.perm
   have hlen := hp.length_eq
   by_cases hlt : bs < l.length
   ·obtain ⟨row', e1, e2⟩ := pass1 (n := l.length) (bs := bs) (by omega) h0 hb row.length row l [] (Nat.le_refl _) hc hI (by simp [hlen])
    obtain ⟨r, r1, r2, r3⟩ := ih (2 * bs) row' (by omega) (by omega) (by omega) e2
    refine ⟨r, ?_, r2, r3⟩
    rw [← r1, loopO_on]
    have hd : decide ((bs : Int) < (l.length : Int)) = true := by simp; omega
    have e3 : IntKind.wrap .i64 (2 * (bs : Int)) = ((2 * bs : Nat) : Int) := wN (by omega) (by omega)
    have e4 : IntKind.wrap .i64 ((bs : Int) * 2) = ((2 * bs : Nat) : Int) := wN (by omega) (by omega)
    have e5 : (([] : List T_api_Hold).length : Int) = 0 := rfl
    have e6 : ((([] : List T_api_Hold).length + 2 * bs : Nat) : Int) = ((2 * bs : Nat) : Int) := by simp
    rw [e5, e6, List.nil_append, List.nil_append] at e1
    simp only [hd, if_true]
    rw [e4]
    rw [e3] at e1 ⊢
    generalize hL : loopO (fun (qj14 : Int × Int × (List T_api_Hold)) => _) ((0 : Int), ((2 * bs : Nat) : Int), row) = L at e1 ⊢
    cases L with
    | none => cases e1
    | some q =>
     simp only [Option.bind_some] at e1 ⊢
     rw [e1]
     rfl
   ·refine ⟨row, ?_, hp, hc.one (by omega)⟩
    rw [loopO_out]
    have : decide ((bs : Int) < (l.length : Int)) = false := by simp; omega
    simp only [this, Bool.false_eq_true, if_false]
 unfold slices_SortStableFunc_Hold_Hold slices_stableCmpFunc_Hold
 obtain ⟨E', e1, e2⟩ := pass0 (n := l.length) (by omega) l.length l [] (Nat.le_refl _) hI (by simp)
 obtain ⟨r, r1, r2, r3⟩ := key l.length 20 E' (by omega) (by omega) (by omega) e2
 refine ⟨r, ?_, r2, r3⟩
 have e5 : (([] : List T_api_Hold).length : Int) = 0 := rfl
 have e6 : ((([] : List T_api_Hold).length + 20 : Nat) : Int) = 20 := rfl
 rw [e5, e6, List.nil_append, List.nil_append] at e1
 have e7 : ((20 : Nat) : Int) = 20 := rfl
 rw [e7] at r1
 generalize hL : loopO (fun (qj3 : Int × Int × (List T_api_Hold)) => _) ((0 : Int), (20 : Int), l) = L at e1 ⊢
 cases L with
 | none => cases e1
 | some q =>
  simp only [Option.bind_some] at e1 ⊢
  rw [e1]
  simp only [Option.bind_some]
  rw [r1]
  rfl
end Go.Av.G
end
section
set_option linter.unusedVariables false
set_option linter.unusedSimpArgs false
set_option maxRecDepth 4000
set_option maxHeartbeats 4000000
namespace Go.Av.G
open Go Go.Av Go.Proofs
def withH (t : T_api_Till) (l : List T_api_Hold) : T_api_Till := ⟨t.f_Chart, t.f_L, l, t.f_Limits⟩
def noT : T_api_Till := ⟨⟨[], []⟩, [], [], []⟩
theorem few_with {t : T_api_Till} (hf : FewT t) {l : List T_api_Hold} (hl : l.length ≤ 100) : FewT (withH t l) := ⟨hf.chart, hf.legs, hl, hf.limits⟩
theorem right_with {t : T_api_Till} (hr : RightT t) {l : List T_api_Hold} (hl : GoodL l) : RightT (withH t l) := ⟨hr.chart, hr.few, hl, hr.limits⟩
theorem rec_with (t : T_api_Till) (l : List T_api_Hold) (acc : Int) : recT (withH t l) acc = recT t acc := rfl
theorem free_with (t : T_api_Till) (l : List T_api_Hold) (acc now rank : Int) : freeT (withH t l) acc now rank = fundsT t acc now + limR t.f_Limits acc - sumL l acc (recT t acc).f_Cur now rank := rfl
end Go.Av.G
end
section
set_option linter.unusedVariables false
set_option linter.unusedSimpArgs false
set_option maxRecDepth 4000
set_option maxHeartbeats 4000000
namespace Go.Av.G
open Go Go.Av Go.Proofs
theorem cloneN {α : Type} {n : Nat} {l : List α} (h : l.length * n ≤ 140737488355328) : slices_Clone n l = some l := by
 unfold slices_Clone
 rw [if_pos h]
theorem with_loop {l : List T_api_Posting} (hl : FitL l) :
  loopO (fun (qj5 : Int × (List T_api_Posting)) => match qj5 with
  | (x6, row7) => (
   if (decide (x6 < (l.length : Int))) = true then
    (rdO l x6).bind fun x8 =>
    (slices_Clone 24 x8.f_Legs).bind fun x9 =>
    (apO 72 row7 [(⟨x8.f_ID, x8.f_Known, x8.f_Value, x9, x8.f_Reverses, x8.f_Kind, x8.f_Memo⟩ : T_api_Posting)]).bind fun x10 =>
    some (.inl (IntKind.wrap .i64 (x6 + 1), x10))
   else
    some (.inr row7) : Option ((Int × (List T_api_Posting)) ⊕ (List T_api_Posting)))) (0, ([] : List T_api_Posting)) = some (l.map fun x => x) := by
 have hm : (l.map fun x => x) = l.foldl (fun s x => s ++ [x]) [] := by rw [foldl_map (fun x : T_api_Posting => x)]; rfl
 have hn := hl.few
 rw [hm, loopL_fold (l := l) (fun s x => s ++ [x]) (fun s => s) (by omega)]
 ·intro i h
  have hc : slices_Clone 24 (l[i]).f_Legs = some (l[i]).f_Legs := by
   refine cloneN ?_
   have := hl.legs _ (List.getElem_mem h)
   omega
  have hap : ∀ x, apO 72 ((l.take i).foldl (fun s x => s ++ [x]) []) [x] = some ((l.take i).foldl (fun s x => s ++ [x]) [] ++ [x]) := by
   intro x
   refine apO_eq ?_
   rw [foldl_map (fun x : T_api_Posting => x)]
   simp
   omega
  simp only [decide_eq_true_eq]
  rw [if_pos (by omega), rdO_at h]
  simp only [Option.bind_some, hc, hap]
 ·simp only [decide_eq_true_eq]
  rw [if_neg (by omega)]
theorem with_eq {t : T_api_Till} (hf : FewT t) (hr : RightT t) {l : List T_api_Hold} (hl : l.length ≤ 200) : avail_with t l = some (withH t l) := by
 have h1 := hf.chart.1
 have h2 := hf.chart.2.1
 have h3 := hf.limits
 unfold avail_with
 rw [cloneN (n := 32) (l := t.f_Chart.f_Customers) (by omega), cloneN (n := 56) (l := t.f_Chart.f_Records) (by omega)]
 simp only [Option.bind_some]
 refine bind_at (with_loop (hf.legs hr.few)) ?_
 rw [cloneN (n := 64) (l := l) (by omega), cloneN (n := 16) (l := t.f_Limits) (by omega)]
 simp only [Option.bind_some, List.map_id']
 rfl
def placeT (t : T_api_Till) (h : T_api_Hold) : T_api_Till × Bool × Int :=
 if (addH t.f_Holds h).2 ≠ 0 then (noT, false, (addH t.f_Holds h).2)
 else if whyT t h.f_Acc h.f_Made ≠ 0 then (noT, false, whyT t h.f_Acc h.f_Made)
 else if h.f_Amount.f_Cur ≠ (recT t h.f_Acc).f_Cur then (noT, false, 12)
 else if freeT t h.f_Acc h.f_Made h.f_Rank < h.f_Amount.f_Minor then (t, false, 0)
 else (withH t (addH t.f_Holds h).1, true, 0)
theorem addH_few (l : List T_api_Hold) (h : T_api_Hold) : (addH l h).1.length ≤ l.length + 1 := by
 unfold addH
 split
 ·simp
 ·split
  ·simp
  ·split
   ·simp
   ·rw [insH_length]; exact Nat.le_refl _
theorem Place_bad {t : T_api_Till} (hf : FewT t) (hr : ¬ RightT t) (h : T_api_Hold) : avail_Place t h = some (noT, false, 1) := by
 unfold avail_Place
 rw [ARight_not hf hr]
 rfl
theorem Place_at {t : T_api_Till} (hf : FewT t) (hr : RightT t) (h : T_api_Hold) : avail_Place t h = some (placeT t h) := by
 obtain ⟨a, ha, hv⟩ := ask_spec hf hr h.f_Acc h.f_Made
 have hh := hf.holds
 have hl := addH_few t.f_Holds h
 unfold avail_Place placeT
 rw [ARight_at hf hr]
 simp only [Option.bind_some, Bool.not_true, Bool.false_eq_true, if_false, add_eq hr.holds]
 by_cases hb : (addH t.f_Holds h).2 = 0
 ·have hb' : ((addH t.f_Holds h).2 != 0) = false := by simpa using hb
  rw [if_neg (not_not_intro hb)]
  simp only [hb', Bool.false_eq_true, if_false, ha, Option.bind_some]
  by_cases hw : whyT t h.f_Acc h.f_Made = 0
  ·obtain rfl := hv hw
   rw [if_pos hw, if_neg (not_not_intro hw)]
   simp only [Option.isSome_none, Bool.false_eq_true, if_false]
   by_cases hc : h.f_Amount.f_Cur = (recT t h.f_Acc).f_Cur
   ·have hc' : (h.f_Amount.f_Cur != (recT t h.f_Acc).f_Cur) = false := by simpa using hc
    rw [if_neg (not_not_intro hc)]
    simp only [hc', Bool.false_eq_true, if_false, free_eq hf hr hw, Option.bind_some, decide_eq_true_eq]
    by_cases hm : freeT t h.f_Acc h.f_Made h.f_Rank < h.f_Amount.f_Minor
    ·rw [if_pos hm, if_pos hm, with_eq hf hr (by omega)]
     rfl
    ·rw [if_neg hm, if_neg hm, with_eq hf hr (by omega)]
     rfl
   ·have hc' : (h.f_Amount.f_Cur != (recT t h.f_Acc).f_Cur) = true := by simpa using hc
    rw [if_pos hc]
    simp only [hc', if_true]
    rfl
  ·rw [if_neg hw, if_pos hw]
   simp only [Option.isSome_some, if_true, avail_whyOf, Option.getD_some, Option.bind_some]
   rfl
 ·have hb' : ((addH t.f_Holds h).2 != 0) = true := by simpa using hb
  rw [if_pos hb]
  simp only [hb', if_true]
  rfl
end Go.Av.G
end
section
set_option linter.unusedVariables false
set_option linter.unusedSimpArgs false
set_option maxRecDepth 4000
set_option maxHeartbeats 4000000
namespace Go.Av.G
open Go Go.Av Go.Proofs
theorem bef_irr {x : T_api_Hold} : ¬ bef x x := by unfold bef; omega
theorem bef_asymm {x y : T_api_Hold} (h : bef x y) : ¬ bef y x := by unfold bef at *; omega
theorem asc_unique : ∀ {l m : List T_api_Hold}, l.Perm m → Asc l → Asc m → l = m
 | [], m, p, _, _ => (List.Perm.nil_eq p)
 | x :: t, [], p, _, _ => by have := p.length_eq; simp at this
 | x :: t, y :: s, p, h1, h2 => by
  unfold Asc at h1 h2
  rw [List.pairwise_cons] at h1 h2
  have hx : x ∈ y :: s := p.mem_iff.1 (by simp)
  have hy : y ∈ x :: t := p.mem_iff.2 (by simp)
  have e : x = y := by
   rcases List.mem_cons.1 hx with e | hx
   ·exact e
   ·rcases List.mem_cons.1 hy with e | hy
    ·exact e.symm
    ·exact absurd (h1.1 y hy) (bef_asymm (h2.1 x hx))
  subst e
  rw [asc_unique (List.Perm.cons_inv p) h1.2 h2.2]
def lesser (a b : Int) : Int := if a < b then a else b
def covL (now : Int) : Int → List T_api_Hold → List T_api_Covered
 | _, [] => []
 | left, h :: t => ⟨h.f_ID, lesser (restH h now) left⟩ :: covL now (left - lesser (restH h now) left) t
def covR (now : Int) : Int → List T_api_Hold → Int
 | left, [] => left
 | left, h :: t => covR now (left - lesser (restH h now) left) t
theorem lesser_range {a b : Int} (ha : 0 ≤ a) (hb : 0 ≤ b) : 0 ≤ lesser a b ∧ lesser a b ≤ b ∧ lesser a b ≤ a := by unfold lesser; split <;> omega
theorem covL_length (now : Int) : ∀ (l : List T_api_Hold) (left : Int), (covL now left l).length = l.length
 | [], _ => rfl
 | h :: t, left => by simp [covL, covL_length now t]
theorem covL_append (now : Int) : ∀ (a b : List T_api_Hold) (left : Int), covL now left (a ++ b) = covL now left a ++ covL now (covR now left a) b
 | [], _, _ => rfl
 | h :: t, b, left => by simp [covL, covR, covL_append now t b]
theorem cov_loop {now : Int} {r : List T_api_Hold} (hn : r.length ≤ 1000) : ∀ (t pre : List T_api_Hold) (left : Int) (row : List T_api_Covered), r = pre ++ t → 0 ≤ left → left < 9223372036854775808 → row.length = pre.length →
  loopO (fun (qj9 : Int × (List T_api_Hold) × Int × (List T_api_Covered)) => match qj9 with
   | (left10, x11, x12, row13) => (
    if (decide (x12 < (r.length : Int))) = true then
     (rdO x11 x12).bind fun x14 =>
     (hold_Rest x14 now).bind fun x15 =>
     (apO 16 row13 [(⟨x14.f_ID, (if x15 < left10 then x15 else left10)⟩ : T_api_Covered)]).bind fun x16 =>
     some (.inl (IntKind.wrap .i64 (left10 - (if x15 < left10 then x15 else left10)), x11, IntKind.wrap .i64 (x12 + 1), x16))
    else
     some (.inr row13) : Option ((Int × (List T_api_Hold) × Int × (List T_api_Covered)) ⊕ (List T_api_Covered)))) (left, r, ((pre.length : Nat) : Int), row) = some (row ++ covL now left t) := by
 intro t
 induction t with
 | nil =>
  intro pre left row hr _ _ _
  rw [loopO_out (o := row)]
  ·simp [covL]
  ·have : decide ((pre.length : Int) < (r.length : Int)) = false := by rw [hr]; simp
   simp only [this, Bool.false_eq_true, if_false]
 | cons h t ih =>
  intro pre left row hr h0 h1 hl
  have hlen : r.length = pre.length + (t.length + 1) := by rw [hr]; simp
  have hq := lesser_range (restH_range h now).1 h0
  have hd : decide ((pre.length : Int) < (r.length : Int)) = true := by simp; omega
  have e1 : IntKind.wrap .i64 ((pre.length : Int) + 1) = ((pre.length + 1 : Nat) : Int) := wN (by omega) (by omega)
  have e2 : IntKind.wrap .i64 (left - lesser (restH h now) left) = left - lesser (restH h now) left := wrap64 (by omega) (by omega)
  have hx : rdO r (pre.length : Int) = some h := by rw [hr]; exact rd_mid rfl
  have := ih (pre ++ [h]) (left - lesser (restH h now) left) (row ++ [⟨h.f_ID, lesser (restH h now) left⟩]) (by simp [hr]) (by omega) (by omega) (by simp [hl])
  rw [loopO_on (s' := (left - lesser (restH h now) left, r, (((pre ++ [h]).length : Nat) : Int), row ++ [⟨h.f_ID, lesser (restH h now) left⟩])), this]
  ·simp [covL]
  ·have ea : apO 16 row [(⟨h.f_ID, lesser (restH h now) left⟩ : T_api_Covered)] = some (row ++ [⟨h.f_ID, lesser (restH h now) left⟩]) := apO_eq (by simp; omega)
   unfold lesser at ea e2
   simp only [hd, if_true, hx, Option.bind_some, rest_eq, ea, e1, e2]
   unfold lesser
   simp
theorem collect_fold : ∀ (l s : List T_api_Hold), s.length + l.length ≤ 1000 → foldO (fun s x => apO 64 s [x]) s l = some (s ++ l)
 | [], s, _ => by simp [foldO]
 | h :: t, s, hl => by
  simp only [List.length_cons] at hl
  simp only [foldO]
  rw [apO_eq (by simp; omega)]
  simp only [Option.bind_some]
  rw [collect_fold t (s ++ [h]) (by simp; omega)]
  simp
theorem collect_eq {l : List T_api_Hold} (hn : l.length ≤ 500) (acc cur now : Int) : hold_collect l acc cur now = some (l.filter (selB acc cur now)) := by
 unfold hold_collect
 rw [those_eq (by omega)]
 simp only [Option.bind_some]
 have := List.length_filter_le (selB acc cur now) l
 rw [collect_fold _ _ (by simp; omega), List.nil_append]
def byRank (s : List T_api_Hold) : Nat → List T_api_Hold
 | 0 => s.filter fun h => h.f_Rank == 0
 | k + 1 => (s.filter fun h => h.f_Rank == ((k + 1 : Nat) : Int)) ++ byRank s k
theorem byRank_mem {s : List T_api_Hold} : ∀ {k : Nat} {x : T_api_Hold}, x ∈ byRank s k → x ∈ s ∧ 0 ≤ x.f_Rank ∧ x.f_Rank ≤ k
 | 0, x, h => by
  simp only [byRank, List.mem_filter, beq_iff_eq] at h
  exact ⟨h.1, by omega, by omega⟩
 | k + 1, x, h => by
  simp only [byRank, List.mem_append, List.mem_filter, beq_iff_eq] at h
  rcases h with h | h
  ·exact ⟨h.1, by omega, by omega⟩
  ·have := byRank_mem h
   exact ⟨this.1, this.2.1, by omega⟩
theorem asc_rank {s : List T_api_Hold} (h : Ids s) (k : Int) : Asc (s.filter fun h => h.f_Rank == k) := by
 unfold Asc
 rw [List.pairwise_filter]
 exact List.Pairwise.imp (fun {a b} hab ha hb => by
  simp only [beq_iff_eq] at ha hb
  exact .inr ⟨by omega, hab⟩) h
theorem asc_byRank {s : List T_api_Hold} (h : Ids s) : ∀ k : Nat, Asc (byRank s k)
 | 0 => asc_rank h 0
 | k + 1 => by
  refine asc_app (asc_rank h _) (asc_byRank h k) (fun x hx y hy => ?_)
  have hy := byRank_mem hy
  simp only [List.mem_filter, beq_iff_eq] at hx
  exact .inl (by omega)
theorem perm_byRank (s : List T_api_Hold) : ∀ k : Nat, (byRank s k).Perm (s.filter fun h => decide (0 ≤ h.f_Rank ∧ h.f_Rank ≤ (k : Int)))
 | 0 => by
  have : (fun h : T_api_Hold => h.f_Rank == 0) = fun h => decide (0 ≤ h.f_Rank ∧ h.f_Rank ≤ ((0 : Nat) : Int)) := by
   funext h
   rw [Bool.eq_iff_iff]
   simp
   omega
  rw [byRank, this]
 | k + 1 => by
  rw [byRank]
  refine (List.Perm.append_left _ (perm_byRank s k)).trans ?_
  have h1 : (s.filter fun h => h.f_Rank == ((k + 1 : Nat) : Int)) = (s.filter fun h => decide (0 ≤ h.f_Rank ∧ h.f_Rank ≤ ((k + 1 : Nat) : Int))).filter fun h => h.f_Rank == ((k + 1 : Nat) : Int) := by
   rw [List.filter_filter]
   congr 1
   funext h
   rw [Bool.eq_iff_iff]
   simp
   omega
  have h2 : (s.filter fun h => decide (0 ≤ h.f_Rank ∧ h.f_Rank ≤ (k : Int))) = (s.filter fun h => decide (0 ≤ h.f_Rank ∧ h.f_Rank ≤ ((k + 1 : Nat) : Int))).filter fun h => !(h.f_Rank == ((k + 1 : Nat) : Int)) := by
   rw [List.filter_filter]
   congr 1
   funext h
   rw [Bool.eq_iff_iff]
   simp
   omega
  rw [h1, h2]
  exact List.filter_append_perm _ _
theorem sel_rank {l : List T_api_Hold} {acc cur now : Int} {x : T_api_Hold} (h : x ∈ l.filter (selB acc cur now)) : 0 ≤ x.f_Rank ∧ x.f_Rank ≤ 9 := by
 rw [List.mem_filter] at h
 have := h.2
 unfold selB at this
 simp only [Bool.and_eq_true] at this
 have := okH_spec (live_ok this.2.2)
 omega
theorem byRank_all {s : List T_api_Hold} (h : ∀ x ∈ s, 0 ≤ x.f_Rank ∧ x.f_Rank ≤ 9) : (byRank s 9).Perm s := by
 refine (perm_byRank s 9).trans ?_
 rw [List.filter_eq_self.2 (fun x hx => by have := h x hx; simp; omega)]
theorem cover_eq {l : List T_api_Hold} (hg : GoodL l) {funds : Int} (hf : funds < 9223372036854775808) (acc cur now : Int) :
  hold_Cover l acc cur now funds = some (covL now (if 0 > funds then 0 else funds) (byRank (l.filter (selB acc cur now)) 9), 0) := by
 have hfew := hg.few
 have hids : Ids (l.filter (selB acc cur now)) := List.Pairwise.sublist List.filter_sublist (ids_of_rise hg.rise)
 have hfl := List.length_filter_le (selB acc cur now) l
 obtain ⟨r, r1, r2, r3⟩ := stable_spec (l := l.filter (selB acc cur now)) (by omega) hids
 have hr : r = byRank (l.filter (selB acc cur now)) 9 := asc_unique (r2.trans (byRank_all (fun x hx => sel_rank hx)).symm) r3 (asc_byRank hids 9)
 have hlr := r2.length_eq
 unfold hold_Cover
 rw [check_eq l (by omega), chkH_good.2 hg]
 simp only [Option.bind_some, bne_self_eq_false, Bool.false_eq_true, if_false, collect_eq (show l.length ≤ 500 by omega), r1]
 have h0 : 0 ≤ (if 0 > funds then 0 else funds) ∧ (if 0 > funds then 0 else funds) < 9223372036854775808 := by split <;> omega
 have := cov_loop (now := now) (r := r) (by omega) r [] (if 0 > funds then 0 else funds) [] rfl h0.1 h0.2 rfl
 simp only [List.length_nil, Int.natCast_zero, List.nil_append] at this
 have e0 : ((0 : Nat) : Int) = 0 := rfl
 try rw [e0] at this
 rw [this]
 simp only [Option.bind_some, hr]
def sumR (now : Int) (l : List T_api_Hold) : Int := (l.map fun h => restH h now).sum
theorem sumR_cons (now : Int) (h : T_api_Hold) (t : List T_api_Hold) : sumR now (h :: t) = restH h now + sumR now t := by simp [sumR]
theorem sumR_perm {now : Int} {a b : List T_api_Hold} (p : a.Perm b) : sumR now a = sumR now b := by
 induction p with
 | nil => rfl
 | cons x _ ih => rw [sumR_cons, sumR_cons, ih]
 | swap x y l => simp only [sumR_cons]; omega
 | trans _ _ h1 h2 => rw [h1, h2]
theorem sumR_nonneg (now : Int) : ∀ l : List T_api_Hold, 0 ≤ sumR now l
 | [] => by simp [sumR]
 | h :: t => by
  rw [sumR_cons]
  have := (restH_range h now).1
  have := sumR_nonneg now t
  omega
theorem covR_sum (now : Int) : ∀ (l : List T_api_Hold) (left : Int), 0 ≤ left → covR now left l = if sumR now l < left then left - sumR now l else 0
 | [], left, h => by
  simp only [covR, sumR, List.map_nil, List.sum_nil]
  split <;> omega
 | h :: t, left, h0 => by
  have hr := (restH_range h now).1
  have hl := lesser_range hr h0
  have hs := sumR_nonneg now t
  simp only [covR]
  rw [covR_sum now t _ (by omega), sumR_cons]
  unfold lesser at hl ⊢
  split <;> split <;> split <;> omega
def capH (h : T_api_Hold) (a : T_api_Money) (last : Bool) : T_api_Hold := ⟨h.f_ID, h.f_Acc, h.f_Amount, h.f_Rank, h.f_Made, h.f_Until, h.f_Taken + a.f_Minor, (last || (h.f_Taken + a.f_Minor == h.f_Amount.f_Minor))⟩
def capL (l : List T_api_Hold) (i : Nat) (h : T_api_Hold) (a : T_api_Money) (now : Int) (last : Bool) : List T_api_Hold × Int :=
 if liveH h now = false then ([], 27) else if a.f_Cur ≠ h.f_Amount.f_Cur then ([], 12) else if (!okM a || decide (a.f_Minor ≤ 0)) = true then ([], 1) else if restH h now < a.f_Minor then ([], 17) else (l.set i (capH h a last), 0)
theorem cap_none {l : List T_api_Hold} (hg : GoodL l) {id : Int} (h : ∀ x ∈ l, x.f_ID ≠ id) (a : T_api_Money) (now : Int) (last : Bool) : hold_Capture l id a now last = some ([], 8) := by
 have hf := hg.few
 obtain ⟨k, hk, e, _⟩ := place_none hg h
 unfold hold_Capture
 rw [check_eq l (by omega), chkH_good.2 hg]
 simp only [Option.bind_some, bne_self_eq_false, Bool.false_eq_true, if_false, e, Bool.not_false, if_true]
theorem cap_taken {h : T_api_Hold} {a : T_api_Money} {now : Int} (hl : liveH h now = true) (hp : 0 < a.f_Minor) (hr : ¬ restH h now < a.f_Minor) : IntKind.wrap .i64 (h.f_Taken + a.f_Minor) = h.f_Taken + a.f_Minor := by
 have := okH_spec (live_ok hl)
 unfold restH at hr
 rw [if_pos hl] at hr
 rw [wrap64 (by omega) (by omega)]
theorem cap_at {l : List T_api_Hold} (hg : GoodL l) {i : Nat} (hi : i < l.length) (a : T_api_Money) (now : Int) (last : Bool) : hold_Capture l l[i].f_ID a now last = some (capL l i l[i] a now last) := by
 have hf := hg.few
 unfold hold_Capture capL
 rw [check_eq l (by omega), chkH_good.2 hg]
 simp only [Option.bind_some, bne_self_eq_false, Bool.false_eq_true, if_false, place_at hg hi rfl, Bool.not_true, rdO_at hi, live_eq, moneyRight_eq, rest_eq]
 cases hl : liveH l[i] now with
 | false => rfl
 | true =>
  simp only [Bool.not_true, Bool.false_eq_true, if_false, Bool.true_eq_false, bne_iff_ne, ne_eq]
  split
  ·rfl
  ·split
   ·rfl
   ·rename_i h2
    simp only [decide_eq_true_eq]
    by_cases h3 : restH l[i] now < a.f_Minor
    ·rw [if_pos h3, if_pos h3]
    ·rw [if_neg h3, if_neg h3, clone_eq (by omega)]
     have hp : 0 < a.f_Minor := by
      simp only [Bool.or_eq_true, decide_eq_true_eq, not_or] at h2
      omega
     have hw := cap_taken hl hp h3
     have hr : ∀ y, rdO (l.set i y) (i : Int) = some y := fun y => by
      rw [rdO_at (by simpa using hi)]; simp
     simp only [Option.bind_some, rdO_at hi, Int.toNat_natCast, hr, gdO_some, hw, List.set_set]
     cases last <;> rfl
theorem good_set {l : List T_api_Hold} (hg : GoodL l) {i : Nat} (hi : i < l.length) {y : T_api_Hold} (ho : okH y = true) (he : y.f_ID = l[i].f_ID) : GoodL (l.set i y) := by
 refine ⟨fun x hx => ?_, fun j hj => ?_, by simpa using hg.few⟩
 ·rcases List.mem_or_eq_of_mem_set hx with h | h
  ·exact hg.ok x h
  ·subst h; exact ho
 ·simp only [List.length_set] at hj
  have := hg.rise j hj
  rw [List.getElem_set, List.getElem_set]
  split
  ·rename_i h1
   subst h1
   split
   ·omega
   ·simp only [he]; exact this
  ·split
   ·rename_i h2
    subst h2
    simp only [he]; exact this
   ·exact this
theorem cap_ok {h : T_api_Hold} {a : T_api_Money} {now : Int} {last : Bool} (hl : liveH h now = true) (hp : 0 < a.f_Minor) (hr : a.f_Minor ≤ restH h now) : okH (capH h a last) = true := by
 have ho := okH_spec (live_ok hl)
 unfold restH at hr
 rw [if_pos hl] at hr
 unfold okH capH
 simp only [decide_eq_true_eq]
 omega
end Go.Av.G
end
